/- The contract of sha.Collide. -/
import Derived.Test.YthgminihlejpnaaDoorS10
set_option linter.unusedSimpArgs false
set_option linter.unusedVariables false
namespace Go.Proofs.YthgminihlejpnaaDoor.S
open Go.RowKit Go.Proofs.YthgminihlejpnaaDoorW.PrintWords Go.Proofs.YthgminihlejpnaaDoorW.PrintLast Go.Proofs.YthgminihlejpnaaDoorW.PrintMore

theorem lit1_reads (W : World) (e : TypeId) (s : ByteArray) : ReadsOf Value.string ByteArray.empty (W.alloc (.cells #[.string s] e)) (some ⟨W.heap.size, 0, none⟩) 1 [s] := by
  refine ⟨rfl, by omega, fun _ => ⟨_, rfl, fun j hj => ?_⟩⟩
  obtain rfl : j = 0 := by omega
  rw [add_at, Nat.add_zero, cell_of_row _ _ 0 _ e (0, 0) (blk_new W _)]
  rfl
theorem of1_calls (W : World) (s : ByteArray) (hG : Glob W) (hbase : gtop ≤ W.heap.size) (hs : s.size ≤ 1000000000) :
    Calls Tryd.prog 9 #[.slice (some ⟨W.heap.size, 0, none⟩) 1 1] (W.alloc (.cells #[.string s] 9)) fun e w' => e = .returned (.string (ofS [s])) ∧ Below W.heap.size W w' := by
  have hB : Below W.heap.size W (W.alloc (.cells #[.string s] 9)) := below_alloc (Below.refl _ _) _
  refine (of_calls (W.alloc (.cells #[.string s] 9)) (some ⟨W.heap.size, 0, none⟩) 1 [s] (lit1_reads W _ s) (hG.below hB) (Nat.le_trans hbase hB.size) (fun i => ?_)).mono fun e w' h => ⟨h.1, hB.trans (h.2.mono hB.size)⟩
  match i with
  | 0 => exact hs
  | i + 1 => exact Nat.zero_le _
theorem text_inj {a b : ByteArray} (h : a.toList = b.toList) : a = b := by
  rw [Lib.toList_data, Lib.toList_data] at h
  have := Array.toList_inj.1 h
  cases a
  cases b
  simp_all
def collideB (a b : ByteArray) : Bool := !(a.toList == b.toList) && ((ofS [a]).toList == (ofS [b]).toList)
set_option maxRecDepth 100000 in
theorem collide_calls (w : World) (a b : ByteArray) (hG : Glob w) (hbase : gtop ≤ w.heap.size) (ha : a.size ≤ 1000000000) (hb : b.size ≤ 1000000000) :
    Calls Tryd.prog 8 #[.string a, .string b] w fun e w' => e = .returned (.bool (collideB a b)) ∧ Below w.heap.size w w' := by
  generalize hF : collideB a b = F
  have HF := Aside0.mk hF
  have H1 : Aside0 (∀ W, Below w.heap.size w W → Calls Tryd.prog 9 #[.slice (some ⟨W.heap.size, 0, none⟩) 1 1] (W.alloc (.cells #[.string a] 9)) fun e w' => e = .returned (.string (ofS [a])) ∧ Below W.heap.size W w') := ⟨fun W hB => of1_calls W a (hG.below hB) (Nat.le_trans hbase hB.size) ha⟩
  have H2 : Aside0 (∀ W, Below w.heap.size w W → Calls Tryd.prog 9 #[.slice (some ⟨W.heap.size, 0, none⟩) 1 1] (W.alloc (.cells #[.string b] 9)) fun e w' => e = .returned (.string (ofS [b])) ∧ Below W.heap.size W w') := ⟨fun W hB => of1_calls W b (hG.below hB) (Nat.le_trans hbase hB.size) hb⟩
  clear hF
  by_cases hab : a = b
  · subst hab
    go_enter Tryd.func8, Tryd.ntmps8
    go_wp2
    go_ret
    refine ⟨?_, Below.refl _ _⟩
    rw [← HF.out]
    simp [collideB]
  · have hne : ¬ a.toList = b.toList := fun e => hab (text_inj e)
    have hne2 : (a.toList == b.toList) = false := by simpa using hne
    go_enter Tryd.func8, Tryd.ntmps8
    go_wp2_with (first | (go_at_call 9; refine (H1.out w (Below.refl _ _)).mono ?_; rintro e w1 ⟨rfl, hB1⟩; have B1 := Aside0.mk hB1; clear hB1 H1))
    refine (H2.out w1 B1.out).mono ?_
    rintro e w2 ⟨rfl, hB2⟩
    have B2 := Aside0.mk (B1.out.trans (hB2.mono B1.out.size))
    clear hB2 H2
    go_wp2
    go_ret
    refine ⟨?_, B2.out⟩
    rw [← HF.out]
    simp [collideB, hne2]
end Go.Proofs.YthgminihlejpnaaDoor.S
