/- The contract of guillochelaw03.works. -/
import Derived.Test.YthgminihlejpnaaDoorS11
set_option linter.unusedSimpArgs false
set_option linter.unusedVariables false
namespace Go.Proofs.YthgminihlejpnaaDoor.S
open Go.RowKit Go.Proofs.YthgminihlejpnaaDoorW.PrintWords Go.Proofs.YthgminihlejpnaaDoorW.PrintLast Go.Proofs.YthgminihlejpnaaDoorW.PrintMore

abbrev sA : ByteArray := ⟨#[97]⟩
abbrev sB : ByteArray := ⟨#[98]⟩
abbrev sBC : ByteArray := ⟨#[98, 99]⟩
abbrev want_ : ByteArray := ⟨#[98, 97, 55, 56, 49, 54, 98, 102, 56, 102, 48, 49, 99, 102, 101, 97, 52, 49, 52, 49, 52, 48, 100, 101, 53, 100, 97, 101, 50, 50, 50, 51, 98, 48, 48, 51, 54, 49, 97, 51, 57, 54, 49, 55, 55, 97, 57, 99, 98, 52, 49, 48, 102, 102, 54, 49, 102, 50, 48, 48, 49, 53, 97, 100]⟩
theorem data_inj {a b : ByteArray} (h : a.data.toList = b.data.toList) : a = b := by
  have := Array.toList_inj.1 h
  cases a
  cases b
  simp_all
set_option maxRecDepth 100000 in
theorem want_is : strOfNums (hexTo (ofS [sA, sBC]) (ofS [sA, sBC]).size) = want_ := data_inj (by decide +kernel)
set_option maxRecDepth 100000 in
theorem apart_ab : (ofS [sA]).data.toList ≠ (ofS [sB]).data.toList := by decide +kernel
theorem lit2_reads (W : World) (e : TypeId) (s t : ByteArray) : ReadsOf Value.string ByteArray.empty (W.alloc (.cells #[.string s, .string t] e)) (some ⟨W.heap.size, 0, none⟩) 2 [s, t] := by
  refine ⟨rfl, by omega, fun _ => ⟨_, rfl, fun j hj => ?_⟩⟩
  rw [add_at, cell_of_row _ _ (0 + j) _ e (0, 0) (blk_new W _)]
  match j, hj with
  | 0, _ => rfl
  | 1, _ => rfl
theorem of2_calls (W : World) (s t : ByteArray) (hG : Glob W) (hbase : gtop ≤ W.heap.size) (hs : s.size ≤ 1000000000) (ht : t.size ≤ 1000000000) :
    Calls Tryd.prog 9 #[.slice (some ⟨W.heap.size, 0, none⟩) 2 2] (W.alloc (.cells #[.string s, .string t] 9)) fun e w' => e = .returned (.string (ofS [s, t])) ∧ Below W.heap.size W w' := by
  have hB : Below W.heap.size W (W.alloc (.cells #[.string s, .string t] 9)) := below_alloc (Below.refl _ _) _
  refine (of_calls (W.alloc (.cells #[.string s, .string t] 9)) (some ⟨W.heap.size, 0, none⟩) 2 [s, t] (lit2_reads W _ s t) (hG.below hB) (Nat.le_trans hbase hB.size) (fun i => ?_)).mono fun e w' h => ⟨h.1, hB.trans (h.2.mono hB.size)⟩
  match i with
  | 0 => exact hs
  | 1 => exact ht
  | i + 2 => exact Nat.zero_le _
theorem ofS_size32 : (ofS [sA, sBC]).size ≤ 1000000000 := by decide +kernel
theorem collide_ab : collideB sA sB = false := by
  have h : ¬ (ofS [sA]).toList = (ofS [sB]).toList := fun e => apart_ab (by rw [text_inj e])
  simp [collideB, h]
theorem collide_aa (a : ByteArray) : collideB a a = false := by simp [collideB]
theorem hexw_calls (W : World) : Calls Tryd.prog 10 #[.string (ofS [sA, sBC])] W fun e w' => e = .returned (.string want_) ∧ Below W.heap.size W w' := by
  rw [← want_is]
  exact hex_calls W _ ofS_size32

set_option maxRecDepth 100000 in
theorem works_calls (w : World) (hG : Glob w) (hbase : gtop ≤ w.heap.size) :
    Calls Tryd.prog 7 #[] w fun e w' => e = .returned (.bool true) ∧ Below w.heap.size w w' := by
  have HNW := Aside0.mk (new_has w hG w.heap.size (Nat.le_refl _))
  go_enter Tryd.func7, Tryd.ntmps7
  go_wp2_with (go_at_call 11; refine (HNW.out).mono ?_; rintro e w1 ⟨rfl, v1, hE1, hB1, _⟩; have E1 := Aside0.mk hE1; have B1 := Aside0.mk hB1; clear hE1 hB1 HNW)
  refine (write_has sA Told.Ok.new E1.out (hG.below B1.out) hbase (by decide)).mono ?_
  rintro e w2 ⟨rfl, v2, hE2, hT2⟩
  have E2 := Aside0.mk hE2
  have B2 := Aside0.mk (hT2.below E1.out B1.out)
  clear hE2 hT2 E1 B1
  go_wp2_with (go_at_call 12; fail)
  refine (write_has sBC (Told.Ok.new.tell sA) E2.out (hG.below B2.out) hbase (by decide)).mono ?_
  rintro e w3 ⟨rfl, v3, hE3, hT3⟩
  have E3 := Aside0.mk hE3
  have B3 := Aside0.mk (hT3.below E2.out B2.out)
  clear hE3 hT3 E2 B2
  go_wp2_with (go_at_call 9; fail)
  refine (of2_calls w3 sA sBC (hG.below B3.out) (Nat.le_trans hbase B3.out.size) (by decide) (by decide)).mono ?_
  rintro e w4 ⟨rfl, hB4⟩
  have E4 := Aside0.mk (HashAt.below E3.out hB4)
  have B4 := Aside0.mk (B3.out.trans (hB4.mono B3.out.size))
  clear hB4 E3 B3
  go_wp2_with (go_at_call 10; fail)
  refine (hexw_calls w4).mono ?_
  rintro e w5 ⟨rfl, hB5⟩
  have E5 := Aside0.mk (HashAt.below E4.out hB5)
  have B5 := Aside0.mk (B4.out.trans (hB5.mono B4.out.size))
  clear hB5 E4 B4
  go_wp2_with (go_at_call 13; fail)
  refine (sum_has (t := (Told.new.tell sA).tell sBC) ((Told.Ok.new.tell sA).tell sBC) E5.out (hG.below B5.out) hbase).mono ?_
  rintro e w6 ⟨rfl, hB6⟩
  have B6 := Aside0.mk (B5.out.trans (hB6.mono B5.out.size))
  clear hB6 E5 B5
  go_wp2_with (go_at_call 10; fail)
  refine (hexw_calls w6).mono ?_
  rintro e w7 ⟨rfl, hB7⟩
  have B7 := Aside0.mk (B6.out.trans (hB7.mono B6.out.size))
  clear hB7 B6
  go_wp2_with (go_at_call 8; fail)
  refine (collide_calls w7 sA sB (hG.below B7.out) (Nat.le_trans hbase B7.out.size) (by decide) (by decide)).mono ?_
  rw [collide_ab]
  rintro e w8 ⟨rfl, hB8⟩
  have B8 := Aside0.mk (B7.out.trans (hB8.mono B7.out.size))
  clear hB8 B7
  go_wp2_with (go_at_call 8; fail)
  refine (collide_calls w8 sA sA (hG.below B8.out) (Nat.le_trans hbase B8.out.size) (by decide) (by decide)).mono ?_
  rw [collide_aa]
  rintro e w9 ⟨rfl, hB9⟩
  have B9 := Aside0.mk (B8.out.trans (hB9.mono B8.out.size))
  clear hB9 B8
  go_wp2
  go_ret
  exact ⟨rfl, B9.out⟩
end Go.Proofs.YthgminihlejpnaaDoor.S
