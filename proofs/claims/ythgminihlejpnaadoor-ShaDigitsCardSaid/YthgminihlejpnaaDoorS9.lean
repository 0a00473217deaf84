/- strings.Builder, in this cut: the contracts of copyCheck and WriteByte (String is on the shelf). -/
import Derived.Test.YthgminihlejpnaaDoorS8
import Derived.Test.YthgminihlejpnaaDoorShelf
set_option linter.unusedSimpArgs false
set_option linter.unusedVariables false
namespace Go.Proofs.YthgminihlejpnaaDoor.S
open Go.RowKit Go.Proofs.YthgminihlejpnaaDoorW.PrintWords Go.Proofs.YthgminihlejpnaaDoorW.PrintLast Go.Proofs.YthgminihlejpnaaDoorW.PrintMore

set_option maxRecDepth 100000 in
theorem check_calls (w : World) (B b : Nat) (bs : List Value) (h : Lib.IsBuilder 35 5 B b bs w) :
    Calls Tryd.prog 17 #[.pointer (some ⟨b, 0, none⟩)] w fun e w' => e = .returned (.tuple #[]) ∧ Lib.BuilderAt 35 5 B b (.pointer (some ⟨b, 0, none⟩)) bs w' ∧ Below B w w' := by
  obtain ⟨p, H, hp⟩ : ∃ p, Lib.BuilderAt 35 5 B b p bs w ∧ (p = .pointer none ∨ p = .pointer (some ⟨b, 0, none⟩)) := by
    rcases h with h | h
    · exact ⟨_, h, .inl rfl⟩
    · exact ⟨_, h, .inr rfl⟩
  have c0 := H.cell0
  have f0 := H.frozen0
  have hsh := H.shape
  have HU := Aside0.mk (H.used (.pointer (some ⟨b, 0, none⟩)))
  have hBb := H.1
  have HB : Aside0 (Below B w (w.setCell ⟨b, 0, none⟩ (.pointer (some ⟨b, 0, none⟩)))) := ⟨(Below.refl _ _).setCell hBb _⟩
  have HH := Aside0.mk H
  clear h H
  obtain ⟨j, hj, hjs⟩ := Option.map_eq_some_iff.1 (show (Tryd.prog.info? 35).map (·.size) = some 2 by kernel_rfl)
  have hto := Lib.run_to_unsafe (P := Tryd.prog) w ⟨b, 0, none⟩ Tryd.underlying32 Tryd.underlying52 hj (by rw [hjs]; decide) hsh (Nat.zero_lt_succ 1)
  have hfrom := Lib.run_from_unsafe (P := Tryd.prog) w ⟨b, 0, none⟩ Tryd.underlying52 Tryd.underlying32 hj hsh (by kernel_rfl)
  have hneq := fun W : World => Lib.run_neq_ptr_same (P := Tryd.prog) W ⟨b, 0, none⟩ Tryd.underlying32 hj
  have hne : ∀ (W : World) (x : Value), (callFunc 20 #[x]).run Tryd.prog W = .ok (.value x) W := fun W x =>
    run_callFunc_extern (f := 20) Tryd.func20 (by kernel_rfl) (by kernel_rfl) (by kernel_rfl) (e := Extern.AbiNoEscape.same) (by kernel_rfl) #[x] W
  clear hj hjs j
  go_enter Tryd.func17, Tryd.ntmps17
  rcases hp with rfl | rfl
  · go_wp2
    go_end0
    exact ⟨rfl, HU.out, HB.out⟩
  · go_wp2
    go_end0
    exact ⟨rfl, HH.out, Below.refl _ _⟩

set_option maxRecDepth 100000 in
theorem byte_calls (w : World) (B b : Nat) (xs : List Int) (c : Int) (h : Lib.IsBuilder 35 5 B b (nums .u8 xs) w) (hl : xs.length + 1 ≤ 140737488355328) :
    Calls Tryd.prog 14 #[.pointer (some ⟨b, 0, none⟩), .int .u8 c] w fun e w' => e = .returned .nilIface ∧ Lib.IsBuilder 35 5 B b (nums .u8 (xs ++ [c])) w' ∧ Below B w w' := by
  have hC := check_calls w B b (nums .u8 xs) h
  have HC := Aside0.mk hC
  have hBw : B < w.heap.size := by
    have hBb : B ≤ b := by rcases h with h | h <;> exact h.1
    have : b < w.heap.size := by rcases h with h | h <;> exact h.lt
    omega
  clear hC h
  go_enter Tryd.func14, Tryd.ntmps14
  go_wp2_with (first | (go_at_call 17; refine (HC.out).mono ?_; rintro e w1 ⟨rfl, ⟨hBb, v, hb, ho, hne⟩, hB⟩; have c1 : w1.cell? ⟨b, 1, none⟩ = some v := blk_cell hb 1; have HBK := Aside0.mk hb; have HO := Aside0.mk ho; have HNE := Aside0.mk hne; have HBL := Aside0.mk hB; rw [nums_length] at HO; clear hb ho hne hB HC) | ((with_reducible refine gate_dst (N := 14) rfl ?_); refine print_append_num B rfl (.tmp 11) (.tmp 13) 33 5 .u8 1 rfl Tryd.underlying33 (by kernel_rfl) (by decide) _ xs _ rfl rfl HO.out (Below.refl B _) (Nat.le_trans (Nat.le_of_lt hBw) HBL.out.size) (by omega) ?_; intro v1 w2 hown hB hgr hat; obtain ⟨A2, c2, rfl, hlc2⟩ := q_slice (q_of_own hown); have HB2 := Aside0.mk (blk_grown HBK.out hgr (fun e => HNE.out e.symm)); have c1 : w2.cell? ⟨b, 1, none⟩ = some v := blk_cell HB2.out 1; have f1 := blk_frozen HB2.out 1; have O2 := Aside0.mk hown; have PB2 := Aside0.mk (HBL.out.trans hB); clear hown hB hgr hat))
  go_ret
  have hn := own_ne O2.out HB2.out (by decide)
  have hn1 := hn
  rw [List.length_append, List.length_singleton] at hn
  refine ⟨rfl, .inr ⟨hBb, _, blk_put HB2.out 1 _ rfl, ?_, hn.symm⟩, PB2.out.setCell (p := ⟨b, 1, none⟩) hBb _⟩
  rw [nums_length, List.length_append, List.length_singleton]
  have h2 := own_setCell (p := ⟨b, 1, none⟩) O2.out hn1 (.slice A2 (xs.length + 1) c2)
  simp only [List.length_append, List.length_singleton] at h2
  exact h2
/-- What a builder holds, as a text. -/
theorem text_calls (w : World) (B b : Nat) (l : List UInt8) (h : Lib.IsBuilder 35 5 B b (nums .u8 (nsOf l)) w) (hB : B ≤ w.heap.size) :
    Calls Tryd.prog 15 #[.pointer (some ⟨b, 0, none⟩)] w fun e w' => e = .returned (.string ⟨l.toArray⟩) ∧ Below B w w' := by
  rw [nums_nsOf] at h
  exact Tryd.Builder_String_any B b l w h hB
/-! ### Hex -/
def digits_ : List Int := [48, 49, 50, 51, 52, 53, 54, 55, 56, 57, 97, 98, 99, 100, 101, 102]
def hexOf (c : UInt8) : List Int := [digits_.getD (c.toNat / 16) 0, digits_.getD (Go.bits .and .u8 (c.toNat : Int) 15).toNat 0]
def hexTo (s : ByteArray) : Nat → List Int
  | 0 => []
  | i + 1 => hexTo s i ++ hexOf (s.data.getD i 0)
theorem hexTo_length (s : ByteArray) (i : Nat) : (hexTo s i).length = 2 * i := by induction i with | zero => rfl | succ i ih => simp [hexTo, ih, hexOf]; omega
end Go.Proofs.YthgminihlejpnaaDoor.S
