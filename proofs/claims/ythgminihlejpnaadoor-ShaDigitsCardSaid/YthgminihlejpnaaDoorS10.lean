/- The contract of sha.Hex. -/
import Derived.Test.YthgminihlejpnaaDoorS9
set_option linter.unusedSimpArgs false
set_option linter.unusedVariables false
namespace Go.Proofs.YthgminihlejpnaaDoor.S
open Go.RowKit Go.Proofs.YthgminihlejpnaaDoorW.PrintWords Go.Proofs.YthgminihlejpnaaDoorW.PrintLast Go.Proofs.YthgminihlejpnaaDoorW.PrintMore

abbrev digB : ByteArray := ⟨#[48, 49, 50, 51, 52, 53, 54, 55, 56, 57, 97, 98, 99, 100, 101, 102]⟩
theorem dig (k : Nat) (h : k < digB.size) : (((digB[k]'h).toNat : Nat) : Int) = digits_.getD k 0 := by
  match k, h with
  | 0, _ | 1, _ | 2, _ | 3, _ | 4, _ | 5, _ | 6, _ | 7, _ | 8, _ | 9, _ | 10, _ | 11, _ | 12, _ | 13, _ | 14, _ | 15, _ => rfl
  | n + 16, h => exact absurd h (by show ¬ n + 16 < 16; omega)
theorem low4 : ∀ c : Fin 256, 0 ≤ Go.bits .and .u8 (c.val : Int) 15 ∧ Go.bits .and .u8 (c.val : Int) 15 < 16 := by decide +kernel
theorem low4' (c : UInt8) : 0 ≤ Go.bits .and .u8 (c.toNat : Int) 15 ∧ Go.bits .and .u8 (c.toNat : Int) 15 < 16 := low4 ⟨c.toNat, c.toNat_lt⟩
theorem digs_range (k : Nat) : 0 ≤ digits_.getD k 0 ∧ digits_.getD k 0 < 256 := by
  match k with
  | 0 | 1 | 2 | 3 | 4 | 5 | 6 | 7 | 8 | 9 | 10 | 11 | 12 | 13 | 14 | 15 => decide
  | n + 16 => exact ⟨by simp [digits_, List.getD_eq_getElem?_getD], by simp [digits_, List.getD_eq_getElem?_getD]⟩
theorem hexTo_range (s : ByteArray) (i : Nat) : ∀ x ∈ hexTo s i, 0 ≤ x ∧ x < 256 := by
  induction i with
  | zero => intro x hx; cases hx
  | succ i ih =>
    intro x hx
    rcases List.mem_append.1 hx with hx | hx
    · exact ih x hx
    · simp only [hexOf, List.mem_cons, List.not_mem_nil, or_false] at hx
      rcases hx with rfl | rfl <;> exact digs_range _
theorem nsOf_bytes (xs : List Int) (h : ∀ x ∈ xs, 0 ≤ x ∧ x < 256) : nsOf (xs.map fun n => UInt8.ofNat n.toNat) = xs := by
  induction xs with
  | nil => rfl
  | cons x xs ih =>
    have h0 := h x (List.mem_cons_self ..)
    have ht : (UInt8.ofNat x.toNat).toNat = x.toNat := by simp [UInt8.toNat_ofNat']; omega
    simp only [nsOf, List.map_cons, List.map_map] at ih ⊢
    rw [ht, show ((x.toNat : Nat) : Int) = x by omega]
    congr 1
    have := ih (fun y hy => h y (List.mem_cons_of_mem _ hy))
    simpa [nsOf] using this
theorem at_data (s : ByteArray) (i : Nat) (h : i < s.size) : s.data.getD i 0 = s[i]'h := by
  unfold Array.getD
  have h' : i < s.data.size := h
  rw [dif_pos h']
  rfl
set_option maxRecDepth 100000 in
theorem hex_calls (w : World) (s : ByteArray) (hs : s.size ≤ 1000000000) :
    Calls Tryd.prog 10 #[.string s] w fun e w' => e = .returned (.string (strOfNums (hexTo s s.size))) ∧ Below w.heap.size w w' := by
  generalize hF : strOfNums (hexTo s s.size) = F
  have HF := Aside0.mk hF
  clear hF
  go_enter Tryd.func10, Tryd.ntmps10
  go_wp2
  go_loopg [7] s.size (fun gf s7 wx => ∃ (i : Nat), s7 = .int .i64 i ∧ i + gf = s.size ∧ Aside0 (Lib.IsBuilder 35 5 w.heap.size w.heap.size (nums .u8 (hexTo s i)) wx) ∧ Aside0 (Below w.heap.size w wx))
  case atStart => 
    refine ⟨0, rfl, by omega, ⟨.inl ⟨Nat.le_refl _, .slice none 0 0, ?_, ⟨rfl, .inl ⟨rfl, rfl⟩⟩, by simp [Value.ownBlock]⟩⟩, ⟨below_alloc (Below.refl _ _) _⟩⟩
    exact blk_new _ _
  case round =>
    obtain ⟨i, rfl, hg, HI, HB⟩ := hrel
    by_cases hi : i < s.size
    · have hii : (i : Int) < (s.size : Int) := by omega
      have hl4 := low4' (s[i]'hi)
      have hlt : (s[i]'hi).toNat < 256 := UInt8.toNat_lt _
      have hd1 : 0 ≤ (((s[i]'hi).toNat : Nat) : Int) / 16 ∧ (((s[i]'hi).toNat : Nat) : Int) / 16 < 16 := by omega
      obtain ⟨q, hq, hq0⟩ : ∃ q : Nat, Go.bits .and .u8 (((s[i]'hi).toNat : Nat) : Int) 15 = (q : Int) ∧ q < 16 := ⟨(Go.bits .and .u8 (((s[i]'hi).toNat : Nat) : Int) 15).toNat, by omega, by omega⟩
      have hd2 : 0 ≤ (q : Int) ∧ (q : Int) < 16 := by omega
      have hd3 : (q : Int) < 16 := by omega
      clear hl4
      have hlen : (hexTo s i).length + 1 ≤ 140737488355328 := by rw [hexTo_length]; omega
      have hlen2 : ∀ x : Int, (hexTo s i ++ [x]).length + 1 ≤ 140737488355328 := fun x => by rw [List.length_append, hexTo_length, List.length_singleton]; omega
      have HLN := Aside0.mk hlen
      have HLM := Aside0.mk hlen2
      clear hlen hlen2
      go_wp2_with (first | (go_at_call 14; refine (byte_calls wr w.heap.size w.heap.size (hexTo s i) _ HI.out HLN.out).mono ?_; rintro e w1 ⟨rfl, hI1, hB1⟩; have I1 := Aside0.mk hI1; have B1 := Aside0.mk (HB.out.trans hB1); clear hI1 hB1) | (go_at_call 14; refine (byte_calls w1 w.heap.size w.heap.size _ _ I1.out (HLM.out _)).mono ?_; rintro e w2 ⟨rfl, hI2, hB2⟩; have I2 := Aside0.mk hI2; have B2 := Aside0.mk (B1.out.trans hB2); clear hI2 hB2))
      have I3 : Aside0 (Lib.IsBuilder 35 5 w.heap.size w.heap.size (nums .u8 (hexTo s (i + 1))) w2) := ⟨by
        have h := I2.out
        rw [dig, dig, List.append_assoc] at h
        rw [hexTo, at_data s i hi, hexOf, hq]
        exact h⟩
      clear I1 I2 B1
      go_roundg (gk - 1)
      case measure => omega
      case rel => exact ⟨i + 1, by go_num, by omega, I3, B2⟩
    · have hii : ¬ (i : Int) < (s.size : Int) := by omega
      have his : i = s.size := by omega
      have hX : Lib.IsBuilder 35 5 w.heap.size w.heap.size (nums .u8 (nsOf ((hexTo s s.size).map fun n => UInt8.ofNat n.toNat))) wr := by
        rw [nsOf_bytes _ (hexTo_range s _), ← his]
        exact HI.out
      have hT := text_calls wr w.heap.size w.heap.size _ hX HB.out.size
      have HT := Aside0.mk hT
      clear hX hT his
      change Aside0 (Calls _ _ _ _ (fun e w' => e = .returned (.string (strOfNums (hexTo s s.size))) ∧ _)) at HT
      rw [HF.out] at HT
      go_wp2_with (go_at_call 15; refine (HT.out).mono ?_; rintro e w1 ⟨rfl, hB1⟩; have B1 := Aside0.mk (HB.out.trans hB1); clear hB1)
      go_ret
      exact ⟨rfl, B1.out⟩
end Go.Proofs.YthgminihlejpnaaDoor.S
