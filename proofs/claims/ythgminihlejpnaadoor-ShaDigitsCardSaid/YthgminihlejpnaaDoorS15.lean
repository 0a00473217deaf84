/- The walk of ShaHex. -/
import Derived.Test.YthgminihlejpnaaDoorS13
set_option linter.unusedSimpArgs false
set_option linter.unusedVariables false
namespace Go.Proofs.YthgminihlejpnaaDoor.S
open Go.RowKit Go.Proofs.YthgminihlejpnaaDoorW.PrintWords Go.Proofs.YthgminihlejpnaaDoorW.PrintLast Go.Proofs.YthgminihlejpnaaDoorW.PrintMore

def hexL (l : List UInt8) : List Int := l.flatMap hexOf
theorem hexL_append (l m : List UInt8) : hexL (l ++ m) = hexL l ++ hexL m := by simp [hexL]
theorem hexL_cons (x : UInt8) (l : List UInt8) : hexL (x :: l) = hexOf x ++ hexL l := by simp [hexL]
theorem hexTo_take (s : ByteArray) (i : Nat) (h : i ≤ s.size) : hexTo s i = hexL (s.data.toList.take i) := by
  induction i with
  | zero => rfl
  | succ i ih =>
    have h1 : i < s.data.toList.length := by rw [Array.length_toList]; exact h
    have h2 : i < s.data.size := h
    have h3 : s.data.getD i 0 = s.data.toList[i]'h1 := by rw [Array.getD, dif_pos h2, Array.getElem_toList]; rfl
    rw [hexTo, ih (by omega), List.take_succ_eq_append_getElem h1, hexL_append, h3]
    simp [hexL]
theorem hexTo_all (s : ByteArray) : hexTo s s.size = hexL s.data.toList := by
  rw [hexTo_take s s.size (Nat.le_refl _), List.take_of_length_le (by rw [Array.length_toList]; exact Nat.le_refl _)]
def hexB (s : ByteArray) : ByteArray := strOfNums (hexTo s s.size)
theorem hexB_size (s : ByteArray) : (hexB s).size = 2 * s.size := by rw [hexB, strOfNums_size, hexTo_length]
theorem strOfNums_append (l m : List Int) : strOfNums (l ++ m) = strOfNums l ++ strOfNums m := by
  refine data_inj ?_
  simp [strOfNums]
theorem hexB_append (a b : ByteArray) : hexB a ++ hexB b = hexB (a ++ b) := by
  unfold hexB
  rw [hexTo_all, hexTo_all, hexTo_all, ByteArray.data_append, Array.toList_append, hexL_append, strOfNums_append]
def digVal (x : Int) : Int := if x < 58 then x - 48 else x - 87
theorem hexOf_back : ∀ c : Fin 256, 16 * digVal (digits_.getD (c.val / 16) 0) + digVal (digits_.getD (Go.bits .and .u8 (c.val : Int) 15).toNat 0) = (c.val : Int) := by decide +kernel
theorem hexOf_back' (c : UInt8) : 16 * digVal (digits_.getD (c.toNat / 16) 0) + digVal (digits_.getD (Go.bits .and .u8 (c.toNat : Int) 15).toNat 0) = (c.toNat : Int) := hexOf_back ⟨c.toNat, c.toNat_lt⟩
theorem hexL_inj (l m : List UInt8) (h : hexL l = hexL m) : l = m := by
  induction l generalizing m with
  | nil =>
    cases m with
    | nil => rfl
    | cons y m => rw [hexL_cons] at h; simp [hexL, hexOf] at h
  | cons x l ih =>
    cases m with
    | nil => rw [hexL_cons] at h; simp [hexL, hexOf] at h
    | cons y m =>
      rw [hexL_cons, hexL_cons] at h
      simp only [hexOf, List.cons_append, List.nil_append, List.cons.injEq] at h
      obtain ⟨h1, h2, h3⟩ := h
      have hx := hexOf_back' x
      have hy := hexOf_back' y
      rw [h1, h2] at hx
      have hxy : (x.toNat : Int) = y.toNat := hx.symm.trans hy
      rw [UInt8.toNat_inj.1 (by omega : x.toNat = y.toNat), ih m h3]
theorem hexB_inj {a b : ByteArray} (h : hexB a = hexB b) : a = b := by
  have h1 := congrArg (fun s => nsOf s.data.toList) h
  simp only [hexB, strOfNums] at h1
  rw [nsOf_bytes _ (hexTo_range a _), nsOf_bytes _ (hexTo_range b _), hexTo_all, hexTo_all] at h1
  exact data_inj (hexL_inj _ _ h1)
theorem hexb_calls (W : World) (s : ByteArray) (hs : s.size ≤ 1000000000) : Calls Tryd.prog 10 #[.string s] W fun e w' => e = .returned (.string (hexB s)) ∧ Below W.heap.size W w' := hex_calls W s hs

set_option maxRecDepth 100000 in
theorem lawHex_calls (w : World) (a b : ByteArray) (hG : Glob w) (hbase : gtop ≤ w.heap.size) :
    Calls Tryd.prog 4 #[.string a, .string b] w fun e w' => e = .returned (.bool true) ∧ Below w.heap.size w w' := by
  have HWK := Aside0.mk (works_calls w hG hbase)
  by_cases ha : a.size ≤ 300
  · by_cases hb : b.size ≤ 300
    · have ha1 : ¬ 300 < (a.size : Int) := by omega
      have hb1 : ¬ 300 < (b.size : Int) := by omega
      have HA := Aside0.mk (fun W => hexb_calls W a (by omega))
      have HBB := Aside0.mk (fun W => hexb_calls W b (by omega))
      have HAB := Aside0.mk (fun W => hexb_calls W (a ++ b) (by rw [ByteArray.size_append]; omega))
      have hX : ((hexB a).size : Int) = 2 * (a.size : Int) := by rw [hexB_size]; omega
      have hS1 : (hexB a).size ≤ 600 := by rw [hexB_size]; omega
      have hS2 : (hexB b).size ≤ 600 := by rw [hexB_size]; omega
      have HP := Aside0.mk (hexB_append a b)
      have HI := Aside0.mk (show hexB a = hexB b → a = b from hexB_inj)
      have HE := Aside0.mk (show a = b → hexB a = hexB b from fun e => by rw [e])
      generalize hexB a = X at HA HP HI HE hX hS1
      generalize hexB b = Y at HBB HP HI HE hS2
      generalize hexB (a ++ b) = Z at HAB HP
      have ha3 : (a.size : Int) ≤ 300 := by omega
      have hXY1 : ¬ 9223372036854775807 < ((X.size + Y.size : Nat) : Int) := by omega
      have hXY2 : ¬ 9223372036854775807 < (X.size : Int) + (Y.size : Int) := by omega
      have hXY3 : ¬ 9223372036854775807 < (a.size : Int) + (b.size : Int) := by omega
      have hXY4 : ¬ 9223372036854775807 < ((a.size + b.size : Nat) : Int) := by omega
      go_enter Tryd.func4, Tryd.ntmps4
      go_wp2_with (first | (go_at_call 7; refine (HWK.out).mono ?_; rintro e w1 ⟨rfl, hB1⟩; have B1 := Aside0.mk hB1; clear hB1 HWK) | (go_at_call 10; fail))
      refine (HA.out _).mono ?_
      rintro e w2 ⟨rfl, hB2⟩
      have B2 := Aside0.mk (B1.out.trans (hB2.mono B1.out.size))
      clear hB2 B1
      go_wp2_with (go_at_call 10; fail)
      refine (HA.out _).mono ?_
      rintro e w3 ⟨rfl, hB3⟩
      have B3 := Aside0.mk (B2.out.trans (hB3.mono B2.out.size))
      clear hB3 B2
      go_wp2_with (go_at_call 10; fail)
      refine (HBB.out _).mono ?_
      rintro e w4 ⟨rfl, hB4⟩
      have B4 := Aside0.mk (B3.out.trans (hB4.mono B3.out.size))
      clear hB4 B3
      go_wp2_with (go_at_call 10; fail)
      refine (HAB.out _).mono ?_
      rintro e w5 ⟨rfl, hB5⟩
      have B5 := Aside0.mk (B4.out.trans (hB5.mono B4.out.size))
      have hPL : (X ++ Y).toList = Z.toList := by rw [HP.out]
      clear hB5 B4
      go_wp2_with (go_at_call 10; fail)
      refine (HA.out _).mono ?_
      rintro e w6 ⟨rfl, hB6⟩
      have B6 := Aside0.mk (B5.out.trans (hB6.mono B5.out.size))
      clear hB6 B5
      go_wp2_with (go_at_call 10; fail)
      refine (HBB.out _).mono ?_
      rintro e w7 ⟨rfl, hB7⟩
      have B7 := Aside0.mk (B6.out.trans (hB7.mono B6.out.size))
      have hXY : (X.toList == Y.toList) = (a.toList == b.toList) := by
        by_cases hab : a = b
        · rw [HE.out hab, hab]; simp
        · have h1 : ¬ a.toList = b.toList := fun e => hab (text_inj e)
          have h2 : ¬ X.toList = Y.toList := fun e => hab (HI.out (text_inj e))
          have h3 : (a.toList == b.toList) = false := by simpa using h1
          have h4 : (X.toList == Y.toList) = false := by simpa using h2
          rw [h3, h4]
      clear hB7 B6
      go_wp2
      go_ret
      exact ⟨rfl, B7.out⟩
    · have ha1 : ¬ 300 < (a.size : Int) := by omega
      have hb1 : 300 < (b.size : Int) := by omega
      go_enter Tryd.func4, Tryd.ntmps4
      go_wp2_with (go_at_call 7; refine (HWK.out).mono ?_; rintro e w1 ⟨rfl, hB1⟩; have B1 := Aside0.mk hB1; clear hB1 HWK)
      go_ret
      exact ⟨rfl, B1.out⟩
  · have ha1 : 300 < (a.size : Int) := by omega
    go_enter Tryd.func4, Tryd.ntmps4
    go_wp2_with (go_at_call 7; refine (HWK.out).mono ?_; rintro e w1 ⟨rfl, hB1⟩; have B1 := Aside0.mk hB1; clear hB1 HWK)
    go_ret
    exact ⟨rfl, B1.out⟩
end Go.Proofs.YthgminihlejpnaaDoor.S
