/- The walk of ShaDigits. -/
import Derived.Test.YthgminihlejpnaaDoorS15
set_option linter.unusedSimpArgs false
set_option linter.unusedVariables false
namespace Go.Proofs.YthgminihlejpnaaDoor.S
open Go.RowKit Go.Proofs.YthgminihlejpnaaDoorW.PrintWords Go.Proofs.YthgminihlejpnaaDoorW.PrintLast Go.Proofs.YthgminihlejpnaaDoorW.PrintMore

/-- A digit's byte, and what it tells. -/
def dgt (q : Int) : Int := if q < 10 then 48 + q else 87 + q
theorem digs_dgt : ∀ q : Fin 16, digits_.getD q.val 0 = dgt (q.val : Int) := by decide +kernel
theorem low_same : ∀ c : Fin 256, (Go.bits .and .u8 (c.val : Int) 15).toNat = c.val % 16 := by decide +kernel
theorem hexOf_dgt (c : UInt8) : hexOf c = [dgt ((c.toNat : Int) / 16), dgt ((c.toNat : Int) % 16)] := by
  have h1 := digs_dgt ⟨c.toNat / 16, by have := c.toNat_lt; omega⟩
  have h2 := digs_dgt ⟨c.toNat % 16, by omega⟩
  have h3 := low_same ⟨c.toNat, c.toNat_lt⟩
  simp only at h1 h2 h3
  rw [hexOf, h3, h1, h2]
  simp
theorem hexL_get (l : List UInt8) (i : Nat) (h : i < l.length) : (hexL l).getD (2 * i) 0 = dgt (((l[i]'h).toNat : Int) / 16) ∧ (hexL l).getD (2 * i + 1) 0 = dgt (((l[i]'h).toNat : Int) % 16) := by
  induction l generalizing i with
  | nil => simp at h
  | cons x l ih =>
    rw [hexL_cons, hexOf_dgt]
    cases i with
    | zero => exact ⟨rfl, rfl⟩
    | succ i => exact ih i (by simpa using h)
theorem strOfNums_at (l : List Int) (h : ∀ x ∈ l, 0 ≤ x ∧ x < 256) (i : Nat) (hi : i < (strOfNums l).size) : ((((strOfNums l)[i]'hi).toNat : Nat) : Int) = l.getD i 0 := by
  have hl : i < l.length := by rw [← strOfNums_size l]; exact hi
  have hx := h _ (List.getElem_mem hl)
  have e : (strOfNums l)[i]'hi = UInt8.ofNat (l[i]'hl).toNat := by
    rw [show (strOfNums l)[i]'hi = (strOfNums l).data[i]'hi from rfl]
    simp [strOfNums]
  rw [e, List.getD_eq_getElem?_getD, List.getElem?_eq_getElem hl]
  simp [UInt8.toNat_ofNat']
  omega
theorem hexB_at (s : ByteArray) (i : Nat) (h : i < s.size) (h0 : 2 * i < (hexB s).size) (h1 : 2 * i + 1 < (hexB s).size) :
    ((((hexB s)[2 * i]'h0).toNat : Nat) : Int) = dgt ((((s[i]'h).toNat : Nat) : Int) / 16) ∧ ((((hexB s)[2 * i + 1]'h1).toNat : Nat) : Int) = dgt ((((s[i]'h).toNat : Nat) : Int) % 16) := by
  have hl : i < s.data.toList.length := by rw [Array.length_toList]; exact h
  have hg := hexL_get s.data.toList i hl
  rw [← hexTo_all] at hg
  have e : s.data.toList[i]'hl = s[i]'h := by simp; rfl
  rw [e] at hg
  exact ⟨(strOfNums_at _ (hexTo_range s _) _ h0).trans hg.1, (strOfNums_at _ (hexTo_range s _) _ h1).trans hg.2⟩

set_option maxRecDepth 100000 in
set_option maxHeartbeats 4000000 in
theorem lawDigits_calls (w : World) (s : ByteArray) (hG : Glob w) (hbase : gtop ≤ w.heap.size) :
    Calls Tryd.prog 6 #[.string s] w fun e w' => e = .returned (.bool true) ∧ Below w.heap.size w w' := by
  have HWK := Aside0.mk (works_calls w hG hbase)
  by_cases hs : s.size ≤ 300
  · have hs1 : ¬ 300 < (s.size : Int) := by omega
    have hs3 : (s.size : Int) ≤ 300 := by omega
    have HA := Aside0.mk (fun W => hexb_calls W s (by omega))
    have hX : ((hexB s).size : Int) = 2 * (s.size : Int) := by rw [hexB_size]; omega
    have hXn : (hexB s).size = 2 * s.size := hexB_size s
    have HX := Aside0.mk (hexB_at s)
    generalize hXX : hexB s = X at HA HX hX hXn
    clear hXX
    go_enter Tryd.func6, Tryd.ntmps6
    go_wp2_with (first | (go_at_call 7; refine (HWK.out).mono ?_; rintro e w1 ⟨rfl, hB1⟩; have B1 := Aside0.mk hB1; clear hB1 HWK) | (go_at_call 10; fail))
    refine (HA.out _).mono ?_
    rintro e w2 ⟨rfl, hB2⟩
    have B2 := Aside0.mk (B1.out.trans (hB2.mono B1.out.size))
    clear hB2 B1
    go_wp2
    go_loopg [5] s.size (fun gf s5 wx => ∃ (i : Nat), s5 = .int .i64 i ∧ i + gf = s.size ∧ Aside0 (Below w.heap.size w wx))
    case atStart => exact ⟨0, rfl, by omega, B2⟩
    case round =>
      clear B2
      obtain ⟨i, rfl, hg, HB⟩ := hrel
      by_cases hi : i < s.size
      · have hii : (i : Int) < (s.size : Int) := by omega
        have h0 : 2 * i < X.size := by omega
        have h1 : 2 * i + 1 < X.size := by omega
        obtain ⟨hx0, hx1⟩ := HX.out i hi h0 h1
        have hc0 : (((s[i]'hi).toNat : Nat) : Int) < 256 := by have := (s[i]'hi).toNat_lt; omega
        generalize hc : (((s[i]'hi).toNat : Nat) : Int) = c at hx0 hx1 hc0
        have hcn : 0 ≤ c := by omega
        have hh0 : 0 ≤ c / 16 ∧ c / 16 < 16 := by omega
        have hh1 : 0 ≤ c % 16 ∧ c % 16 < 16 := by omega
        have hsum : 16 * (c / 16) + c % 16 = c := by omega
        have HC := Aside0.mk hc
        generalize c / 16 = q at hx0 hh0 hsum
        generalize c % 16 = r at hx1 hh1 hsum
        clear hc
        have hY0 : ∀ (j : Nat) (hj : j = 2 * i) (h : j < X.size), ((((X[j]'h).toNat : Nat)) : Int) = dgt q := by rintro j rfl h; exact hx0
        have hY1 : ∀ (j : Nat) (hj : j = 2 * i + 1) (h : j < X.size), ((((X[j]'h).toNat : Nat)) : Int) = dgt r := by rintro j rfl h; exact hx1
        have HX0 := Aside0.mk hY0
        have HX1 := Aside0.mk hY1
        clear hx0 hx1 hY0 hY1 h0 h1
        obtain ⟨g0, hg0⟩ : ∃ g0, g0 = gk := ⟨_, rfl⟩
        rw [← hg0] at hg
        go_wp2
        go_loopg [6, 7] 2 (fun gf s6 s7 wx => ∃ (m j : Nat) (n : Int), s6 = .int .i64 n ∧ s7 = .int .i64 j ∧ m + gf = 2 ∧ j = 2 * i + m ∧ (m = 0 → n = 0) ∧ (m = 1 → n = q) ∧ (m = 2 → n = c) ∧ Aside0 (Below w.heap.size w wx))
        case atStart => exact ⟨0, 2 * i, 0, rfl, by go_num, by omega, by omega, fun _ => rfl, fun h => by omega, fun h => by omega, HB⟩
        case round =>
          clear HB
          obtain ⟨m, j, n, rfl, rfl, hgm, hj, hn0, hn1, hn2, HB⟩ := hrel
          by_cases hm : m = 2
          · have hn := hn2 hm
            clear hn0 hn1 hn2
            subst hm
            have hjj : ¬ (j : Int) < 2 * (i : Int) + 2 := by omega
            have hcc := HC.out
            go_wp2
            go_roundg (g0 - 1)
            case measure => omega
            case rel => exact ⟨i + 1, by go_num, by omega, HB⟩
          · have hjj : (j : Int) < 2 * (i : Int) + 2 := by omega
            have hjX : j < X.size := by omega
            have HJ := Aside0.mk hj
            by_cases hm0 : m = 0
            · have hn := hn0 hm0
              have hD := HX0.out j (by omega) hjX
              clear hn0 hn1 hn2 hj
              by_cases hq : q < 10
              · rw [dgt, if_pos hq] at hD
                go_wp2
                go_roundg (gk - 1)
                case measure => omega
                case rel =>
                  have hj := HJ.out
                  exact ⟨1, j + 1, _, rfl, by go_num, by omega, by omega, fun h => by omega, fun _ => by omega, fun h => by omega, HB⟩
              · rw [dgt, if_neg hq] at hD
                go_wp2
                go_roundg (gk - 1)
                case measure => omega
                case rel =>
                  have hj := HJ.out
                  exact ⟨1, j + 1, _, rfl, by go_num, by omega, by omega, fun h => by omega, fun _ => by omega, fun h => by omega, HB⟩
            · have hm1 : m = 1 := by omega
              have hn := hn1 hm1
              have hD := HX1.out j (by omega) hjX
              clear hn0 hn1 hn2 hj
              by_cases hq : r < 10
              · rw [dgt, if_pos hq] at hD
                go_wp2
                go_roundg (gk - 1)
                case measure => omega
                case rel =>
                  have hj := HJ.out
                  exact ⟨2, j + 1, _, rfl, by go_num, by omega, by omega, fun h => by omega, fun h => by omega, fun _ => by omega, HB⟩
              · rw [dgt, if_neg hq] at hD
                go_wp2
                go_roundg (gk - 1)
                case measure => omega
                case rel =>
                  have hj := HJ.out
                  exact ⟨2, j + 1, _, rfl, by go_num, by omega, by omega, fun h => by omega, fun h => by omega, fun _ => by omega, HB⟩
      · have hii : ¬ (i : Int) < (s.size : Int) := by omega
        go_wp2
        go_ret
        exact ⟨rfl, HB.out⟩
  · have ha1 : 300 < (s.size : Int) := by omega
    go_enter Tryd.func6, Tryd.ntmps6
    go_wp2_with (go_at_call 7; refine (HWK.out).mono ?_; rintro e w1 ⟨rfl, hB1⟩; have B1 := Aside0.mk hB1; clear hB1 HWK)
    go_ret
    exact ⟨rfl, B1.out⟩
end Go.Proofs.YthgminihlejpnaaDoor.S
