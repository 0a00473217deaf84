/- The walk of RlpNums. -/
import Derived.Test.YtibhhikaecpgiaaDoorL14
import Derived.Test.YtibhhikaecpgiaaDoorP4
set_option linter.unusedSimpArgs false
set_option linter.unusedVariables false
namespace Go.Proofs.YtibhhikaecpgiaaDoor.R
open Go.RowKit Go.Proofs.YtibhhikaecpgiaaDoorW.PrintWords Go.Proofs.YtibhhikaecpgiaaDoorW.PrintLast Go.Proofs.YtibhhikaecpgiaaDoorW.PrintMore

theorem getN_num (n : Nat) (hn : n < 256 ^ 8) : getN (textL (dg 8 n)) = some n := by
  have hl := dg_length 8 n
  have h := split_put false (dg 8 n) [] (by omega)
  rw [List.append_nil] at h
  unfold getN
  rw [show textL (dg 8 n) = putL false (dg 8 n) from rfl, h]
  simp only
  rw [if_pos ⟨hl, dg_head 8 n hn⟩, nb_dg 8 n hn]
theorem num_getN {s : L} {m : Nat} (h : getN s = some m) : textL (dg 8 m) = s ∧ m < 256 ^ 8 := by
  unfold getN at h
  cases hs : splitL s with
  | none => rw [hs] at h; cases h
  | some x =>
    obtain ⟨k, b, r⟩ := x
    rw [hs] at h
    cases k with
    | true => cases h
    | false =>
      cases r with
      | cons y r => cases h
      | nil =>
        simp only at h
        by_cases hc : b.length ≤ 8 ∧ b.head? ≠ some 0
        · rw [if_pos hc] at h
          injection h with h
          subst h
          refine ⟨?_, ?_⟩
          · rw [dg_nb b hc.2 8 hc.1]
            have := (put_of_split hs).1
            rw [List.append_nil] at this
            exact this.symm
          · exact Nat.lt_of_lt_of_le (nb_lt b) (Nat.pow_le_pow_right (by decide) hc.1)
        · rw [if_neg hc] at h; cases h
theorem text_small (b : L) (hb : b.length ≤ 55) : (textL b).length = if b.length = 1 ∧ (b.getD 0 0).toNat < 128 then 1 else b.length + 1 := by
  unfold textL
  split
  · rename_i h; exact h.1
  · unfold wrapL
    rw [if_pos hb]; simp
theorem dg_one (n : Nat) (h0 : 0 < n) (h : n < 256) : dg 8 n = [UInt8.ofNat n] := by
  unfold dg
  rw [if_neg (by omega), show n / 256 = 0 by omega, show n % 256 = n by omega]
  rfl
theorem dg_big (n : Nat) (h : 256 ≤ n) : 2 ≤ (dg 8 n).length := by
  have e : dg 8 n = dg 7 (n / 256) ++ [UInt8.ofNat (n % 256)] := by
    conv => lhs; unfold dg
    rw [if_neg (by omega)]
  have e2 : dg 7 (n / 256) = dg 6 (n / 256 / 256) ++ [UInt8.ofNat (n / 256 % 256)] := by
    conv => lhs; unfold dg
    rw [if_neg (by omega)]
  rw [e, e2]
  simp
theorem num_mono (n m : Nat) (h : n ≤ m) : (textL (dg 8 n)).length ≤ (textL (dg 8 m)).length := by
  have hn := dg_length 8 n
  have hm := dg_length 8 m
  have hmono := dg_mono 8 n m h
  rw [text_small _ (by omega), text_small _ (by omega)]
  by_cases h1 : n = 0
  · subst h1
    have e : dg 8 0 = [] := rfl
    rw [e, if_neg (by simp)]
    split <;> simp
  · by_cases h2 : m < 256
    · rw [dg_one n (by omega) (by omega), dg_one m (by omega) h2]
      have e1 : (UInt8.ofNat n).toNat = n := by simp [UInt8.toNat_ofNat']; omega
      have e2 : (UInt8.ofNat m).toNat = m := by simp [UInt8.toNat_ofNat']; omega
      simp only [List.length_singleton, List.getD_cons_zero, e1, e2, true_and]
      split <;> split <;> omega
    · have hb := dg_big m (by omega)
      have hneg : ¬ ((dg 8 m).length = 1 ∧ ((dg 8 m).getD 0 0).toNat < 128) := by rintro ⟨h, _⟩; omega
      rw [if_neg hneg]
      split <;> omega
theorem num_len (n : Nat) : (textL (dg 8 n)).length ≤ 9 := by
  have hn := dg_length 8 n
  rw [text_small _ (by omega)]
  split <;> omega
theorem numAns_num (n : Nat) (hn : n < 256 ^ 8) : numAns (textL (dg 8 n)) = .tuple #[.int .u64 n, .int .i64 0] := by unfold numAns; rw [getN_num n hn]
theorem getBack_calls (W : World) (n : Nat) (hn : n < 256 ^ 8) : Calls Tryd.prog 7 #[.string (B (textL (dg 8 n)))] W fun e w' => e = .returned (.tuple #[.int .u64 n, .int .i64 0]) ∧ Below W.heap.size W w' := by
  have h := GetNum_calls W (textL (dg 8 n)) (by have := num_len n; omega)
  rwa [numAns_num n hn] at h
set_option maxRecDepth 100000 in
set_option maxHeartbeats 4000000 in
theorem lawNums_calls (w : World) (n m : Nat) (hn : n < 256 ^ 8) (hm : m < 256 ^ 8) (s : L) (hE : ErrT w) (hgt : 0 < w.heap.size) :
    Calls Tryd.prog 3 #[.int .u64 n, .int .u64 m, .string (B s)] w fun e w' => e = .returned (.bool true) ∧ Below w.heap.size w w' := by
  have HWK := Aside0.mk (works_calls w hE hgt)
  clear hE hgt
  have hsz := B_size s
  by_cases hs : s.length ≤ 400
  · have hs1 : ¬ 400 < ((B s).size : Int) := by omega
    have HN := Aside0.mk (fun W => num_calls W n hn)
    have HM := Aside0.mk (fun W => num_calls W m hm)
    have HG := Aside0.mk (fun W => getBack_calls W n hn)
    have HGS := Aside0.mk (fun W => GetNum_calls W s (by omega))
    have hmono : n ≤ m → (((B (textL (dg 8 n))).size : Int) ≤ ((B (textL (dg 8 m))).size : Int)) := fun h => by rw [B_size, B_size]; have := num_mono n m h; omega
    have HMO := Aside0.mk hmono
    have hcase : (getN s = none) ∨ ∃ b, getN s = some b ∧ textL (dg 8 b) = s ∧ b < 256 ^ 8 := by
      cases h : getN s with
      | none => exact .inl rfl
      | some b => exact .inr ⟨b, rfl, num_getN h⟩
    clear hmono hn hm hsz
    rcases hcase with hg | ⟨b, hg, hb, hb8⟩
    · have hans : numAns s = .tuple #[.int .u64 0, .int .i64 2] := by unfold numAns; rw [hg]
      rw [hans] at HGS
      clear hg hans
      by_cases hnm : m < n
      · have hnm1 : (m : Int) < (n : Int) := by omega
        generalize B s = bs at *
        go_enter Tryd.func3, Tryd.ntmps3
        go_wp2_with (go_at_call 6; refine (HWK.out).mono ?_; rintro e w1 ⟨rfl, hB1⟩; have B1 := Aside0.mk hB1; clear hB1 HWK)
        refine (HN.out w1).mono ?_
        rintro e w2 ⟨rfl, hB2⟩
        have B2 := Aside0.mk (B1.out.trans (hB2.mono B1.out.size))
        clear hB2 B1
        go_wp2_with (go_at_call 7; fail)
        refine (HG.out w2).mono ?_
        rintro e w3 ⟨rfl, hB3⟩
        have B3 := Aside0.mk (B2.out.trans (hB3.mono B2.out.size))
        clear hB3 B2
        go_wp2_with (go_at_call 7; fail)
        refine (HGS.out w3).mono ?_
        rintro e w4 ⟨rfl, hB4⟩
        have B4 := Aside0.mk (B3.out.trans (hB4.mono B3.out.size))
        clear hB4 B3
        go_wp2
        go_ret
        exact ⟨rfl, B4.out⟩
      · have hnm1 : ¬ (m : Int) < (n : Int) := by omega
        have hle := HMO.out (by omega)
        generalize B s = bs at *
        generalize B (textL (dg 8 n)) = bn at *
        generalize B (textL (dg 8 m)) = bm at *
        go_enter Tryd.func3, Tryd.ntmps3
        go_wp2_with (go_at_call 6; refine (HWK.out).mono ?_; rintro e w1 ⟨rfl, hB1⟩; have B1 := Aside0.mk hB1; clear hB1 HWK)
        refine (HN.out w1).mono ?_
        rintro e w2 ⟨rfl, hB2⟩
        have B2 := Aside0.mk (B1.out.trans (hB2.mono B1.out.size))
        clear hB2 B1
        go_wp2_with (go_at_call 7; fail)
        refine (HG.out w2).mono ?_
        rintro e w3 ⟨rfl, hB3⟩
        have B3 := Aside0.mk (B2.out.trans (hB3.mono B2.out.size))
        clear hB3 B2
        go_wp2_with (go_at_call 7; fail)
        refine (HGS.out w3).mono ?_
        rintro e w4 ⟨rfl, hB4⟩
        have B4 := Aside0.mk (B3.out.trans (hB4.mono B3.out.size))
        clear hB4 B3
        go_wp2_with (go_at_call 8; fail)
        refine (HN.out w4).mono ?_
        rintro e w5 ⟨rfl, hB5⟩
        have B5 := Aside0.mk (B4.out.trans (hB5.mono B4.out.size))
        clear hB5 B4
        go_wp2_with (go_at_call 8; fail)
        refine (HM.out w5).mono ?_
        rintro e w6 ⟨rfl, hB6⟩
        have B6 := Aside0.mk (B5.out.trans (hB6.mono B5.out.size))
        clear hB6 B5
        go_wp2
        go_ret
        exact ⟨rfl, B6.out⟩
    · have hans : numAns s = .tuple #[.int .u64 b, .int .i64 0] := by unfold numAns; rw [hg]
      rw [hans] at HGS
      have HNB := Aside0.mk (fun W => num_calls W b hb8)
      rw [hb] at HNB
      clear hg hans hb hb8
      by_cases hnm : m < n
      · have hnm1 : (m : Int) < (n : Int) := by omega
        generalize B s = bs at *
        go_enter Tryd.func3, Tryd.ntmps3
        go_wp2_with (go_at_call 6; refine (HWK.out).mono ?_; rintro e w1 ⟨rfl, hB1⟩; have B1 := Aside0.mk hB1; clear hB1 HWK)
        refine (HN.out w1).mono ?_
        rintro e w2 ⟨rfl, hB2⟩
        have B2 := Aside0.mk (B1.out.trans (hB2.mono B1.out.size))
        clear hB2 B1
        go_wp2_with (go_at_call 7; fail)
        refine (HG.out w2).mono ?_
        rintro e w3 ⟨rfl, hB3⟩
        have B3 := Aside0.mk (B2.out.trans (hB3.mono B2.out.size))
        clear hB3 B2
        go_wp2_with (go_at_call 7; fail)
        refine (HGS.out w3).mono ?_
        rintro e w4 ⟨rfl, hB4⟩
        have B4 := Aside0.mk (B3.out.trans (hB4.mono B3.out.size))
        clear hB4 B3
        go_wp2_with (go_at_call 8; fail)
        refine (HNB.out w4).mono ?_
        rintro e w5 ⟨rfl, hB5⟩
        have B5 := Aside0.mk (B4.out.trans (hB5.mono B4.out.size))
        clear hB5 B4
        go_wp2
        go_ret
        exact ⟨rfl, B5.out⟩
      · have hnm1 : ¬ (m : Int) < (n : Int) := by omega
        have hle := HMO.out (by omega)
        generalize B s = bs at *
        generalize B (textL (dg 8 n)) = bn at *
        generalize B (textL (dg 8 m)) = bm at *
        go_enter Tryd.func3, Tryd.ntmps3
        go_wp2_with (go_at_call 6; refine (HWK.out).mono ?_; rintro e w1 ⟨rfl, hB1⟩; have B1 := Aside0.mk hB1; clear hB1 HWK)
        refine (HN.out w1).mono ?_
        rintro e w2 ⟨rfl, hB2⟩
        have B2 := Aside0.mk (B1.out.trans (hB2.mono B1.out.size))
        clear hB2 B1
        go_wp2_with (go_at_call 7; fail)
        refine (HG.out w2).mono ?_
        rintro e w3 ⟨rfl, hB3⟩
        have B3 := Aside0.mk (B2.out.trans (hB3.mono B2.out.size))
        clear hB3 B2
        go_wp2_with (go_at_call 7; fail)
        refine (HGS.out w3).mono ?_
        rintro e w4 ⟨rfl, hB4⟩
        have B4 := Aside0.mk (B3.out.trans (hB4.mono B3.out.size))
        clear hB4 B3
        go_wp2_with (go_at_call 8; fail)
        refine (HNB.out w4).mono ?_
        rintro e w5 ⟨rfl, hB5⟩
        have B5 := Aside0.mk (B4.out.trans (hB5.mono B4.out.size))
        clear hB5 B4
        go_wp2_with (go_at_call 8; fail)
        refine (HN.out w5).mono ?_
        rintro e w6 ⟨rfl, hB6⟩
        have B6 := Aside0.mk (B5.out.trans (hB6.mono B5.out.size))
        clear hB6 B5
        go_wp2_with (go_at_call 8; fail)
        refine (HM.out w6).mono ?_
        rintro e w7 ⟨rfl, hB7⟩
        have B7 := Aside0.mk (B6.out.trans (hB7.mono B6.out.size))
        clear hB7 B6
        go_wp2
        go_ret
        exact ⟨rfl, B7.out⟩
  · have hs1 : 400 < ((B s).size : Int) := by omega
    clear hsz hs
    generalize B s = bs at *
    go_enter Tryd.func3, Tryd.ntmps3
    go_wp2_with (go_at_call 6; refine (HWK.out).mono ?_; rintro e w1 ⟨rfl, hB1⟩; have B1 := Aside0.mk hB1; clear hB1 HWK)
    go_ret
    exact ⟨rfl, B1.out⟩
end Go.Proofs.YtibhhikaecpgiaaDoor.R
