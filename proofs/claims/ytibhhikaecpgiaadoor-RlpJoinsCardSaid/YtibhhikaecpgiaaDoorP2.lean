/- Plain: what is put is split again, and in no other way. -/
import Derived.Test.YtibhhikaecpgiaaDoorP1
namespace Go.Proofs.YtibhhikaecpgiaaDoor.R
set_option linter.unusedVariables false
set_option linter.unusedSimpArgs false
theorem baseN_128 {c : Nat} (h : c < 192) : baseN c = 128 := by unfold baseN; rw [if_neg (by omega)]
theorem baseN_192 {c : Nat} (h : 192 ≤ c) : baseN c = 192 := by unfold baseN; rw [if_pos h]
theorem byte_of (n : Nat) (h : n < 256) : (UInt8.ofNat n).toNat = n := by simp [UInt8.toNat_ofNat']; omega
theorem dg8_len {n : Nat} (h0 : 0 < n) : 1 ≤ (dg 8 n).length ∧ (dg 8 n).length ≤ 8 := by
  refine ⟨?_, dg_length 8 n⟩
  unfold dg
  rw [if_neg (by omega), List.length_append, List.length_singleton]
  omega
theorem base_is {k : Bool} {B x : Nat} (hB : (k = true ∧ B = 192) ∨ (k = false ∧ B = 128)) (hx : x < 64) : baseN (B + x) = B ∧ decide (192 ≤ B + x) = k ∧ ¬ B + x < 128 ∧ B + x < 256 := by
  rcases hB with ⟨rfl, rfl⟩ | ⟨rfl, rfl⟩
  · exact ⟨baseN_192 (by omega), by simp, by omega, by omega⟩
  · exact ⟨baseN_128 (by omega), by simp; omega, by omega, by omega⟩
/-- The first byte of a short one, or of a long one, at base 128 or 192. -/
theorem split_wrap (k : Bool) (B : Nat) (hB : (k = true ∧ B = 192) ∨ (k = false ∧ B = 128)) (b rest : L) (hb : b.length ≤ 1048576) (hs : k = false → ¬ (b.length = 1 ∧ (b.getD 0 0).toNat < 128)) :
    splitL (wrapL b B ++ rest) = some (k, b, rest) := by
  unfold wrapL
  by_cases h55 : b.length ≤ 55
  · rw [if_pos h55]
    obtain ⟨hbase, hd, h128, h256⟩ := base_is (x := b.length) hB (by omega)
    have hc : (UInt8.ofNat (B + b.length)).toNat = B + b.length := byte_of _ h256
    unfold splitL splitN
    simp only [List.cons_append]
    rw [hc, hbase, if_neg h128, Nat.add_sub_cancel_left, if_pos h55, hd]
    unfold finN
    rw [if_neg (by simp), if_neg (by
      rintro ⟨h1, h2, h3⟩
      refine hs h1 ⟨h2, ?_⟩
      cases b with
      | nil => simp at h2
      | cons x b => simpa using h3)]
    simp [Nat.add_comm 1]
  · rw [if_neg h55]
    have hlen := dg8_len (n := b.length) (by omega)
    have hnb := nb_dg 8 b.length (by omega)
    have hhd := dg_head 8 b.length (by omega)
    generalize hD : dg 8 b.length = D at hlen hnb hhd
    obtain ⟨hbase, hd, h128, h256⟩ := base_is (x := 55 + D.length) hB (by omega)
    rw [← Nat.add_assoc] at hbase hd h128 h256
    have hc : (UInt8.ofNat (B + 55 + D.length)).toNat = B + 55 + D.length := byte_of _ h256
    unfold splitL splitN
    simp only [List.cons_append]
    have hsub : B + 55 + D.length - B = 55 + D.length := by omega
    rw [hc, hbase, if_neg h128, hsub, if_neg (by omega), Nat.add_sub_cancel_left, hd]
    have h0 : ¬ ((D ++ b ++ rest).getD 0 0).toNat = 0 := by
      cases D with
      | nil => simp at hlen
      | cons x D =>
        simp only [List.cons_append, List.getD_cons_zero]
        intro h
        exact hhd (by simp; exact UInt8.toNat_inj.1 h)
    have htk : (D ++ b ++ rest).take D.length = D := by rw [List.append_assoc, List.take_left']; rfl
    have hsz : sizeN (D ++ b ++ rest) D.length = some b.length := by
      unfold sizeN
      rw [if_neg (by rintro (h | h); · simp at h; omega
                     · exact h0 h), htk, hnb, if_neg (by omega)]
    rw [hsz]
    simp only [Option.bind_some]
    unfold finN
    rw [if_neg (by simp; omega), if_neg (by rintro ⟨_, h, _⟩; omega)]
    simp only [Option.map_some, Option.some.injEq, Prod.mk.injEq, true_and]
    have e1 : 1 + D.length + b.length = (D ++ b).length + 1 := by rw [List.length_append]; omega
    have e2 : 1 + D.length = D.length + 1 := by omega
    rw [e1, e2]
    simp
    rw [List.drop_take, Nat.add_sub_cancel_left]
    simp
theorem split_put (k : Bool) (b rest : L) (hb : b.length ≤ 1048576) : splitL (putL k b ++ rest) = some (k, b, rest) := by
  cases k with
  | true => exact split_wrap true 192 (.inl ⟨rfl, rfl⟩) b rest hb (fun h => by cases h)
  | false =>
    show splitL (textL b ++ rest) = _
    unfold textL
    by_cases h : b.length = 1 ∧ (b.getD 0 0).toNat < 128
    · rw [if_pos h]
      obtain ⟨h1, h2⟩ := h
      match b, h1 with
      | [c], _ =>
        have hc : c.toNat < 128 := by simpa using h2
        unfold splitL splitN
        simp [hc]
    · rw [if_neg h]
      exact split_wrap false 128 (.inr ⟨rfl, rfl⟩) b rest hb (fun _ => h)
/-- A base's wrap, as an item of that kind. -/
theorem put_wrap {k : Bool} {B : Nat} (hB : (k = true ∧ B = 192) ∨ (k = false ∧ B = 128)) (b : L) (h : k = false → ¬ (b.length = 1 ∧ (b.getD 0 0).toNat < 128)) : wrapL b B = putL k b := by
  rcases hB with ⟨rfl, rfl⟩ | ⟨rfl, rfl⟩
  · rfl
  · show _ = textL b
    unfold textL
    rw [if_neg (h rfl)]
theorem put_of_fin (k : Bool) (B : Nat) (hB : (k = true ∧ B = 192) ∨ (k = false ∧ B = 128)) (c : UInt8) (t : L) (n : Nat) (hn : n ≤ 55) (hc : c.toNat = B + n) (r : Bool × Nat × Nat) (h : finN (c :: t) k 1 n = some r) :
    ∃ b, r = (k, 1, 1 + n) ∧ b.length = n ∧ (c :: t).take (1 + n) = putL k b ∧ ((c :: t).take (1 + n)).drop 1 = b := by
  unfold finN at h
  by_cases h1 : (c :: t).length - 1 < n
  · rw [if_pos h1] at h; cases h
  · rw [if_neg h1] at h
    by_cases h2 : k = false ∧ n = 1 ∧ ((c :: t).getD 1 0).toNat < 128
    · rw [if_pos h2] at h; cases h
    · rw [if_neg h2] at h
      injection h with h
      have hl : (t.take n).length = n := by simp at h1 ⊢; omega
      refine ⟨t.take n, h.symm, hl, ?_, by rw [Nat.add_comm]; simp⟩
      have hcc : UInt8.ofNat (B + n) = c := UInt8.toNat_inj.1 (by have := c.toNat_lt; rw [byte_of _ (by omega), hc])
      rw [← put_wrap hB (t.take n)]
      · unfold wrapL
        rw [hl, if_pos hn, hcc, Nat.add_comm]; simp
      · rintro hk ⟨g1, g2⟩
        refine h2 ⟨hk, by omega, ?_⟩
        rw [hl] at g1
        subst g1
        cases t with
        | nil => simp at hl
        | cons x t => simpa using g2
theorem put_of_split {s : L} {k : Bool} {b r : L} (h : splitL s = some (k, b, r)) : s = putL k b ++ r ∧ b.length ≤ 1048576 := by
  unfold splitL at h
  obtain ⟨⟨k', f, t⟩, hN, hb⟩ := Option.map_eq_some_iff.1 h
  simp only [Prod.mk.injEq] at hb
  obtain ⟨rfl, rfl, rfl⟩ := hb
  clear h
  cases s with
  | nil => simp [splitN] at hN
  | cons c u =>
    unfold splitN at hN
    simp only at hN
    have hc8 := c.toNat_lt
    by_cases h1 : c.toNat < 128
    · rw [if_pos h1] at hN
      injection hN with hN
      simp only [Prod.mk.injEq] at hN
      obtain ⟨rfl, rfl, rfl⟩ := hN
      simp [putL, textL, h1]
    · rw [if_neg h1] at hN
      obtain ⟨k0, B, hB, hk0, hbase, hle, hk0'⟩ : ∃ (k0 : Bool) (B : Nat), ((k0 = true ∧ B = 192) ∨ (k0 = false ∧ B = 128)) ∧ decide (192 ≤ c.toNat) = k0 ∧ baseN c.toNat = B ∧ B ≤ c.toNat ∧ c.toNat < B + 64 := by
        by_cases h2 : 192 ≤ c.toNat
        · exact ⟨true, 192, .inl ⟨rfl, rfl⟩, by simpa using h2, baseN_192 h2, h2, by omega⟩
        · exact ⟨false, 128, .inr ⟨rfl, rfl⟩, by simpa using h2, baseN_128 (by omega), by omega, by omega⟩
      rw [hk0, hbase] at hN
      by_cases h3 : c.toNat - B ≤ 55
      · rw [if_pos h3] at hN
        obtain ⟨b, e, hl, e1, e2⟩ := put_of_fin k0 B hB c u _ h3 (by omega) _ hN
        injection e with e3 e4
        injection e4 with e4 e5
        subst e3 e4 e5
        rw [e2, ← e1, List.take_append_drop]
        exact ⟨rfl, by omega⟩
      · rw [if_neg h3] at hN
        obtain ⟨m, hm, hF⟩ := Option.bind_eq_some_iff.1 hN
        obtain ⟨j, hj⟩ : ∃ j, c.toNat - B - 55 = j := ⟨_, rfl⟩
        rw [hj] at hm hF
        have hj1 : 1 ≤ j ∧ j ≤ 8 := by omega
        unfold sizeN at hm
        by_cases h4 : u.length < j ∨ (u.getD 0 0).toNat = 0
        · rw [if_pos h4] at hm; cases hm
        · rw [if_neg h4] at hm
          by_cases h5 : nb (u.take j) ≤ 55 ∨ 1048576 < nb (u.take j)
          · rw [if_pos h5] at hm; cases hm
          · rw [if_neg h5] at hm
            injection hm with hm
            unfold finN at hF
            by_cases h6 : (c :: u).length - (1 + j) < m
            · rw [if_pos h6] at hF; cases hF
            · rw [if_neg h6, if_neg (by rintro ⟨_, h, _⟩; omega)] at hF
              injection hF with hF
              injection hF with e3 e4
              injection e4 with e4 e5
              subst e3 e4 e5
              have hul : j ≤ u.length := by omega
              have htl : (u.take j).length = j := by simp; omega
              have hdrop : ((u.drop j).take m).length = m := by simp at h6 ⊢; omega
              have e6 : ((c :: u).take (1 + j + m)).drop (1 + j) = (u.drop j).take m := by
                rw [List.drop_take, show 1 + j + m - (1 + j) = m by omega, Nat.add_comm 1 j]; simp
              have hdg : dg 8 m = u.take j := by
                rw [← hm]
                refine dg_nb _ ?_ 8 (by omega)
                cases u with
                | nil => simp at hul; omega
                | cons x u =>
                  cases j with
                  | zero => omega
                  | succ j =>
                    simp only [List.take_succ_cons, List.head?_cons, ne_eq, Option.some.injEq]
                    intro h
                    exact h4 (.inr (by subst h; rfl))
              have e7 : wrapL ((u.drop j).take m) B = (c :: u).take (1 + j + m) := by
                unfold wrapL
                rw [hdrop, if_neg (by omega), hdg, htl]
                have hcc : UInt8.ofNat (B + 55 + j) = c := UInt8.toNat_inj.1 (by rw [byte_of _ (by omega)]; omega)
                rw [hcc, show 1 + j + m = (j + m) + 1 by omega, List.take_succ_cons, List.take_add]
              have e8 : putL k0 ((u.drop j).take m) = (c :: u).take (1 + j + m) := by
                rw [← e7, put_wrap hB]
                rintro _ ⟨g, _⟩
                omega
              rw [e6, e8, List.take_append_drop]
              exact ⟨rfl, by omega⟩
end Go.Proofs.YtibhhikaecpgiaaDoor.R
