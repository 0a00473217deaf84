/- Plain: all items of bytes. -/
import Derived.Test.YtibhhikaecpgiaaDoorP2
namespace Go.Proofs.YtibhhikaecpgiaaDoor.R
set_option linter.unusedVariables false
set_option linter.unusedSimpArgs false
theorem finN_some {s : L} {k k' : Bool} {f n f' t : Nat} (h : finN s k f n = some (k', f', t)) (hf : f ≤ s.length) : k' = k ∧ f' = f ∧ t = f + n ∧ t ≤ s.length := by
  unfold finN at h
  by_cases h1 : s.length - f < n
  · rw [if_pos h1] at h; cases h
  · rw [if_neg h1] at h
    by_cases h2 : k = false ∧ n = 1 ∧ (s.getD f 0).toNat < 128
    · rw [if_pos h2] at h; cases h
    · rw [if_neg h2] at h
      simp only [Option.some.injEq, Prod.mk.injEq] at h
      obtain ⟨h3, h4, h5⟩ := h
      exact ⟨h3.symm, h4.symm, h5.symm, by omega⟩
theorem splitN_pos {s : L} {k : Bool} {f t : Nat} (h : splitN s = some (k, f, t)) : 1 ≤ t ∧ t ≤ s.length ∧ f ≤ t := by
  cases s with
  | nil => simp [splitN] at h
  | cons c u =>
    unfold splitN at h
    simp only at h
    by_cases h1 : c.toNat < 128
    · rw [if_pos h1] at h
      simp only [Option.some.injEq, Prod.mk.injEq] at h
      obtain ⟨_, h4, h5⟩ := h
      rw [List.length_cons]; omega
    · rw [if_neg h1] at h
      by_cases h3 : c.toNat - baseN c.toNat ≤ 55
      · rw [if_pos h3] at h
        obtain ⟨_, h4, h5, h6⟩ := finN_some h (by rw [List.length_cons]; omega)
        omega
      · rw [if_neg h3] at h
        obtain ⟨m, hm, hF⟩ := Option.bind_eq_some_iff.1 h
        unfold sizeN at hm
        by_cases h4 : u.length < c.toNat - baseN c.toNat - 55 ∨ (u.getD 0 0).toNat = 0
        · rw [if_pos h4] at hm; cases hm
        · obtain ⟨_, h4, h5, h6⟩ := finN_some hF (by rw [List.length_cons]; omega)
          omega
/-- All items, with so many steps. -/
def itemsF : Nat → L → Option (List L)
  | 0, s => if s = [] then some [] else none
  | k + 1, s => if s = [] then some [] else (splitN s).bind fun (_, _, t) => (itemsF k (s.drop t)).map (s.take t :: ·)
theorem itemsF_fuel (k : Nat) : ∀ (j : Nat) (s : L), s.length ≤ k → s.length ≤ j → itemsF k s = itemsF j s := by
  induction k with
  | zero =>
    intro j s hk hj
    obtain rfl : s = [] := List.eq_nil_of_length_eq_zero (by omega)
    cases j <;> rfl
  | succ k ih =>
    intro j s hk hj
    cases j with
    | zero =>
      obtain rfl : s = [] := List.eq_nil_of_length_eq_zero (by omega)
      rfl
    | succ j =>
      unfold itemsF
      by_cases hs : s = []
      · rw [if_pos hs, if_pos hs]
      · rw [if_neg hs, if_neg hs]
        cases hN : splitN s with
        | none => rfl
        | some x =>
          obtain ⟨kk, f, t⟩ := x
          have hp := splitN_pos hN
          simp only [Option.bind_some]
          rw [ih j (s.drop t) (by rw [List.length_drop]; omega) (by rw [List.length_drop]; omega)]
def itemsL (s : L) : Option (List L) := itemsF s.length s
theorem itemsL_nil : itemsL [] = some [] := rfl
theorem itemsL_none {s : L} (hs : s ≠ []) (h : splitN s = none) : itemsL s = none := by
  unfold itemsL
  cases s with
  | nil => exact absurd rfl hs
  | cons c u => rw [List.length_cons]; unfold itemsF; rw [if_neg hs, h]; rfl
theorem itemsL_some {s : L} {k : Bool} {f t : Nat} (h : splitN s = some (k, f, t)) : itemsL s = (itemsL (s.drop t)).map (s.take t :: ·) := by
  have hp := splitN_pos h
  unfold itemsL
  cases s with
  | nil => simp [splitN] at h
  | cons c u =>
    rw [List.length_cons]
    conv => lhs; unfold itemsF
    rw [if_neg (by simp), h]
    simp only [Option.bind_some]
    rw [itemsF_fuel u.length ((c :: u).drop t).length _ (by rw [List.length_drop, List.length_cons]; omega) (Nat.le_refl _)]
/-- An item, told whole. -/
theorem itemsL_split {s : L} {k : Bool} {b r : L} (h : splitL s = some (k, b, r)) : itemsL s = (itemsL r).map (putL k b :: ·) := by
  have hp := put_of_split h
  unfold splitL at h
  obtain ⟨⟨k', f, t⟩, hN, hb⟩ := Option.map_eq_some_iff.1 h
  simp only [Prod.mk.injEq] at hb
  obtain ⟨rfl, h2, h3⟩ := hb
  rw [itemsL_some hN, h3]
  have : s.take t = putL k' b := by
    have h4 := List.take_append_drop t s
    rw [h3] at h4
    have h5 : s.take t ++ r = putL k' b ++ r := by rw [h4]; exact hp.1
    exact List.append_cancel_right h5
  rw [this]
end Go.Proofs.YtibhhikaecpgiaaDoor.R
