/- Plain: the laws of items and numbers. -/
import Derived.Test.YtibhhikaecpgiaaDoorP3
namespace Go.Proofs.YtibhhikaecpgiaaDoor.R
set_option linter.unusedVariables false
set_option linter.unusedSimpArgs false
theorem wrap_pos (b : L) (base : Nat) : 1 ≤ (wrapL b base).length := by unfold wrapL; split <;> simp
theorem put_pos (k : Bool) (b : L) : 1 ≤ (putL k b).length := by
  cases k with
  | true => exact wrap_pos b 192
  | false =>
    show 1 ≤ (textL b).length
    unfold textL
    split
    · rename_i h; omega
    · exact wrap_pos b 128
theorem put_inj {k k' : Bool} {b b' r r' : L} (hb : b.length ≤ 1048576) (hb' : b'.length ≤ 1048576) (h : putL k b ++ r = putL k' b' ++ r') : k = k' ∧ b = b' ∧ r = r' := by
  have h1 := split_put k b r hb
  have h2 := split_put k' b' r' hb'
  rw [h, h2] at h1
  simp only [Option.some.injEq, Prod.mk.injEq] at h1
  exact ⟨h1.1.symm, h1.2.1.symm, h1.2.2.symm⟩
theorem text_inj {b c : L} (hb : b.length ≤ 1048576) (hc : c.length ≤ 1048576) (h : textL b = textL c) : b = c :=
  (put_inj (k := false) (k' := false) (r := []) (r' := []) hb hc (by rw [List.append_nil, List.append_nil]; exact h)).2.1
theorem cut_none (k : Bool) (b : L) (hb : b.length ≤ 1048576) (j : Nat) (hj : j < (putL k b).length) : splitL ((putL k b).take j) = none := by
  cases h : splitL ((putL k b).take j) with
  | none => rfl
  | some x =>
    obtain ⟨k', b', r'⟩ := x
    obtain ⟨h1, h2⟩ := put_of_split h
    have h3 := List.take_append_drop j (putL k b)
    rw [h1, List.append_assoc] at h3
    have h4 := put_inj (k := k') (k' := k) (r := r' ++ (putL k b).drop j) (r' := []) h2 hb (by rw [h3, List.append_nil])
    have h5 : (r' ++ (putL k b).drop j).length = 0 := by rw [h4.2.2]; rfl
    rw [List.length_append, List.length_drop] at h5
    omega
theorem splitN_none {s : L} (h : splitL s = none) : splitN s = none := by
  unfold splitL at h
  exact Option.map_eq_none_iff.1 h
theorem splitN_put (k : Bool) (b r : L) (hb : b.length ≤ 1048576) : ∃ f t, splitN (putL k b ++ r) = some (k, f, t) ∧ ((putL k b ++ r).take t).drop f = b ∧ (putL k b ++ r).drop t = r := by
  have h := split_put k b r hb
  unfold splitL at h
  obtain ⟨⟨k', f, t⟩, hN, he⟩ := Option.map_eq_some_iff.1 h
  simp only [Prod.mk.injEq] at he
  obtain ⟨rfl, h2, h3⟩ := he
  exact ⟨f, t, hN, h2, h3⟩
theorem items_append (k : Nat) : ∀ (a b : L) (l : List L), a.length ≤ k → itemsL a = some l → itemsL (a ++ b) = (itemsL b).map (l ++ ·) := by
  induction k with
  | zero =>
    intro a b l hk h
    obtain rfl : a = [] := List.eq_nil_of_length_eq_zero (by omega)
    rw [itemsL_nil] at h
    obtain rfl := (Option.some.inj h).symm
    simp
  | succ k ih =>
    intro a b l hk h
    by_cases ha : a = []
    · subst ha
      rw [itemsL_nil] at h
      obtain rfl := (Option.some.inj h).symm
      simp
    · cases hs : splitL a with
      | none => rw [itemsL_none ha (splitN_none hs)] at h; cases h
      | some x =>
        obtain ⟨k0, b0, r⟩ := x
        obtain ⟨h1, h2⟩ := put_of_split hs
        rw [itemsL_split hs] at h
        obtain ⟨l', h3, rfl⟩ := Option.map_eq_some_iff.1 h
        have hp := put_pos k0 b0
        have hr : r.length ≤ k := by rw [h1, List.length_append] at hk; omega
        have hsp : splitL (a ++ b) = some (k0, b0, r ++ b) := by rw [h1, List.append_assoc]; exact split_put k0 b0 (r ++ b) h2
        rw [itemsL_split hsp, ih r b l' hr h3, Option.map_map]
        congr 1
theorem items_two (b c : L) (hb : b.length ≤ 1048576) (hc : c.length ≤ 1048576) : itemsL (textL b ++ textL c) = some [textL b, textL c] := by
  have h1 : splitL (textL b ++ textL c) = some (false, b, textL c) := split_put false b (textL c) hb
  have h2 : splitL (textL c) = some (false, c, []) := by have := split_put false c [] hc; rwa [List.append_nil] at this
  rw [itemsL_split h1, itemsL_split h2, itemsL_nil]
  rfl
end Go.Proofs.YtibhhikaecpgiaaDoor.R
