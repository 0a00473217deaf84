/- What an act makes of a feed's rows; plain laws. -/
import Derived.Test.YtdeagfjfipbniaaF10
set_option linter.unusedSimpArgs false
set_option linter.unusedVariables false
namespace Go.Proofs.Ytdeagfjfipbniaa.F
open Go.RowKit Go.Proofs.YtdeagfjfipbniaaW.PrintWords Go.Proofs.YtdeagfjfipbniaaW.PrintLast Go.Proofs.YtdeagfjfipbniaaW.PrintMore

inductive Did (room : Int) (K s : Int) (G : List Row) : List Row → Prop
  | subNo : K = 0 → Did room K s G G
  | subYes (b : Nat) : K = 0 → ¬ (follows (look s G) = true ∨ count G = 4) → Did room K s G (subG s b G)
  | unsub (b : Nat) : K = 1 → Did room K s G (unsubG s b G)
  | push (x : Note) (G2 : List Row) : K = 2 → AllPushed room x G G2 → Did room K s G G2
  | popNo : K = 3 → Did room K s G G
  | popYes (r : Row) (v : Value) : K = 3 → look s G = some r → Did room K s G (tidyG s (upd s (cutQ v) G))
  | forget : K ≠ 0 → K ≠ 1 → K ≠ 2 → K ≠ 3 → Did room K s G (del s G)
/-- There are never more than there may be. -/
structure Inv (room : Int) (G : List Row) : Prop where
  q : ∀ r ∈ G, (r.n : Int) ≤ room + 1
  c : count G ≤ 4
theorem count_cons (r : Row) (G : List Row) : count (r :: G) = (if r.f then 1 else 0) + count G := by
  unfold count
  cases h : r.f <;> simp [h]; omega
theorem count_ins_fresh (k : Int) (b : Nat) (G : List Row) : count (ins (fresh k b) G) = count G := by
  induction G with
  | nil => rfl
  | cons y r ih =>
    unfold ins
    split
    · rw [count_cons]; simp [fresh]
    · rw [count_cons, count_cons, ih]
theorem count_at (k : Int) (b : Nat) (G : List Row) : count (atG k b G) = count G := by
  unfold atG
  split
  · rfl
  · exact count_ins_fresh k b G
theorem count_filter (G : List Row) (P : Row → Bool) : count (G.filter P) ≤ count G := by
  unfold count
  rw [List.filter_filter]
  induction G with
  | nil => simp
  | cons y r ih =>
    simp only [List.filter_cons]
    cases h1 : y.f <;> cases h2 : P y <;> simp [h1, h2] <;> omega
theorem count_upd_keep {g : Row → Row} (k : Int) (G : List Row) (hg : ∀ r, (g r).f = r.f) : count (upd k g G) = count G := by
  induction G with
  | nil => rfl
  | cons y r ih =>
    unfold upd at ih ⊢
    rw [List.map_cons, count_cons, count_cons, ih]
    congr 1
    split
    · rw [hg]
    · rfl
theorem count_upd_off (k : Int) (G : List Row) : count (upd k (setF false) G) ≤ count G := by
  induction G with
  | nil => exact Nat.le_refl _
  | cons y r ih =>
    unfold upd at ih ⊢
    rw [List.map_cons, count_cons, count_cons]
    split
    · have : (if (setF false y).f then 1 else 0) = 0 := rfl
      rw [this]
      omega
    · omega
theorem count_upd_none {g : Row → Row} (k : Int) (G : List Row) (h : ∀ r ∈ G, r.k ≠ k) : count (upd k g G) = count G := by
  have : upd k g G = G := by
    unfold upd
    refine (List.map_congr_left fun s hs => ?_).trans (List.map_id _)
    rw [if_neg (h s hs)]
    rfl
  rw [this]
theorem count_upd_on (k : Int) {G : List Row} (h : Rising G) : count (upd k (setF true) G) ≤ count G + 1 := by
  induction G with
  | nil => simp [upd, count]
  | cons y r ih =>
    obtain ⟨h1, h2⟩ := List.pairwise_cons.1 h
    unfold upd at ih ⊢
    rw [List.map_cons, count_cons, count_cons]
    by_cases e : y.k = k
    · rw [if_pos e]
      have := count_upd_none (g := setF true) k r fun s hs => by have := h1 s hs; omega
      unfold upd at this
      rw [this]
      cases y.f <;> simp [setF] <;> omega
    · rw [if_neg e]
      have := ih h2
      omega
theorem mem_upd {g : Row → Row} {k : Int} {G : List Row} {s : Row} (h : s ∈ upd k g G) : ∃ r ∈ G, s = r ∨ s = g r := by
  obtain ⟨r, hr, rfl⟩ := List.mem_map.1 h
  refine ⟨r, hr, ?_⟩
  split
  · exact .inr rfl
  · exact .inl rfl
theorem mem_at {k : Int} {b : Nat} {G : List Row} {s : Row} (h : s ∈ atG k b G) : s ∈ G ∨ s = fresh k b := by
  unfold atG at h
  split at h
  · exact .inl h
  · rcases mem_ins.1 h with h | h
    · exact .inr h
    · exact .inl h
theorem rising_at {k : Int} {b : Nat} {G : List Row} (h : Rising G) : Rising (atG k b G) := by
  unfold atG
  cases hl : look k G with
  | some r => exact h
  | none => exact rising_ins (x := fresh k b) h hl
theorem count_tidy (k : Int) (G : List Row) : count (tidyG k G) ≤ count G := by
  unfold tidyG
  split
  · split
    · exact count_filter _ _
    · exact Nat.le_refl _
  · exact Nat.le_refl _
theorem pushed_inv {room : Int} {x : Note} {G G2 : List Row} (h : AllPushed room x G G2) (hq : ∀ r ∈ G, (r.n : Int) ≤ room + 1) : (∀ r ∈ G2, (r.n : Int) ≤ room + 1) ∧ count G2 ≤ count G := by
  induction h with
  | nil => exact ⟨hq, Nat.le_refl _⟩
  | @snoc G1 G2 r s _ hp ih =>
    obtain ⟨h1, h2⟩ := ih fun r hr => hq r (List.mem_append_left _ hr)
    have hr := hq r (by simp)
    refine ⟨fun t ht => ?_, ?_⟩
    · rcases List.mem_append.1 ht with ht | ht
      · exact h1 t ht
      · rw [List.mem_singleton.1 ht]
        cases hp with
        | idle _ => exact hr
        | put v _ hlt => rw [putQ_n]; omega
        | lag v _ heq => rw [show (setF false (putQ v (lagNote x r.k) r)).n = (putQ v (lagNote x r.k) r).n from rfl, putQ_n]; omega
        | full _ _ => exact hr
    · rw [count_snoc, count_snoc]
      have : (if s.f then 1 else 0) ≤ (if r.f then 1 else 0) := by
        cases hp with
        | idle _ => exact Nat.le_refl _
        | put v _ hlt => exact Nat.le_refl _
        | lag v _ heq => simp [setF]
        | full _ _ => simp [setF]
      omega
theorem did_inv {room K s : Int} {G G' : List Row} (h : Did room K s G G') (hi : Inv room G) (hG : Rising G) (hr : 1 ≤ room) : Inv room G' := by
  have hat : ∀ k b, ∀ r ∈ atG k b G, (r.n : Int) ≤ room + 1 := fun k b r hr' => by
    rcases mem_at hr' with h | rfl
    · exact hi.q r h
    · simp [fresh, Row.n]; omega
  cases h with
  | subNo _ => exact hi
  | subYes b _ hn =>
    refine ⟨fun t ht => ?_, ?_⟩
    · obtain ⟨r, hr', rfl | rfl⟩ := mem_upd ht
      · exact hat _ _ _ hr'
      · exact hat s b r hr'
    · have h1 := count_upd_on s (rising_at (k := s) (b := b) hG)
      rw [count_at] at h1
      have h2 : ¬ count G = 4 := fun e => hn (.inr e)
      have := hi.c
      unfold subG
      omega
  | unsub b _ =>
    refine ⟨fun t ht => ?_, ?_⟩
    · obtain ⟨r, hr', rfl | rfl⟩ := mem_upd (tidy_sub _ ht)
      · exact hat _ _ _ hr'
      · exact hat s b r hr'
    · have h1 := count_tidy s (upd s (setF false) (atG s b G))
      have h2 := count_upd_off s (atG s b G)
      rw [count_at] at h2
      have := hi.c
      unfold unsubG
      omega
  | push x G2 _ hp =>
    obtain ⟨h1, h2⟩ := pushed_inv hp hi.q
    exact ⟨h1, Nat.le_trans h2 hi.c⟩
  | popNo _ => exact hi
  | popYes r v _ _ =>
    refine ⟨fun t ht => ?_, ?_⟩
    · obtain ⟨r, hr', rfl | rfl⟩ := mem_upd (tidy_sub _ ht)
      · exact hi.q _ hr'
      · have := hi.q _ hr'
        simp only [cutQ, Row.n, List.length_tail] at this ⊢
        omega
    · have h1 := count_tidy s (upd s (cutQ v) G)
      rw [count_upd_keep (g := cutQ v) s G (fun _ => rfl)] at h1
      exact Nat.le_trans h1 hi.c
  | forget _ _ _ _ => exact ⟨fun t ht => hi.q t (List.mem_filter.1 ht).1, Nat.le_trans (count_filter _ _) hi.c⟩
theorem look_at_other {k j : Int} (hj : j ≠ k) (b : Nat) (G : List Row) : look j (atG k b G) = look j G := by
  unfold atG
  cases hl : look k G with
  | some r => rfl
  | none =>
    exact (look_ins (x := fresh k b) j hl).trans (if_neg hj)
theorem look_tidy_other {k j : Int} (hj : j ≠ k) (G : List Row) : look j (tidyG k G) = look j G := by
  unfold tidyG
  split
  · split
    · rw [look_del, if_neg hj]
    · rfl
  · rfl
theorem did_other {room K s j : Int} {G G' : List Row} (h : Did room K s G G') (hj : j ≠ s) (hK : K ≠ 2) : look j G' = look j G := by
  cases h with
  | subNo _ => rfl
  | subYes b _ _ => rw [subG, look_upd (setF_leaves true), if_neg hj, look_at_other hj]
  | unsub b _ => rw [unsubG, look_tidy_other hj, look_upd (setF_leaves false), if_neg hj, look_at_other hj]
  | push x G2 h2 _ => exact absurd h2 hK
  | popNo _ => rfl
  | popYes r v _ _ => rw [look_tidy_other hj, look_upd (cutQ_leaves v), if_neg hj]
  | forget _ _ _ _ => rw [look_del, if_neg hj]
theorem FeedAt.foot_lt {base p mb n : Nat} {w : World} {room : Int} {G : List Row} (h : FeedAt base w p room mb n G) {j : Nat} (hj : Foot p mb G j) : j < w.heap.size := by
  rcases hj with rfl | rfl | ⟨r, hr, rfl | hj⟩
  · exact blk_lt h.feed
  · exact h.map.lt
  · exact blk_lt (h.lines r hr).cell
  · exact q_lt (h.lines r hr).row j hj
end Go.Proofs.Ytdeagfjfipbniaa.F
