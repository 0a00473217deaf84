/- The document's example. -/
import Derived.Test.YtdeagfjfipbniaaF14
set_option linter.unusedSimpArgs false
set_option linter.unusedVariables false
namespace Go.Proofs.Ytdeagfjfipbniaa.F
open Go.RowKit Go.Proofs.YtdeagfjfipbniaaW.PrintWords Go.Proofs.YtdeagfjfipbniaaW.PrintLast Go.Proofs.YtdeagfjfipbniaaW.PrintMore

/-- The rows of the example, one by one. -/
def one (f : Bool) (b : Nat) (v : Value) (q : List Note) : List Row := [⟨3, b, f, v, q⟩]
theorem sub_nil (b : Nat) : subG 3 b [] = one true b (.slice none 0 0) [] := rfl
theorem look_one_ (f : Bool) (b : Nat) (v : Value) (q : List Note) : look 3 (one f b v q) = some ⟨3, b, f, v, q⟩ := rfl
theorem pushed_one {room : Int} {x : Note} {r : Row} {G2 : List Row} (h : AllPushed room x [r] G2) : ∃ s, G2 = [s] ∧ Pushed room x r s := by
  generalize hg : [r] = G at h
  cases h with
  | nil => cases hg
  | @snoc G1 G2 r' s h1 h2 =>
    have hl := congrArg List.length hg
    simp at hl
    subst hl
    simp only [List.nil_append, List.cons.injEq, and_true] at hg
    subst hg
    generalize he : ([] : List Row) = E at h1
    cases h1 with
    | nil => exact ⟨s, rfl, h2⟩
    | snoc _ _ => simp at he
def noteOf (b : Int) (r : ByteArray) : Note := ⟨0, 0, b, r, none, 0, 0⟩
/-- A block of ints is none of the feed's. -/
theorem FeedAt.not_int {base p mb n : Nat} {w : World} {room : Int} {G : List Row} (h : FeedAt base w p room mb n G) {j : Nat} {c : Array Value} {f : Nat × Nat} (hj : w.heap[j]? = some (Obj.cells c 3 f)) : ¬ Foot p mb G j := by
  rintro (rfl | rfl | ⟨r, hr, rfl | e⟩)
  · exact two_types hj h.feed (by decide) rfl
  · obtain ⟨_, _, hm⟩ := map_at h.map
    rw [hm] at hj
    cases hj
  · exact two_types hj (h.lines r hr).cell (by decide) rfl
  · obtain ⟨c2, hc2⟩ := (q_typed (h.lines r hr).row j e).2
    exact two_types hj hc2 (by decide) rfl
theorem FeedAt.not_new {base p mb n : Nat} {w : World} {room : Int} {G : List Row} (h : FeedAt base w p room mb n G) : ¬ Foot p mb G w.heap.size := fun hf => by have := h.foot_lt hf; omega
theorem wf3 : wfI 3 := by decide
set_option maxRecDepth 100000 in
set_option maxHeartbeats 4000000 in
theorem works_calls (w : World) :
    Calls Try.prog 6 #[] w fun e w' => e = .returned (.bool true) ∧ Below w.heap.size w w' := by
  go_enter Try.func6, Try.ntmps6
  go_wp2_with (go_at_call 7; fail)
  refine (new_calls w 1).mono ?_
  rintro e w1 ⟨p, mb, rfl, h1, hb1⟩
  rw [show (min (max 1 1) 4 : Int) = 1 by decide] at h1
  have F1 := Aside0.mk h1
  have B1 := Aside0.mk hb1
  clear h1 hb1
  -- a
  go_wp2_with (go_at_call 15; fail)
  refine ((callsIn_wide (n := 9)).1 (subscribe_in w.heap.size p mb 0 w1 _ [] 3 F1.out wf3 (by omega))).mono ?_
  rintro e w2 (⟨hc, _⟩ | ⟨_, rfl, hb2, b2, h2, hs2⟩)
  · simp [follows, look, count] at hc
  rw [sub_nil] at h2 hs2
  have F2 := Aside0.mk h2
  have B2 := Aside0.mk (F1.out.size)
  have C2 := Aside0.mk (B1.out.trans hb2)
  clear h2 hb2 hs2
  -- b
  go_wp2_with (go_at_call 15; fail)
  refine ((callsIn_wide (n := 9)).1 (subscribe_in w.heap.size p mb 1 w2 _ _ 3 F2.out wf3 (by omega))).mono ?_
  rintro e w3 (⟨_, rfl, h3, hb3, _⟩ | ⟨hc, _⟩)
  rotate_left
  · exact absurd (.inl rfl) hc
  have F3 := Aside0.mk h3
  have C3 := Aside0.mk (C2.out.trans hb3)
  clear h3 hb3
  have hp4 := (callsIn_wide (n := 9)).1 (push_in w.heap.size p mb 2 w3 1 _ (noteOf 1 ⟨#[114]⟩) F3.out (by omega) (by omega) (by omega) (by intro q hq; simp only [one, List.mem_singleton] at hq; subst hq; simp [Row.n]))
  simp only [noteOf, Note.cells] at hp4
  have P4 := Aside0.mk hp4
  clear hp4
  go_wp2_with (go_at_call 16; fail)
  refine P4.out.mono ?_
  clear P4
  rintro e w4 ⟨v4, G4, rfl, hA4, h4, hb4, hr4, hs4⟩
  obtain ⟨s4, rfl, hps4⟩ := pushed_one hA4
  obtain ⟨u4, rfl⟩ : ∃ u, s4 = ⟨3, b2, true, u, [⟨3, 0, 1, ⟨#[114]⟩, none, 0, 0⟩]⟩ := by
    cases hps4 with
    | idle hf => cases hf
    | put u _ _ => exact ⟨u, rfl⟩
    | lag u _ hq => exact absurd hq (by simp [Row.n])
    | full _ hq => exact absurd hq (by simp [Row.n])
  change FeedAt _ _ _ _ _ _ (one true b2 u4 [⟨3, 0, 1, ⟨#[114]⟩, none, 0, 0⟩]) at h4
  obtain ⟨A4, c4, rfl, _⟩ := q_slice (q_of_own hr4)
  rw [show (lagCells 1 (one true b2 (.slice none 0 0) [])).length = 0 from rfl]
  have F4 := Aside0.mk h4
  have C4 := Aside0.mk (C3.out.trans hb4)
  clear h4 hb4 hr4 hs4 hA4 hps4
  -- y
  have hp5 := (callsIn_wide (n := 9)).1 (push_in w.heap.size p mb 2 w4 1 _ (noteOf 2 ⟨#[]⟩) F4.out (by omega) (by omega) (by omega) (by intro q hq; simp only [one, List.mem_singleton] at hq; subst hq; simp [Row.n]))
  simp only [noteOf, Note.cells] at hp5
  have P5 := Aside0.mk hp5
  clear hp5
  go_wp2_with (go_at_call 16; fail)
  refine P5.out.mono ?_
  clear P5
  rintro e w5 ⟨v5, G5, rfl, hA5, h5, hb5, hr5, hs5⟩
  obtain ⟨s5, rfl, hps5⟩ := pushed_one hA5
  obtain ⟨u5, rfl⟩ : ∃ u, s5 = ⟨3, b2, false, u, [⟨3, 0, 1, ⟨#[114]⟩, none, 0, 0⟩, ⟨3, 11, 2, ⟨#[]⟩, none, 0, 0⟩]⟩ := by
    cases hps5 with
    | idle hf => cases hf
    | put u _ hq => exact absurd hq (by simp [Row.n])
    | lag u _ _ => exact ⟨u, rfl⟩
    | full _ hq => exact absurd hq (by simp [Row.n])
  change FeedAt _ _ _ _ _ _ (one false b2 u5 [⟨3, 0, 1, ⟨#[114]⟩, none, 0, 0⟩, ⟨3, 11, 2, ⟨#[]⟩, none, 0, 0⟩]) at h5
  change World.ownsRow _ _ _ _ _ 1 [.int .i64 3] at hr5
  obtain ⟨g5, c5, cur5, rfl, hg5, hh5, hc5, hm5, hz5, ht5⟩ : ∃ g c cur, v5 = .slice (some ⟨g, 0, none⟩) 1 c ∧ w4.heap.size ≤ g ∧ w5.heap[g]? = some (.cells cur 3 (0, 0)) ∧ 1 ≤ c ∧ c ≤ maxLen ∧ cur.size = c * 1 ∧ cur.toList.take (1 * 1) = [.int .i64 3] := by
    rcases hr5.2 with ⟨_, h⟩ | h
    · cases h
    · exact h
  have hy5 : cur5[0]? = some (.int .i64 3) := by
    have h1 := congrArg (fun l => l[0]?) ht5
    simp only [List.getElem?_take] at h1
    rw [← Array.getElem?_toList]
    simpa using h1
  have hn5 := h5.not_int hh5
  have Y5 := Aside0.mk (And.intro hh5 (And.intro hy5 hn5))
  have F5 := Aside0.mk h5
  have C5 := Aside0.mk (C4.out.trans hb5)
  clear h5 hb5 hr5 hs5 hA5 hps5 hg5 hh5 hc5 hm5 hz5 ht5 hy5 hn5
  -- z
  have hp6 := (callsIn_wide (n := 9)).1 (push_in w.heap.size p mb 2 w5 1 _ (noteOf 3 ⟨#[]⟩) F5.out (by omega) (by omega) (by omega) (by intro q hq; simp only [one, List.mem_singleton] at hq; subst hq; simp [Row.n]))
  simp only [noteOf, Note.cells] at hp6
  have P6 := Aside0.mk hp6
  clear hp6
  go_wp2_with (go_at_call 16; fail)
  refine P6.out.mono ?_
  clear P6
  rintro e w6 ⟨v6, G6, rfl, hA6, h6, hb6, hr6, hs6⟩
  obtain ⟨s6, rfl, hps6⟩ := pushed_one hA6
  obtain rfl : s6 = ⟨3, b2, false, u5, [⟨3, 0, 1, ⟨#[114]⟩, none, 0, 0⟩, ⟨3, 11, 2, ⟨#[]⟩, none, 0, 0⟩]⟩ := by
    cases hps6 with
    | idle hf => rfl
    | put u hf hq => cases hf
    | lag u hf _ => cases hf
    | full hf hq => cases hf
  change FeedAt _ _ _ _ _ _ (one false b2 u5 [⟨3, 0, 1, ⟨#[114]⟩, none, 0, 0⟩, ⟨3, 11, 2, ⟨#[]⟩, none, 0, 0⟩]) at h6
  obtain ⟨A6, c6, rfl, _⟩ := q_slice (q_of_own hr6)
  rw [show (lagCells 1 (one false b2 u5 [⟨3, 0, 1, ⟨#[114]⟩, none, 0, 0⟩, ⟨3, 11, 2, ⟨#[]⟩, none, 0, 0⟩])).length = 0 from rfl]
  have F6 := Aside0.mk h6
  have S6 := Aside0.mk hs6
  have C6 := Aside0.mk (C5.out.trans hb6)
  clear h6 hb6 hr6 hs6 hA6 hps6
  -- n
  go_wp2_with (go_at_call 14; fail)
  refine (pop_calls w.heap.size p mb 2 w6 1 _ 3 F6.out wf3).mono ?_
  rintro e w7 (⟨hc, _⟩ | ⟨r7, u7, x7, hl7, hx7, rfl, h7, hb7, hs7⟩)
  · exact absurd hc (by simp [waits, look, one, Row.n])
  obtain rfl : (⟨3, b2, false, u5, [⟨3, 0, 1, ⟨#[114]⟩, none, 0, 0⟩, ⟨3, 11, 2, ⟨#[]⟩, none, 0, 0⟩]⟩ : Row) = r7 := Option.some.inj hl7
  obtain rfl : (⟨3, 0, 1, ⟨#[114]⟩, none, 0, 0⟩ : Note) = x7 := Option.some.inj hx7
  change FeedAt _ _ _ _ _ _ (one false b2 u7 [⟨3, 11, 2, ⟨#[]⟩, none, 0, 0⟩]) at h7
  simp only [Note.cells]
  obtain ⟨W7, hW7⟩ : ∃ W7, w7.alloc (.cells #[.int .i64 3, .int .i64 0, .int .i64 1, .string ⟨#[114]⟩, .slice none 0 0] 31) = W7 := ⟨_, rfl⟩
  have hB7 : Below w7.heap.size w7 W7 := by rw [← hW7]; exact (Below.refl _ _).alloc (Nat.le_refl _) _
  have hN7 : W7.heap[w7.heap.size]? = some (.cells #[.int .i64 3, .int .i64 0, .int .i64 1, .string ⟨#[114]⟩, .slice none 0 0] 31 (0, 0)) := by rw [← hW7]; exact heap_alloc_new w7 _
  have F7 := Aside0.mk (h7.later hB7)
  have N7 := Aside0.mk (And.intro hN7 h7.not_new)
  have S7 := Aside0.mk ((S6.out.trans hs7).trans (.below hB7))
  have Z7 := Aside0.mk h7.size
  have C7 := Aside0.mk ((C6.out.trans hb7).trans (hB7.mono h7.size))
  have HW7 := Aside0.mk hW7
  clear hW7 h7 hb7 hs7 hB7 hN7 hl7 hx7
  -- m
  go_wp2_with (go_at_call 14; fail)
  rw [HW7.out]
  refine (pop_calls w.heap.size p mb 2 W7 1 _ 3 F7.out wf3).mono ?_
  rintro e w8 (⟨hc, _⟩ | ⟨r8, u8, x8, hl8, hx8, rfl, h8, hb8, hs8⟩)
  · exact absurd hc (by simp [waits, look, one, Row.n])
  obtain rfl : (⟨3, b2, false, u7, [⟨3, 11, 2, ⟨#[]⟩, none, 0, 0⟩]⟩ : Row) = r8 := Option.some.inj hl8
  obtain rfl : (⟨3, 11, 2, ⟨#[]⟩, none, 0, 0⟩ : Note) = x8 := Option.some.inj hx8
  change FeedAt _ _ _ _ _ _ [] at h8
  change Step _ _ _ _ [] _ at hs8
  simp only [Note.cells]
  obtain ⟨W8, hW8⟩ : ∃ W8, w8.alloc (.cells #[.int .i64 3, .int .i64 11, .int .i64 2, .string ⟨#[]⟩, .slice none 0 0] 31) = W8 := ⟨_, rfl⟩
  have hB8 : Below w8.heap.size w8 W8 := by rw [← hW8]; exact (Below.refl _ _).alloc (Nat.le_refl _) _
  have hN8 : W8.heap[w8.heap.size]? = some (.cells #[.int .i64 3, .int .i64 11, .int .i64 2, .string ⟨#[]⟩, .slice none 0 0] 31 (0, 0)) := by rw [← hW8]; exact heap_alloc_new w8 _
  have F8 := Aside0.mk (h8.later hB8)
  have N8 := Aside0.mk (And.intro hN8 h8.not_new)
  have S8 := Aside0.mk (hs8.trans (.below hB8))
  have C8 := Aside0.mk ((C7.out.trans hb8).trans (hB8.mono h8.size))
  have HW8 := Aside0.mk hW8
  clear hW8 h8 hb8 hs8 hB8 hN8 hl8 hx8
  -- e
  go_wp2_with (go_at_call 14; fail)
  rw [HW8.out]
  refine (pop_calls w.heap.size p mb 2 W8 1 _ 3 F8.out wf3).mono ?_
  rintro e w9 (⟨_, rfl, h9, hb9, hs9⟩ | ⟨r9, u9, x9, hl9, _⟩)
  rotate_left
  · cases hl9
  simp only [noNote, Note.cells]
  obtain ⟨W9, hW9⟩ : ∃ W9, w9.alloc (.cells #[.int .i64 0, .int .i64 0, .int .i64 0, .string ⟨#[]⟩, .slice none 0 0] 31) = W9 := ⟨_, rfl⟩
  have hB9 : Below w9.heap.size w9 W9 := by rw [← hW9]; exact (Below.refl _ _).alloc (Nat.le_refl _) _
  have F9 := Aside0.mk (h9.later hB9)
  have S9 := Aside0.mk (hs9.trans (.below hB9))
  have C9 := Aside0.mk ((C8.out.trans hb9).trans (hB9.mono h9.size))
  have HW9 := Aside0.mk hW9
  clear hW9 h9 hb9 hs9 hB9
  -- g
  go_wp2_with (go_at_call 15; fail)
  rw [HW9.out]
  refine ((callsIn_wide (n := 9)).1 (subscribe_in w.heap.size p mb 2 W9 _ [] 3 F9.out wf3 (by omega))).mono ?_
  rintro e w10 (⟨hc, _⟩ | ⟨_, rfl, hb10, b10, h10, hs10⟩)
  · simp [follows, look, count] at hc
  rw [sub_nil] at h10 hs10
  have hT8 : Step p mb [] W8 (one true b10 (.slice none 0 0) []) w10 := S9.out.trans hs10
  have hT7 := S8.out.trans hT8
  have hT6 := S7.out.trans hT7
  have hy := (hT6.far g5 (blk_lt Y5.out.1) Y5.out.2.2).trans Y5.out.1
  have hn := (hT7.far w7.heap.size (blk_lt N7.out.1) (fun hf => by have := F7.out.foot_lt hf; exact N7.out.2 (by
    rcases hf with h | h | ⟨r, hr, h⟩
    · exact .inl h
    · exact .inr (.inl h)
    · exact .inr (.inr ⟨r, hr, h⟩)))).trans N7.out.1
  have hm := (hT8.far w8.heap.size (blk_lt N8.out.1) N8.out.2).trans N8.out.1
  have y0 : w10.cell? ⟨g5, 0, none⟩ = some (.int .i64 3) := (blk_cell hy 0).trans Y5.out.2.1
  have n0 : w10.cell? ⟨w7.heap.size, 0, none⟩ = some (.int .i64 3) := blk_cell hn 0
  have n2 : w10.cell? ⟨w7.heap.size, 2, none⟩ = some (.int .i64 1) := blk_cell hn 2
  have n3 : w10.cell? ⟨w7.heap.size, 3, none⟩ = some (.string ⟨#[114]⟩) := blk_cell hn 3
  have m1 : w10.cell? ⟨w8.heap.size, 1, none⟩ = some (.int .i64 11) := blk_cell hm 1
  have m2 : w10.cell? ⟨w8.heap.size, 2, none⟩ = some (.int .i64 2) := blk_cell hm 2
  have F10 := Aside0.mk h10
  have C10 := Aside0.mk (C9.out.trans hb10)
  clear h10 hb10 hs10 hT8 hT7 hT6 hy hn hm
  go_wp2_with (go_at_call 12; fail)
  refine (follows_calls w.heap.size p mb 3 w10 1 _ 3 F10.out wf3).mono ?_
  rintro e w10' ⟨rfl, rfl⟩
  rw [show follows (look 3 (one true b10 (.slice none 0 0) [])) = true from rfl]
  go_wp2_with (go_at_call 17; fail)
  refine (unsub_calls w.heap.size p mb 3 w10' 1 _ 3 F10.out wf3 (by omega)).mono ?_
  rintro e w11 ⟨rfl, h11, hb11, _⟩
  change FeedAt _ _ _ _ _ _ [] at h11
  rw [show follows (look 3 (one true b10 (.slice none 0 0) [])) = true from rfl]
  have F11 := Aside0.mk h11
  have C11 := Aside0.mk (C10.out.trans hb11)
  clear h11 hb11
  go_wp2_with (go_at_call 17; fail)
  refine (unsub_calls w.heap.size p mb 4 w11 1 _ 3 F11.out wf3 (by omega)).mono ?_
  rintro e w12 ⟨rfl, h12, hb12, _⟩
  have hG12 : unsubG 3 w11.heap.size [] = [] := by
    have h1 : atG 3 w11.heap.size [] = [fresh 3 w11.heap.size] := rfl
    have h2 : upd 3 (setF false) [fresh 3 w11.heap.size] = [fresh 3 w11.heap.size] := rfl
    have h3 : tidyG 3 [fresh 3 w11.heap.size] = [] := rfl
    rw [unsubG, h1, h2, h3]
  rw [hG12] at h12
  rw [show follows (look 3 []) = false from rfl]
  have F12 := Aside0.mk h12
  have C12 := Aside0.mk (C11.out.trans hb12)
  clear h12 hb12 hG12
  go_wp2_with (go_at_call 11; fail)
  refine (waiting_calls w.heap.size p mb 5 w12 1 _ 3 F12.out wf3).mono ?_
  rintro e w12' ⟨rfl, rfl⟩
  rw [show ((waits (look 3 []) : Nat) : Int) = 0 from rfl]
  go_wp2_with (go_at_call 13; fail)
  refine (forget_calls w.heap.size p mb 5 w12' 1 _ 3 F12.out wf3).mono ?_
  rintro e w13 ⟨rfl, h13, hb13, _⟩
  rw [show ((waits (look 3 []) : Nat) : Int) = 0 from rfl]
  change FeedAt _ _ _ _ _ _ [] at h13
  have F13 := Aside0.mk h13
  have C13 := Aside0.mk (C12.out.trans hb13)
  clear h13 hb13
  go_wp2_with (go_at_call 10; fail)
  refine (sessions_calls w.heap.size p mb 5 w13 1 _ F13.out (by omega)).mono ?_
  rintro e w14 ⟨v14, rfl, hrow, hb14⟩
  obtain ⟨A14, c14, rfl, _⟩ := q_slice (q_of_own hrow)
  rw [show ([] : List Row).length = 0 from rfl]
  have C14 := Aside0.mk (C13.out.trans (hb14.mono F13.out.size))
  clear hrow hb14
  go_wp2
  go_ret
  exact ⟨rfl, C14.out⟩
end Go.Proofs.Ytdeagfjfipbniaa.F
