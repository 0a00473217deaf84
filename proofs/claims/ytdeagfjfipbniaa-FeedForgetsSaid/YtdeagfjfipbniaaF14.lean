/- An act, done. Printed by mkF14.py. -/
import Derived.Test.YtdeagfjfipbniaaF13
import Derived.Test.YtdeagfjfipbniaaF12
set_option linter.unusedSimpArgs false
set_option linter.unusedVariables false
namespace Go.Proofs.Ytdeagfjfipbniaa.F
open Go.RowKit Go.Proofs.YtdeagfjfipbniaaW.PrintWords Go.Proofs.YtdeagfjfipbniaaW.PrintLast Go.Proofs.YtdeagfjfipbniaaW.PrintMore

theorem eight {w : World} {g : Nat} {t : TypeId} {a0 a1 a2 a3 a4 a5 a6 a7 : Value} (h : w.heap[g]? = some (.cells #[a0, a1, a2, a3, a4, a5, a6, a7] t (0, 0))) (x0 x1 x2 x3 x4 x5 x6 x7 : Value) :
    ((((((((w.setCell ⟨g, 0, none⟩ x0).setCell ⟨g, 1, none⟩ x1).setCell ⟨g, 2, none⟩ x2).setCell ⟨g, 3, none⟩ x3).setCell ⟨g, 4, none⟩ x4).setCell ⟨g, 5, none⟩ x5).setCell ⟨g, 6, none⟩ x6).setCell ⟨g, 7, none⟩ x7).heap[g]? = some (.cells #[x0, x1, x2, x3, x4, x5, x6, x7] t (0, 0)) := by
  have h0 := blk_put (cs' := #[x0, a1, a2, a3, a4, a5, a6, a7]) h 0 x0 rfl
  have h1 := blk_put (cs' := #[x0, x1, a2, a3, a4, a5, a6, a7]) h0 1 x1 rfl
  have h2 := blk_put (cs' := #[x0, x1, x2, a3, a4, a5, a6, a7]) h1 2 x2 rfl
  have h3 := blk_put (cs' := #[x0, x1, x2, x3, a4, a5, a6, a7]) h2 3 x3 rfl
  have h4 := blk_put (cs' := #[x0, x1, x2, x3, x4, a5, a6, a7]) h3 4 x4 rfl
  have h5 := blk_put (cs' := #[x0, x1, x2, x3, x4, x5, a6, a7]) h4 5 x5 rfl
  have h6 := blk_put (cs' := #[x0, x1, x2, x3, x4, x5, x6, a7]) h5 6 x6 rfl
  have h7 := blk_put (cs' := #[x0, x1, x2, x3, x4, x5, x6, x7]) h6 7 x7 rfl
  exact h7
/-- What lies at an act's start: the feed's world, with three blocks more. -/
structure Begun (base p mb n : Nat) (room : Int) (G : List Row) (w W1 : World) : Prop where
  feed : FeedAt base W1 p room mb n G
  below : Below w.heap.size w W1
  size : W1.heap.size = w.heap.size + 3
  res : W1.heap[w.heap.size + 1]? = some (Obj.cells #[.bool false, .int .i64 0, .slice none 0 0, .int .i64 0, .int .i64 0, .int .i64 0, .string ⟨#[]⟩, .slice none 0 0] 33 (0, 0))
  tmp : W1.heap[w.heap.size + 1 + 1]? = some (Obj.cells #[.bool false, .int .i64 0, .slice none 0 0, .int .i64 0, .int .i64 0, .int .i64 0, .string ⟨#[]⟩, .slice none 0 0] 33 (0, 0))
def three (w : World) (K s b : Int) (r : ByteArray) : World := ((w.alloc (.cells #[.int .i64 K, .int .i64 s, .int .i64 b, .string r] 36)).alloc (.cells #[.bool false, .int .i64 0, .slice none 0 0, .int .i64 0, .int .i64 0, .int .i64 0, .string ⟨#[]⟩, .slice none 0 0] 33)).alloc (.cells #[.bool false, .int .i64 0, .slice none 0 0, .int .i64 0, .int .i64 0, .int .i64 0, .string ⟨#[]⟩, .slice none 0 0] 33)
theorem begun {base p mb n : Nat} {room : Int} {G : List Row} {w : World} (h : FeedAt base w p room mb n G) (K s b : Int) (r : ByteArray) : Begun base p mb n room G w (three w K s b r) ∧ (three w K s b r).heap[w.heap.size]? = some (Obj.cells #[.int .i64 K, .int .i64 s, .int .i64 b, .string r] 36 (0, 0)) := by
  have hb : Below w.heap.size w (three w K s b r) := (((Below.refl _ w).alloc (Nat.le_refl _) _).alloc (by simp) _).alloc (by simp; omega) _
  have e1 : (w.alloc (.cells #[.int .i64 K, .int .i64 s, .int .i64 b, .string r] 36)).heap.size = w.heap.size + 1 := by simp
  have e2 : ((w.alloc (.cells #[.int .i64 K, .int .i64 s, .int .i64 b, .string r] 36)).alloc (.cells #[.bool false, .int .i64 0, .slice none 0 0, .int .i64 0, .int .i64 0, .int .i64 0, .string ⟨#[]⟩, .slice none 0 0] 33)).heap.size = w.heap.size + 1 + 1 := by simp
  refine ⟨⟨h.later hb, hb, by simp [three], ?_, ?_⟩, ?_⟩
  · exact (Below.heap_alloc _ _ _ (by simp)).trans (by rw [← e1]; exact heap_alloc_new _ _)
  · unfold three; rw [← e2]; exact heap_alloc_new _ _
  · exact (Below.heap_alloc _ _ _ (by simp; omega)).trans ((Below.heap_alloc _ _ _ (by simp)).trans (heap_alloc_new _ _))
/-- Behind the call. -/
theorem Begun.behind {base p mb n : Nat} {room : Int} {G G' : List Row} {w W1 w2 : World} (h : Begun base p mb n room G w W1) (h0 : FeedAt base w p room mb n G) (hs : Step p mb G W1 G' w2) : ∀ j, w.heap.size ≤ j → j < w.heap.size + 3 → w2.heap[j]? = W1.heap[j]? := fun j h1 h2 =>
  hs.far j (by rw [h.size]; exact h2) fun hf => by have := h0.foot_lt hf; omega
theorem Begun.fin {base p mb n n' : Nat} {room : Int} {G G' : List Row} {w W1 w2 w3 : World} (h : Begun base p mb n room G w W1) (h0 : FeedAt base w p room mb n G) (hs : Step p mb G W1 G' w2) (hF : FeedAt base w2 p room mb n' G') (hb : Below base W1 w2)
    (hk : ∀ j, j ≠ w.heap.size + 1 → j ≠ w.heap.size + 1 + 1 → w3.heap[j]? = w2.heap[j]?) (hb3 : Below base w2 w3) : Below base w w3 ∧ FeedAt base w3 p room mb n' G' := by
  have hno : ∀ j, Foot p mb G' j → j ≠ w.heap.size + 1 ∧ j ≠ w.heap.size + 1 + 1 := fun j hj => by
    rcases hs.foot j hj with h1 | h1
    · have := h0.foot_lt h1; omega
    · rw [h.size] at h1; omega
  refine ⟨((h.below.mono h0.size).trans hb).trans hb3, hF.keepOn (fun j => j ≠ w.heap.size + 1 ∧ j ≠ w.heap.size + 1 + 1) (hno _ (.inl rfl)) (hno _ (.inr (.inl rfl))) (fun r hr => ⟨hno _ (.inr (.inr ⟨r, hr, .inl rfl⟩)), fun k hk => hno _ (.inr (.inr ⟨r, hr, .inr hk⟩))⟩) fun j _ hj => hk j hj.1 hj.2⟩
def DoPost (base p mb n : Nat) (room : Int) (G : List Row) (K s : Int) (w : World) (e : Ending) (w' : World) : Prop := (∃ v, e = .returned v) ∧ Below base w w' ∧ ∃ G', FeedAt base w' p room mb (n + 1) G' ∧ Did room K s G G'
set_option maxRecDepth 100000 in
set_option maxHeartbeats 2000000 in
theorem do_sub (base p mb n : Nat) (w : World) (room : Int) (G : List Row) (s b : Int) (r : ByteArray) (h : FeedAt base w p room mb n G) (hn : n < 900000) (hs : wfI s) (hr1 : 1 ≤ room) (hr4 : room ≤ 4) (hi : Inv room G) :
    Calls Try.prog 9 #[.pointer (some ⟨p, 0, none⟩), .agg #[.int .i64 0, .int .i64 s, .int .i64 b, .string r]] w (DoPost base p mb n room G 0 s w) := by
  have HS := Aside0.mk h.size
  have HH := Aside0.mk h
  have HN := Aside0.mk hn
  have HI := Aside0.mk hi
  have HR := Aside0.mk (And.intro hr1 hr4)
  have HW := Aside0.mk hs
  obtain ⟨hB, hA⟩ := begun h 0 s b r
  obtain ⟨W1, hW1⟩ : ∃ W1, three w 0 s b r = W1 := ⟨_, rfl⟩
  rw [hW1] at hB hA
  unfold three at hW1
  have a0 : W1.cell? ⟨w.heap.size, 0, none⟩ = some (.int .i64 0) := blk_cell hA 0
  have a1 : W1.cell? ⟨w.heap.size, 1, none⟩ = some (.int .i64 s) := blk_cell hA 1
  have a2 : W1.cell? ⟨w.heap.size, 2, none⟩ = some (.int .i64 b) := blk_cell hA 2
  have a3 : W1.cell? ⟨w.heap.size, 3, none⟩ = some (.string r) := blk_cell hA 3
  have BG := Aside0.mk hB
  clear h hn hi hr1 hr4 hs hB hA
  go_enter Try.func9, Try.ntmps9
  go_wp2_with (go_at_call 15; fail)
  refine ((callsIn_wide (n := 9)).1 (subscribe_in base p mb n W1 room G s BG.out.feed HW.out (by have := HN.out; omega))).mono ?_
  rintro e w2 (⟨hc, rfl, hF, hb, hst⟩ | ⟨hc, rfl, hb, b2, hF, hst⟩)
  · have SS := Aside0.mk hst
    have FF := Aside0.mk hF
    have BB := Aside0.mk hb
    clear hF hb hst hc
    have hbh := BG.out.behind HH.out SS.out
    have PP := Aside0.mk ((hbh (w.heap.size + 1) (by omega) (by omega)).trans BG.out.res)
    have QQ := Aside0.mk ((hbh (w.heap.size + 1 + 1) (by omega) (by omega)).trans BG.out.tmp)
    clear hbh
    have pc0 : w2.cell? ⟨w.heap.size + 1, 0, none⟩ = some (.bool false) := blk_cell PP.out 0
    have pf0 : w2.frozen? ⟨w.heap.size + 1, 0, none⟩ = false := blk_frozen PP.out 0
    have pc1 : w2.cell? ⟨w.heap.size + 1, 1, none⟩ = some (.int .i64 0) := blk_cell PP.out 1
    have pf1 : w2.frozen? ⟨w.heap.size + 1, 1, none⟩ = false := blk_frozen PP.out 1
    have pc2 : w2.cell? ⟨w.heap.size + 1, 2, none⟩ = some (.slice none 0 0) := blk_cell PP.out 2
    have pf2 : w2.frozen? ⟨w.heap.size + 1, 2, none⟩ = false := blk_frozen PP.out 2
    have pc3 : w2.cell? ⟨w.heap.size + 1, 3, none⟩ = some (.int .i64 0) := blk_cell PP.out 3
    have pf3 : w2.frozen? ⟨w.heap.size + 1, 3, none⟩ = false := blk_frozen PP.out 3
    have pc4 : w2.cell? ⟨w.heap.size + 1, 4, none⟩ = some (.int .i64 0) := blk_cell PP.out 4
    have pf4 : w2.frozen? ⟨w.heap.size + 1, 4, none⟩ = false := blk_frozen PP.out 4
    have pc5 : w2.cell? ⟨w.heap.size + 1, 5, none⟩ = some (.int .i64 0) := blk_cell PP.out 5
    have pf5 : w2.frozen? ⟨w.heap.size + 1, 5, none⟩ = false := blk_frozen PP.out 5
    have pc6 : w2.cell? ⟨w.heap.size + 1, 6, none⟩ = some (.string ⟨#[]⟩) := blk_cell PP.out 6
    have pf6 : w2.frozen? ⟨w.heap.size + 1, 6, none⟩ = false := blk_frozen PP.out 6
    have pc7 : w2.cell? ⟨w.heap.size + 1, 7, none⟩ = some (.slice none 0 0) := blk_cell PP.out 7
    have pf7 : w2.frozen? ⟨w.heap.size + 1, 7, none⟩ = false := blk_frozen PP.out 7
    have qc0 : w2.cell? ⟨w.heap.size + 1 + 1, 0, none⟩ = some (.bool false) := blk_cell QQ.out 0
    have qf0 : w2.frozen? ⟨w.heap.size + 1 + 1, 0, none⟩ = false := blk_frozen QQ.out 0
    have qc1 : w2.cell? ⟨w.heap.size + 1 + 1, 1, none⟩ = some (.int .i64 0) := blk_cell QQ.out 1
    have qf1 : w2.frozen? ⟨w.heap.size + 1 + 1, 1, none⟩ = false := blk_frozen QQ.out 1
    have qc2 : w2.cell? ⟨w.heap.size + 1 + 1, 2, none⟩ = some (.slice none 0 0) := blk_cell QQ.out 2
    have qf2 : w2.frozen? ⟨w.heap.size + 1 + 1, 2, none⟩ = false := blk_frozen QQ.out 2
    have qc3 : w2.cell? ⟨w.heap.size + 1 + 1, 3, none⟩ = some (.int .i64 0) := blk_cell QQ.out 3
    have qf3 : w2.frozen? ⟨w.heap.size + 1 + 1, 3, none⟩ = false := blk_frozen QQ.out 3
    have qc4 : w2.cell? ⟨w.heap.size + 1 + 1, 4, none⟩ = some (.int .i64 0) := blk_cell QQ.out 4
    have qf4 : w2.frozen? ⟨w.heap.size + 1 + 1, 4, none⟩ = false := blk_frozen QQ.out 4
    have qc5 : w2.cell? ⟨w.heap.size + 1 + 1, 5, none⟩ = some (.int .i64 0) := blk_cell QQ.out 5
    have qf5 : w2.frozen? ⟨w.heap.size + 1 + 1, 5, none⟩ = false := blk_frozen QQ.out 5
    have qc6 : w2.cell? ⟨w.heap.size + 1 + 1, 6, none⟩ = some (.string ⟨#[]⟩) := blk_cell QQ.out 6
    have qf6 : w2.frozen? ⟨w.heap.size + 1 + 1, 6, none⟩ = false := blk_frozen QQ.out 6
    have qc7 : w2.cell? ⟨w.heap.size + 1 + 1, 7, none⟩ = some (.slice none 0 0) := blk_cell QQ.out 7
    have qf7 : w2.frozen? ⟨w.heap.size + 1 + 1, 7, none⟩ = false := blk_frozen QQ.out 7
    go_wp2
    have hso := HS.out
    refine bodyPost_ret (results_cell_row rfl _ _ (w.heap.size + 1) 33 _ (0, 0) _ rfl (eight ((Below.heap_setCell _ _ _ _ (by show w.heap.size + 1 ≠ w.heap.size + 1 + 1; omega)).trans PP.out) _ _ _ _ _ _ _ _) Try.underlying33 rfl sizeTold) rfl ?_
    obtain ⟨hb9, hF9⟩ := BG.out.fin HH.out SS.out FF.out BB.out (fun j h1 h2 => ((Below.heap_setCell _ _ _ j h1).trans ((Below.heap_setCell _ _ _ j h1).trans ((Below.heap_setCell _ _ _ j h1).trans ((Below.heap_setCell _ _ _ j h1).trans ((Below.heap_setCell _ _ _ j h1).trans ((Below.heap_setCell _ _ _ j h1).trans ((Below.heap_setCell _ _ _ j h1).trans ((Below.heap_setCell _ _ _ j h1).trans (Below.heap_setCell _ _ _ j h2)))))))))) (((((((((((Below.refl base _).setCell (p := ⟨w.heap.size + 1 + 1, _, none⟩) (by show base ≤ w.heap.size + 1 + 1; omega) _).setCell (p := ⟨w.heap.size + 1, _, none⟩) (by show base ≤ w.heap.size + 1; omega) _).setCell (p := ⟨w.heap.size + 1, _, none⟩) (by show base ≤ w.heap.size + 1; omega) _).setCell (p := ⟨w.heap.size + 1, _, none⟩) (by show base ≤ w.heap.size + 1; omega) _).setCell (p := ⟨w.heap.size + 1, _, none⟩) (by show base ≤ w.heap.size + 1; omega) _).setCell (p := ⟨w.heap.size + 1, _, none⟩) (by show base ≤ w.heap.size + 1; omega) _).setCell (p := ⟨w.heap.size + 1, _, none⟩) (by show base ≤ w.heap.size + 1; omega) _).setCell (p := ⟨w.heap.size + 1, _, none⟩) (by show base ≤ w.heap.size + 1; omega) _).setCell (p := ⟨w.heap.size + 1, _, none⟩) (by show base ≤ w.heap.size + 1; omega) _))
    exact ⟨⟨_, rfl⟩, hb9, _, hF9.mono (by omega), .subNo rfl⟩
  · have SS := Aside0.mk hst
    have FF := Aside0.mk hF
    have BB := Aside0.mk hb
    have CC := Aside0.mk hc
    clear hF hb hst hc
    have hbh := BG.out.behind HH.out SS.out
    have PP := Aside0.mk ((hbh (w.heap.size + 1) (by omega) (by omega)).trans BG.out.res)
    have QQ := Aside0.mk ((hbh (w.heap.size + 1 + 1) (by omega) (by omega)).trans BG.out.tmp)
    clear hbh
    have pc0 : w2.cell? ⟨w.heap.size + 1, 0, none⟩ = some (.bool false) := blk_cell PP.out 0
    have pf0 : w2.frozen? ⟨w.heap.size + 1, 0, none⟩ = false := blk_frozen PP.out 0
    have pc1 : w2.cell? ⟨w.heap.size + 1, 1, none⟩ = some (.int .i64 0) := blk_cell PP.out 1
    have pf1 : w2.frozen? ⟨w.heap.size + 1, 1, none⟩ = false := blk_frozen PP.out 1
    have pc2 : w2.cell? ⟨w.heap.size + 1, 2, none⟩ = some (.slice none 0 0) := blk_cell PP.out 2
    have pf2 : w2.frozen? ⟨w.heap.size + 1, 2, none⟩ = false := blk_frozen PP.out 2
    have pc3 : w2.cell? ⟨w.heap.size + 1, 3, none⟩ = some (.int .i64 0) := blk_cell PP.out 3
    have pf3 : w2.frozen? ⟨w.heap.size + 1, 3, none⟩ = false := blk_frozen PP.out 3
    have pc4 : w2.cell? ⟨w.heap.size + 1, 4, none⟩ = some (.int .i64 0) := blk_cell PP.out 4
    have pf4 : w2.frozen? ⟨w.heap.size + 1, 4, none⟩ = false := blk_frozen PP.out 4
    have pc5 : w2.cell? ⟨w.heap.size + 1, 5, none⟩ = some (.int .i64 0) := blk_cell PP.out 5
    have pf5 : w2.frozen? ⟨w.heap.size + 1, 5, none⟩ = false := blk_frozen PP.out 5
    have pc6 : w2.cell? ⟨w.heap.size + 1, 6, none⟩ = some (.string ⟨#[]⟩) := blk_cell PP.out 6
    have pf6 : w2.frozen? ⟨w.heap.size + 1, 6, none⟩ = false := blk_frozen PP.out 6
    have pc7 : w2.cell? ⟨w.heap.size + 1, 7, none⟩ = some (.slice none 0 0) := blk_cell PP.out 7
    have pf7 : w2.frozen? ⟨w.heap.size + 1, 7, none⟩ = false := blk_frozen PP.out 7
    have qc0 : w2.cell? ⟨w.heap.size + 1 + 1, 0, none⟩ = some (.bool false) := blk_cell QQ.out 0
    have qf0 : w2.frozen? ⟨w.heap.size + 1 + 1, 0, none⟩ = false := blk_frozen QQ.out 0
    have qc1 : w2.cell? ⟨w.heap.size + 1 + 1, 1, none⟩ = some (.int .i64 0) := blk_cell QQ.out 1
    have qf1 : w2.frozen? ⟨w.heap.size + 1 + 1, 1, none⟩ = false := blk_frozen QQ.out 1
    have qc2 : w2.cell? ⟨w.heap.size + 1 + 1, 2, none⟩ = some (.slice none 0 0) := blk_cell QQ.out 2
    have qf2 : w2.frozen? ⟨w.heap.size + 1 + 1, 2, none⟩ = false := blk_frozen QQ.out 2
    have qc3 : w2.cell? ⟨w.heap.size + 1 + 1, 3, none⟩ = some (.int .i64 0) := blk_cell QQ.out 3
    have qf3 : w2.frozen? ⟨w.heap.size + 1 + 1, 3, none⟩ = false := blk_frozen QQ.out 3
    have qc4 : w2.cell? ⟨w.heap.size + 1 + 1, 4, none⟩ = some (.int .i64 0) := blk_cell QQ.out 4
    have qf4 : w2.frozen? ⟨w.heap.size + 1 + 1, 4, none⟩ = false := blk_frozen QQ.out 4
    have qc5 : w2.cell? ⟨w.heap.size + 1 + 1, 5, none⟩ = some (.int .i64 0) := blk_cell QQ.out 5
    have qf5 : w2.frozen? ⟨w.heap.size + 1 + 1, 5, none⟩ = false := blk_frozen QQ.out 5
    have qc6 : w2.cell? ⟨w.heap.size + 1 + 1, 6, none⟩ = some (.string ⟨#[]⟩) := blk_cell QQ.out 6
    have qf6 : w2.frozen? ⟨w.heap.size + 1 + 1, 6, none⟩ = false := blk_frozen QQ.out 6
    have qc7 : w2.cell? ⟨w.heap.size + 1 + 1, 7, none⟩ = some (.slice none 0 0) := blk_cell QQ.out 7
    have qf7 : w2.frozen? ⟨w.heap.size + 1 + 1, 7, none⟩ = false := blk_frozen QQ.out 7
    go_wp2
    have hso := HS.out
    refine bodyPost_ret (results_cell_row rfl _ _ (w.heap.size + 1) 33 _ (0, 0) _ rfl (eight ((Below.heap_setCell _ _ _ _ (by show w.heap.size + 1 ≠ w.heap.size + 1 + 1; omega)).trans PP.out) _ _ _ _ _ _ _ _) Try.underlying33 rfl sizeTold) rfl ?_
    obtain ⟨hb9, hF9⟩ := BG.out.fin HH.out SS.out FF.out BB.out (fun j h1 h2 => ((Below.heap_setCell _ _ _ j h1).trans ((Below.heap_setCell _ _ _ j h1).trans ((Below.heap_setCell _ _ _ j h1).trans ((Below.heap_setCell _ _ _ j h1).trans ((Below.heap_setCell _ _ _ j h1).trans ((Below.heap_setCell _ _ _ j h1).trans ((Below.heap_setCell _ _ _ j h1).trans ((Below.heap_setCell _ _ _ j h1).trans (Below.heap_setCell _ _ _ j h2)))))))))) (((((((((((Below.refl base _).setCell (p := ⟨w.heap.size + 1 + 1, _, none⟩) (by show base ≤ w.heap.size + 1 + 1; omega) _).setCell (p := ⟨w.heap.size + 1, _, none⟩) (by show base ≤ w.heap.size + 1; omega) _).setCell (p := ⟨w.heap.size + 1, _, none⟩) (by show base ≤ w.heap.size + 1; omega) _).setCell (p := ⟨w.heap.size + 1, _, none⟩) (by show base ≤ w.heap.size + 1; omega) _).setCell (p := ⟨w.heap.size + 1, _, none⟩) (by show base ≤ w.heap.size + 1; omega) _).setCell (p := ⟨w.heap.size + 1, _, none⟩) (by show base ≤ w.heap.size + 1; omega) _).setCell (p := ⟨w.heap.size + 1, _, none⟩) (by show base ≤ w.heap.size + 1; omega) _).setCell (p := ⟨w.heap.size + 1, _, none⟩) (by show base ≤ w.heap.size + 1; omega) _).setCell (p := ⟨w.heap.size + 1, _, none⟩) (by show base ≤ w.heap.size + 1; omega) _))
    exact ⟨⟨_, rfl⟩, hb9, _, hF9.mono (by omega), .subYes b2 rfl CC.out⟩
set_option maxRecDepth 100000 in
set_option maxHeartbeats 2000000 in
theorem do_unsub (base p mb n : Nat) (w : World) (room : Int) (G : List Row) (s b : Int) (r : ByteArray) (h : FeedAt base w p room mb n G) (hn : n < 900000) (hs : wfI s) (hr1 : 1 ≤ room) (hr4 : room ≤ 4) (hi : Inv room G) :
    Calls Try.prog 9 #[.pointer (some ⟨p, 0, none⟩), .agg #[.int .i64 1, .int .i64 s, .int .i64 b, .string r]] w (DoPost base p mb n room G 1 s w) := by
  have HS := Aside0.mk h.size
  have HH := Aside0.mk h
  have HN := Aside0.mk hn
  have HI := Aside0.mk hi
  have HR := Aside0.mk (And.intro hr1 hr4)
  have HW := Aside0.mk hs
  obtain ⟨hB, hA⟩ := begun h 1 s b r
  obtain ⟨W1, hW1⟩ : ∃ W1, three w 1 s b r = W1 := ⟨_, rfl⟩
  rw [hW1] at hB hA
  unfold three at hW1
  have a0 : W1.cell? ⟨w.heap.size, 0, none⟩ = some (.int .i64 1) := blk_cell hA 0
  have a1 : W1.cell? ⟨w.heap.size, 1, none⟩ = some (.int .i64 s) := blk_cell hA 1
  have a2 : W1.cell? ⟨w.heap.size, 2, none⟩ = some (.int .i64 b) := blk_cell hA 2
  have a3 : W1.cell? ⟨w.heap.size, 3, none⟩ = some (.string r) := blk_cell hA 3
  have BG := Aside0.mk hB
  clear h hn hi hr1 hr4 hs hB hA
  go_enter Try.func9, Try.ntmps9
  go_wp2_with (go_at_call 17; fail)
  refine (unsub_calls base p mb n W1 room G s BG.out.feed HW.out (by have := HN.out; omega)).mono ?_
  rintro e w2 ⟨rfl, hF, hb, hst⟩
  have SS := Aside0.mk hst
  have FF := Aside0.mk hF
  have BB := Aside0.mk hb
  clear hF hb hst
  have hbh := BG.out.behind HH.out SS.out
  have PP := Aside0.mk ((hbh (w.heap.size + 1) (by omega) (by omega)).trans BG.out.res)
  have QQ := Aside0.mk ((hbh (w.heap.size + 1 + 1) (by omega) (by omega)).trans BG.out.tmp)
  clear hbh
  have pc0 : w2.cell? ⟨w.heap.size + 1, 0, none⟩ = some (.bool false) := blk_cell PP.out 0
  have pf0 : w2.frozen? ⟨w.heap.size + 1, 0, none⟩ = false := blk_frozen PP.out 0
  have pc1 : w2.cell? ⟨w.heap.size + 1, 1, none⟩ = some (.int .i64 0) := blk_cell PP.out 1
  have pf1 : w2.frozen? ⟨w.heap.size + 1, 1, none⟩ = false := blk_frozen PP.out 1
  have pc2 : w2.cell? ⟨w.heap.size + 1, 2, none⟩ = some (.slice none 0 0) := blk_cell PP.out 2
  have pf2 : w2.frozen? ⟨w.heap.size + 1, 2, none⟩ = false := blk_frozen PP.out 2
  have pc3 : w2.cell? ⟨w.heap.size + 1, 3, none⟩ = some (.int .i64 0) := blk_cell PP.out 3
  have pf3 : w2.frozen? ⟨w.heap.size + 1, 3, none⟩ = false := blk_frozen PP.out 3
  have pc4 : w2.cell? ⟨w.heap.size + 1, 4, none⟩ = some (.int .i64 0) := blk_cell PP.out 4
  have pf4 : w2.frozen? ⟨w.heap.size + 1, 4, none⟩ = false := blk_frozen PP.out 4
  have pc5 : w2.cell? ⟨w.heap.size + 1, 5, none⟩ = some (.int .i64 0) := blk_cell PP.out 5
  have pf5 : w2.frozen? ⟨w.heap.size + 1, 5, none⟩ = false := blk_frozen PP.out 5
  have pc6 : w2.cell? ⟨w.heap.size + 1, 6, none⟩ = some (.string ⟨#[]⟩) := blk_cell PP.out 6
  have pf6 : w2.frozen? ⟨w.heap.size + 1, 6, none⟩ = false := blk_frozen PP.out 6
  have pc7 : w2.cell? ⟨w.heap.size + 1, 7, none⟩ = some (.slice none 0 0) := blk_cell PP.out 7
  have pf7 : w2.frozen? ⟨w.heap.size + 1, 7, none⟩ = false := blk_frozen PP.out 7
  have qc0 : w2.cell? ⟨w.heap.size + 1 + 1, 0, none⟩ = some (.bool false) := blk_cell QQ.out 0
  have qf0 : w2.frozen? ⟨w.heap.size + 1 + 1, 0, none⟩ = false := blk_frozen QQ.out 0
  have qc1 : w2.cell? ⟨w.heap.size + 1 + 1, 1, none⟩ = some (.int .i64 0) := blk_cell QQ.out 1
  have qf1 : w2.frozen? ⟨w.heap.size + 1 + 1, 1, none⟩ = false := blk_frozen QQ.out 1
  have qc2 : w2.cell? ⟨w.heap.size + 1 + 1, 2, none⟩ = some (.slice none 0 0) := blk_cell QQ.out 2
  have qf2 : w2.frozen? ⟨w.heap.size + 1 + 1, 2, none⟩ = false := blk_frozen QQ.out 2
  have qc3 : w2.cell? ⟨w.heap.size + 1 + 1, 3, none⟩ = some (.int .i64 0) := blk_cell QQ.out 3
  have qf3 : w2.frozen? ⟨w.heap.size + 1 + 1, 3, none⟩ = false := blk_frozen QQ.out 3
  have qc4 : w2.cell? ⟨w.heap.size + 1 + 1, 4, none⟩ = some (.int .i64 0) := blk_cell QQ.out 4
  have qf4 : w2.frozen? ⟨w.heap.size + 1 + 1, 4, none⟩ = false := blk_frozen QQ.out 4
  have qc5 : w2.cell? ⟨w.heap.size + 1 + 1, 5, none⟩ = some (.int .i64 0) := blk_cell QQ.out 5
  have qf5 : w2.frozen? ⟨w.heap.size + 1 + 1, 5, none⟩ = false := blk_frozen QQ.out 5
  have qc6 : w2.cell? ⟨w.heap.size + 1 + 1, 6, none⟩ = some (.string ⟨#[]⟩) := blk_cell QQ.out 6
  have qf6 : w2.frozen? ⟨w.heap.size + 1 + 1, 6, none⟩ = false := blk_frozen QQ.out 6
  have qc7 : w2.cell? ⟨w.heap.size + 1 + 1, 7, none⟩ = some (.slice none 0 0) := blk_cell QQ.out 7
  have qf7 : w2.frozen? ⟨w.heap.size + 1 + 1, 7, none⟩ = false := blk_frozen QQ.out 7
  go_wp2
  have hso := HS.out
  refine bodyPost_ret (results_cell_row rfl _ _ (w.heap.size + 1) 33 _ (0, 0) _ rfl (eight ((Below.heap_setCell _ _ _ _ (by show w.heap.size + 1 ≠ w.heap.size + 1 + 1; omega)).trans PP.out) _ _ _ _ _ _ _ _) Try.underlying33 rfl sizeTold) rfl ?_
  obtain ⟨hb9, hF9⟩ := BG.out.fin HH.out SS.out FF.out BB.out (fun j h1 h2 => ((Below.heap_setCell _ _ _ j h1).trans ((Below.heap_setCell _ _ _ j h1).trans ((Below.heap_setCell _ _ _ j h1).trans ((Below.heap_setCell _ _ _ j h1).trans ((Below.heap_setCell _ _ _ j h1).trans ((Below.heap_setCell _ _ _ j h1).trans ((Below.heap_setCell _ _ _ j h1).trans ((Below.heap_setCell _ _ _ j h1).trans (Below.heap_setCell _ _ _ j h2)))))))))) (((((((((((Below.refl base _).setCell (p := ⟨w.heap.size + 1 + 1, _, none⟩) (by show base ≤ w.heap.size + 1 + 1; omega) _).setCell (p := ⟨w.heap.size + 1, _, none⟩) (by show base ≤ w.heap.size + 1; omega) _).setCell (p := ⟨w.heap.size + 1, _, none⟩) (by show base ≤ w.heap.size + 1; omega) _).setCell (p := ⟨w.heap.size + 1, _, none⟩) (by show base ≤ w.heap.size + 1; omega) _).setCell (p := ⟨w.heap.size + 1, _, none⟩) (by show base ≤ w.heap.size + 1; omega) _).setCell (p := ⟨w.heap.size + 1, _, none⟩) (by show base ≤ w.heap.size + 1; omega) _).setCell (p := ⟨w.heap.size + 1, _, none⟩) (by show base ≤ w.heap.size + 1; omega) _).setCell (p := ⟨w.heap.size + 1, _, none⟩) (by show base ≤ w.heap.size + 1; omega) _).setCell (p := ⟨w.heap.size + 1, _, none⟩) (by show base ≤ w.heap.size + 1; omega) _))
  exact ⟨⟨_, rfl⟩, hb9, _, hF9.mono (by omega), .unsub _ rfl⟩
set_option maxRecDepth 100000 in
set_option maxHeartbeats 2000000 in
theorem do_push (base p mb n : Nat) (w : World) (room : Int) (G : List Row) (s b : Int) (r : ByteArray) (h : FeedAt base w p room mb n G) (hn : n < 900000) (hs : wfI s) (hr1 : 1 ≤ room) (hr4 : room ≤ 4) (hi : Inv room G) :
    Calls Try.prog 9 #[.pointer (some ⟨p, 0, none⟩), .agg #[.int .i64 2, .int .i64 s, .int .i64 b, .string r]] w (DoPost base p mb n room G 2 s w) := by
  have HS := Aside0.mk h.size
  have HH := Aside0.mk h
  have HN := Aside0.mk hn
  have HI := Aside0.mk hi
  have HR := Aside0.mk (And.intro hr1 hr4)
  have HW := Aside0.mk hs
  obtain ⟨hB, hA⟩ := begun h 2 s b r
  obtain ⟨W1, hW1⟩ : ∃ W1, three w 2 s b r = W1 := ⟨_, rfl⟩
  rw [hW1] at hB hA
  unfold three at hW1
  have a0 : W1.cell? ⟨w.heap.size, 0, none⟩ = some (.int .i64 2) := blk_cell hA 0
  have a1 : W1.cell? ⟨w.heap.size, 1, none⟩ = some (.int .i64 s) := blk_cell hA 1
  have a2 : W1.cell? ⟨w.heap.size, 2, none⟩ = some (.int .i64 b) := blk_cell hA 2
  have a3 : W1.cell? ⟨w.heap.size, 3, none⟩ = some (.string r) := blk_cell hA 3
  have BG := Aside0.mk hB
  clear h hn hi hr1 hr4 hs hB hA
  go_enter Try.func9, Try.ntmps9
  have hno := notice_calls W1 ⟨2, s, b, r⟩
  unfold actV at hno
  have NO := Aside0.mk hno
  clear hno
  go_wp2_with (go_at_call 18; fail)
  refine NO.out.mono ?_
  rintro e w2 ⟨x, rfl, hbn⟩
  have hpu := (callsIn_wide (n := 9)).1 (push_in base p mb n w2 room G x (BG.out.feed.later hbn) (by have := HN.out; omega) HR.out.1 HR.out.2 (fun q hq => by have := HI.out.q q hq; have := HR.out.2; omega))
  simp only [Note.cells] at hpu
  have PU := Aside0.mk hpu
  have NB := Aside0.mk hbn
  clear hpu hbn
  go_wp2_with (go_at_call 16; fail)
  refine PU.out.mono ?_
  rintro e w3 ⟨v3, G2, rfl, hAP, hF, hb, hrow, hst⟩
  obtain ⟨A3, c3, rfl, hc3⟩ := q_slice (q_of_own hrow)
  have SS := Aside0.mk ((Step.below NB.out).trans hst)
  have FF := Aside0.mk hF
  have BB := Aside0.mk ((NB.out.mono (by rw [BG.out.size]; have := HS.out; omega)).trans hb)
  have CC := Aside0.mk hAP
  clear hF hb hst hAP hrow hc3
  have hbh := BG.out.behind HH.out SS.out
  have PP := Aside0.mk ((hbh (w.heap.size + 1) (by omega) (by omega)).trans BG.out.res)
  have QQ := Aside0.mk ((hbh (w.heap.size + 1 + 1) (by omega) (by omega)).trans BG.out.tmp)
  clear hbh
  have pc0 : w3.cell? ⟨w.heap.size + 1, 0, none⟩ = some (.bool false) := blk_cell PP.out 0
  have pf0 : w3.frozen? ⟨w.heap.size + 1, 0, none⟩ = false := blk_frozen PP.out 0
  have pc1 : w3.cell? ⟨w.heap.size + 1, 1, none⟩ = some (.int .i64 0) := blk_cell PP.out 1
  have pf1 : w3.frozen? ⟨w.heap.size + 1, 1, none⟩ = false := blk_frozen PP.out 1
  have pc2 : w3.cell? ⟨w.heap.size + 1, 2, none⟩ = some (.slice none 0 0) := blk_cell PP.out 2
  have pf2 : w3.frozen? ⟨w.heap.size + 1, 2, none⟩ = false := blk_frozen PP.out 2
  have pc3 : w3.cell? ⟨w.heap.size + 1, 3, none⟩ = some (.int .i64 0) := blk_cell PP.out 3
  have pf3 : w3.frozen? ⟨w.heap.size + 1, 3, none⟩ = false := blk_frozen PP.out 3
  have pc4 : w3.cell? ⟨w.heap.size + 1, 4, none⟩ = some (.int .i64 0) := blk_cell PP.out 4
  have pf4 : w3.frozen? ⟨w.heap.size + 1, 4, none⟩ = false := blk_frozen PP.out 4
  have pc5 : w3.cell? ⟨w.heap.size + 1, 5, none⟩ = some (.int .i64 0) := blk_cell PP.out 5
  have pf5 : w3.frozen? ⟨w.heap.size + 1, 5, none⟩ = false := blk_frozen PP.out 5
  have pc6 : w3.cell? ⟨w.heap.size + 1, 6, none⟩ = some (.string ⟨#[]⟩) := blk_cell PP.out 6
  have pf6 : w3.frozen? ⟨w.heap.size + 1, 6, none⟩ = false := blk_frozen PP.out 6
  have pc7 : w3.cell? ⟨w.heap.size + 1, 7, none⟩ = some (.slice none 0 0) := blk_cell PP.out 7
  have pf7 : w3.frozen? ⟨w.heap.size + 1, 7, none⟩ = false := blk_frozen PP.out 7
  have qc0 : w3.cell? ⟨w.heap.size + 1 + 1, 0, none⟩ = some (.bool false) := blk_cell QQ.out 0
  have qf0 : w3.frozen? ⟨w.heap.size + 1 + 1, 0, none⟩ = false := blk_frozen QQ.out 0
  have qc1 : w3.cell? ⟨w.heap.size + 1 + 1, 1, none⟩ = some (.int .i64 0) := blk_cell QQ.out 1
  have qf1 : w3.frozen? ⟨w.heap.size + 1 + 1, 1, none⟩ = false := blk_frozen QQ.out 1
  have qc2 : w3.cell? ⟨w.heap.size + 1 + 1, 2, none⟩ = some (.slice none 0 0) := blk_cell QQ.out 2
  have qf2 : w3.frozen? ⟨w.heap.size + 1 + 1, 2, none⟩ = false := blk_frozen QQ.out 2
  have qc3 : w3.cell? ⟨w.heap.size + 1 + 1, 3, none⟩ = some (.int .i64 0) := blk_cell QQ.out 3
  have qf3 : w3.frozen? ⟨w.heap.size + 1 + 1, 3, none⟩ = false := blk_frozen QQ.out 3
  have qc4 : w3.cell? ⟨w.heap.size + 1 + 1, 4, none⟩ = some (.int .i64 0) := blk_cell QQ.out 4
  have qf4 : w3.frozen? ⟨w.heap.size + 1 + 1, 4, none⟩ = false := blk_frozen QQ.out 4
  have qc5 : w3.cell? ⟨w.heap.size + 1 + 1, 5, none⟩ = some (.int .i64 0) := blk_cell QQ.out 5
  have qf5 : w3.frozen? ⟨w.heap.size + 1 + 1, 5, none⟩ = false := blk_frozen QQ.out 5
  have qc6 : w3.cell? ⟨w.heap.size + 1 + 1, 6, none⟩ = some (.string ⟨#[]⟩) := blk_cell QQ.out 6
  have qf6 : w3.frozen? ⟨w.heap.size + 1 + 1, 6, none⟩ = false := blk_frozen QQ.out 6
  have qc7 : w3.cell? ⟨w.heap.size + 1 + 1, 7, none⟩ = some (.slice none 0 0) := blk_cell QQ.out 7
  have qf7 : w3.frozen? ⟨w.heap.size + 1 + 1, 7, none⟩ = false := blk_frozen QQ.out 7
  go_wp2
  have hso := HS.out
  refine bodyPost_ret (results_cell_row rfl _ _ (w.heap.size + 1) 33 _ (0, 0) _ rfl (eight ((Below.heap_setCell _ _ _ _ (by show w.heap.size + 1 ≠ w.heap.size + 1 + 1; omega)).trans PP.out) _ _ _ _ _ _ _ _) Try.underlying33 rfl sizeTold) rfl ?_
  obtain ⟨hb9, hF9⟩ := BG.out.fin HH.out SS.out FF.out BB.out (fun j h1 h2 => ((Below.heap_setCell _ _ _ j h1).trans ((Below.heap_setCell _ _ _ j h1).trans ((Below.heap_setCell _ _ _ j h1).trans ((Below.heap_setCell _ _ _ j h1).trans ((Below.heap_setCell _ _ _ j h1).trans ((Below.heap_setCell _ _ _ j h1).trans ((Below.heap_setCell _ _ _ j h1).trans ((Below.heap_setCell _ _ _ j h1).trans (Below.heap_setCell _ _ _ j h2)))))))))) (((((((((((Below.refl base _).setCell (p := ⟨w.heap.size + 1 + 1, _, none⟩) (by show base ≤ w.heap.size + 1 + 1; omega) _).setCell (p := ⟨w.heap.size + 1, _, none⟩) (by show base ≤ w.heap.size + 1; omega) _).setCell (p := ⟨w.heap.size + 1, _, none⟩) (by show base ≤ w.heap.size + 1; omega) _).setCell (p := ⟨w.heap.size + 1, _, none⟩) (by show base ≤ w.heap.size + 1; omega) _).setCell (p := ⟨w.heap.size + 1, _, none⟩) (by show base ≤ w.heap.size + 1; omega) _).setCell (p := ⟨w.heap.size + 1, _, none⟩) (by show base ≤ w.heap.size + 1; omega) _).setCell (p := ⟨w.heap.size + 1, _, none⟩) (by show base ≤ w.heap.size + 1; omega) _).setCell (p := ⟨w.heap.size + 1, _, none⟩) (by show base ≤ w.heap.size + 1; omega) _).setCell (p := ⟨w.heap.size + 1, _, none⟩) (by show base ≤ w.heap.size + 1; omega) _))
  exact ⟨⟨_, rfl⟩, hb9, _, hF9.mono (by omega), .push x G2 rfl CC.out⟩
set_option maxRecDepth 100000 in
set_option maxHeartbeats 2000000 in
theorem do_pop (base p mb n : Nat) (w : World) (room : Int) (G : List Row) (s b : Int) (r : ByteArray) (h : FeedAt base w p room mb n G) (hn : n < 900000) (hs : wfI s) (hr1 : 1 ≤ room) (hr4 : room ≤ 4) (hi : Inv room G) :
    Calls Try.prog 9 #[.pointer (some ⟨p, 0, none⟩), .agg #[.int .i64 3, .int .i64 s, .int .i64 b, .string r]] w (DoPost base p mb n room G 3 s w) := by
  have HS := Aside0.mk h.size
  have HH := Aside0.mk h
  have HN := Aside0.mk hn
  have HI := Aside0.mk hi
  have HR := Aside0.mk (And.intro hr1 hr4)
  have HW := Aside0.mk hs
  obtain ⟨hB, hA⟩ := begun h 3 s b r
  obtain ⟨W1, hW1⟩ : ∃ W1, three w 3 s b r = W1 := ⟨_, rfl⟩
  rw [hW1] at hB hA
  unfold three at hW1
  have a0 : W1.cell? ⟨w.heap.size, 0, none⟩ = some (.int .i64 3) := blk_cell hA 0
  have a1 : W1.cell? ⟨w.heap.size, 1, none⟩ = some (.int .i64 s) := blk_cell hA 1
  have a2 : W1.cell? ⟨w.heap.size, 2, none⟩ = some (.int .i64 b) := blk_cell hA 2
  have a3 : W1.cell? ⟨w.heap.size, 3, none⟩ = some (.string r) := blk_cell hA 3
  have BG := Aside0.mk hB
  clear h hn hi hr1 hr4 hs hB hA
  go_enter Try.func9, Try.ntmps9
  go_wp2_with (go_at_call 14; fail)
  refine (pop_calls base p mb n W1 room G s BG.out.feed HW.out).mono ?_
  rintro e w2 (⟨hc, rfl, hF, hb, hst⟩ | ⟨r2, v2, x2, hl, hx, rfl, hF, hb, hst⟩)
  · have SS := Aside0.mk hst
    have FF := Aside0.mk hF
    have BB := Aside0.mk hb
    clear hF hb hst hc
    simp only [noNote, Note.cells]
    have hbh := BG.out.behind HH.out SS.out
    have PP := Aside0.mk ((hbh (w.heap.size + 1) (by omega) (by omega)).trans BG.out.res)
    have QQ := Aside0.mk ((hbh (w.heap.size + 1 + 1) (by omega) (by omega)).trans BG.out.tmp)
    clear hbh
    have pc0 : w2.cell? ⟨w.heap.size + 1, 0, none⟩ = some (.bool false) := blk_cell PP.out 0
    have pf0 : w2.frozen? ⟨w.heap.size + 1, 0, none⟩ = false := blk_frozen PP.out 0
    have pc1 : w2.cell? ⟨w.heap.size + 1, 1, none⟩ = some (.int .i64 0) := blk_cell PP.out 1
    have pf1 : w2.frozen? ⟨w.heap.size + 1, 1, none⟩ = false := blk_frozen PP.out 1
    have pc2 : w2.cell? ⟨w.heap.size + 1, 2, none⟩ = some (.slice none 0 0) := blk_cell PP.out 2
    have pf2 : w2.frozen? ⟨w.heap.size + 1, 2, none⟩ = false := blk_frozen PP.out 2
    have pc3 : w2.cell? ⟨w.heap.size + 1, 3, none⟩ = some (.int .i64 0) := blk_cell PP.out 3
    have pf3 : w2.frozen? ⟨w.heap.size + 1, 3, none⟩ = false := blk_frozen PP.out 3
    have pc4 : w2.cell? ⟨w.heap.size + 1, 4, none⟩ = some (.int .i64 0) := blk_cell PP.out 4
    have pf4 : w2.frozen? ⟨w.heap.size + 1, 4, none⟩ = false := blk_frozen PP.out 4
    have pc5 : w2.cell? ⟨w.heap.size + 1, 5, none⟩ = some (.int .i64 0) := blk_cell PP.out 5
    have pf5 : w2.frozen? ⟨w.heap.size + 1, 5, none⟩ = false := blk_frozen PP.out 5
    have pc6 : w2.cell? ⟨w.heap.size + 1, 6, none⟩ = some (.string ⟨#[]⟩) := blk_cell PP.out 6
    have pf6 : w2.frozen? ⟨w.heap.size + 1, 6, none⟩ = false := blk_frozen PP.out 6
    have pc7 : w2.cell? ⟨w.heap.size + 1, 7, none⟩ = some (.slice none 0 0) := blk_cell PP.out 7
    have pf7 : w2.frozen? ⟨w.heap.size + 1, 7, none⟩ = false := blk_frozen PP.out 7
    have qc0 : w2.cell? ⟨w.heap.size + 1 + 1, 0, none⟩ = some (.bool false) := blk_cell QQ.out 0
    have qf0 : w2.frozen? ⟨w.heap.size + 1 + 1, 0, none⟩ = false := blk_frozen QQ.out 0
    have qc1 : w2.cell? ⟨w.heap.size + 1 + 1, 1, none⟩ = some (.int .i64 0) := blk_cell QQ.out 1
    have qf1 : w2.frozen? ⟨w.heap.size + 1 + 1, 1, none⟩ = false := blk_frozen QQ.out 1
    have qc2 : w2.cell? ⟨w.heap.size + 1 + 1, 2, none⟩ = some (.slice none 0 0) := blk_cell QQ.out 2
    have qf2 : w2.frozen? ⟨w.heap.size + 1 + 1, 2, none⟩ = false := blk_frozen QQ.out 2
    have qc3 : w2.cell? ⟨w.heap.size + 1 + 1, 3, none⟩ = some (.int .i64 0) := blk_cell QQ.out 3
    have qf3 : w2.frozen? ⟨w.heap.size + 1 + 1, 3, none⟩ = false := blk_frozen QQ.out 3
    have qc4 : w2.cell? ⟨w.heap.size + 1 + 1, 4, none⟩ = some (.int .i64 0) := blk_cell QQ.out 4
    have qf4 : w2.frozen? ⟨w.heap.size + 1 + 1, 4, none⟩ = false := blk_frozen QQ.out 4
    have qc5 : w2.cell? ⟨w.heap.size + 1 + 1, 5, none⟩ = some (.int .i64 0) := blk_cell QQ.out 5
    have qf5 : w2.frozen? ⟨w.heap.size + 1 + 1, 5, none⟩ = false := blk_frozen QQ.out 5
    have qc6 : w2.cell? ⟨w.heap.size + 1 + 1, 6, none⟩ = some (.string ⟨#[]⟩) := blk_cell QQ.out 6
    have qf6 : w2.frozen? ⟨w.heap.size + 1 + 1, 6, none⟩ = false := blk_frozen QQ.out 6
    have qc7 : w2.cell? ⟨w.heap.size + 1 + 1, 7, none⟩ = some (.slice none 0 0) := blk_cell QQ.out 7
    have qf7 : w2.frozen? ⟨w.heap.size + 1 + 1, 7, none⟩ = false := blk_frozen QQ.out 7
    go_wp2
    have hso := HS.out
    refine bodyPost_ret (results_cell_row rfl _ _ (w.heap.size + 1) 33 _ (0, 0) _ rfl (eight (((((((Below.heap_setCell _ _ _ _ (by show w.heap.size + 1 ≠ w.heap.size + 1 + 1; omega)).trans (Below.heap_setCell _ _ _ _ (by show w.heap.size + 1 ≠ w.heap.size + 1 + 1; omega))).trans (Below.heap_setCell _ _ _ _ (by show w.heap.size + 1 ≠ w.heap.size + 1 + 1; omega))).trans (Below.heap_setCell _ _ _ _ (by show w.heap.size + 1 ≠ w.heap.size + 1 + 1; omega))).trans (Below.heap_setCell _ _ _ _ (by show w.heap.size + 1 ≠ w.heap.size + 1 + 1; omega))).trans (Below.heap_setCell _ _ _ _ (by show w.heap.size + 1 ≠ w.heap.size + 1 + 1; omega))).trans PP.out) _ _ _ _ _ _ _ _) Try.underlying33 rfl sizeTold) rfl ?_
    obtain ⟨hb9, hF9⟩ := BG.out.fin HH.out SS.out FF.out BB.out (fun j h1 h2 => ((Below.heap_setCell _ _ _ j h1).trans ((Below.heap_setCell _ _ _ j h1).trans ((Below.heap_setCell _ _ _ j h1).trans ((Below.heap_setCell _ _ _ j h1).trans ((Below.heap_setCell _ _ _ j h1).trans ((Below.heap_setCell _ _ _ j h1).trans ((Below.heap_setCell _ _ _ j h1).trans ((Below.heap_setCell _ _ _ j h1).trans ((Below.heap_setCell _ _ _ j h2).trans ((Below.heap_setCell _ _ _ j h2).trans ((Below.heap_setCell _ _ _ j h2).trans ((Below.heap_setCell _ _ _ j h2).trans ((Below.heap_setCell _ _ _ j h2).trans (Below.heap_setCell _ _ _ j h2))))))))))))))) ((((((((((((((((Below.refl base _).setCell (p := ⟨w.heap.size + 1 + 1, _, none⟩) (by show base ≤ w.heap.size + 1 + 1; omega) _).setCell (p := ⟨w.heap.size + 1 + 1, _, none⟩) (by show base ≤ w.heap.size + 1 + 1; omega) _).setCell (p := ⟨w.heap.size + 1 + 1, _, none⟩) (by show base ≤ w.heap.size + 1 + 1; omega) _).setCell (p := ⟨w.heap.size + 1 + 1, _, none⟩) (by show base ≤ w.heap.size + 1 + 1; omega) _).setCell (p := ⟨w.heap.size + 1 + 1, _, none⟩) (by show base ≤ w.heap.size + 1 + 1; omega) _).setCell (p := ⟨w.heap.size + 1 + 1, _, none⟩) (by show base ≤ w.heap.size + 1 + 1; omega) _).setCell (p := ⟨w.heap.size + 1, _, none⟩) (by show base ≤ w.heap.size + 1; omega) _).setCell (p := ⟨w.heap.size + 1, _, none⟩) (by show base ≤ w.heap.size + 1; omega) _).setCell (p := ⟨w.heap.size + 1, _, none⟩) (by show base ≤ w.heap.size + 1; omega) _).setCell (p := ⟨w.heap.size + 1, _, none⟩) (by show base ≤ w.heap.size + 1; omega) _).setCell (p := ⟨w.heap.size + 1, _, none⟩) (by show base ≤ w.heap.size + 1; omega) _).setCell (p := ⟨w.heap.size + 1, _, none⟩) (by show base ≤ w.heap.size + 1; omega) _).setCell (p := ⟨w.heap.size + 1, _, none⟩) (by show base ≤ w.heap.size + 1; omega) _).setCell (p := ⟨w.heap.size + 1, _, none⟩) (by show base ≤ w.heap.size + 1; omega) _))
    exact ⟨⟨_, rfl⟩, hb9, _, hF9.mono (by omega), .popNo rfl⟩
  · have SS := Aside0.mk hst
    have FF := Aside0.mk hF
    have BB := Aside0.mk hb
    have CC := Aside0.mk hl
    clear hF hb hst hl hx
    simp only [Note.cells]
    have hbh := BG.out.behind HH.out SS.out
    have PP := Aside0.mk ((hbh (w.heap.size + 1) (by omega) (by omega)).trans BG.out.res)
    have QQ := Aside0.mk ((hbh (w.heap.size + 1 + 1) (by omega) (by omega)).trans BG.out.tmp)
    clear hbh
    have pc0 : w2.cell? ⟨w.heap.size + 1, 0, none⟩ = some (.bool false) := blk_cell PP.out 0
    have pf0 : w2.frozen? ⟨w.heap.size + 1, 0, none⟩ = false := blk_frozen PP.out 0
    have pc1 : w2.cell? ⟨w.heap.size + 1, 1, none⟩ = some (.int .i64 0) := blk_cell PP.out 1
    have pf1 : w2.frozen? ⟨w.heap.size + 1, 1, none⟩ = false := blk_frozen PP.out 1
    have pc2 : w2.cell? ⟨w.heap.size + 1, 2, none⟩ = some (.slice none 0 0) := blk_cell PP.out 2
    have pf2 : w2.frozen? ⟨w.heap.size + 1, 2, none⟩ = false := blk_frozen PP.out 2
    have pc3 : w2.cell? ⟨w.heap.size + 1, 3, none⟩ = some (.int .i64 0) := blk_cell PP.out 3
    have pf3 : w2.frozen? ⟨w.heap.size + 1, 3, none⟩ = false := blk_frozen PP.out 3
    have pc4 : w2.cell? ⟨w.heap.size + 1, 4, none⟩ = some (.int .i64 0) := blk_cell PP.out 4
    have pf4 : w2.frozen? ⟨w.heap.size + 1, 4, none⟩ = false := blk_frozen PP.out 4
    have pc5 : w2.cell? ⟨w.heap.size + 1, 5, none⟩ = some (.int .i64 0) := blk_cell PP.out 5
    have pf5 : w2.frozen? ⟨w.heap.size + 1, 5, none⟩ = false := blk_frozen PP.out 5
    have pc6 : w2.cell? ⟨w.heap.size + 1, 6, none⟩ = some (.string ⟨#[]⟩) := blk_cell PP.out 6
    have pf6 : w2.frozen? ⟨w.heap.size + 1, 6, none⟩ = false := blk_frozen PP.out 6
    have pc7 : w2.cell? ⟨w.heap.size + 1, 7, none⟩ = some (.slice none 0 0) := blk_cell PP.out 7
    have pf7 : w2.frozen? ⟨w.heap.size + 1, 7, none⟩ = false := blk_frozen PP.out 7
    have qc0 : w2.cell? ⟨w.heap.size + 1 + 1, 0, none⟩ = some (.bool false) := blk_cell QQ.out 0
    have qf0 : w2.frozen? ⟨w.heap.size + 1 + 1, 0, none⟩ = false := blk_frozen QQ.out 0
    have qc1 : w2.cell? ⟨w.heap.size + 1 + 1, 1, none⟩ = some (.int .i64 0) := blk_cell QQ.out 1
    have qf1 : w2.frozen? ⟨w.heap.size + 1 + 1, 1, none⟩ = false := blk_frozen QQ.out 1
    have qc2 : w2.cell? ⟨w.heap.size + 1 + 1, 2, none⟩ = some (.slice none 0 0) := blk_cell QQ.out 2
    have qf2 : w2.frozen? ⟨w.heap.size + 1 + 1, 2, none⟩ = false := blk_frozen QQ.out 2
    have qc3 : w2.cell? ⟨w.heap.size + 1 + 1, 3, none⟩ = some (.int .i64 0) := blk_cell QQ.out 3
    have qf3 : w2.frozen? ⟨w.heap.size + 1 + 1, 3, none⟩ = false := blk_frozen QQ.out 3
    have qc4 : w2.cell? ⟨w.heap.size + 1 + 1, 4, none⟩ = some (.int .i64 0) := blk_cell QQ.out 4
    have qf4 : w2.frozen? ⟨w.heap.size + 1 + 1, 4, none⟩ = false := blk_frozen QQ.out 4
    have qc5 : w2.cell? ⟨w.heap.size + 1 + 1, 5, none⟩ = some (.int .i64 0) := blk_cell QQ.out 5
    have qf5 : w2.frozen? ⟨w.heap.size + 1 + 1, 5, none⟩ = false := blk_frozen QQ.out 5
    have qc6 : w2.cell? ⟨w.heap.size + 1 + 1, 6, none⟩ = some (.string ⟨#[]⟩) := blk_cell QQ.out 6
    have qf6 : w2.frozen? ⟨w.heap.size + 1 + 1, 6, none⟩ = false := blk_frozen QQ.out 6
    have qc7 : w2.cell? ⟨w.heap.size + 1 + 1, 7, none⟩ = some (.slice none 0 0) := blk_cell QQ.out 7
    have qf7 : w2.frozen? ⟨w.heap.size + 1 + 1, 7, none⟩ = false := blk_frozen QQ.out 7
    go_wp2
    have hso := HS.out
    refine bodyPost_ret (results_cell_row rfl _ _ (w.heap.size + 1) 33 _ (0, 0) _ rfl (eight (((((((Below.heap_setCell _ _ _ _ (by show w.heap.size + 1 ≠ w.heap.size + 1 + 1; omega)).trans (Below.heap_setCell _ _ _ _ (by show w.heap.size + 1 ≠ w.heap.size + 1 + 1; omega))).trans (Below.heap_setCell _ _ _ _ (by show w.heap.size + 1 ≠ w.heap.size + 1 + 1; omega))).trans (Below.heap_setCell _ _ _ _ (by show w.heap.size + 1 ≠ w.heap.size + 1 + 1; omega))).trans (Below.heap_setCell _ _ _ _ (by show w.heap.size + 1 ≠ w.heap.size + 1 + 1; omega))).trans (Below.heap_setCell _ _ _ _ (by show w.heap.size + 1 ≠ w.heap.size + 1 + 1; omega))).trans PP.out) _ _ _ _ _ _ _ _) Try.underlying33 rfl sizeTold) rfl ?_
    obtain ⟨hb9, hF9⟩ := BG.out.fin HH.out SS.out FF.out BB.out (fun j h1 h2 => ((Below.heap_setCell _ _ _ j h1).trans ((Below.heap_setCell _ _ _ j h1).trans ((Below.heap_setCell _ _ _ j h1).trans ((Below.heap_setCell _ _ _ j h1).trans ((Below.heap_setCell _ _ _ j h1).trans ((Below.heap_setCell _ _ _ j h1).trans ((Below.heap_setCell _ _ _ j h1).trans ((Below.heap_setCell _ _ _ j h1).trans ((Below.heap_setCell _ _ _ j h2).trans ((Below.heap_setCell _ _ _ j h2).trans ((Below.heap_setCell _ _ _ j h2).trans ((Below.heap_setCell _ _ _ j h2).trans ((Below.heap_setCell _ _ _ j h2).trans (Below.heap_setCell _ _ _ j h2))))))))))))))) ((((((((((((((((Below.refl base _).setCell (p := ⟨w.heap.size + 1 + 1, _, none⟩) (by show base ≤ w.heap.size + 1 + 1; omega) _).setCell (p := ⟨w.heap.size + 1 + 1, _, none⟩) (by show base ≤ w.heap.size + 1 + 1; omega) _).setCell (p := ⟨w.heap.size + 1 + 1, _, none⟩) (by show base ≤ w.heap.size + 1 + 1; omega) _).setCell (p := ⟨w.heap.size + 1 + 1, _, none⟩) (by show base ≤ w.heap.size + 1 + 1; omega) _).setCell (p := ⟨w.heap.size + 1 + 1, _, none⟩) (by show base ≤ w.heap.size + 1 + 1; omega) _).setCell (p := ⟨w.heap.size + 1 + 1, _, none⟩) (by show base ≤ w.heap.size + 1 + 1; omega) _).setCell (p := ⟨w.heap.size + 1, _, none⟩) (by show base ≤ w.heap.size + 1; omega) _).setCell (p := ⟨w.heap.size + 1, _, none⟩) (by show base ≤ w.heap.size + 1; omega) _).setCell (p := ⟨w.heap.size + 1, _, none⟩) (by show base ≤ w.heap.size + 1; omega) _).setCell (p := ⟨w.heap.size + 1, _, none⟩) (by show base ≤ w.heap.size + 1; omega) _).setCell (p := ⟨w.heap.size + 1, _, none⟩) (by show base ≤ w.heap.size + 1; omega) _).setCell (p := ⟨w.heap.size + 1, _, none⟩) (by show base ≤ w.heap.size + 1; omega) _).setCell (p := ⟨w.heap.size + 1, _, none⟩) (by show base ≤ w.heap.size + 1; omega) _).setCell (p := ⟨w.heap.size + 1, _, none⟩) (by show base ≤ w.heap.size + 1; omega) _))
    exact ⟨⟨_, rfl⟩, hb9, _, hF9.mono (by omega), .popYes r2 v2 rfl CC.out⟩
set_option maxRecDepth 100000 in
set_option maxHeartbeats 2000000 in
theorem do_forget (base p mb n : Nat) (w : World) (room : Int) (G : List Row) (K s b : Int) (r : ByteArray) (h : FeedAt base w p room mb n G) (hn : n < 900000) (hs : wfI s) (hr1 : 1 ≤ room) (hr4 : room ≤ 4) (hi : Inv room G) (hK0 : ¬ K = 0) (hK1 : ¬ K = 1) (hK2 : ¬ K = 2) (hK3 : ¬ K = 3) :
    Calls Try.prog 9 #[.pointer (some ⟨p, 0, none⟩), .agg #[.int .i64 K, .int .i64 s, .int .i64 b, .string r]] w (DoPost base p mb n room G K s w) := by
  have HS := Aside0.mk h.size
  have HH := Aside0.mk h
  have HN := Aside0.mk hn
  have HI := Aside0.mk hi
  have HR := Aside0.mk (And.intro hr1 hr4)
  have HW := Aside0.mk hs
  obtain ⟨hB, hA⟩ := begun h K s b r
  obtain ⟨W1, hW1⟩ : ∃ W1, three w K s b r = W1 := ⟨_, rfl⟩
  rw [hW1] at hB hA
  unfold three at hW1
  have a0 : W1.cell? ⟨w.heap.size, 0, none⟩ = some (.int .i64 K) := blk_cell hA 0
  have a1 : W1.cell? ⟨w.heap.size, 1, none⟩ = some (.int .i64 s) := blk_cell hA 1
  have a2 : W1.cell? ⟨w.heap.size, 2, none⟩ = some (.int .i64 b) := blk_cell hA 2
  have a3 : W1.cell? ⟨w.heap.size, 3, none⟩ = some (.string r) := blk_cell hA 3
  have BG := Aside0.mk hB
  clear h hn hi hr1 hr4 hs hB hA
  go_enter Try.func9, Try.ntmps9
  go_wp2_with (go_at_call 13; fail)
  refine (forget_calls base p mb n W1 room G s BG.out.feed HW.out).mono ?_
  rintro e w2 ⟨rfl, hF, hb, hst⟩
  have SS := Aside0.mk hst
  have FF := Aside0.mk hF
  have BB := Aside0.mk hb
  clear hF hb hst
  have hbh := BG.out.behind HH.out SS.out
  have PP := Aside0.mk ((hbh (w.heap.size + 1) (by omega) (by omega)).trans BG.out.res)
  have QQ := Aside0.mk ((hbh (w.heap.size + 1 + 1) (by omega) (by omega)).trans BG.out.tmp)
  clear hbh
  have pc0 : w2.cell? ⟨w.heap.size + 1, 0, none⟩ = some (.bool false) := blk_cell PP.out 0
  have pf0 : w2.frozen? ⟨w.heap.size + 1, 0, none⟩ = false := blk_frozen PP.out 0
  have pc1 : w2.cell? ⟨w.heap.size + 1, 1, none⟩ = some (.int .i64 0) := blk_cell PP.out 1
  have pf1 : w2.frozen? ⟨w.heap.size + 1, 1, none⟩ = false := blk_frozen PP.out 1
  have pc2 : w2.cell? ⟨w.heap.size + 1, 2, none⟩ = some (.slice none 0 0) := blk_cell PP.out 2
  have pf2 : w2.frozen? ⟨w.heap.size + 1, 2, none⟩ = false := blk_frozen PP.out 2
  have pc3 : w2.cell? ⟨w.heap.size + 1, 3, none⟩ = some (.int .i64 0) := blk_cell PP.out 3
  have pf3 : w2.frozen? ⟨w.heap.size + 1, 3, none⟩ = false := blk_frozen PP.out 3
  have pc4 : w2.cell? ⟨w.heap.size + 1, 4, none⟩ = some (.int .i64 0) := blk_cell PP.out 4
  have pf4 : w2.frozen? ⟨w.heap.size + 1, 4, none⟩ = false := blk_frozen PP.out 4
  have pc5 : w2.cell? ⟨w.heap.size + 1, 5, none⟩ = some (.int .i64 0) := blk_cell PP.out 5
  have pf5 : w2.frozen? ⟨w.heap.size + 1, 5, none⟩ = false := blk_frozen PP.out 5
  have pc6 : w2.cell? ⟨w.heap.size + 1, 6, none⟩ = some (.string ⟨#[]⟩) := blk_cell PP.out 6
  have pf6 : w2.frozen? ⟨w.heap.size + 1, 6, none⟩ = false := blk_frozen PP.out 6
  have pc7 : w2.cell? ⟨w.heap.size + 1, 7, none⟩ = some (.slice none 0 0) := blk_cell PP.out 7
  have pf7 : w2.frozen? ⟨w.heap.size + 1, 7, none⟩ = false := blk_frozen PP.out 7
  have qc0 : w2.cell? ⟨w.heap.size + 1 + 1, 0, none⟩ = some (.bool false) := blk_cell QQ.out 0
  have qf0 : w2.frozen? ⟨w.heap.size + 1 + 1, 0, none⟩ = false := blk_frozen QQ.out 0
  have qc1 : w2.cell? ⟨w.heap.size + 1 + 1, 1, none⟩ = some (.int .i64 0) := blk_cell QQ.out 1
  have qf1 : w2.frozen? ⟨w.heap.size + 1 + 1, 1, none⟩ = false := blk_frozen QQ.out 1
  have qc2 : w2.cell? ⟨w.heap.size + 1 + 1, 2, none⟩ = some (.slice none 0 0) := blk_cell QQ.out 2
  have qf2 : w2.frozen? ⟨w.heap.size + 1 + 1, 2, none⟩ = false := blk_frozen QQ.out 2
  have qc3 : w2.cell? ⟨w.heap.size + 1 + 1, 3, none⟩ = some (.int .i64 0) := blk_cell QQ.out 3
  have qf3 : w2.frozen? ⟨w.heap.size + 1 + 1, 3, none⟩ = false := blk_frozen QQ.out 3
  have qc4 : w2.cell? ⟨w.heap.size + 1 + 1, 4, none⟩ = some (.int .i64 0) := blk_cell QQ.out 4
  have qf4 : w2.frozen? ⟨w.heap.size + 1 + 1, 4, none⟩ = false := blk_frozen QQ.out 4
  have qc5 : w2.cell? ⟨w.heap.size + 1 + 1, 5, none⟩ = some (.int .i64 0) := blk_cell QQ.out 5
  have qf5 : w2.frozen? ⟨w.heap.size + 1 + 1, 5, none⟩ = false := blk_frozen QQ.out 5
  have qc6 : w2.cell? ⟨w.heap.size + 1 + 1, 6, none⟩ = some (.string ⟨#[]⟩) := blk_cell QQ.out 6
  have qf6 : w2.frozen? ⟨w.heap.size + 1 + 1, 6, none⟩ = false := blk_frozen QQ.out 6
  have qc7 : w2.cell? ⟨w.heap.size + 1 + 1, 7, none⟩ = some (.slice none 0 0) := blk_cell QQ.out 7
  have qf7 : w2.frozen? ⟨w.heap.size + 1 + 1, 7, none⟩ = false := blk_frozen QQ.out 7
  go_wp2
  have hso := HS.out
  refine bodyPost_ret (results_cell_row rfl _ _ (w.heap.size + 1) 33 _ (0, 0) _ rfl (eight ((Below.heap_setCell _ _ _ _ (by show w.heap.size + 1 ≠ w.heap.size + 1 + 1; omega)).trans PP.out) _ _ _ _ _ _ _ _) Try.underlying33 rfl sizeTold) rfl ?_
  obtain ⟨hb9, hF9⟩ := BG.out.fin HH.out SS.out FF.out BB.out (fun j h1 h2 => ((Below.heap_setCell _ _ _ j h1).trans ((Below.heap_setCell _ _ _ j h1).trans ((Below.heap_setCell _ _ _ j h1).trans ((Below.heap_setCell _ _ _ j h1).trans ((Below.heap_setCell _ _ _ j h1).trans ((Below.heap_setCell _ _ _ j h1).trans ((Below.heap_setCell _ _ _ j h1).trans ((Below.heap_setCell _ _ _ j h1).trans (Below.heap_setCell _ _ _ j h2)))))))))) (((((((((((Below.refl base _).setCell (p := ⟨w.heap.size + 1 + 1, _, none⟩) (by show base ≤ w.heap.size + 1 + 1; omega) _).setCell (p := ⟨w.heap.size + 1, _, none⟩) (by show base ≤ w.heap.size + 1; omega) _).setCell (p := ⟨w.heap.size + 1, _, none⟩) (by show base ≤ w.heap.size + 1; omega) _).setCell (p := ⟨w.heap.size + 1, _, none⟩) (by show base ≤ w.heap.size + 1; omega) _).setCell (p := ⟨w.heap.size + 1, _, none⟩) (by show base ≤ w.heap.size + 1; omega) _).setCell (p := ⟨w.heap.size + 1, _, none⟩) (by show base ≤ w.heap.size + 1; omega) _).setCell (p := ⟨w.heap.size + 1, _, none⟩) (by show base ≤ w.heap.size + 1; omega) _).setCell (p := ⟨w.heap.size + 1, _, none⟩) (by show base ≤ w.heap.size + 1; omega) _).setCell (p := ⟨w.heap.size + 1, _, none⟩) (by show base ≤ w.heap.size + 1; omega) _))
  exact ⟨⟨_, rfl⟩, hb9, _, hF9.mono (by omega), .forget hK0 hK1 hK2 hK3⟩
theorem do_calls (base p mb n : Nat) (w : World) (room : Int) (G : List Row) (a : Act4) (h : FeedAt base w p room mb n G) (hn : n < 900000) (hs : wfI a.s) (hr1 : 1 ≤ room) (hr4 : room ≤ 4) (hi : Inv room G) :
    Calls Try.prog 9 #[.pointer (some ⟨p, 0, none⟩), actV a] w (DoPost base p mb n room G a.K a.s w) := by
  obtain ⟨K, s, b, r⟩ := a
  unfold actV
  by_cases h0 : K = 0
  · subst h0; exact do_sub base p mb n w room G s b r h hn hs hr1 hr4 hi
  by_cases h1 : K = 1
  · subst h1; exact do_unsub base p mb n w room G s b r h hn hs hr1 hr4 hi
  by_cases h2 : K = 2
  · subst h2; exact do_push base p mb n w room G s b r h hn hs hr1 hr4 hi
  by_cases h3 : K = 3
  · subst h3; exact do_pop base p mb n w room G s b r h hn hs hr1 hr4 hi
  exact do_forget base p mb n w room G K s b r h hn hs hr1 hr4 hi h0 h1 h2 h3
end Go.Proofs.Ytdeagfjfipbniaa.F
