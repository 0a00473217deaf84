/- The law of a loop over a feed's lines. -/
import Derived.Test.YtdeagfjfipbniaaF7
set_option linter.unusedSimpArgs false
set_option linter.unusedVariables false
namespace Go.Proofs.Ytdeagfjfipbniaa.F
open Go.RowKit Go.Maps Go.Sort Go.Shelf Go.Proofs.YtdeagfjfipbniaaW.PrintWords Go.Proofs.YtdeagfjfipbniaaW.PrintLast Go.Proofs.YtdeagfjfipbniaaW.PrintMore

/-- What is kept but for the two blocks of a loop. -/
structure Soft (D : Nat) (W W' : World) : Prop where
  os : W'.os = W.os
  tape : W'.tape = W.tape
  output : W'.output = W.output
  size : W.heap.size ≤ W'.heap.size
  block : ∀ k, k < W.heap.size → k ≠ D → k ≠ D + 1 → W'.heap[k]? = W.heap[k]?
theorem Soft.refl (D : Nat) (W : World) : Soft D W W := ⟨rfl, rfl, rfl, Nat.le_refl _, fun _ _ _ _ => rfl⟩
theorem Soft.trans {D : Nat} {A B C : World} (h : Soft D A B) (k : Soft D B C) : Soft D A C :=
  ⟨k.os.trans h.os, k.tape.trans h.tape, k.output.trans h.output, Nat.le_trans h.size k.size, fun i hi h2 h3 => (k.block i (Nat.lt_of_lt_of_le hi h.size) h2 h3).trans (h.block i hi h2 h3)⟩
theorem Soft.of_below {D : Nat} {W W' : World} (h : Below W.heap.size W W') : Soft D W W' := ⟨h.os, h.tape, h.output, h.size, fun k hk _ _ => h.block k hk⟩
theorem Soft.alloc {D : Nat} (W : World) (o : Obj) : Soft D W (W.alloc o) := .of_below ((Below.refl _ _).alloc (Nat.le_refl _) _)
theorem Soft.put {D l : Nat} (W : World) (o : Obj) (hl : l = D ∨ l = D + 1) : Soft D W (W.putObj l o) :=
  ⟨rfl, rfl, rfl, by simp, fun k _ h1 h2 => World.putObj_heap_other (by omega)⟩
/-- What a round leaves as it was. -/
structure Still (fb p mb gs D : Nat) (W W' : World) : Prop where
  d : W'.heap[D]? = W.heap[D]?
  l : W'.heap[D + 1]? = W.heap[D + 1]?
  size : W.heap.size ≤ W'.heap.size
  f : W'.heap[fb]? = W.heap[fb]?
  p : W'.heap[p]? = W.heap[p]?
  m : W'.heap[mb]? = W.heap[mb]?
  g : W'.heap[gs]? = W.heap[gs]?
/-- How a round's body may be left. -/
def bodyEnd (fb p mb gs D : Nat) (I : Nat → List Row → World → Prop) (xs : List Row) (W : World) : Exit → Act → World → Prop
  | .normal, _, W' => Still fb p mb gs D W W' ∧ I gs xs W'
  | _, _, _ => False
abbrev markOf (D : Nat) : Deferred := { target := .collected D, args := #[] }
set_option maxRecDepth 100000 in
theorem range_lines {g : Operand} {p1 p2 : Tmp} {assign body : Code} {Q : Exit → Act → World → Prop} {a : Act} {w : World} {fb base p mb n : Nat} {room : Int} {G : List Row}
    (hg : a.eval g = .func (.func 28) #[] #[.pointer (some ⟨fb, 0, none⟩)])
    (h : FeedAt base w p room mb n G) (hn : n ≤ 1000000) (hbox : w.heap[fb]? = some (Obj.cells #[.pointer (some ⟨p, 0, none⟩)] 24 (0, 0)))
    (I : Nat → List Row → World → Prop)
    (hI : ∀ gs pre W W', I gs pre W → Soft w.heap.size W W' → I gs pre W')
    (h0 : ∀ gs W2, Below w.heap.size w W2 → w.heap.size + 2 ≤ gs → gs < W2.heap.size → I gs [] W2) (a₁ : Row → Act)
    (hassign : ∀ (l : Nat) (r : Row) (W : World) (K : Act → World → Prop), K (a₁ r) W →
      assign.wpIn (Fence.wide.inRound l) 7 Try.prog (Exit.then K (fun _ _ _ => False)) { tmps := (#[p1, p2].zip #[Value.int .i64 r.k, .pointer (some ⟨r.b, 0, none⟩)]).foldl (fun t (p, v) => t.setIfInBounds p v) a.tmps, defers := [] } W)
    (hbody : ∀ (l gs : Nat) (pre : List Row) (r : Row) (rest : List Row) (W : World), w.heap.size + 2 ≤ gs → gs < W.heap.size → G = pre ++ r :: rest → I gs pre W → w.heap.size + 1 < W.heap.size → (∃ rec, W.heap[w.heap.size + 1]? = some (.loop rec)) → W.heap[w.heap.size]? = some (.deferred (some [])) →
      body.wpIn (Fence.wide.inRound l) 7 Try.prog (bodyEnd fb p mb gs w.heap.size I (pre ++ [r]) W) (a₁ r) W)
    (hdone : ∀ (gs : Nat) (W : World), I gs G W → W.heap[w.heap.size]? = some (.deferred (some [])) → w.heap.size < W.heap.size → Q .normal { a with defers := markOf w.heap.size :: a.defers } W) :
    (Code.rangeFunc g #[p1, p2] assign body).wpIn Fence.wide 9 Try.prog Q a w := by
  obtain ⟨D, hD⟩ : ∃ D, w.heap.size = D := ⟨_, rfl⟩
  have hlf := blk_lt hbox
  have hlp := blk_lt h.feed
  have hlm := h.map.lt
  rw [hD] at hI h0 hbody hdone hlf hlp hlm
  refine wpIn_rangeFunc ?_
  intro fn _
  obtain ⟨rec, hrec⟩ : ∃ rec : LoopState → Option Code → Loop, rec = fun st pe => { state := st, pending := pe, fn, tmps := a.tmps, params := #[p1, p2], assign, body, defers := D } := ⟨_, rfl⟩
  have hW1 := run_enterLoop_outer (P := Try.prog) (w := w) fn a.tmps #[p1, p2] assign body
  rw [hD] at hW1
  obtain ⟨W1, hW1e⟩ : ∃ W1, (w.alloc (.deferred (some []))).alloc (.loop (rec .ready none)) = W1 := ⟨_, rfl⟩
  rw [show ((w.alloc (.deferred (some []))).alloc (.loop { state := .ready, pending := none, fn, tmps := a.tmps, params := #[p1, p2], assign, body, defers := D })) = W1 by rw [← hW1e, hrec]] at hW1
  have hsz1 : (w.alloc (.deferred (some []))).heap.size = D + 1 := by rw [World.size_alloc, hD]
  have hsz2 : W1.heap.size = D + 2 := by rw [← hW1e, World.size_alloc, hsz1]
  have hL1 : W1.heap[D + 1]? = some (.loop (rec .ready none)) := by
    rw [← hW1e, ← hsz1]; exact heap_alloc_new _ _
  have hK1 : W1.heap[D]? = some (.deferred (some [])) := by
    rw [← hW1e]
    refine (Below.heap_alloc _ _ _ (by rw [hsz1]; omega)).trans ?_
    rw [← hD]; exact heap_alloc_new w _
  have hB1 : Below D w W1 := by rw [← hW1e, ← hD]; exact ((Below.refl _ w).alloc (Nat.le_refl _) _).alloc (by simp) _
  have hB1' : Below w.heap.size w W1 := by rw [hD]; exact hB1
  have hF1 : FeedAt base W1 p room mb n G := h.later hB1'
  have hbox1 : W1.heap[fb]? = some (Obj.cells #[.pointer (some ⟨p, 0, none⟩)] 24 (0, 0)) := (hB1.block fb hlf).trans hbox
  refine ⟨D + 1, [markOf D], W1, { target := .fn (.func 28) #[.pointer (some ⟨fb, 0, none⟩)], args := #[.func (.yield (D + 1)) #[] #[]] }, W1, 28,
    #[.func (.yield (D + 1)) #[] #[], .pointer (some ⟨fb, 0, none⟩)], W1, hW1, ?_, fun _ _ => trivial, ?_, fun _ => by decide, ?_⟩
  · simp only [resolve, hg]
    simp [go_sem]
  · have eg : ∀ args w, (callFunc 28 args).run Try.prog w = .ok (.enter 28 args) w := enters_of Try.func28 (by kernel_rfl) rfl
    simp [invoke, go_sem, eg]
  · refine (each_in (D + 1) fb base p mb n room G
      (fun gs pre W => I gs pre W ∧ D + 2 ≤ gs ∧ W.heap[D + 1]? = some (.loop (rec .ready none)) ∧ W.heap[D]? = some (.deferred (some [])))
      W1 hF1 hn hbox1 ?_ ?_).mono ?_
    · intro gs W2 hb h1 h2
      rw [hsz2] at hb h1
      exact ⟨h0 gs W2 (hB1.trans (hb.mono (by omega))) h1 h2, h1, (hb.block _ (by omega)).trans hL1, (hb.block _ (by omega)).trans hK1⟩
    · -- one round
      rintro gs pre r rest W hg1 hg2 hsplit ⟨hi, hg3, hl, hk⟩
      have hlt : D + 1 < W.heap.size := blk_lt hl
      have hy := run_yield (P := Try.prog) (args := #[Value.int .i64 r.k, .pointer (some ⟨r.b, 0, none⟩)]) hl (by rw [hrec]; rfl)
      rw [hrec] at hy
      refine ⟨fn, _, assign, body, hy, roundIn_of_wpIn trivial (hassign _ r W _ ?_)⟩
      refine ⟨_, run_beginRound hl (by rw [hrec]), ?_⟩
      obtain ⟨W2, hW2⟩ : ∃ W2, W.putObj (D + 1) (.loop { rec .ready none with state := .busy }) = W2 := ⟨_, rfl⟩
      rw [hW2]
      have hl2 : W2.heap[D + 1]? = some (.loop { rec .ready none with state := .busy }) := by rw [← hW2]; exact World.putObj_heap_same hlt
      have hother : ∀ k, k ≠ D + 1 → W2.heap[k]? = W.heap[k]? := fun k hk => by rw [← hW2]; exact World.putObj_heap_other hk
      have hsz : W2.heap.size = W.heap.size := by rw [← hW2]; simp
      have hk2 : W2.heap[D]? = some (.deferred (some [])) := (hother _ (by omega)).trans hk
      refine wpIn_mono (hbody _ gs pre r rest W2 hg3 (by omega) hsplit (hI _ _ _ _ hi (by rw [← hW2]; exact Soft.put W _ (.inr rfl))) (by omega) ⟨_, hl2⟩ hk2) ?_
      rintro e a3 W3 hp
      cases e with
      | normal =>
        obtain ⟨hs, hi3⟩ := hp
        have hl3 := hs.l.trans hl2
        have hr := run_endRound (P := Try.prog) none hl3
        rw [hrec] at hr
        have hfar : ∀ (o : Obj) k, k ≠ D + 1 → (W3.putObj (D + 1) o).heap[k]? = W3.heap[k]? := fun o k hk => World.putObj_heap_other hk
        refine ⟨_, _, hr, rfl, ⟨hI _ _ _ _ hi3 (Soft.put _ _ (.inr rfl)), hg3, ?_, (hfar _ _ (by omega)).trans (hs.d.trans hk2)⟩, ?_, (hfar _ _ (by omega)).trans (hs.f.trans (hother _ (by omega))), (hfar _ _ (by omega)).trans (hs.p.trans (hother _ (by omega))),
          (hfar _ _ (by omega)).trans (hs.m.trans (hother _ (by omega))), (hfar _ _ (by omega)).trans (hs.g.trans (hother _ (by omega)))⟩
        · rw [hrec]; exact World.putObj_heap_same (blk_lt hl3)
        · have := hs.size
          simp
          omega
      | ret => exact hp.elim
      | exit id => exact hp.elim
      | goto t => exact hp.elim
      | panic ch => exact hp.elim
      | outgrown => exact hp.elim
    · -- behind the iterator
      rintro e W2 ⟨rfl, gs, hi, _, hl, hk⟩
      refine ⟨none, _, by have := run_endLoop (P := Try.prog) hl (by rw [hrec]; simp); rw [hrec] at this; exact this, ?_⟩
      exact hdone gs _ (hI _ _ _ _ hi (Soft.put _ _ (.inr rfl))) ((World.putObj_heap_other (by omega)).trans hk) (by have := blk_lt hk; simpa using this)
end Go.Proofs.Ytdeagfjfipbniaa.F
