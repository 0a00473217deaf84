/- The law of a loop over rlp.each. -/
import Derived.Test.YtibhhikaecpgiaaDoorL7
set_option linter.unusedSimpArgs false
set_option linter.unusedVariables false
namespace Go.Proofs.YtibhhikaecpgiaaDoor.R
open Go.RowKit Go.Shelf Go.Proofs.YtibhhikaecpgiaaDoorW.PrintWords Go.Proofs.YtibhhikaecpgiaaDoorW.PrintLast Go.Proofs.YtibhhikaecpgiaaDoorW.PrintMore

theorem Boxes.lt {W : World} {bs bp be : Nat} {rest : L} (h : Boxes W bs bp be rest) : bs < W.heap.size ∧ bp < W.heap.size ∧ be < W.heap.size := by
  obtain ⟨v, hv⟩ := h.e
  exact ⟨blk_lt h.s, blk_lt h.p, blk_lt hv⟩
theorem Boxes.keep {W W' : World} {bs bp be : Nat} {rest : L} (h : Boxes W bs bp be rest) (hk : ∀ k, (k = bs ∨ k = bp ∨ k = be) → W'.heap[k]? = W.heap[k]?) : Boxes W' bs bp be rest := by
  obtain ⟨v, hv⟩ := h.e
  exact ⟨(hk bs (.inl rfl)).trans h.s, (hk bp (.inr (.inl rfl))).trans h.p, v, (hk be (.inr (.inr rfl))).trans hv⟩
/-- How a round's body may be left. -/
def bodyEnd (bs bp be D : Nat) (rest : L) (I : List L → World → Prop) (Ix : Code → List L → World → Prop) (xs : List L) (W : World) : Exit → Act → World → Prop
  | .normal, _, W' => W'.heap[D]? = W.heap[D]? ∧ W'.heap[D + 1]? = W.heap[D + 1]? ∧ Boxes W' bs bp be rest ∧ I xs W'
  | .ret, _, W' => W'.heap[D]? = W.heap[D]? ∧ W'.heap[D + 1]? = W.heap[D + 1]? ∧ Ix .ret xs W'
  | .exit id, _, W' => W'.heap[D]? = W.heap[D]? ∧ W'.heap[D + 1]? = W.heap[D + 1]? ∧ Ix (.exit id) xs W'
  | .goto t, _, W' => W'.heap[D]? = W.heap[D]? ∧ W'.heap[D + 1]? = W.heap[D + 1]? ∧ Ix (.goto t) xs W'
  | .panic _, _, _ => False
  | .outgrown, _, _ => False
abbrev markOf (D : Nat) : Deferred := { target := .collected D, args := #[] }
set_option maxRecDepth 100000 in
theorem range_each {g : Operand} {p : Tmp} {assign body : Code} {Q : Exit → Act → World → Prop} {a : Act} {w : World} {bs bp be : Nat} {s0 : L} (hs0 : s0.length ≤ 1000000000)
    (hg : a.eval g = .func (.func 24) #[] #[.pointer (some ⟨bs, 0, none⟩), .pointer (some ⟨bp, 0, none⟩)])
    (hb : Boxes w bs bp be s0) (I : List L → World → Prop) (Ix : Code → List L → World → Prop)
    (hI : ∀ pre W W', I pre W → Soft bs w.heap.size W W' → I pre W') (hIx : ∀ c pre W W', Ix c pre W → Soft bs w.heap.size W W' → Ix c pre W')
    (h0 : I [] w) (a₁ : L → Act)
    (hassign : ∀ (l : Nat) (x : L) (W : World) (K : Act → World → Prop), K (a₁ x) W →
      assign.wpIn (Fence.wide.inRound l) 7 Tryd.prog (Exit.then K (fun _ _ _ => False)) { tmps := (#[p].zip #[Value.string (B x)]).foldl (fun t (p, v) => t.setIfInBounds p v) a.tmps, defers := [] } W)
    (hbody : ∀ (l : Nat) (pre : List L) (x rest : L) (W : World), I pre W → Boxes W bs bp be rest → x.length ≤ s0.length → pre.length < s0.length → w.heap.size + 1 < W.heap.size → (∃ r, W.heap[w.heap.size + 1]? = some (.loop r)) → W.heap[w.heap.size]? = some (.deferred (some [])) →
      body.wpIn (Fence.wide.inRound l) 7 Tryd.prog (bodyEnd bs bp be w.heap.size rest I Ix (pre ++ [x]) W) (a₁ x) W)
    (hdone : ∀ (xs : List L) (W : World), itemsL s0 = some xs → I xs W → W.heap[w.heap.size]? = some (.deferred (some [])) → w.heap.size < W.heap.size → Q .normal { a with defers := markOf w.heap.size :: a.defers } W)
    (hbad : ∀ (pre : List L) (E : Value) (W1 W2 : World), itemsL s0 = none → I pre W1 → Bad W2 E 1 → be < W1.heap.size → Soft bs w.heap.size (W1.setCell ⟨be, 0, none⟩ E) W2 → W2.heap[w.heap.size]? = some (.deferred (some [])) → Q .normal { a with defers := markOf w.heap.size :: a.defers } W2)
    (hstop : ∀ (c : Code) (pre : List L) (W : World), (∀ xs, itemsL s0 = some xs → pre <+: xs) → Ix c pre W → W.heap[w.heap.size]? = some (.deferred (some [])) → c.wpIn Fence.wide 9 Tryd.prog Q { a with defers := markOf w.heap.size :: a.defers } W) :
    (Code.rangeFunc g #[p] assign body).wpIn Fence.wide 9 Tryd.prog Q a w := by
  obtain ⟨D, hD⟩ : ∃ D, w.heap.size = D := ⟨_, rfl⟩
  obtain ⟨hls, hlp, hle⟩ := hb.lt
  rw [hD] at hI hIx hbody hdone hbad hstop hls hlp hle
  refine wpIn_rangeFunc ?_
  intro fn _
  obtain ⟨rec, hrec⟩ : ∃ rec : LoopState → Option Code → Loop, rec = fun st pe => { state := st, pending := pe, fn, tmps := a.tmps, params := #[p], assign, body, defers := D } := ⟨_, rfl⟩
  have hW1 := run_enterLoop_outer (P := Tryd.prog) (w := w) fn a.tmps #[p] assign body
  rw [hD] at hW1
  obtain ⟨W1, hW1e⟩ : ∃ W1, (w.alloc (.deferred (some []))).alloc (.loop (rec .ready none)) = W1 := ⟨_, rfl⟩
  rw [show ((w.alloc (.deferred (some []))).alloc (.loop { state := .ready, pending := none, fn, tmps := a.tmps, params := #[p], assign, body, defers := D })) = W1 by rw [← hW1e, hrec]] at hW1
  have hsz1 : (w.alloc (.deferred (some []))).heap.size = D + 1 := by rw [World.size_alloc, hD]
  have hL1 : W1.heap[D + 1]? = some (.loop (rec .ready none)) := by
    rw [← hW1e, ← hsz1]; exact World.alloc_heap_new _ _
  have hK1 : W1.heap[D]? = some (.deferred (some [])) := by
    rw [← hW1e]
    refine (Below.heap_alloc _ _ _ (by rw [hsz1]; omega)).trans ?_
    rw [← hD]; exact World.alloc_heap_new w _
  have hS1 : Soft bs D w W1 := by rw [← hW1e]; exact (Soft.alloc _ _).trans (Soft.alloc _ _)
  have hB1 : Boxes W1 bs bp be s0 := hb.keep fun k hk => hS1.2 |> fun _ => by
    rw [← hW1e]
    exact (Below.heap_alloc _ _ _ (by rw [hsz1]; omega)).trans (Below.heap_alloc _ _ _ (by rw [hD]; omega))
  refine ⟨D + 1, [markOf D], W1, { target := .fn (.func 24) #[.pointer (some ⟨bs, 0, none⟩), .pointer (some ⟨bp, 0, none⟩)], args := #[.func (.yield (D + 1)) #[] #[]] }, W1, 24,
    #[.func (.yield (D + 1)) #[] #[], .pointer (some ⟨bs, 0, none⟩), .pointer (some ⟨bp, 0, none⟩)], W1, hW1, ?_, fun _ _ => trivial, ?_, fun _ => by decide, ?_⟩
  · simp only [resolve, hg]
    simp [go_sem]
  · have eg : ∀ args w, (callFunc 24 args).run Tryd.prog w = .ok (.enter 24 args) w := enters_of Tryd.func24 (by kernel_rfl) rfl
    simp [invoke, go_sem, eg]
  · refine (each_in (D + 1) bs bp be s0 hs0
      (fun pre W => I pre W ∧ W.heap[D + 1]? = some (.loop (rec .ready none)) ∧ W.heap[D]? = some (.deferred (some [])))
      (fun pre W => ∃ c, Ix c pre W ∧ W.heap[D + 1]? = some (.loop (rec .done (some c))) ∧ W.heap[D]? = some (.deferred (some [])))
      W1 ?_ ?_ ?_ ⟨hI _ _ _ h0 hS1, hL1, hK1⟩ hB1).mono ?_
    · rintro pre W v ⟨hi, hl, hk⟩
      exact ⟨hI _ _ _ hi (Soft.store W v), (Below.heap_setCell W _ _ _ (by show D + 1 ≠ bs; omega)).trans hl, (Below.heap_setCell W _ _ _ (by show D ≠ bs; omega)).trans hk⟩
    · rintro pre W W' ⟨hi, hl, hk⟩ hbl
      exact ⟨hI _ _ _ hi (Soft.of_below hbl), (hbl.block _ (blk_lt hl)).trans hl, (hbl.block _ (blk_lt hk)).trans hk⟩
    · -- one round
      rintro pre x rest W ⟨hi, hl, hk⟩ hX hxl hpl
      have hlt : D + 1 < W.heap.size := blk_lt hl
      have hy := run_yield (P := Tryd.prog) (args := #[Value.string (B x)]) hl (by rw [hrec]; rfl)
      rw [hrec] at hy
      refine ⟨fn, _, assign, body, hy, roundIn_of_wpIn trivial (hassign _ x W _ ?_)⟩
      refine ⟨_, run_beginRound hl (by rw [hrec]), ?_⟩
      obtain ⟨W2, hW2⟩ : ∃ W2, W.putObj (D + 1) (.loop { rec .ready none with state := .busy }) = W2 := ⟨_, rfl⟩
      rw [hW2]
      have hl2 : W2.heap[D + 1]? = some (.loop { rec .ready none with state := .busy }) := by rw [← hW2]; exact World.putObj_heap_same hlt
      have hk2 : W2.heap[D]? = some (.deferred (some [])) := by rw [← hW2]; exact (World.putObj_heap_other (by omega)).trans hk
      have hX2 : Boxes W2 bs bp be rest := by rw [← hW2]; exact hX.keep fun k hkk => World.putObj_heap_other (by omega)
      refine wpIn_mono (hbody _ pre x rest W2 (hI _ _ _ hi (by rw [← hW2]; exact Soft.put W _ (.inr rfl))) hX2 hxl hpl (by rw [← hW2]; simpa using hlt) ⟨_, hl2⟩ hk2) ?_
      have fin : ∀ (jump : Option Code) (W3 : World), W3.heap[D]? = W2.heap[D]? → W3.heap[D + 1]? = W2.heap[D + 1]? →
          (Instr.endRound (D + 1) jump).run Tryd.prog W3 = .ok (.bool jump.isNone) (W3.putObj (D + 1) (.loop (rec (if jump.isNone then .ready else .done) jump))) ∧
          (W3.putObj (D + 1) (.loop (rec (if jump.isNone then .ready else .done) jump))).heap[D + 1]? = some (.loop (rec (if jump.isNone then .ready else .done) jump)) ∧
          (W3.putObj (D + 1) (.loop (rec (if jump.isNone then .ready else .done) jump))).heap[D]? = some (.deferred (some [])) := fun jump W3 h1 h2 => by
        have hl3 := h2.trans hl2
        have hr := run_endRound (P := Tryd.prog) jump hl3
        rw [hrec] at hr ⊢
        exact ⟨hr, World.putObj_heap_same (blk_lt hl3), (World.putObj_heap_other (by omega)).trans (h1.trans hk2)⟩
      rintro e a3 W3 hp
      cases e with
      | normal =>
        obtain ⟨h1, h2, hX3, hi3⟩ := hp
        obtain ⟨hr, hl4, hk4⟩ := fin none W3 h1 h2
        exact ⟨_, _, hr, .inl ⟨rfl, ⟨hI _ _ _ hi3 (Soft.put _ _ (.inr rfl)), hl4, hk4⟩, hX3.keep fun k hkk => World.putObj_heap_other (by omega)⟩⟩
      | ret =>
        obtain ⟨h1, h2, hi3⟩ := hp
        obtain ⟨hr, hl4, hk4⟩ := fin (some .ret) W3 h1 h2
        exact ⟨_, _, hr, .inr ⟨rfl, .ret, hIx _ _ _ _ hi3 (Soft.put _ _ (.inr rfl)), hl4, hk4⟩⟩
      | exit id =>
        obtain ⟨h1, h2, hi3⟩ := hp
        obtain ⟨hr, hl4, hk4⟩ := fin (some (.exit id)) W3 h1 h2
        exact ⟨_, _, hr, .inr ⟨rfl, .exit id, hIx _ _ _ _ hi3 (Soft.put _ _ (.inr rfl)), hl4, hk4⟩⟩
      | goto t =>
        obtain ⟨h1, h2, hi3⟩ := hp
        obtain ⟨hr, hl4, hk4⟩ := fin (some (.goto t)) W3 h1 h2
        exact ⟨_, _, hr, .inr ⟨rfl, .goto t, hIx _ _ _ _ hi3 (Soft.put _ _ (.inr rfl)), hl4, hk4⟩⟩
      | panic ch => exact hp.elim
      | outgrown => exact hp.elim
    · -- behind the iterator
      rintro e W2 ⟨rfl, (⟨xs, hxs, hi, hl, hk⟩ | ⟨hN, pre, E, W3, ⟨hi, hl, hk⟩, hBd, ⟨rest, hX3⟩, rfl⟩ | ⟨pre, hpre, c, hi, hl, hk⟩)⟩
      · refine ⟨none, _, by have := run_endLoop (P := Tryd.prog) hl (by rw [hrec]; simp); rw [hrec] at this; exact this, ?_⟩
        exact hdone xs _ hxs (hI _ _ _ hi (Soft.put _ _ (.inr rfl))) ((World.putObj_heap_other (by omega)).trans hk) (by have := blk_lt hk; simpa using this)
      · have hl4 : (W3.setCell ⟨be, 0, none⟩ E).heap[D + 1]? = some (.loop (rec .ready none)) := (Below.heap_setCell W3 _ _ _ (by show D + 1 ≠ be; omega)).trans hl
        have hk4 : (W3.setCell ⟨be, 0, none⟩ E).heap[D]? = some (.deferred (some [])) := (Below.heap_setCell W3 _ _ _ (by show D ≠ be; omega)).trans hk
        refine ⟨none, _, by have := run_endLoop (P := Tryd.prog) hl4 (by rw [hrec]; simp); rw [hrec] at this; exact this, ?_⟩
        obtain ⟨ve, hve⟩ := hX3.e
        refine hbad pre E W3 _ hN hi (kind_bad hBd hX3.s hve hk hl fun b _ h1 h2 h3 h4 => ?_) (blk_lt hve) (Soft.put _ _ (.inr rfl)) ((World.putObj_heap_other (by omega)).trans hk4)
        exact (World.putObj_heap_other h4).trans (Below.heap_setCell W3 _ _ _ h2)
      · refine ⟨some c, _, by have := run_endLoop (P := Tryd.prog) hl (by rw [hrec]; simp); rw [hrec] at this; exact this, ?_⟩
        exact hstop c pre _ hpre (hIx _ _ _ _ hi (Soft.put _ _ (.inr rfl))) ((World.putObj_heap_other (by omega)).trans hk)
end Go.Proofs.YtibhhikaecpgiaaDoor.R
