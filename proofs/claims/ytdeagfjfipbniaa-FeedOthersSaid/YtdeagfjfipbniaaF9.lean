/- Subscribe. -/
import Derived.Test.YtdeagfjfipbniaaF8
set_option linter.unusedSimpArgs false
set_option linter.unusedVariables false
namespace Go.Proofs.Ytdeagfjfipbniaa.F
open Go.RowKit Go.Maps Go.Sort Go.Shelf Go.Proofs.YtdeagfjfipbniaaW.PrintWords Go.Proofs.YtdeagfjfipbniaaW.PrintLast Go.Proofs.YtdeagfjfipbniaaW.PrintMore
attribute [local go_sem] Oper.semAt_some

/-- How many follow. -/
def count (G : List Row) : Nat := (G.filter fun r => r.f).length
theorem count_snoc (G : List Row) (r : Row) : count (G ++ [r]) = count G + if r.f then 1 else 0 := by
  unfold count
  rw [List.filter_append, List.length_append]
  cases h : r.f <;> simp [h]
theorem count_le (G : List Row) : count G ≤ G.length := List.length_filter_le _ _
theorem FeedAt.putDef {base p mb n : Nat} {w : World} {room : Int} {G : List Row} (h : FeedAt base w p room mb n G) {D : Nat} {x : Option (List Deferred)} (hD : w.heap[D]? = some (.deferred x)) (o : Obj) : FeedAt base (w.putObj D o) p room mb n G := by
  refine h.off (g := D) ⟨?_, ?_, fun r hr => ⟨?_, fun e => ?_⟩⟩ fun j _ hj => World.putObj_heap_other hj
  · rintro rfl
    rw [h.feed] at hD
    cases hD
  · rintro rfl
    obtain ⟨_, _, hm⟩ := map_at h.map
    rw [hm] at hD
    cases hD
  · rintro rfl
    rw [(h.lines r hr).cell] at hD
    cases hD
  · obtain ⟨c, hc⟩ := (q_typed (h.lines r hr).row D e).2
    rw [hc] at hD
    cases hD
def subG (k : Int) (b : Nat) (G : List Row) : List Row := upd k (setF true) (atG k b G)
set_option maxRecDepth 100000 in
set_option maxHeartbeats 4000000 in
theorem subscribe_in (base p mb n : Nat) (w : World) (room : Int) (G : List Row) (k : Int) (h : FeedAt base w p room mb n G) (hk : wfI k) (hn : n < 1000000) :
    CallsIn Fence.wide 9 Try.prog 15 #[.pointer (some ⟨p, 0, none⟩), .int .i64 k] w fun e w' =>
      ((follows (look k G) = true ∨ count G = 4) ∧ e = .returned (.bool false) ∧ FeedAt base w' p room mb (n + 1) G ∧ Below base w w' ∧ Step p mb G w G w') ∨
      (¬ (follows (look k G) = true ∨ count G = 4) ∧ e = .returned (.bool true) ∧ Below base w w' ∧ ∃ b, FeedAt base w' p room mb (n + 1) (subG k b G) ∧ Step p mb G w (subG k b G) w') := by
  have HS := Aside0.mk h.size
  have HH := Aside0.mk h
  have HN := Aside0.mk hn
  have HKW := Aside0.mk hk
  clear h hn hk
  refine callsIn_of_wp_marks Try.func15 rfl trivial ?_ rfl
  simp only [Try.ntmps15, List.size_toArray, List.length_cons, List.length_nil, Nat.reduceAdd, Nat.reduceSub, Array.replicate_succ, Array.replicate_zero, List.push_toArray, List.append_toArray, List.nil_append, List.cons_append]
  gi_wp2_with (gi_at_call 22; fail)
  refine ⟨trivial, (callsIn_wide.2 (lines_calls _ p)).mono ?_⟩
  rintro e w4 ⟨rfl, hw4⟩
  have hsz4 : w4.heap.size = w.heap.size + 2 := by rw [hw4]; simp
  have hbl : Below w.heap.size w w4 := by rw [hw4]; exact ((Below.refl _ w).alloc (Nat.le_refl _) _).alloc (by simp) _
  have hb0 : w4.heap[w.heap.size]? = some (Obj.cells #[.int .i64 0] 3 (0, 0)) := by rw [hw4]; exact (Below.heap_alloc _ _ _ (by simp)).trans (heap_alloc_new w _)
  have hb1 : w4.heap[w.heap.size + 1]? = some (Obj.cells #[.pointer (some ⟨p, 0, none⟩)] 24 (0, 0)) := by
    rw [hw4]
    have := heap_alloc_new (w.alloc (.cells #[.int .i64 0] 3)) (.cells #[.pointer (some ⟨p, 0, none⟩)] 24)
    rw [World.size_alloc] at this
    simpa using this
  have h4 : FeedAt base w4 p room mb n G := HH.out.later hbl
  clear hw4
  gi_wp2
  refine range_lines (fb := w.heap.size + 1) rfl h4 (by have := HN.out; omega) hb1 (fun gs pre W => W.heap[w.heap.size]? = some (Obj.cells #[.int .i64 (count pre)] 3 (0, 0)) ∧ Below w.heap.size w W) ?_ ?_
    (fun r => { tmps := #[.pointer (some ⟨p, 0, none⟩), .int .i64 k, undef, undef, .bool false, .pointer (some ⟨w.heap.size, 0, none⟩), undef, .pointer (some ⟨r.b, 0, none⟩), .pointer (some ⟨p, 0, none⟩), .func (.func 28) #[] #[.pointer (some ⟨w.heap.size + 1, 0, none⟩)], .int .i64 r.k, .pointer (some ⟨r.b, 0, none⟩), undef, undef, undef, undef, undef, undef, undef, undef, undef, undef, undef, undef, undef, undef, undef, undef, undef, undef], defers := [] }) ?assign ?body ?done
  · rintro gs pre W W' ⟨hv, hb⟩ hS
    rw [hsz4] at hS
    exact ⟨(hS.block _ (blk_lt hv) (by omega) (by omega)).trans hv, hb.trans ⟨hS.os, hS.tape, hS.output, hS.size, fun k hk => hS.block k (by have := hb.size; omega) (by omega) (by omega)⟩⟩
  · intro gs W2 hb h1 h2
    rw [hsz4] at hb h1
    exact ⟨(hb.block _ (by omega)).trans hb0, hbl.trans (hb.mono (by omega))⟩
  case assign =>
    intro l r W K hK
    gi_wp2
    exact hK
  case body =>
    rintro l gs pre r rest W hg1 hg2 hsplit ⟨hv, hb⟩ hlt hrec hdef
    rw [hsz4] at hg1 hlt hrec hdef ⊢
    have hF : FeedAt base W p room mb n G := HH.out.later hb
    have hmem : r ∈ G := by rw [hsplit]; simp
    have hL := hF.lines r hmem
    have c1 : W.cell? ⟨r.b, 0, none⟩ = some (.bool r.f) := blk_cell hL.cell 0
    have c2 : W.cell? ⟨w.heap.size, 0, none⟩ = some (.int .i64 (count pre)) := blk_cell hv 0
    have f2 : W.frozen? ⟨w.heap.size, 0, none⟩ = false := blk_frozen hv 0
    have hcb : (count pre : Int) < 2000000 := by
      have h1 := count_le pre
      have h2 : pre.length ≤ G.length := by rw [hsplit]; simp
      have h3 := HH.out.map.size_le
      rw [datum_size] at h3
      have := HN.out
      omega
    have HV := Aside0.mk hv
    have HB := Aside0.mk hb
    have HGS := Aside0.mk hg1
    have hsn := count_snoc pre r
    have HSN := Aside0.mk hsn
    have hp : p ≠ w.heap.size := by have := blk_lt HH.out.feed; omega
    have hm : mb ≠ w.heap.size := by have := HH.out.map.lt; omega
    have HP := Aside0.mk (And.intro hp hm)
    clear hF hmem hL hv hb hsplit hlt hrec hdef hg1 hsn hp hm hg2
    by_cases hf : r.f = true
    · rw [hf] at c1
      have HF := Aside0.mk hf
      clear hf
      gi_wp2
      have hfar : ∀ j v, j ≠ w.heap.size → (W.setCell ⟨w.heap.size, 0, none⟩ v).heap[j]? = W.heap[j]? := fun j v hj => Below.heap_setCell W _ _ j hj
      refine ⟨⟨hfar _ _ (by omega), hfar _ _ (by omega), by simp [World.setCell], hfar _ _ (by omega), hfar _ _ HP.out.1, hfar _ _ HP.out.2, hfar _ _ (by have := HGS.out; omega)⟩, ?_, HB.out.setCell (p := ⟨w.heap.size, 0, none⟩) (Nat.le_refl _) _⟩
      rw [HSN.out, HF.out]
      exact blk_put HV.out 0 _ (by simp)
    · have hf' : r.f = false := by simpa using hf
      rw [hf'] at c1
      have HF := Aside0.mk hf'
      clear hf hf'
      gi_wp2
      refine ⟨⟨rfl, rfl, Nat.le_refl _, rfl, rfl, rfl, rfl⟩, ?_, HB.out⟩
      rw [HSN.out, HF.out]
      exact HV.out
  case done =>
    rintro gs W ⟨hv, hb⟩ hdef hlt
    rw [hsz4] at hdef hlt ⊢
    have hF : FeedAt base W p room mb n G := HH.out.later hb
    have c2 : W.cell? ⟨w.heap.size, 0, none⟩ = some (.int .i64 (count G)) := blk_cell hv 0
    have HF := Aside0.mk hF
    have HB := Aside0.mk hb
    have HD := Aside0.mk hdef
    clear hF hv hb hdef hlt
    gi_wp2_with (gi_at_call 12; fail)
    refine ⟨trivial, (callsIn_wide.2 (follows_calls base p mb n W room G k HF.out HKW.out)).mono ?_⟩
    rintro e w5 ⟨rfl, rfl⟩
    have hno : (follows (look k G) = true ∨ count G = 4) → (FeedAt base (w5.putObj (w.heap.size + 2) (.deferred none)) p room mb (n + 1) G ∧ Below base w (w5.putObj (w.heap.size + 2) (.deferred none)) ∧ Step p mb G w G (w5.putObj (w.heap.size + 2) (.deferred none))) := fun hc => by
      have h1 : Below w.heap.size w (w5.putObj (w.heap.size + 2) (.deferred none)) := HB.out.trans (belowK_b (w := w) (Nat.le_refl _) w5 _ _ _ (by omega) HD.out rfl rfl)
      exact ⟨(HH.out.later h1).mono (Nat.le_succ _), h1.mono HS.out, .below h1⟩
    have HNO := Aside0.mk hno
    clear hno
    cases hf : follows (look k G) with
    | true =>
      have HF2 := Aside0.mk hf
      clear hf
      gi_wp2
      refine ⟨by simp, .inl ⟨_, _, rfl, run_takeDeferred HD.out, ?_⟩⟩
      exact ⟨_, results_tmp rfl _ _ _, .inl ⟨.inl HF2.out, rfl, HNO.out (.inl HF2.out)⟩⟩
    | false =>
      have HF2 := Aside0.mk hf
      clear hf
      by_cases h4c : count G = 4
      · rw [h4c] at c2
        have HC := Aside0.mk h4c
        clear h4c
        gi_wp2
        refine ⟨by simp, .inl ⟨_, _, rfl, run_takeDeferred HD.out, ?_⟩⟩
        exact ⟨_, results_tmp rfl _ _ _, .inl ⟨.inr HC.out, rfl, HNO.out (.inr HC.out)⟩⟩
      · have HC := Aside0.mk h4c
        have hc4 : ¬ ((count G : Int) = 4) := by omega
        clear h4c
        gi_wp2_with (gi_at_call 23; fail)
        refine ⟨trivial, (callsIn_wide.2 (at_calls base p mb n w5 room G k HF.out HKW.out HN.out)).mono ?_⟩
        rintro e w6 ⟨r, hl, rfl, h6, hb6, hfar6⟩
        have hL := h6.lines r (look_some hl).1
        have c6 : w6.cell? ⟨r.b, 0, none⟩ = some (.bool r.f) := blk_cell hL.cell 0
        have f6 : w6.frozen? ⟨r.b, 0, none⟩ = false := blk_frozen hL.cell 0
        obtain ⟨h7, hb7, hs7⟩ := h6.setF hl true
        have S7 := Aside0.mk ((Step.below HB.out).trans ((Step.at (p := p) (G := G) (k := k) hfar6 hb6.size).trans hs7))
        have hD6 := (hfar6 (w.heap.size + 2) (blk_lt HD.out) (by have := HH.out.map.lt; omega)).trans HD.out
        have hD7 := (Below.heap_setCell w6 ⟨r.b, 0, none⟩ (.bool true) (w.heap.size + 2) (by rintro e; rw [e] at hD6; rw [hL.cell] at hD6; cases hD6)).trans hD6
        have H7 := Aside0.mk h7
        have B6 := Aside0.mk hb6
        have B7 := Aside0.mk hb7
        have D7 := Aside0.mk hD7
        clear hl h6 hb6 hfar6 hL h7 hb7 hD6 hD7 hs7
        gi_wp2
        refine ⟨by simp, .inl ⟨_, _, rfl, run_takeDeferred D7.out, ?_⟩⟩
        refine ⟨_, results_tmp rfl _ _ _, .inr ⟨fun hc => ?_, rfl, ?_, _, H7.out.putDef D7.out _, ?_⟩⟩
        · rcases hc with hc | hc
          · rw [HF2.out] at hc
            cases hc
          · exact HC.out hc
        · have h1 : Below base w5 ((w6.setCell ⟨r.b, 0, none⟩ (.bool true)).putObj (w.heap.size + 2) (.deferred none)) := (B6.out.trans B7.out).trans (belowK_b (w := w) (n₀ := base) HS.out _ _ _ _ (by omega) D7.out rfl rfl)
          exact (HB.out.mono HS.out).trans h1
        · have hS := S7.out
          exact ⟨fun j hj hn => (World.putObj_heap_other (by omega)).trans (hS.far j hj hn), hS.foot, by have := hS.size; simpa using this⟩
end Go.Proofs.Ytdeagfjfipbniaa.F
