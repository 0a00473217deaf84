/- The first notice, taken. -/
import Derived.Test.YtdeagfjfipbniaaF4
set_option linter.unusedSimpArgs false
set_option linter.unusedVariables false
namespace Go.Proofs.Ytdeagfjfipbniaa.F
open Go.RowKit Go.Proofs.YtdeagfjfipbniaaW.PrintWords Go.Proofs.YtdeagfjfipbniaaW.PrintLast Go.Proofs.YtdeagfjfipbniaaW.PrintMore

def cutQ (v : Value) (r : Row) : Row := { r with v := v, q := r.q.tail }
theorem cutQ_leaves (v : Value) : Leaves (cutQ v) := ⟨fun _ => rfl, fun _ => rfl⟩
def noNote : Note := ⟨0, 0, 0, ⟨#[]⟩, none, 0, 0⟩
/-- A block that is none of the feed's. -/
structure Off (w : World) (g : Nat) (p mb : Nat) (G : List Row) : Prop where
  p : g ≠ p
  m : g ≠ mb
  r : ∀ r ∈ G, g ≠ r.b ∧ r.v.ownBlock ≠ some g
theorem FeedAt.off {base p mb n : Nat} {w w' : World} {room : Int} {G : List Row} (h : FeedAt base w p room mb n G) {g : Nat} (ho : Off w g p mb G) (hk : ∀ j, j < w.heap.size → j ≠ g → w'.heap[j]? = w.heap[j]?) : FeedAt base w' p room mb n G where
  pb := h.pb
  mbb := h.mbb
  feed := (hk p (blk_lt h.feed) (fun e => ho.p e.symm)).trans h.feed
  map := map_move h.map (by obtain ⟨_, _, hm⟩ := map_at h.map; exact hk mb (blk_lt hm) (fun e => ho.m e.symm))
  rising := h.rising
  lines := fun r hr => by
    have hL := h.lines r hr
    exact hL.move (hk _ (blk_lt hL.cell) (fun e => (ho.r r hr).1 e.symm)) fun k hk' => hk k (q_lt hL.row k hk') (fun e => (ho.r r hr).2 (by rw [hk', e]))
  apart := h.apart
/-- Five cells written. -/
theorem five {w : World} {g : Nat} {t : TypeId} {a0 a1 a2 a3 a4 : Value} (h : w.heap[g]? = some (.cells #[a0, a1, a2, a3, a4] t (0, 0))) (x0 x1 x2 x3 x4 : Value) :
    (((((w.setCell ⟨g, 0, none⟩ x0).setCell ⟨g, 1, none⟩ x1).setCell ⟨g, 2, none⟩ x2).setCell ⟨g, 3, none⟩ x3).setCell ⟨g, 4, none⟩ x4).heap[g]? = some (.cells #[x0, x1, x2, x3, x4] t (0, 0)) :=
  blk_put (blk_put (blk_put (blk_put (blk_put h 0 x0 rfl) 1 x1 rfl) 2 x2 rfl) 3 x3 rfl) 4 x4 rfl
theorem five_far (w : World) (g : Nat) (x0 x1 x2 x3 x4 : Value) (j : Nat) (hj : j ≠ g) :
    (((((w.setCell ⟨g, 0, none⟩ x0).setCell ⟨g, 1, none⟩ x1).setCell ⟨g, 2, none⟩ x2).setCell ⟨g, 3, none⟩ x3).setCell ⟨g, 4, none⟩ x4).heap[j]? = w.heap[j]? :=
  (Below.heap_setCell _ _ _ j hj).trans ((Below.heap_setCell _ _ _ j hj).trans ((Below.heap_setCell _ _ _ j hj).trans ((Below.heap_setCell _ _ _ j hj).trans (Below.heap_setCell _ _ _ j hj))))
theorem five_below {base : Nat} (w : World) (g : Nat) (x0 x1 x2 x3 x4 : Value) (hg : base ≤ g) :
    Below base w (((((w.setCell ⟨g, 0, none⟩ x0).setCell ⟨g, 1, none⟩ x1).setCell ⟨g, 2, none⟩ x2).setCell ⟨g, 3, none⟩ x3).setCell ⟨g, 4, none⟩ x4) :=
  ((((((Below.refl base w).setCell (p := ⟨g, 0, none⟩) hg x0).setCell (p := ⟨g, 1, none⟩) hg x1).setCell (p := ⟨g, 2, none⟩) hg x2).setCell (p := ⟨g, 3, none⟩) hg x3).setCell (p := ⟨g, 4, none⟩) hg x4)
theorem q_addr {w : World} {base n c size : Nat} {e : TypeId} {ad : Addr} {xs : List Value} (h : QRow w base e size (.slice (some ad) n c) n xs) (hn : 0 < n) : ∃ g o, ad = ⟨g, o, none⟩ := by
  rcases h.2 with ⟨h0, _⟩ | ⟨g, off, cap, cur, he, _⟩
  · omega
  · injection he with he
    injection he with he
    exact ⟨g, off * size, he⟩
theorem mem_tidy {k : Int} {G : List Row} {s : Row} (h : s ∈ tidyG k G) : s ∈ G := by
  unfold tidyG at h
  split at h
  · split at h
    · exact (List.mem_filter.1 h).1
    · exact h
  · exact h
theorem sizeNotice : (Try.prog.info? 31).map (·.size) = some 5 := by kernel_rfl
set_option maxRecDepth 100000 in
theorem pop_calls (base p mb n : Nat) (w : World) (room : Int) (G : List Row) (k : Int) (h : FeedAt base w p room mb n G) (hk : wfI k) :
    Calls Try.prog 14 #[.pointer (some ⟨p, 0, none⟩), .int .i64 k] w fun e w' =>
      (waits (look k G) = 0 ∧ e = .returned (.tuple #[.agg noNote.cells.toArray, .bool false]) ∧ FeedAt base w' p room mb n G ∧ Below base w w' ∧ Step p mb G w G w') ∨
      (∃ r v x, look k G = some r ∧ r.q.head? = some x ∧ e = .returned (.tuple #[.agg x.cells.toArray, .bool true]) ∧ FeedAt base w' p room mb n (tidyG k (upd k (cutQ v) G)) ∧ Below base w w' ∧ Step p mb G w (tidyG k (upd k (cutQ v) G)) w') := by
  have HS := Aside0.mk h.size
  have HH := Aside0.mk h
  go_enter Try.func14, Try.ntmps14
  obtain ⟨w0, hw0⟩ : ∃ w0, w.alloc (.cells #[.int .i64 0, .int .i64 0, .int .i64 0, .string ⟨#[]⟩, .slice none 0 0] 31) = w0 := ⟨_, rfl⟩
  have hb0 : Below w.heap.size w w0 := by rw [← hw0]; exact (Below.refl _ w).alloc (Nat.le_refl _) _
  have h0 := h.later hb0
  have hr0 : w0.heap[w.heap.size]? = some (.cells #[.int .i64 0, .int .i64 0, .int .i64 0, .string ⟨#[]⟩, .slice none 0 0] 31 (0, 0)) := by rw [← hw0]; exact heap_alloc_new w _
  have c1 : w0.cell? ⟨p, 1, none⟩ = some (.map (some mb)) := blk_cell h0.feed 1
  have B0 := Aside0.mk hb0
  have H0 := Aside0.mk h0
  have hsz0 : w0.heap.size = w.heap.size + 1 := by rw [← hw0]; simp
  have SZ0 := Aside0.mk hsz0
  have R0 := Aside0.mk hr0
  have d0 : w0.cell? ⟨w.heap.size, 0, none⟩ = some (.int .i64 0) := blk_cell hr0 0
  have d1 : w0.cell? ⟨w.heap.size, 1, none⟩ = some (.int .i64 0) := blk_cell hr0 1
  have d2 : w0.cell? ⟨w.heap.size, 2, none⟩ = some (.int .i64 0) := blk_cell hr0 2
  have d3 : w0.cell? ⟨w.heap.size, 3, none⟩ = some (.string ⟨#[]⟩) := blk_cell hr0 3
  have d4 : w0.cell? ⟨w.heap.size, 4, none⟩ = some (.slice none 0 0) := blk_cell hr0 4
  have e0 : w0.frozen? ⟨w.heap.size, 0, none⟩ = false := blk_frozen hr0 0
  have e1 : w0.frozen? ⟨w.heap.size, 1, none⟩ = false := blk_frozen hr0 1
  have e2 : w0.frozen? ⟨w.heap.size, 2, none⟩ = false := blk_frozen hr0 2
  have e3 : w0.frozen? ⟨w.heap.size, 3, none⟩ = false := blk_frozen hr0 3
  have e4 : w0.frozen? ⟨w.heap.size, 4, none⟩ = false := blk_frozen hr0 4
  have none_end : waits (look k G) = 0 → ∀ (tmps : Array Value), tmps.getD 4 undef = .pointer (some ⟨w.heap.size, 0, none⟩) → tmps.getD 5 undef = .bool false → ∀ (Q : Ending → World → Prop),
      (∀ w', (e : Ending) → (waits (look k G) = 0 ∧ e = .returned (.tuple #[.agg noNote.cells.toArray, .bool false]) ∧ FeedAt base w' p room mb n G ∧ Below base w w' ∧ Step p mb G w G w') → Q e w') →
      bodyPost Try.prog Try.f14 Q Exit.ret { tmps, defers := [] } (((((w0.setCell ⟨w.heap.size, 0, none⟩ (.int .i64 0)).setCell ⟨w.heap.size, 1, none⟩ (.int .i64 0)).setCell ⟨w.heap.size, 2, none⟩ (.int .i64 0)).setCell ⟨w.heap.size, 3, none⟩ (.string ⟨#[]⟩)).setCell ⟨w.heap.size, 4, none⟩ (.slice none 0 0)) := by
    intro hz tmps h4 h5 Q hQ
    refine bodyPost_ret (results_ct rfl tmps _ w.heap.size 31 _ (0, 0) _ h4 (five R0.out _ _ _ _ _) Try.underlying31 rfl sizeNotice) rfl ?_
    rw [h5]
    exact hQ _ _ ⟨hz, rfl, HH.out.later (B0.out.trans (five_below _ _ _ _ _ _ _ (Nat.le_refl _))), (B0.out.trans (five_below _ _ _ _ _ _ _ (Nat.le_refl _))).mono HS.out, .below (B0.out.trans (five_below _ _ _ _ _ _ _ (Nat.le_refl _)))⟩
  have NE := Aside0.mk none_end
  clear none_end
  rcases h0.look_ok hk with ⟨r, hl, hr⟩ | ⟨hl, hr⟩
  · have hL := h0.lines r (look_some hl).1
    have c2 : w0.cell? ⟨r.b, 1, none⟩ = some r.v := blk_cell hL.cell 1
    obtain ⟨A, c, hv, hc⟩ := q_slice hL.row
    rw [hv] at c2
    have HL := Aside0.mk hl
    have LL := Aside0.mk hL
    have HV := Aside0.mk hv
    have HC := Aside0.mk hc
    by_cases hz : r.n = 0
    · rw [hz] at c2
      have HZ := Aside0.mk hz
      clear hb0 h0 hsz0 hr0 hl hL hv hc hz h
      go_wp2
      exact NE.out (by rw [HL.out]; exact HZ.out) _ rfl rfl _ fun _ _ h => .inl h
    · obtain ⟨x, rest, hxq⟩ : ∃ x rest, r.q = x :: rest := by
        cases hqq : r.q with
        | nil => exact absurd (by simp [Row.n, hqq]) hz
        | cons x t => exact ⟨x, t, rfl⟩
      have hxs : r.xs = x.cells ++ rest.flatMap Note.cells := by simp [Row.xs, hxq]
      have hq := hL.row
      have hn1 : 0 < r.n := by omega
      rw [hv] at hq
      obtain ⟨ad, rfl, hcells⟩ := q_cells hq hn1
      obtain ⟨g, o, rfl⟩ := q_addr hq hn1
      rw [hxs] at hcells
      have k0 : w0.cell? ⟨g, o, none⟩ = some (.int .i64 x.s) := (add_at g o 0) ▸ hcells 0 _ rfl
      have k1 : w0.cell? ⟨g, o + 1, none⟩ = some (.int .i64 x.e) := (add_at g o 1) ▸ hcells 1 _ rfl
      have k2 : w0.cell? ⟨g, o + 2, none⟩ = some (.int .i64 x.b) := (add_at g o 2) ▸ hcells 2 _ rfl
      have k3 : w0.cell? ⟨g, o + 3, none⟩ = some (.string x.r) := (add_at g o 3) ▸ hcells 3 _ rfl
      have k4 : w0.cell? ⟨g, o + 4, none⟩ = some (.slice x.A x.m x.c) := (add_at g o 4) ▸ hcells 4 _ rfl
      obtain ⟨A2, hA2⟩ : ∃ A2, (if c = 1 then some (⟨g, o, none⟩ : Addr) else (some (⟨g, o, none⟩ : Addr)).map (·.add (1 * 5))) = A2 := ⟨_, rfl⟩
      obtain ⟨i0, hi0, hzz⟩ := Option.map_eq_some_iff.1 sizeNotice
      have hsl : ∀ W : World, (Instr.slice 56 (.slice (some ⟨g, o, none⟩) r.n c) (some (.int .i64 1)) none none).run Try.prog W = .ok (.slice A2 (r.n - 1) (c - 1)) W := fun W => by
        rw [← hA2]
        exact cut_from 56 31 .i64 Try.underlying56 hi0 5 hzz _ _ _ 1 (by decide) (by omega) W
      have hq2 := q_drop (k := 1) hq hn1
      rw [hA2, hxs] at hq2
      obtain ⟨w1, hw1⟩ : ∃ w1, w0.alloc (.cells #[.int .i64 x.s, .int .i64 x.e, .int .i64 x.b, .string x.r, .slice x.A x.m x.c] 31) = w1 := ⟨_, rfl⟩
      have hb1 : Below w0.heap.size w0 w1 := by rw [← hw1]; exact (Below.refl _ _).alloc (Nat.le_refl _) _
      have h1 := h0.later hb1
      have hL1 := h1.lines r (look_some hl).1
      have hN1 : w1.heap[w0.heap.size]? = some (.cells #[.int .i64 x.s, .int .i64 x.e, .int .i64 x.b, .string x.r, .slice x.A x.m x.c] 31 (0, 0)) := by rw [← hw1]; exact heap_alloc_new w0 _
      have c3 : w1.cell? ⟨r.b, 1, none⟩ = some (.slice (some ⟨g, o, none⟩) r.n c) := (blk_cell hL1.cell 1).trans (congrArg some hv)
      have f3 : w1.frozen? ⟨r.b, 1, none⟩ = false := blk_frozen hL1.cell 1
      obtain ⟨w2, hw2⟩ : ∃ w2, w1.setCell ⟨r.b, 1, none⟩ (.slice A2 (r.n - 1) (c - 1)) = w2 := ⟨_, rfl⟩
      have hoth : ∀ j, j ≠ r.b → w2.heap[j]? = w1.heap[j]? := fun j hj => by rw [← hw2]; exact Below.heap_setCell w1 _ _ j hj
      have hown2 : ∀ j, (Value.slice A2 (r.n - 1) (c - 1)).ownBlock = some j → r.v.ownBlock = some j := fun j hj => by
        rw [hv]
        rw [← hA2] at hj
        split at hj
        · exact hj
        · rw [Option.map_some, add_at] at hj; exact hj
      have h2 : FeedAt base w2 p room mb n (upd k (cutQ (.slice A2 (r.n - 1) (c - 1))) G) := by
        refine h1.turn hl (cutQ_leaves _) (fun j hj hne _ => hoth j hne) ⟨hL1.bb, hL1.wf, ?_, ?_⟩ fun j hj => .inl (hown2 j hj)
        · rw [← hw2]; exact blk_put hL1.cell 1 _ rfl
        · have e1 : (cutQ (.slice A2 (r.n - 1) (c - 1)) r).n = r.n - 1 := by simp [cutQ, Row.n]
          have e2 : (cutQ (.slice A2 (r.n - 1) (c - 1)) r).xs = (x.cells ++ rest.flatMap Note.cells).drop (1 * 5) := by simp [cutQ, Row.xs, hxq]; rfl
          rw [e1, e2]
          refine q_move hq2 fun j hj => ?_
          have hj2 := q_lt hq2 j hj
          refine (hoth j ?_).trans (hb1.block j hj2)
          rintro rfl
          obtain ⟨cc, hcc⟩ := (q_typed hq2 _ hj).2
          exact two_types hL.cell hcc (by decide) rfl
      have hs2 : Step p mb G w (upd k (cutQ (.slice A2 (r.n - 1) (c - 1))) G) w2 := .turn (fun s hs e => by
          have e2 := look_mem HH.out.rising hs
          rw [e, hl] at e2
          injection e2 with e2
          rw [← e2]
          exact ⟨rfl, fun j hj => .inl (hown2 j hj)⟩) (fun j hj hn => (hoth j (fun e => hn (.inr (.inr ⟨r, (look_some hl).1, .inl e.symm⟩)))).trans ((hb1.block j (by omega)).trans (hb0.block j hj))) (by rw [← hw2]; have := hb1.size; simp only [World.setCell, Array.size_modify]; omega)
      have S2 := Aside0.mk hs2
      have hb2 : Below base w w2 := by
        rw [← hw2]
        exact (((hb0.mono HS.out).trans (hb1.mono (by rw [SZ0.out]; have := HS.out; omega)))).setCell (p := ⟨r.b, 1, none⟩) hL1.bb _
      have hne : r.b < w.heap.size := blk_lt (HH.out.lines r (look_some hl).1).cell
      have hR2 : w2.heap[w.heap.size]? = some (.cells #[.int .i64 0, .int .i64 0, .int .i64 0, .string ⟨#[]⟩, .slice none 0 0] 31 (0, 0)) := (hoth _ (by omega)).trans ((hb1.block _ (by omega)).trans hr0)
      have hN2 := (hoth w0.heap.size (by omega)).trans hN1
      have hmb : mb < w.heap.size := by obtain ⟨_, _, hm⟩ := map_at HH.out.map; exact blk_lt hm
      have H2 := Aside0.mk h2
      have B2 := Aside0.mk hb2
      have R2 := Aside0.mk hR2
      have N2 := Aside0.mk hN2
      have MB := Aside0.mk hmb
      have SZ0' := Aside0.mk hsz0
      have XQ := Aside0.mk hxq
      have O2 := Aside0.mk hown2
      have hn1' : ¬ ((r.n : Int) = 0) := by omega
      have hn1'' : (0 : Int) < (r.n : Int) := by omega
      clear hb0 h0 hsz0 hr0 hl hL hv hc hz h hq hcells hi0 hzz hq2 hxq hxs hA2 hn1 hb1 h1 hL1 hN1 h2 hb2 hoth hown2 hne hR2 hN2 hmb hs2
      go_wp2_with (go_at_call 21; fail)
      refine (tidy_calls base p mb n w2 room _ k H2.out hk).mono ?_
      rintro e w3 ⟨rfl, h3, hb3, hfar⟩
      have hR3 := (hfar w.heap.size (by have := MB.out; omega)).trans R2.out
      have hN3 := (hfar w0.heap.size (by have := MB.out; rw [SZ0.out]; omega)).trans N2.out
      have t0 : w3.cell? ⟨w0.heap.size, 0, none⟩ = some (.int .i64 x.s) := blk_cell hN3 0
      have t1 : w3.cell? ⟨w0.heap.size, 1, none⟩ = some (.int .i64 x.e) := blk_cell hN3 1
      have t2 : w3.cell? ⟨w0.heap.size, 2, none⟩ = some (.int .i64 x.b) := blk_cell hN3 2
      have t3 : w3.cell? ⟨w0.heap.size, 3, none⟩ = some (.string x.r) := blk_cell hN3 3
      have t4 : w3.cell? ⟨w0.heap.size, 4, none⟩ = some (.slice x.A x.m x.c) := blk_cell hN3 4
      have g0 : w3.cell? ⟨w.heap.size, 0, none⟩ = some (.int .i64 0) := blk_cell hR3 0
      have g1 : w3.cell? ⟨w.heap.size, 1, none⟩ = some (.int .i64 0) := blk_cell hR3 1
      have g2 : w3.cell? ⟨w.heap.size, 2, none⟩ = some (.int .i64 0) := blk_cell hR3 2
      have g3 : w3.cell? ⟨w.heap.size, 3, none⟩ = some (.string ⟨#[]⟩) := blk_cell hR3 3
      have g4 : w3.cell? ⟨w.heap.size, 4, none⟩ = some (.slice none 0 0) := blk_cell hR3 4
      have z0 : w3.frozen? ⟨w.heap.size, 0, none⟩ = false := blk_frozen hR3 0
      have z1 : w3.frozen? ⟨w.heap.size, 1, none⟩ = false := blk_frozen hR3 1
      have z2 : w3.frozen? ⟨w.heap.size, 2, none⟩ = false := blk_frozen hR3 2
      have z3 : w3.frozen? ⟨w.heap.size, 3, none⟩ = false := blk_frozen hR3 3
      have z4 : w3.frozen? ⟨w.heap.size, 4, none⟩ = false := blk_frozen hR3 4
      have S3 := Aside0.mk (Step.tidy (p := p) k (upd k (cutQ (.slice A2 (r.n - 1) (c - 1))) G) hfar hb3.size)
      have H3 := Aside0.mk h3
      have B3 := Aside0.mk hb3
      have R3 := Aside0.mk hR3
      clear h3 hb3 hfar hR3 hN3
      go_wp2
      refine bodyPost_ret (results_ct rfl _ _ w.heap.size 31 _ (0, 0) _ rfl (five R3.out _ _ _ _ _) Try.underlying31 rfl sizeNotice) rfl ?_
      refine .inr ⟨r, _, x, HL.out, by rw [XQ.out]; rfl, rfl, H3.out.off (g := w.heap.size) ⟨?_, ?_, fun s hs => ?_⟩ (fun j _ hj => five_far _ _ _ _ _ _ _ j hj), (B2.out.trans B3.out).trans (five_below _ _ _ _ _ _ _ HS.out), ?_⟩
      · have := blk_lt HH.out.feed
        omega
      · have := MB.out
        omega
      · obtain ⟨s0, hs0, rfl⟩ := List.mem_map.1 (mem_tidy hs)
        have hS0 := HH.out.lines s0 hs0
        have hb := blk_lt hS0.cell
        by_cases e : s0.k = k
        · have e2 := look_mem HH.out.rising hs0
          rw [e, HL.out] at e2
          injection e2 with e2
          rw [if_pos e, ← e2]
          rw [← e2] at hS0 hb
          refine ⟨fun h => ?_, fun h => ?_⟩
          · rw [(cutQ_leaves _).b] at h
            omega
          · have := q_lt hS0.row _ (O2.out _ h)
            omega
        · rw [if_neg e]
          exact ⟨by omega, fun h => by have := q_lt hS0.row _ h; omega⟩
      · have hS := S2.out.trans S3.out
        exact ⟨fun j hj hn => (five_far _ _ _ _ _ _ _ j (by omega)).trans (hS.far j hj hn), hS.foot, by have := hS.size; simpa [World.setCell] using this⟩
  · have HL := Aside0.mk hl
    clear hb0 h0 hsz0 hr0 hl h
    go_wp2
    exact NE.out (by rw [HL.out]; rfl) _ rfl rfl _ fun _ _ h => .inl h
end Go.Proofs.Ytdeagfjfipbniaa.F
