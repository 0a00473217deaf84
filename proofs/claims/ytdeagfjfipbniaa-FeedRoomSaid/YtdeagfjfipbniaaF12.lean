/- Push. -/
import Derived.Test.YtdeagfjfipbniaaF10
set_option linter.unusedSimpArgs false
set_option linter.unusedVariables false
namespace Go.Proofs.Ytdeagfjfipbniaa.F
open Go.RowKit Go.Maps Go.Sort Go.Shelf Go.Proofs.YtdeagfjfipbniaaW.PrintWords Go.Proofs.YtdeagfjfipbniaaW.PrintLast Go.Proofs.YtdeagfjfipbniaaW.PrintMore
attribute [local go_sem] Oper.semAt_some

set_option maxRecDepth 100000 in
set_option maxHeartbeats 4000000 in
theorem push_in (base p mb n : Nat) (w : World) (room : Int) (G : List Row) (x : Note) (h : FeedAt base w p room mb n G) (hn : n < 1000000) (hr1 : 1 ≤ room) (hr4 : room ≤ 4) (hq : ∀ r ∈ G, r.n ≤ 100) :
    CallsIn Fence.wide 9 Try.prog 16 #[.pointer (some ⟨p, 0, none⟩), .agg x.cells.toArray] w fun e w' =>
      ∃ v G2, e = .returned v ∧ AllPushed room x G G2 ∧ FeedAt base w' p room mb n G2 ∧ Below base w w' ∧ w'.ownsRow w.heap.size 3 1 v (lagCells room G).length (lagCells room G) ∧ Step p mb G w G2 w' := by
  have HS := Aside0.mk h.size
  have HH := Aside0.mk h
  have HN := Aside0.mk hn
  have HQ := Aside0.mk hq
  have HR := Aside0.mk (And.intro hr1 hr4)
  clear h hn hq hr1 hr4
  refine callsIn_of_wp_marks Try.func16 rfl trivial ?_ rfl
  simp only [Try.ntmps16, List.size_toArray, List.length_cons, List.length_nil, Nat.reduceAdd, Nat.reduceSub, Array.replicate_succ, Array.replicate_zero, List.push_toArray, List.append_toArray, List.nil_append, List.cons_append]
  gi_wp2_with (gi_at_call 22; fail)
  refine ⟨trivial, (callsIn_wide.2 (lines_calls _ p)).mono ?_⟩
  rintro e w4 ⟨rfl, hw4⟩
  have hsz4 : w4.heap.size = w.heap.size + 4 := by rw [hw4]; simp
  have hbl : Below w.heap.size w w4 := by rw [hw4]; exact ((((Below.refl _ w).alloc (Nat.le_refl _) _).alloc (by simp) _).alloc (by simp; omega) _).alloc (by simp; omega) _
  obtain ⟨hb0, hb1, hb2, hb3⟩ := boxes4 w (.cells #[.pointer (some ⟨p, 0, none⟩)] 24) (.cells x.cells.toArray 31) (.cells #[.slice none 0 0] 27) (.cells #[.pointer (some ⟨p, 0, none⟩)] 24)
  have hsz3 : (((w.alloc (.cells #[.pointer (some ⟨p, 0, none⟩)] 24)).alloc (.cells x.cells.toArray 31)).alloc (.cells #[.slice none 0 0] 27)).heap.size = w.heap.size + 3 := by simp
  rw [hsz3]
  rw [← hw4] at hb0 hb1 hb2 hb3
  have h4 : FeedAt base w4 p room mb n G := HH.out.later hbl
  have hlp := blk_lt HH.out.feed
  have hlm := HH.out.map.lt
  have HLP := Aside0.mk (And.intro hlp hlm)
  have HOA : Aside0 (∀ gs, OursAll w.heap.size gs G) := ⟨fun gs r hr => ⟨blk_lt (HH.out.lines r hr).cell, fun k hk => .inl (q_lt (HH.out.lines r hr).row k hk)⟩⟩
  clear hw4 hsz3 hlp hlm
  gi_wp2
  refine range_lines (fb := w.heap.size + 3) rfl h4 (by have := HN.out; omega) hb3 (fun gs pre W => PushI base p mb n room x G w gs pre W) ?_ ?_
    (fun r => { tmps := #[.pointer (some ⟨p, 0, none⟩), .agg x.cells.toArray, .pointer (some ⟨w.heap.size, 0, none⟩), .pointer (some ⟨w.heap.size + 1, 0, none⟩), .slice none 0 0, .pointer (some ⟨w.heap.size + 1 + 1, 0, none⟩), .int .i64 r.k, .pointer (some ⟨r.b, 0, none⟩), undef, .pointer (some ⟨p, 0, none⟩), .func (.func 28) #[] #[.pointer (some ⟨w.heap.size + 3, 0, none⟩)], .int .i64 r.k, .pointer (some ⟨r.b, 0, none⟩), undef, undef, undef, undef, undef, undef, undef, undef, undef, undef, undef, undef, undef, undef, undef, undef, undef, undef, undef, undef, undef, undef, undef, undef, undef, undef, undef, undef, undef, undef, undef, undef, undef, undef, undef, undef, undef, undef, undef, undef, undef, undef], defers := [] }) ?assign ?body ?done
  · rintro gs pre W W' ⟨⟨G1, rest, hG, hA, hF, hO, hST⟩, hfb, ⟨s, hs⟩, ⟨v, hv, ho⟩, hb, hg⟩ hS
    rw [hsz4] at hS
    have hbs := hb.size
    have hlt := blk_lt hv
    have hso := HS.out
    refine ⟨⟨G1, rest, hG, hA, hF.keepOn (Ours w.heap.size gs) (.inl HLP.out.1) (.inl HLP.out.2) (fun r hr => ⟨.inl (hO r hr).1, (hO r hr).2⟩) fun j hj hP => hS.block j hj (by rcases hP with h | h <;> omega) (by rcases hP with h | h <;> omega), hO, fun j hj hn => (hS.block j (by omega) (by omega) (by omega)).trans (hST.far j hj hn), hST.foot, Nat.le_trans hST.size hS.size⟩,
      (hS.block _ (by omega) (by omega) (by omega)).trans hfb, ⟨s, (hS.block _ (by omega) (by omega) (by omega)).trans hs⟩, ⟨v, (hS.block _ hlt (by omega) (by omega)).trans hv, own_move ho fun k hk => ?_⟩, ?_, hg⟩
    · have := ho.lt k hk
      exact hS.block k this.2 (by omega) (by omega)
    · exact hb.trans ⟨hS.os, hS.tape, hS.output, hS.size, fun k hk => hS.block k (by omega) (by omega) (by omega)⟩
  · intro gs W2 hb h1 h2
    rw [hsz4] at hb h1
    refine ⟨⟨[], G, rfl, .nil, h4.later (by rw [hsz4]; exact hb), HOA.out gs, .below (hbl.trans (hb.mono (by omega)))⟩, (hb.block _ (by omega)).trans hb0, ⟨x.s, (hb.block _ (by omega)).trans hb1⟩, ⟨.slice none 0 0, (hb.block _ (by omega)).trans hb2, World.ownsRow_nil _ _ _ _⟩, (hbl.mono HS.out).trans (hb.mono (by have := HS.out; omega)), h1⟩
  case assign =>
    intro l r W K hK
    gi_wp2
    exact hK
  case body =>
    rintro l gs pre r rest W hg1 hg2 hsplit ⟨⟨G1, rest1, hG, hA, hF, hO, hST⟩, hfb, ⟨s, hs⟩, ⟨v, hv, ho⟩, hb, hg⟩ hlt hrec hdef
    rw [hsz4] at hg1 hlt hrec hdef ⊢
    obtain rfl : r :: rest = rest1 := List.append_cancel_left (hsplit.symm.trans hG)
    have hmem : r ∈ G1 ++ r :: rest := by simp
    have hL := hF.lines r hmem
    have c1 : W.cell? ⟨r.b, 0, none⟩ = some (.bool r.f) := blk_cell hL.cell 0
    have c0 : W.cell? ⟨w.heap.size, 0, none⟩ = some (.pointer (some ⟨p, 0, none⟩)) := blk_cell hfb 0
    have HF := Aside0.mk hF
    have HO := Aside0.mk hO
    have HST := Aside0.mk hST
    have HL := Aside0.mk hL
    have HA := Aside0.mk hA
    have HSP := Aside0.mk hsplit
    have HFB := Aside0.mk hfb
    have HN0 := Aside0.mk hs
    have HV := Aside0.mk hv
    have HOW := Aside0.mk ho
    have HB := Aside0.mk hb
    have HLT := Aside0.mk (And.intro hlt (And.intro hg1 hg2))
    have HDF := Aside0.mk hdef
    clear hg1 hg2 hsplit hG hA hF hO hST hfb hs hv ho hb hg hlt hrec hdef hmem hL
    by_cases hf : r.f = true
    · rw [hf] at c1
      have HF2 := Aside0.mk hf
      have hrq : r.n ≤ 100 := HQ.out r (by rw [HSP.out]; simp)
      have hso := HS.out
      obtain ⟨W1, hW1⟩ : ∃ W1, W.setCell ⟨w.heap.size + 1, 0, none⟩ (.int .i64 r.k) = W1 := ⟨_, rfl⟩
      have hfar1 : ∀ j, j ≠ w.heap.size + 1 → W1.heap[j]? = W.heap[j]? := fun j hj => by rw [← hW1]; exact Below.heap_setCell W _ _ j hj
      have hsz1 : W1.heap.size = W.heap.size := by rw [← hW1]; simp [World.setCell]
      have hg6 := HLT.out.2.1
      have hgW := HLT.out.2.2
      have hM1 : Mid G base p mb n room x w gs pre v G1 r rest W W1 :=
        ⟨HF.out.keepOn (Ours w.heap.size gs) (.inl HLP.out.1) (.inl HLP.out.2) (fun r hr => ⟨.inl (HO.out r hr).1, (HO.out r hr).2⟩) fun j hj hP => hfar1 j (by rcases hP with h | h <;> omega), HO.out,
          ⟨hfar1 _ (by omega), hfar1 _ (by omega), by omega, hfar1 _ (by omega), hfar1 _ (by have := HLP.out.1; omega), hfar1 _ (by have := HLP.out.2; omega), hfar1 _ (by omega)⟩, (hfar1 _ (by omega)).trans HFB.out, by rw [← hW1]; exact blk_put HN0.out 0 _ rfl, (hfar1 _ (by omega)).trans HV.out,
          own_move HOW.out fun k hk => hfar1 k (by have := (HOW.out.lt k hk).1; omega), by rw [← hW1]; exact HB.out.setCell (p := ⟨w.heap.size + 1, 0, none⟩) (by show base ≤ w.heap.size + 1; omega) _,
          fun j hj hn => (hfar1 j (by omega)).trans (HST.out.far j hj hn), HST.out.foot, by have := HST.out.size; omega⟩
      have hL1 := hM1.feed.lines r (by simp)
      obtain ⟨A, c, hv, hc⟩ := q_slice hL1.row
      have n0 : W.cell? ⟨w.heap.size + 1, 0, none⟩ = some (.int .i64 s) := blk_cell HN0.out 0
      have m0 : W.frozen? ⟨w.heap.size + 1, 0, none⟩ = false := blk_frozen HN0.out 0
      have d0 : W1.cell? ⟨w.heap.size, 0, none⟩ = some (.pointer (some ⟨p, 0, none⟩)) := blk_cell hM1.fbox 0
      have d1 : W1.cell? ⟨p, 0, none⟩ = some (.int .i64 room) := blk_cell hM1.feed.feed 0
      have d3 : W1.cell? ⟨r.b, 1, none⟩ = some (.slice A r.n c) := by have := blk_cell hL1.cell 1; rw [hv] at this; exact this
      have M1 := Aside0.mk hM1
      have Z1 := Aside0.mk hsz1
      clear hM1 hL1 hv hfar1 hsz1 hc hf
      have hrq' : (r.n : Int) ≤ 100 := by omega
      have hr1 := HR.out.1
      have hr4 := HR.out.2
      have hmx : Try.prog.follows .mixedOrders = true := by kernel_rfl
      gi_wp2
      have HW1 := Aside0.mk hW1
      clear hW1 n0 m0 c0 c1
      refine wpIn_mono (Q := fun e a' w' => e = .normal ∧ w' = W1.drew ∧ a' = { tmps := #[.pointer (some ⟨p, 0, none⟩), .agg x.cells.toArray, .pointer (some ⟨w.heap.size, 0, none⟩), .pointer (some ⟨w.heap.size + 1, 0, none⟩), .slice none 0 0, .pointer (some ⟨w.heap.size + 1 + 1, 0, none⟩), .int .i64 r.k, .pointer (some ⟨r.b, 0, none⟩), .int .i64 (IntKind.i64.wrap (↑r.n - room)), .pointer (some ⟨p, 0, none⟩), .func (.func 28) #[] #[.pointer (some ⟨w.heap.size + 3, 0, none⟩)],
        .int .i64 r.k, .pointer (some ⟨r.b, 0, none⟩), .pointer (some ⟨r.b, 0, none⟩), .pointer (some ⟨r.b, 0, none⟩), .pointer (some ⟨r.b, 0, none⟩), .bool true, .bool false, .int .i64 r.k, .pointer (some ⟨w.heap.size + 1, 0, none⟩), .pointer (some ⟨r.b, 0, none⟩), .pointer (some ⟨r.b, 0, none⟩), .pointer (some ⟨r.b, 1, none⟩), .slice A r.n c, .int .i64 r.n, .pointer (some ⟨p, 0, none⟩), .pointer (some ⟨p, 0, none⟩), .pointer (some ⟨p, 0, none⟩), .int .i64 room, .int .i64 (IntKind.i64.wrap (↑r.n - room)),
        undef, undef, undef, undef, undef, undef, undef, undef, undef, undef, undef, undef, undef, undef, undef, undef, undef, undef, undef, undef, undef, undef, undef, undef, undef], defers := [] }) ?_ ?_
      · gi_region_o
        all_goals exact ⟨rfl, rfl, rfl⟩
      rintro e a' w' ⟨rfl, rfl, rfl⟩
      obtain ⟨W2, hW2⟩ : ∃ W2, W1.drew = W2 := ⟨_, rfl⟩
      have hB2 : Below W1.heap.size W1 W2 := by rw [← hW2]; exact (Below.refl _ _).drew
      have hz2 : W2.heap.size = W.heap.size := by rw [← hW2, ← Z1.out]; rfl
      rw [hW2]
      have hM2 := M1.out.grow hg6 (by rw [Z1.out]; exact hgW) hB2 hso
      have hwr : IntKind.i64.wrap ((r.n : Int) - room) = (r.n : Int) - room := by rw [IntKind.wrap_i64]; omega
      dsimp only
      rw [hwr]
      have hL2 := hM2.feed.lines r (by simp)
      have k0 : W2.cell? ⟨w.heap.size + 1, 0, none⟩ = some (.int .i64 r.k) := blk_cell hM2.note 0
      have k1 : W2.cell? ⟨w.heap.size + 1, 1, none⟩ = some (.int .i64 x.e) := blk_cell hM2.note 1
      have k2 : W2.cell? ⟨w.heap.size + 1, 2, none⟩ = some (.int .i64 x.b) := blk_cell hM2.note 2
      have k3 : W2.cell? ⟨w.heap.size + 1, 3, none⟩ = some (.string x.r) := blk_cell hM2.note 3
      have k4 : W2.cell? ⟨w.heap.size + 1, 4, none⟩ = some (.slice x.A x.m x.c) := blk_cell hM2.note 4
      have d2 : W2.cell? ⟨r.b, 0, none⟩ = some (.bool true) := by have := blk_cell hL2.cell 0; rw [HF2.out] at this; exact this
      have d4 : W2.frozen? ⟨r.b, 0, none⟩ = false := blk_frozen hL2.cell 0
      have M2 := Aside0.mk hM2
      have Z2 := Aside0.mk hz2
      clear hM2 hL2 hz2 hB2 hwr hmx hW2 d0 d1 d3
      by_cases hlt1 : (r.n : Int) < room
      · have hneg : (r.n : Int) - room < 0 := by omega
        obtain ⟨W3, hW3⟩ : ∃ W3, W2.alloc (.cells #[.int .i64 r.k, .int .i64 x.e, .int .i64 x.b, .string x.r, .slice x.A x.m x.c] 31) = W3 := ⟨_, rfl⟩
        have hB3 : Below W2.heap.size W2 W3 := by rw [← hW3]; exact (Below.refl _ _).alloc (Nat.le_refl _) _
        have hM3 := M2.out.grow hg6 (by rw [Z2.out]; exact hgW) hB3 hso
        have hC3 : W3.heap[W2.heap.size]? = some (Obj.cells #[.int .i64 r.k, .int .i64 x.e, .int .i64 x.b, .string x.r, .slice x.A x.m x.c] 31 (0, 0)) := by rw [← hW3]; exact heap_alloc_new W2 _
        have hcp := put_calls base p mb n W3 room _ r { x with s := r.k } ⟨W2.heap.size, 0, none⟩ hM3.feed (by simp) (by omega) (fun j u hu => by
          rw [add_at, Nat.zero_add, blk_cell hC3 j, ← hu]
          rw [← Array.getElem?_toList]
          rfl)
        have M3 := Aside0.mk hM3
        have G3 : Aside0 (gs < W3.heap.size) := ⟨by have := hB3.size; rw [Z2.out] at this; omega⟩
        have CP := Aside0.mk hcp
        have LT1 := Aside0.mk hlt1
        clear hB3 hM3 hC3 hcp hlt1
        gi_wp2_with (gi_at_call 24; fail)
        refine ⟨trivial, ((callsIn_wide.2 CP.out).inRound l).mono ?_⟩
        rintro e W4 ⟨rfl, v2, hF4, hv4, hfar4, hb4⟩
        have M4 := Aside0.mk (M3.out.put hg6 G3.out v2 _ hF4 hv4 hfar4 hb4)
        clear hF4 hv4 hfar4 hb4
        gi_wp2
        have hla : lags room r = false := by have := LT1.out; simp [lags]; omega
        refine ⟨M4.out.still, ⟨G1 ++ [putQ v2 { x with s := r.k } r], rest, by rw [List.append_assoc]; exact HSP.out, HA.out.snoc (.put v2 HF2.out LT1.out), by rw [List.append_assoc]; exact M4.out.feed, by rw [List.append_assoc]; exact M4.out.ours, by rw [List.append_assoc]; exact M4.out.step⟩, M4.out.fbox, ⟨_, M4.out.note⟩, ⟨v, M4.out.lbox, ?_⟩, M4.out.below, hg6⟩
        rw [lag_snoc, hla]
        simpa using M4.out.lrow
      · by_cases heq1 : (r.n : Int) = room
        · have hz0 : ¬ ((r.n : Int) - room < 0) := by omega
          have hz1 : (r.n : Int) - room = 0 := by omega
          obtain ⟨W3, hW3⟩ : ∃ W3, W2.alloc (.cells #[.int .i64 r.k, .int .i64 11, .int .i64 x.b, .string ⟨#[]⟩, .slice none 0 0] 31) = W3 := ⟨_, rfl⟩
          have hB3 : Below W2.heap.size W2 W3 := by rw [← hW3]; exact (Below.refl _ _).alloc (Nat.le_refl _) _
          have hM3 := M2.out.grow hg6 (by rw [Z2.out]; exact hgW) hB3 hso
          have hC3 : W3.heap[W2.heap.size]? = some (Obj.cells #[.int .i64 r.k, .int .i64 11, .int .i64 x.b, .string ⟨#[]⟩, .slice none 0 0] 31 (0, 0)) := by rw [← hW3]; exact heap_alloc_new W2 _
          have hcp := put_calls base p mb n W3 room _ r (lagNote x r.k) ⟨W2.heap.size, 0, none⟩ hM3.feed (by simp) (by omega) (fun j u hu => by
            rw [add_at, Nat.zero_add, blk_cell hC3 j, ← hu]
            rw [← Array.getElem?_toList]
            rfl)
          have M3 := Aside0.mk hM3
          have G3 : Aside0 (gs < W3.heap.size) := ⟨by have := hB3.size; rw [Z2.out] at this; omega⟩
          have CP := Aside0.mk hcp
          have LT1 := Aside0.mk heq1
          have LA : Aside0 (lags room r = true) := ⟨by simp [lags, HF2.out]; omega⟩
          clear hB3 hM3 hC3 hcp heq1 hlt1
          gi_wp2_with (gi_at_call 24; fail)
          refine ⟨trivial, ((callsIn_wide.2 CP.out).inRound l).mono ?_⟩
          rintro e W4 ⟨rfl, v2, hF4, hv4, hfar4, hb4⟩
          have hM4 := M3.out.put hg6 G3.out v2 _ hF4 hv4 hfar4 hb4
          have hL4 := hM4.feed.lines (putQ v2 (lagNote x r.k) r) (by simp)
          have q0 : W4.cell? ⟨r.b, 0, none⟩ = some (.bool true) := by have := blk_cell hL4.cell 0; rw [show (putQ v2 (lagNote x r.k) r).f = true from HF2.out] at this; exact this
          have q1 : W4.frozen? ⟨r.b, 0, none⟩ = false := blk_frozen hL4.cell 0
          obtain ⟨W5, hW5⟩ : ∃ W5, W4.setCell ⟨r.b, 0, none⟩ (.bool false) = W5 := ⟨_, rfl⟩
          have hg4 : gs < W4.heap.size := Nat.lt_of_lt_of_le G3.out hb4.size
          have hM5 := hM4.stop hg6 hg4 hso
          rw [show (putQ v2 (lagNote x r.k) r).b = r.b from rfl, hW5] at hM5
          have M5 := Aside0.mk hM5
          have GG : Aside0 (gs < W5.heap.size) := ⟨by rw [← hW5]; simpa [World.setCell] using hg4⟩
          clear hF4 hv4 hfar4 hb4 hM4 hL4 hM5 hg4
          have ML := M5.out.lbox
          have u0 : W5.cell? ⟨w.heap.size + 1 + 1, 0, none⟩ = some v := blk_cell ML 0
          clear ML
          obtain ⟨i0, hi0, hzz⟩ := Option.map_eq_some_iff.1 infoInt
          simp only [Prod.mk.injEq] at hzz
          obtain ⟨hz0, hz1, hz2⟩ := hzz
          have HZ := Aside0.mk (And.intro hi0 (And.intro hz0 (And.intro hz1 hz2)))
          have LB : Aside0 ((lagCells room pre).length ≤ 1000000) := ⟨by
            have h1 : (lagCells room pre).length ≤ pre.length := by unfold lagCells; rw [List.length_map]; exact List.length_filter_le _ _
            have h2 : pre.length ≤ G.length := by rw [HSP.out]; simp
            have h3 := HH.out.map.size_le
            rw [datum_size] at h3
            have := HN.out
            omega⟩
          clear hi0 hz0 hz1 hz2
          gi_wp2_with (gi_at_builtin; refine wpListIn_append_own _ rfl _ _ 27 rfl (gs + 1) 3 i0 (.int .i64 0) 1 8 Try.underlying27 HZ.out.1 HZ.out.2.1 HZ.out.2.2.1 HZ.out.2.2.2 rfl (by decide) v (lagCells room pre).length (lagCells room pre) rfl (M5.out.lrow.alloc _) ⟨W5.heap.size, 0, none⟩ 1 1 [.int .i64 r.k] rfl rfl (cell_one_new _ _ _) (by simp [Value.oneCell']) (by have := LB.out; simp only [maxLen]; omega) (by have := LB.out; omega) (by have := GG.out; simp; omega) ?_; intro v' w1 hown' hgrow _; obtain ⟨g', cap', rfl⟩ := ownsRow_succ hown'; have MG := Aside0.mk (M5.out.grow hg6 GG.out ((Below.refl _ _).alloc (Nat.le_refl _) _) hso : Mid G base p mb n room x w gs pre v G1 _ rest W (W5.alloc (.cells #[.int .i64 r.k] 3))); have GL : Aside0 (gs < (W5.alloc (.cells #[.int .i64 r.k] 3)).heap.size) := ⟨by have := GG.out; simp; omega⟩; have hb1 := (hgrow.block (w.heap.size + 2) (by have := GL.out; omega) (fun e => by have := (MG.out.lrow.lt _ e.symm).1; omega)).trans MG.out.lbox; have c8 : w1.cell? ⟨w.heap.size + 1 + 1, 0, none⟩ = some v := blk_cell hb1 0; have f8 : w1.frozen? ⟨w.heap.size + 1 + 1, 0, none⟩ = false := blk_frozen hb1 0; have OW := Aside0.mk hown'; have GR := Aside0.mk hgrow; clear hown' hgrow hb1)
          exact MG.out.lagged hg6 GL.out hso HLP.out.1 HLP.out.2 _ OW.out GR.out HSP.out HA.out (.lag v2 HF2.out LT1.out) LA.out
        · have hz0 : ¬ ((r.n : Int) - room < 0) := by omega
          have hz1 : ¬ ((r.n : Int) - room = 0) := by omega
          have LT1 : Aside0 (room < (r.n : Int)) := ⟨by omega⟩
          have LA : Aside0 (lags room r = true) := ⟨by simp [lags, HF2.out]; omega⟩
          obtain ⟨W5, hW5⟩ : ∃ W5, W2.setCell ⟨r.b, 0, none⟩ (.bool false) = W5 := ⟨_, rfl⟩
          have hM5 := M2.out.stop hg6 (by rw [Z2.out]; exact hgW) hso
          rw [hW5] at hM5
          have M5 := Aside0.mk hM5
          have GG : Aside0 (gs < W5.heap.size) := ⟨by rw [← hW5]; simp [World.setCell]; rw [Z2.out]; exact hgW⟩
          clear hM5 heq1 hlt1
          have ML := M5.out.lbox
          have u0 : W5.cell? ⟨w.heap.size + 1 + 1, 0, none⟩ = some v := blk_cell ML 0
          clear ML
          obtain ⟨i0, hi0, hzz⟩ := Option.map_eq_some_iff.1 infoInt
          simp only [Prod.mk.injEq] at hzz
          obtain ⟨hz0, hz1, hz2⟩ := hzz
          have HZ := Aside0.mk (And.intro hi0 (And.intro hz0 (And.intro hz1 hz2)))
          have LB : Aside0 ((lagCells room pre).length ≤ 1000000) := ⟨by
            have h1 : (lagCells room pre).length ≤ pre.length := by unfold lagCells; rw [List.length_map]; exact List.length_filter_le _ _
            have h2 : pre.length ≤ G.length := by rw [HSP.out]; simp
            have h3 := HH.out.map.size_le
            rw [datum_size] at h3
            have := HN.out
            omega⟩
          clear hi0 hz0 hz1 hz2
          gi_wp2_with (gi_at_builtin; refine wpListIn_append_own _ rfl _ _ 27 rfl (gs + 1) 3 i0 (.int .i64 0) 1 8 Try.underlying27 HZ.out.1 HZ.out.2.1 HZ.out.2.2.1 HZ.out.2.2.2 rfl (by decide) v (lagCells room pre).length (lagCells room pre) rfl (M5.out.lrow.alloc _) ⟨W5.heap.size, 0, none⟩ 1 1 [.int .i64 r.k] rfl rfl (cell_one_new _ _ _) (by simp [Value.oneCell']) (by have := LB.out; simp only [maxLen]; omega) (by have := LB.out; omega) (by have := GG.out; simp; omega) ?_; intro v' w1 hown' hgrow _; obtain ⟨g', cap', rfl⟩ := ownsRow_succ hown'; have MG := Aside0.mk (M5.out.grow hg6 GG.out ((Below.refl _ _).alloc (Nat.le_refl _) _) hso : Mid G base p mb n room x w gs pre v G1 _ rest W (W5.alloc (.cells #[.int .i64 r.k] 3))); have GL : Aside0 (gs < (W5.alloc (.cells #[.int .i64 r.k] 3)).heap.size) := ⟨by have := GG.out; simp; omega⟩; have hb1 := (hgrow.block (w.heap.size + 2) (by have := GL.out; omega) (fun e => by have := (MG.out.lrow.lt _ e.symm).1; omega)).trans MG.out.lbox; have c8 : w1.cell? ⟨w.heap.size + 1 + 1, 0, none⟩ = some v := blk_cell hb1 0; have f8 : w1.frozen? ⟨w.heap.size + 1 + 1, 0, none⟩ = false := blk_frozen hb1 0; have OW := Aside0.mk hown'; have GR := Aside0.mk hgrow; clear hown' hgrow hb1)
          exact MG.out.lagged hg6 GL.out hso HLP.out.1 HLP.out.2 _ OW.out GR.out HSP.out HA.out (.full HF2.out LT1.out) LA.out
    · have hf' : r.f = false := by simpa using hf
      rw [hf'] at c1
      have HF2 := Aside0.mk hf'
      clear hf hf'
      gi_wp2
      have hla : lags room r = false := by simp [lags, HF2.out]
      refine ⟨⟨rfl, rfl, Nat.le_refl _, rfl, rfl, rfl, rfl⟩, ⟨G1 ++ [r], rest, by rw [List.append_assoc]; exact HSP.out, HA.out.snoc (.idle HF2.out), by rw [List.append_assoc]; exact HF.out, by rw [List.append_assoc]; exact HO.out, by rw [List.append_assoc]; exact HST.out⟩, HFB.out, ⟨s, HN0.out⟩, ⟨v, HV.out, ?_⟩, HB.out, HLT.out.2.1⟩
      rw [lag_snoc, hla]
      simpa using HOW.out
  case done =>
    rintro gs W ⟨⟨G1, rest, hG, hA, hF, hO, hST⟩, hfb, ⟨s, hs⟩, ⟨v, hv, ho⟩, hb, hg⟩ hdef hlt
    rw [hsz4] at hdef hlt ⊢
    obtain rfl : rest = [] := by
      have : G ++ [] = G ++ rest := by rw [List.append_nil]; exact hG
      exact (List.append_cancel_left this).symm
    rw [List.append_nil] at hF hO hST
    have HST := Aside0.mk hST
    have c5 : W.cell? ⟨w.heap.size + 1 + 1, 0, none⟩ = some v := blk_cell hv 0
    have HF := Aside0.mk hF
    have HA := Aside0.mk hA
    have HOW := Aside0.mk ho
    have HB := Aside0.mk hb
    have HDF := Aside0.mk hdef
    have HGG := Aside0.mk hg
    obtain ⟨A, c, rfl, hc⟩ := q_slice (q_of_own ho)
    clear hF hA ho hb hdef hg hG hO hfb hs hv hlt hc hST
    gi_wp2
    refine ⟨by simp, .inl ⟨_, _, rfl, run_takeDeferred HDF.out, ?_⟩⟩
    exact ⟨_, results_tmp rfl _ _ _, _, G1, rfl, HA.out, HF.out.putDef HDF.out _, HB.out.trans (belowK_b (w := w) (n₀ := base) HS.out W _ _ _ (by omega) HDF.out rfl rfl), own_weaken (ownsRow_putObj HOW.out _ HDF.out rfl) (by have := HGG.out; omega), fun j hj hn => (World.putObj_heap_other (by omega)).trans (HST.out.far j hj hn), HST.out.foot, by have := HST.out.size; simpa using this⟩
end Go.Proofs.Ytdeagfjfipbniaa.F
