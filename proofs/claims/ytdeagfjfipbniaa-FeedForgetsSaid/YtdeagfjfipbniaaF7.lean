/- Ranging over the lines of a feed: the iterator's contract. -/
import Derived.Test.YtdeagfjfipbniaaF6
set_option linter.unusedSimpArgs false
set_option linter.unusedVariables false
namespace Go.Proofs.Ytdeagfjfipbniaa.F
open Go.RowKit Go.Maps Go.Sort Go.Shelf Go.Proofs.YtdeagfjfipbniaaW.PrintWords Go.Proofs.YtdeagfjfipbniaaW.PrintLast Go.Proofs.YtdeagfjfipbniaaW.PrintMore
attribute [local go_sem] Oper.semAt_some

set_option maxRecDepth 100000 in
theorem lines_calls (w : World) (p : Nat) :
    Calls Try.prog 22 #[.pointer (some ⟨p, 0, none⟩)] w fun e w' =>
      e = .returned (.func (.func 28) #[] #[.pointer (some ⟨w.heap.size, 0, none⟩)]) ∧ w' = w.alloc (.cells #[.pointer (some ⟨p, 0, none⟩)] 24) := by
  go_enter Try.func22, Try.ntmps22
  go_wp2
  go_ret
  exact ⟨rfl, rfl⟩
/-- What the iterator reads between two rounds. -/
structure Reads (W : World) (fb p mb n gs : Nat) (room : Int) (v : Value) (G : List Row) : Prop where
  box : W.heap[fb]? = some (Obj.cells #[.pointer (some ⟨p, 0, none⟩)] 24 (0, 0))
  feed : W.heap[p]? = some (Obj.cells #[.int .i64 room, .map (some mb)] 48 (0, 0))
  map : W.ownsMap Try.prog 3 lineRd mb n (datum G)
  row : W.ownsRow 0 3 1 v G.length (keyCells G)
  own : ∀ k, v.ownBlock = some k → k = gs
theorem Reads.keep {W W' : World} {fb p mb n gs : Nat} {room : Int} {v : Value} {G : List Row} (h : Reads W fb p mb n gs room v G) (h1 : W'.heap[fb]? = W.heap[fb]?) (h2 : W'.heap[p]? = W.heap[p]?) (h3 : W'.heap[mb]? = W.heap[mb]?) (h4 : W'.heap[gs]? = W.heap[gs]?) :
    Reads W' fb p mb n gs room v G := ⟨h1.trans h.box, h2.trans h.feed, map_move h.map h3, own_move h.row fun k hk => by rw [h.own k hk]; exact h4, h.own⟩
theorem map_look {W : World} {mb n : Nat} {G : List Row} (h : W.ownsMap Try.prog 3 lineRd mb n (datum G)) {k : Int} {r : Row} (hk : wfI k) (hr : look k G = some r) :
    (Instr.lookup 46 (.map (some mb)) (.int .i64 k) false).run Try.prog W = .ok (.pointer (some ⟨r.b, 0, none⟩)) W := by
  obtain ⟨v, ps, he, hv⟩ := h.lookup keyed Try.underlying46 (zero_line W) (zd := .nil) (zp := []) rfl (key_of hk)
  rw [datum_at, hr] at hv
  obtain rfl := lineRd_at hv
  exact he
set_option maxRecDepth 100000 in
set_option maxHeartbeats 4000000 in
theorem each_in (l fb base p mb n : Nat) (room : Int) (G : List Row) (J : Nat → List Row → World → Prop) (W : World) (h : FeedAt base W p room mb n G) (hn : n ≤ 1000000)
    (hbox : W.heap[fb]? = some (Obj.cells #[.pointer (some ⟨p, 0, none⟩)] 24 (0, 0)))
    (h0 : ∀ gs W2, Below W.heap.size W W2 → W.heap.size ≤ gs → gs < W2.heap.size → J gs [] W2)
    (hY : ∀ gs pre r rest W1, W.heap.size ≤ gs → gs < W1.heap.size → G = pre ++ r :: rest → J gs pre W1 → YieldAt Fence.wide 7 Try.prog l #[.int .i64 r.k, .pointer (some ⟨r.b, 0, none⟩)] W1 fun e W' =>
      e = .returned (.bool true) ∧ J gs (pre ++ [r]) W' ∧ W1.heap.size ≤ W'.heap.size ∧ W'.heap[fb]? = W1.heap[fb]? ∧ W'.heap[p]? = W1.heap[p]? ∧ W'.heap[mb]? = W1.heap[mb]? ∧ W'.heap[gs]? = W1.heap[gs]?) :
    CallsIn Fence.wide 8 Try.prog 28 #[.func (.yield l) #[] #[], .pointer (some ⟨fb, 0, none⟩)] W fun e W' => e = .returned (.tuple #[]) ∧ ∃ gs, J gs G W' := by
  have cK := keys_in 7 mb W
  have cS := sorted_in 7 (by omega) base p mb n W room G h hn
  have c0 : W.cell? ⟨fb, 0, none⟩ = some (.pointer (some ⟨p, 0, none⟩)) := blk_cell hbox 0
  have c1 : W.cell? ⟨p, 1, none⟩ = some (.map (some mb)) := blk_cell h.feed 1
  have hfK : Fence.wide.fn 20 := trivial
  have hfS : Fence.wide.fn 19 := trivial
  have H := Aside0.mk h
  have HB := Aside0.mk hbox
  have HN := Aside0.mk hn
  have H0 := Aside0.mk h0
  have HY := Aside0.mk hY
  clear h hbox hn h0 hY
  refine callsIn_of_wp Try.func28 rfl trivial ?_ rfl
  simp only [Try.ntmps28, List.size_toArray, List.length_cons, List.length_nil, Nat.reduceAdd, Nat.reduceSub, Array.replicate_succ, Array.replicate_zero, List.push_toArray, List.append_toArray, List.nil_append, List.cons_append]
  gi_wp2_with (first
    | (gi_at_call 20; refine cK.mono ?_; rintro e w' ⟨rfl, rfl⟩)
    | (gi_at_call 19; fail))
  refine cS.mono ?_
  rintro e W2 ⟨v, rfl, hrow, hb⟩
  have hbW : Below W.heap.size W W2 := ((Below.refl _ W).alloc (Nat.le_refl _) _).trans (hb.mono (by omega))
  obtain ⟨gs, hgs1, hgs2, hgs3⟩ : ∃ gs, W.heap.size ≤ gs ∧ gs < W2.heap.size ∧ ∀ k, v.ownBlock = some k → k = gs := by
    cases hv : v.ownBlock with
    | none => exact ⟨W.heap.size, Nat.le_refl _, by have := hb.size; rw [World.size_alloc] at this; omega, fun k hk => by cases hk⟩
    | some k =>
      have h1 := hrow.lt k hv
      exact ⟨k, by omega, h1.2, fun j hj => by injection hj with hj; exact hj.symm⟩
  have hR : Reads W2 fb p mb n gs room v G := ⟨(hbW.block _ (blk_lt HB.out)).trans HB.out, (hbW.block _ (blk_lt H.out.feed)).trans H.out.feed, map_move H.out.map (hbW.block _ H.out.map.lt), own_weaken hrow (Nat.zero_le _), hgs3⟩
  obtain ⟨A, c, rfl, hc⟩ := q_slice (q_of_own hrow)
  have HR := Aside0.mk hR
  have HJ := Aside0.mk (H0.out gs W2 hbW hgs1 hgs2)
  have HG := Aside0.mk (And.intro hgs1 hgs2)
  clear hR hgs1 hgs2 hgs3 hrow hb hbW cK cS c0 c1
  gi_wp2
  gi_loopw [12] (fun x wr => ∃ j : Nat, x = .int .i64 j ∧ j ≤ G.length ∧ Aside0 (J gs (G.take j) wr) ∧ Aside0 (Reads wr fb p mb n gs room (.slice A G.length c) G) ∧ Aside0 (W2.heap.size ≤ wr.heap.size)) (fun x wr => G.length - (intOf x).toNat)
  case atStart => exact ⟨0, rfl, Nat.zero_le _, ⟨HJ.out⟩, HR, ⟨Nat.le_refl _⟩⟩
  case round =>
    obtain ⟨j, rfl, hj, J1, R1, S1⟩ := hrel
    by_cases hlt : j < G.length
    · obtain ⟨r, hr⟩ : ∃ r, G[j]? = some r := ⟨G[j], List.getElem?_eq_getElem hlt⟩
      have hsplit : G = G.take j ++ r :: G.drop (j + 1) := by
        have e := List.getElem?_eq_some_iff.1 hr
        obtain ⟨h1, h2⟩ := e
        rw [← h2, List.getElem_cons_drop, List.take_append_drop]
      have hmem : r ∈ G := List.mem_of_getElem? hr
      have hlk := look_mem H.out.rising hmem
      have hwf := (H.out.lines r hmem).wf
      have hrow := R1.out.row
      obtain ⟨ad, rfl, hcells⟩ := q_cells (q_of_own hrow) (by omega)
      obtain ⟨g, rfl⟩ : ∃ g, ad = ⟨g, 0, none⟩ := by
        rcases hrow.2 with ⟨h1, h2⟩ | ⟨g, cap, cur, he, _⟩
        · omega
        · injection he with he
          injection he with he
          exact ⟨g, he⟩
      have c4 : wr.cell? ⟨g, j, none⟩ = some (.int .i64 r.k) := by
        have h1 := hcells j (.int .i64 r.k) (by rw [keyCells, List.getElem?_map, hr]; rfl)
        rwa [add_at, Nat.zero_add] at h1
      have c2 : wr.cell? ⟨fb, 0, none⟩ = some (.pointer (some ⟨p, 0, none⟩)) := blk_cell R1.out.box 0
      have c3 : wr.cell? ⟨p, 1, none⟩ = some (.map (some mb)) := blk_cell R1.out.feed 1
      have hlook := map_look R1.out.map hwf hlk
      obtain ⟨fn, tmps, assign, body, hy, hRd⟩ := HY.out gs (G.take j) r (G.drop (j + 1)) wr HG.out.1 (by have := HG.out.2; have := S1.out; omega) hsplit J1.out
      have HRD := Aside0.mk hRd
      have htk : G.take (j + 1) = G.take j ++ [r] := by rw [List.take_add_one, hr]; rfl
      have HT := Aside0.mk htk
      have hlt' : (j : Int) < (G.length : Int) := by omega
      have hjb : (j : Int) < 2000000 := by have h1 := H.out.map.size_le; rw [datum_size] at h1; have h2 := HN.out; omega
      clear hr hsplit hmem hlk hwf hrow hcells hRd htk
      gi_wp2
      refine (HRD.out).mono ?_
      rintro e W3 ⟨rfl, hJ3, hsz, h1, h2, h3, h4⟩
      have R3 := Aside0.mk (R1.out.keep h1 h2 h3 h4)
      have J3 := Aside0.mk hJ3
      have S3 : Aside0 (W2.heap.size ≤ W3.heap.size) := ⟨by have := S1.out; omega⟩
      clear hJ3 hsz h1 h2 h3 h4 hlook c2 c3 c4
      gi_wp2
      go_roundw
      case rel => exact ⟨j + 1, by simp, hlt, ⟨by rw [HT.out]; exact J3.out⟩, R3, S3⟩
      case measure => simp [intOf]; omega
    · have hje : j = G.length := by omega
      have HE := Aside0.mk hje
      have hlt' : ¬ ((j : Int) < (G.length : Int)) := by omega
      clear hje hlt
      gi_wp2
      go_end0
      exact ⟨rfl, gs, by have := J1.out; rwa [HE.out, List.take_length] at this⟩
end Go.Proofs.Ytdeagfjfipbniaa.F
