/- A new feed; notices put behind, and taken. -/
import Derived.Test.YtdeagfjfipbniaaF3
set_option linter.unusedSimpArgs false
set_option linter.unusedVariables false
namespace Go.Proofs.Ytdeagfjfipbniaa.F
open Go.RowKit Go.Proofs.YtdeagfjfipbniaaW.PrintWords Go.Proofs.YtdeagfjfipbniaaW.PrintLast Go.Proofs.YtdeagfjfipbniaaW.PrintMore

theorem infoNotice : (Try.prog.info? 31).map (fun i => (i.zero, i.size, i.bytes)) = some (some (.agg #[.int .i64 0, .int .i64 0, .int .i64 0, .string ⟨#[]⟩, .slice none 0 0]), 5, 64) := by kernel_rfl
theorem new_feed (w : World) (rm : Int) :
    FeedAt w.heap.size ((w.alloc (.map #[] 0)).alloc (.cells #[.int .i64 rm, .map (some w.heap.size)] 48)) (w.heap.size + 1) rm w.heap.size 0 [] ∧ Below w.heap.size w ((w.alloc (.map #[] 0)).alloc (.cells #[.int .i64 rm, .map (some w.heap.size)] 48)) := by
  have h1 := heap_alloc_new (w.alloc (.map #[] 0)) (.cells #[.int .i64 rm, .map (some w.heap.size)] 48)
  rw [World.size_alloc] at h1
  exact ⟨⟨by omega, Nat.le_refl _, h1, (World.ownsMap_made w _ _ _).alloc _, List.Pairwise.nil, fun r hr => by simp at hr, fun r hr => by simp at hr⟩, ((Below.refl _ w).alloc (Nat.le_refl _) _).alloc (by simp) _⟩
set_option maxRecDepth 100000 in
theorem new_calls (w : World) (room : Int) :
    Calls Try.prog 7 #[.int .i64 room] w fun e w' => ∃ p mb, e = .returned (.pointer (some ⟨p, 0, none⟩)) ∧ FeedAt w.heap.size w' p (min (max room 1) 4) mb 0 [] ∧ Below w.heap.size w w' := by
  go_enter Try.func7, Try.ntmps7
  have hmm := @run_makeMap Try.prog
  go_wp2
  all_goals go_ret
  · rw [show min (max room 1) 4 = 1 by omega]
    exact ⟨w.heap.size + 1, rfl, ⟨w.heap.size, (new_feed w 1).1⟩, (new_feed w 1).2⟩
  · rw [show min (max room 1) 4 = 4 by omega]
    exact ⟨w.heap.size + 1, rfl, ⟨w.heap.size, (new_feed w 4).1⟩, (new_feed w 4).2⟩
  · rw [show min (max room 1) 4 = room by omega]
    exact ⟨w.heap.size + 1, rfl, ⟨w.heap.size, (new_feed w room).1⟩, (new_feed w room).2⟩
/-- append, where its run is known. -/
theorem wpList_append_known {P : Program} {ops : Array Oper} {rest : List Oper} {o : Oper} {a : Act} {w : World} {Q : Exit → Act → World → Prop} (hgd : o.guard = none) (s x : Operand) (t : TypeId)
    (ho : o.op = .call { callee := .builtin .append, args := #[s, x], argTypes := #[t, t] }) (v y : Value) (hs : a.eval s = v) (hx : a.eval x = y) (v' : Value) (w' : World)
    (hr : (Builtin.append_ #[t, t] o.type #[v, y]).run P w = .ok v' w') (h : wpList P ops Q rest (a.put o.dst v') w') : wpList P ops Q (o :: rest) a w := by
  refine wpList_plain hgd fun K hK => ?_
  unfold Oper.wp execOp
  simp only [ho, resolve, invoke, builtin, Sem.run_bind, Sem.run_pure, Result.andThen_ok, List.map_toArray, List.map_cons, List.map_nil, hs, hx, hr]
  exact hK _ _ h
/-- A notice more. -/
def putQ (v : Value) (x : Note) (r : Row) : Row := { r with v := v, q := r.q ++ [x] }
theorem putQ_leaves (v : Value) (x : Note) : Leaves (putQ v x) := ⟨fun _ => rfl, fun _ => rfl⟩
theorem putQ_n (v : Value) (x : Note) (r : Row) : (putQ v x r).n = r.n + 1 := by simp [putQ, Row.n]
theorem putQ_xs (v : Value) (x : Note) (r : Row) : (putQ v x r).xs = r.xs ++ x.cells := by simp [putQ, Row.xs]
set_option maxRecDepth 100000 in
theorem put_calls (base p mb n : Nat) (w : World) (room : Int) (G : List Row) (r : Row) (x : Note) (a : Addr) (h : FeedAt base w p room mb n G) (hr : r ∈ G) (hq : r.n < 1000000)
    (ha : ∀ j u, x.cells[j]? = some u → w.cell? (a.add j) = some u) :
    Calls Try.prog 24 #[.pointer (some ⟨r.b, 0, none⟩), .slice (some a) 1 1] w fun e w' => e = .returned (.tuple #[]) ∧ ∃ v, FeedAt base w' p room mb n (upd r.k (putQ v x) G) ∧ (v.ownBlock = r.v.ownBlock ∨ ∃ b, v.ownBlock = some b ∧ w.heap.size ≤ b) ∧
      (∀ j, j < w.heap.size → j ≠ r.b → r.v.ownBlock ≠ some j → w'.heap[j]? = w.heap[j]?) ∧ Below base w w' := by
  have hL := h.lines r hr
  have c1 : w.cell? ⟨r.b, 1, none⟩ = some r.v := blk_cell hL.cell 1
  have H := Aside0.mk h
  have HS := Aside0.mk h.size
  have HL := Aside0.mk hL
  have HR := Aside0.mk hr
  obtain ⟨i0, hi0, hzz⟩ := Option.map_eq_some_iff.1 infoNotice
  simp only [Prod.mk.injEq] at hzz
  obtain ⟨hz0, hz1, hz2⟩ := hzz
  obtain ⟨v', w1, hrun, hq1, hg1, hv1⟩ := q_append (P := Try.prog) w base 56 56 31 i0 _ 5 64 Try.underlying56 hi0 hz0 hz1 hz2 rfl (by decide) r.v r.n r.xs hL.row a 1 1 x.cells rfl ha (by simp [Note.cells, Value.oneCell']) (by decide) (by simp only [maxLen]; omega) (by omega) h.size
  have hrb : w1.heap[r.b]? = w.heap[r.b]? := hg1.block _ (blk_lt hL.cell) (fun e => by
    obtain ⟨c, hc⟩ := (q_typed hL.row r.b e.symm).2
    exact two_types hL.cell hc (by decide) rfl)
  have hcell1 := hrb.trans hL.cell
  have f1 : w1.frozen? ⟨r.b, 1, none⟩ = false := blk_frozen hcell1 1
  have c2 : w1.cell? ⟨r.b, 1, none⟩ = some r.v := blk_cell hcell1 1
  obtain ⟨A0, cc0, hv0, _⟩ := q_slice hL.row
  obtain ⟨A1, cc1, hv1', _⟩ := q_slice hq1
  rw [hv0] at c1 hrun
  have HV0 := Aside0.mk hv0
  have Q1 := Aside0.mk hq1
  have G1 := Aside0.mk hg1
  have V1 := Aside0.mk hv1
  have C1 := Aside0.mk hcell1
  subst hv1'
  have HRUN := Aside0.mk hrun
  clear h hL hq ha hr hi0 hz0 hz1 hz2 hq1 hg1 hv1 hrb hcell1 hv0 hrun
  go_enter Try.func24, Try.ntmps24
  go_wp2_with (at_builtin; refine wpList_append_known rfl _ _ 56 rfl _ _ rfl rfl _ _ HRUN.out ?_)
  go_end0
  have hbl : ∀ j, j < w.heap.size → j ≠ r.b → r.v.ownBlock ≠ some j → (w1.setCell ⟨r.b, 1, none⟩ (.slice A1 (r.n + 1) cc1)).heap[j]? = w.heap[j]? := fun j hj h1 h2 => (Below.heap_setCell w1 _ _ j h1).trans (G1.out.block j hj (fun e => h2 e.symm))
  have hq2 : QRow (w1.setCell ⟨r.b, 1, none⟩ (.slice A1 (r.n + 1) cc1)) base 31 5 (.slice A1 (r.n + 1) cc1) (r.n + 1) (r.xs ++ x.cells) := q_move Q1.out fun j hj => Below.heap_setCell w1 _ _ j (by
    rintro rfl
    obtain ⟨c, hc⟩ := (q_typed Q1.out _ hj).2
    exact two_types C1.out hc (by decide) rfl)
  refine ⟨rfl, .slice A1 (r.n + 1) cc1, H.out.turn (look_mem H.out.rising HR.out) (putQ_leaves _ _) hbl ⟨HL.out.bb, HL.out.wf, blk_put C1.out 1 _ rfl, by rw [putQ_n, putQ_xs]; exact hq2⟩ (fun j hj => ?_), V1.out, hbl, ((Below.refl base w).grown G1.out HS.out (fun k e => (q_typed HL.out.row k e).1)).setCell (p := ⟨r.b, 1, none⟩) HL.out.bb _⟩
  · rcases V1.out with h1 | ⟨b, h1, h2⟩
    · exact .inl (h1.symm.trans hj)
    · right
      have : some b = some j := h1.symm.trans hj
      injection this with this
      omega
end Go.Proofs.Ytdeagfjfipbniaa.F
