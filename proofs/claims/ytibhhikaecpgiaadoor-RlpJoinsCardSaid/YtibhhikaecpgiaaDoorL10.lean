/- The contracts of rlp.check and rlp.Check. -/
import Derived.Test.YtibhhikaecpgiaaDoorL9
set_option linter.unusedSimpArgs false
set_option linter.unusedVariables false
namespace Go.Proofs.YtibhhikaecpgiaaDoor.R
open Go.RowKit Go.Shelf Go.Proofs.YtibhhikaecpgiaaDoorW.PrintWords Go.Proofs.YtibhhikaecpgiaaDoorW.PrintLast Go.Proofs.YtibhhikaecpgiaaDoorW.PrintMore
attribute [local go_sem] Oper.semAt_some

/-- Whether bytes are one item, so many lists deep at most. -/
def checkL : Nat → L → Bool
  | 0, s => match splitN s with
    | none => false
    | some (k, _, t) => decide (s.length ≤ t) && !k
  | d + 1, s => match splitN s with
    | none => false
    | some (k, f, t) => decide (s.length ≤ t) && (!k || match itemsL (s.drop f) with
      | none => false
      | some xs => xs.all (checkL d))
/-- A chain of faults that lies in none of a loop's blocks. -/
inductive BadX (bs D : Nat) (W : World) : Value → Nat → Prop
  | leaf : BadX bs D W (.iface 24 (.int .i64 2)) 0
  | wrap (b : Nat) (x E : Value) (k : Nat) : b ≠ bs → b ≠ D → b ≠ D + 1 → W.heap[b]? = some (Obj.cells #[x, E] 76 (0, 0)) → BadX bs D W E k → BadX bs D W (.iface 74 (.pointer (some ⟨b, 0, none⟩))) (k + 1)
theorem BadX.bad {bs D : Nat} {W : World} {E : Value} {k : Nat} (h : BadX bs D W E k) : Bad W E k := by
  induction h with
  | leaf => exact .leaf
  | wrap b x E k _ _ _ hc _ ih => exact .wrap b x E k hc ih
theorem BadX.soft {bs D : Nat} {W W' : World} {E : Value} {k : Nat} (h : BadX bs D W E k) (hs : Soft bs D W W') : BadX bs D W' E k := by
  induction h with
  | leaf => exact .leaf
  | wrap b x E k h1 h2 h3 hc _ ih => exact .wrap b x E k h1 h2 h3 ((hs.block b (blk_lt hc) h1 h2 h3).trans hc) ih
theorem BadX.of {bs D : Nat} {W : World} {E : Value} {k : Nat} (h : Bad W E k) {c1 : Array Value} {f1 : Nat × Nat} {r : Loop} {ds : Option (List Deferred)} (h1 : W.heap[bs]? = some (Obj.cells c1 9 f1))
    (h3 : W.heap[D]? = some (.deferred ds)) (h4 : W.heap[D + 1]? = some (.loop r)) : BadX bs D W E k := by
  induction h with
  | leaf => exact .leaf
  | wrap b x E k hc h ih =>
    refine .wrap b x E k ?_ ?_ ?_ hc ih
    · rintro rfl; rw [h1] at hc; injection hc with hc; injection hc with _ h; exact absurd h (by decide)
    · rintro rfl; rw [h3] at hc; injection hc with hc; cases hc
    · rintro rfl; rw [h4] at hc; injection hc with hc; cases hc
/-- What lies between two rounds of check. -/
structure CheckI (w w1 : World) (d f : Nat) (W : World) (pre : List L) : Prop where
  deep : W.heap[w.heap.size]? = some (Obj.cells #[.int .i64 (d + 1 : Nat)] 3 (0, 0))
  res : W.heap[w.heap.size + 1]? = some (Obj.cells #[.nilIface] 47 (0, 0))
  from_ : W.heap[w1.heap.size]? = some (Obj.cells #[.int .i64 f] 3 (0, 0))
  err : W.heap[w1.heap.size + 1]? = some (Obj.cells #[.nilIface] 47 (0, 0))
  below : Below w.heap.size w W
  all : ∀ y ∈ pre, checkL d y = true
structure CheckX (w w1 : World) (d : Nat) (W : World) (pre : List L) : Prop where
  bad : ∃ y ∈ pre, checkL d y = false
  res : ∃ E k, W.heap[w.heap.size + 1]? = some (Obj.cells #[E] 47 (0, 0)) ∧ BadX (w1.heap.size + 2) (w1.heap.size + 4) W E k
  below : Below w.heap.size w W
theorem Soft.below {bs D n : Nat} {w W W' : World} (hs : Soft bs D W W') (hb : Below n w W) (hn : n ≤ w.heap.size) (h1 : n ≤ bs) (h2 : n ≤ D) : Below n w W' :=
  hb.trans ⟨hs.os, hs.tape, hs.output, hs.size, fun k hk => hs.block k (by have := hb.size; omega) (by omega) (by omega) (by omega)⟩
theorem CheckI.soft {w w1 : World} {d f : Nat} {W W' : World} {pre : List L} (hw : w.heap.size + 2 ≤ w1.heap.size) (h : CheckI w w1 d f W pre) (hs : Soft (w1.heap.size + 2) (w1.heap.size + 4) W W') : CheckI w w1 d f W' pre :=
  ⟨(hs.block _ (blk_lt h.deep) (by omega) (by omega) (by omega)).trans h.deep, (hs.block _ (blk_lt h.res) (by omega) (by omega) (by omega)).trans h.res, (hs.block _ (blk_lt h.from_) (by omega) (by omega) (by omega)).trans h.from_,
    (hs.block _ (blk_lt h.err) (by omega) (by omega) (by omega)).trans h.err, hs.below h.below (Nat.le_refl _) (by omega) (by omega), h.all⟩
theorem CheckX.soft {w w1 : World} {d : Nat} {W W' : World} {pre : List L} (hw : w.heap.size + 2 ≤ w1.heap.size) (h : CheckX w w1 d W pre) (hs : Soft (w1.heap.size + 2) (w1.heap.size + 4) W W') : CheckX w w1 d W' pre := by
  obtain ⟨E, k, h1, h2⟩ := h.res
  exact ⟨h.bad, ⟨E, k, (hs.block _ (blk_lt h1) (by omega) (by omega) (by omega)).trans h1, h2.soft hs⟩, hs.below h.below (Nat.le_refl _) (by omega) (by omega)⟩
def CheckPost (d : Nat) (s : L) (w : World) (e : Ending) (w' : World) : Prop :=
  ((checkL d s = true ∧ e = .returned .nilIface) ∨ (checkL d s = false ∧ ∃ E k, e = .returned E ∧ Bad w' E k)) ∧ Below w.heap.size w w'
theorem bad_store {W : World} {E : Value} {k b : Nat} {v u : Value} (h : Bad W E k) (hv : W.heap[b]? = some (Obj.cells #[v] 47 (0, 0))) : Bad (W.setCell ⟨b, 0, none⟩ u) E k := by
  refine h.keep fun b' cs hc => (Below.heap_setCell W _ _ b' ?_).trans hc
  rintro rfl
  rw [hv] at hc
  injection hc with hc
  injection hc with _ h
  exact absurd h (by decide)
theorem Bad.two {W : World} {E : Value} {k : Nat} (h : Bad W E k) (o1 o2 : Obj) : Bad ((W.alloc o1).alloc o2) E k :=
  (h.later (below_alloc (Below.refl _ _) _)).later (below_alloc (Below.refl _ _) _)
theorem Below.two {w W : World} {n : Nat} (h : Below n w W) (hn : n ≤ W.heap.size) (o1 o2 : Obj) : Below n w ((W.alloc o1).alloc o2) := (h.alloc hn _).alloc (by simp; omega) _
theorem two_keep {W : World} {b : Nat} {o o1 o2 : Obj} (h : W.heap[b]? = some o) : ((W.alloc o1).alloc o2).heap[b]? = some o := by
  have hlt := blk_lt h
  exact (Below.heap_alloc _ _ _ (by simp; omega)).trans ((Below.heap_alloc _ _ _ hlt).trans h)
theorem split_two {w w1 : World} {s : L} {e : Ending} {d : Int} (h : SplitPost ((w.alloc (.cells #[.int .i64 d] 3)).alloc (.cells #[.nilIface] 47)) (B s) e w1) :
    w1.heap[w.heap.size]? = some (Obj.cells #[.int .i64 d] 3 (0, 0)) ∧ w1.heap[w.heap.size + 1]? = some (Obj.cells #[.nilIface] 47 (0, 0)) ∧ Below w.heap.size w w1 ∧ w.heap.size + 2 ≤ w1.heap.size ∧
      ((∃ (k : Bool) (f t : Nat), splitN s = some (k, f, t) ∧ e = .returned (.tuple #[.bool k, .int .i64 f, .int .i64 t, .nilIface]) ∧ f ≤ t ∧ t ≤ s.length) ∨
        (splitN s = none ∧ ∃ E, e = .returned (.tuple #[.bool false, .int .i64 0, .int .i64 0, E]) ∧ Bad w1 E 1)) := by
  have hb : Below ((w.alloc (.cells #[.int .i64 d] 3)).alloc (.cells #[.nilIface] 47)).heap.size ((w.alloc (.cells #[.int .i64 d] 3)).alloc (.cells #[.nilIface] 47)) w1 := by
    rcases h with ⟨k, f, t, _, _, rfl, _⟩ | ⟨_, E, _, _, hb⟩
    · exact Below.refl _ _
    · exact hb
  have e1 : (w.alloc (.cells #[.int .i64 d] 3)).heap.size = w.heap.size + 1 := World.size_alloc _ _
  have e2 : ((w.alloc (.cells #[.int .i64 d] 3)).alloc (.cells #[.nilIface] 47)).heap.size = w.heap.size + 2 := by rw [World.size_alloc, e1]
  refine ⟨?_, ?_, ?_, ?_, ?_⟩
  · exact (hb.block _ (by omega)).trans ((Below.heap_alloc _ _ _ (by omega)).trans (World.alloc_heap_new _ _))
  · refine (hb.block _ (by omega)).trans ?_
    rw [← e1]; exact World.alloc_heap_new _ _
  · exact (((Below.refl _ w).alloc (Nat.le_refl _) _).alloc (by omega) _).trans (hb.mono (by omega))
  · have := hb.size; omega
  · rcases h with ⟨k, f, t, hN, he, rfl, h1, h2⟩ | ⟨hN, E, he, hB, _⟩
    · rw [B_data] at hN; rw [B_size] at h2
      exact .inl ⟨k, f, t, hN, he, h1, h2⟩
    · rw [B_data] at hN
      exact .inr ⟨hN, E, he, hB⟩
theorem bad_put {W : World} {E : Value} {k D : Nat} {ds ds' : Option (List Deferred)} (h : Bad W E k) (hD : W.heap[D]? = some (.deferred ds)) : Bad (W.putObj D (.deferred ds')) E k := by
  refine h.keep fun b cs hc => (World.putObj_heap_other ?_).trans hc
  rintro rfl
  rw [hD] at hc
  injection hc with hc
  cases hc
theorem fin_results {tmps : Array Value} {b : Nat} (W : World) (v : Value) (ht : tmps.getD 4 undef = .pointer (some ⟨b, 0, none⟩)) (hc : W.cell? ⟨b, 0, none⟩ = some v) : (results Tryd.f22 tmps).run Tryd.prog W = .ok v W := by
  have ht' : tmps[4]?.getD undef = .pointer (some ⟨b, 0, none⟩) := by rw [← ht]; simp [Array.getD_eq_getD_getElem?]
  simp [results, Tryd.f22, go_sem, hc, ht']
theorem fin_check {R : Ending → World → Prop} {tmps : Array Value} {b : Nat} (W : World) (v : Value) (ht : tmps.getD 4 undef = .pointer (some ⟨b, 0, none⟩)) (hc : W.cell? ⟨b, 0, none⟩ = some v) (hR : R (.returned v) W) :
    bodyPostM Fence.wide 9 Tryd.prog Tryd.f22 R .ret { tmps := tmps, defers := [] } W := by
  have ht' : tmps[4]?.getD undef = .pointer (some ⟨b, 0, none⟩) := by rw [← ht]; simp [Array.getD_eq_getD_getElem?]
  refine ⟨v, ?_, hR⟩
  simp [results, Tryd.f22, go_sem, hc, ht']
set_option maxRecDepth 100000 in
set_option maxHeartbeats 4000000 in
theorem check_in (w : World) (d : Nat) (hd : d ≤ 1000) (s : L) (hs : s.length ≤ 1000000000) (IH : ∀ d', d = d' + 1 → ∀ (W : World) (x : L), x.length ≤ 1000000000 → Calls Tryd.prog 22 #[.string (B x), .int .i64 d'] W (CheckPost d' x W)) :
    CallsIn Fence.wide 9 Tryd.prog 22 #[.string (B s), .int .i64 d] w (CheckPost d s w) := by
  refine callsIn_of_wp_marks Tryd.func22 rfl trivial ?_ rfl
  simp only [Tryd.ntmps22, List.size_toArray, List.length_cons, List.length_nil, Nat.reduceAdd, Nat.reduceSub, Array.replicate_succ, Array.replicate_zero, List.push_toArray, List.append_toArray, List.nil_append, List.cons_append]
  have hsz : (B s).size = s.length := B_size s
  gi_wp2_with (gi_at_call 21; fail)
  refine ⟨trivial, (callsIn_wide.2 (split_calls _ (B s) (by rw [hsz]; exact hs))).mono ?_⟩
  intro e w1 hsp
  obtain ⟨hb3, hb4, hbel, hsz2, hsp⟩ := split_two hsp
  have c4 : ∀ o1 o2, ((w1.alloc o1).alloc o2).cell? ⟨w.heap.size + 1, 0, none⟩ = some .nilIface := fun o1 o2 => blk_cell (two_keep hb4) 0
  have f4 : ∀ o1 o2, ((w1.alloc o1).alloc o2).frozen? ⟨w.heap.size + 1, 0, none⟩ = false := fun o1 o2 => blk_frozen (two_keep hb4) 0
  rcases hsp with ⟨k, f, t, hN, rfl, hft, hts⟩ | ⟨hN, E, rfl, hBd⟩
  · have HB3 := Aside0.mk hb3
    have HB4 := Aside0.mk hb4
    have HBE := Aside0.mk hbel
    have HN := Aside0.mk hN
    have hfI : (f : Int) ≤ ((B s).size : Int) := by omega
    have W2s : ∀ o1 o2, ((w1.alloc o1).alloc o2).heap.size = w1.heap.size + 2 := fun o1 o2 => by simp
    clear hb3 hb4 hbel hN
    by_cases hA : t < s.length
    · have hA1 : (t : Int) < ((B s).size : Int) := by omega
      have hC : checkL d s = false := by cases d <;> (unfold checkL; rw [HN.out]; simp; omega)
      gi_wp2_with (gi_at_call 29; fail)
      refine ⟨trivial, (callsIn_wide.2 (wrong_calls _ _)).mono ?_⟩
      rintro e w3 ⟨E, rfl, hBd, hBl⟩
      have hb3 := (hBl.block _ (by simp; omega)).trans (two_keep (o1 := .cells #[.int .i64 f] 3) (o2 := .cells #[.nilIface] 47) HB4.out)
      have c3 : w3.cell? ⟨w.heap.size + 1, 0, none⟩ = some .nilIface := blk_cell hb3 0
      have f3 : w3.frozen? ⟨w.heap.size + 1, 0, none⟩ = false := blk_frozen hb3 0
      have X3 := Aside0.mk hb3
      have XB := Aside0.mk hBd
      have XL := Aside0.mk hBl
      obtain ⟨u1, v1, rfl⟩ := hBd.iface
      clear hb3 hBd hBl
      gi_wp2
      exact fin_check _ _ rfl (blk_cell (setCell_same X3.out) 0) ⟨.inr ⟨hC, _, 1, rfl, bad_store XB.out X3.out⟩, (((Below.two HBE.out (by omega) _ _).trans (XL.out.mono (by simp; omega)))).setCell (p := ⟨w.heap.size + 1, 0, none⟩) (by show w.heap.size ≤ w.heap.size + 1; omega) _⟩
    · have hA1 : ¬ (t : Int) < ((B s).size : Int) := by omega
      have htl : s.length ≤ t := by omega
      cases k with
      | false =>
        have hC : checkL d s = true := by cases d <;> (unfold checkL; rw [HN.out]; simp; omega)
        gi_wp2
        exact fin_check _ _ rfl (blk_cell (setCell_same (two_keep HB4.out)) 0) ⟨.inl ⟨hC, rfl⟩, (Below.two HBE.out (by omega) _ _).setCell (p := ⟨w.heap.size + 1, 0, none⟩) (by show w.heap.size ≤ w.heap.size + 1; omega) _⟩
      | true =>
        have cd : ∀ o1 o2, ((w1.alloc o1).alloc o2).cell? ⟨w.heap.size, 0, none⟩ = some (.int .i64 d) := fun o1 o2 => blk_cell (two_keep HB3.out) 0
        cases d with
        | zero =>
          have hC : checkL 0 s = false := by unfold checkL; rw [HN.out]; simp
          gi_wp2_with (gi_at_call 29; fail)
          refine ⟨trivial, (callsIn_wide.2 (wrong_calls _ _)).mono ?_⟩
          rintro e w3 ⟨E, rfl, hBd, hBl⟩
          have hb3 := (hBl.block _ (by simp; omega)).trans (two_keep (o1 := .cells #[.int .i64 f] 3) (o2 := .cells #[.nilIface] 47) HB4.out)
          have c3 : w3.cell? ⟨w.heap.size + 1, 0, none⟩ = some .nilIface := blk_cell hb3 0
          have f3 : w3.frozen? ⟨w.heap.size + 1, 0, none⟩ = false := blk_frozen hb3 0
          have X3 := Aside0.mk hb3
          have XB := Aside0.mk hBd
          have XL := Aside0.mk hBl
          obtain ⟨u1, v1, rfl⟩ := hBd.iface
          clear hb3 hBd hBl
          gi_wp2
          exact fin_check _ _ rfl (blk_cell (setCell_same X3.out) 0) ⟨.inr ⟨hC, _, 1, rfl, bad_store XB.out X3.out⟩, (((Below.two HBE.out (by omega) _ _).trans (XL.out.mono (by simp; omega)))).setCell (p := ⟨w.heap.size + 1, 0, none⟩) (by show w.heap.size ≤ w.heap.size + 1; omega) _⟩
        | succ d =>
          have hC : checkL (d + 1) s = match itemsL (s.drop f) with | none => false | some xs => xs.all (checkL d) := by
            unfold checkL; rw [HN.out]; simp [htl]
          have hd0 : ¬ ((d + 1 : Nat) : Int) = 0 := by omega
          have hx : (B s).extract f s.length = B (s.drop f) := by rw [B_extract s f s.length (Nat.le_refl _), List.take_length]
          have HC := Aside0.mk hC
          have HIH := Aside0.mk (IH d rfl)
          clear hC IH
          gi_wp2_with (gi_at_call 17; fail)
          refine ⟨trivial, (callsIn_wide.2 (each_calls _ (s.drop f) _)).mono ?_⟩
          rintro e w4 ⟨rfl, hw4⟩
          have hW4 := Aside0.mk hw4
          have hsz4 : w4.heap.size = w1.heap.size + 4 := by rw [hw4]; simp
          clear hw4
          gi_wp2
          obtain ⟨hk0, hk1, hk2, hk3⟩ := boxes4 w1 (.cells #[.int .i64 f] 3) (.cells #[.nilIface] 47) (.cells #[.string (B (s.drop f))] 9) (.cells #[.pointer (some ⟨w1.heap.size + 1, 0, none⟩)] 50)
          have hw4 : w4 = (((w1.alloc (.cells #[.int .i64 f] 3)).alloc (.cells #[.nilIface] 47)).alloc (.cells #[.string (B (s.drop f))] 9)).alloc (.cells #[.pointer (some ⟨w1.heap.size + 1, 0, none⟩)] 50) := hW4.out
          rw [← hw4] at hk0 hk1 hk2 hk3
          have hx4 : Boxes w4 (w1.heap.size + 2) (w1.heap.size + 3) (w1.heap.size + 1) (s.drop f) := ⟨hk2, hk3, _, hk1⟩
          have hbel4 : Below w.heap.size w w4 := by rw [hw4]; exact ((Below.two HBE.out (by omega) _ _).alloc (by simp; omega) _).alloc (by simp; omega) _
          have h40 : w4.heap[w.heap.size]? = some (Obj.cells #[.int .i64 (d + 1 : Nat)] 3 (0, 0)) := by rw [hw4]; exact two_keep (two_keep HB3.out)
          have h41 : w4.heap[w.heap.size + 1]? = some (Obj.cells #[.nilIface] 47 (0, 0)) := by rw [hw4]; exact two_keep (two_keep HB4.out)
          have hdl : (s.drop f).length ≤ 1000000000 := by rw [List.length_drop]; omega
          clear hw4 hW4 c4 f4 cd
          refine range_each (bs := w1.heap.size + 2) (bp := w1.heap.size + 3) (be := w1.heap.size + 1) (s0 := s.drop f) hdl rfl hx4 (fun pre W => CheckI w w1 d f W pre) (fun c pre W => c = .ret ∧ CheckX w w1 d W pre) ?_ ?_ ⟨h40, h41, hk0, hk1, hbel4, by simp⟩
            (fun x => { tmps := #[Value.string (B s), Value.int IntKind.i64 (↑d + 1), undef,
          Value.pointer (some { block := w.heap.size, off := 0 }),
          Value.pointer (some { block := w.heap.size + 1, off := 0 }), Value.bool true,
          Value.pointer (some { block := w1.heap.size, off := 0 }), Value.int IntKind.i64 ↑t,
          Value.pointer (some { block := w1.heap.size + 1, off := 0 }), Value.string (B x), undef,
          Value.tuple #[Value.bool true, Value.int IntKind.i64 ↑f, Value.int IntKind.i64 ↑t, Value.nilIface],
          Value.string (B s),
          Value.tuple #[Value.bool true, Value.int IntKind.i64 ↑f, Value.int IntKind.i64 ↑t, Value.nilIface],
          Value.bool true, Value.int IntKind.i64 ↑f, Value.int IntKind.i64 ↑t, Value.nilIface, Value.bool false,
          Value.nilIface, Value.bool false, undef, Value.bool false, Value.int IntKind.i64 ↑t, Value.string (B s),
          Value.int IntKind.i64 ↑(List.length s), Value.bool false, undef, undef, Value.bool false, Value.bool true,
          Value.bool false, Value.bool false, Value.int IntKind.i64 (↑d + 1), Value.bool false, undef, undef,
          Value.string (B s), Value.int IntKind.i64 ↑f, Value.string (B (List.drop f s)),
          Value.func (Fn.func 24) #[]
            #[Value.pointer (some { block := w1.heap.size + 2, off := 0 }),
              Value.pointer (some { block := w1.heap.size + 3, off := 0 })],
          Value.string (B x), undef, undef, undef, undef, undef, undef, undef, undef, undef, undef, undef, undef], defers := [] }) ?assign ?body ?done ?bad ?stop
          · intro pre W W' h hS
            rw [hsz4] at hS
            exact h.soft hsz2 hS
          · rintro c pre W W' ⟨hc, h⟩ hS
            rw [hsz4] at hS
            exact ⟨hc, h.soft hsz2 hS⟩
          case assign =>
            intro l x W K hK
            gi_wp2
            exact hK
          case body =>
            rintro l pre x rest W ⟨h0, h1, h2, h3, hb, hall⟩ hX hxl hpl hlt ⟨r, hr⟩ hK
            rw [hsz4] at hlt hr hK ⊢
            have c0 : W.cell? ⟨w.heap.size, 0, none⟩ = some (.int .i64 ((d + 1 : Nat) : Int)) := blk_cell h0 0
            have HX := Aside0.mk hX
            have HI := Aside0.mk (And.intro h0 (And.intro h1 (And.intro h2 (And.intro h3 hb))))
            have HR := Aside0.mk (And.intro hr hK)
            have HALL := Aside0.mk hall
            have hxl' : x.length ≤ 1000000000 := by omega
            have HCK := Aside0.mk (HIH.out W x hxl')
            clear h0 h1 h2 h3 hb hX hr hK hall hxl hpl
            gi_wp2_with (gi_at_call 22; fail)
            refine ⟨trivial, CallsIn.inRound l ((callsIn_wide.2 HCK.out).mono ?_)⟩
            rintro e w5 ⟨(⟨hc, rfl⟩ | ⟨hc, E, k, rfl, hBd⟩), hb5⟩
            · have hk5 : ∀ j, j < W.heap.size → w5.heap[j]? = W.heap[j]? := hb5.block
              have hbw : Below w.heap.size w w5 := HI.out.2.2.2.2.trans (hb5.mono HI.out.2.2.2.2.size)
              have HK5 := Aside0.mk hk5
              have HBW := Aside0.mk hbw
              clear hk5 hbw hb5
              gi_wp2
              obtain ⟨g0, g1, g2, g3, g4⟩ := HI.out
              refine ⟨HK5.out _ (by omega), HK5.out _ (by omega), HX.out.keep fun j hj => HK5.out j (by omega), ⟨(HK5.out _ (blk_lt g0)).trans g0, (HK5.out _ (blk_lt g1)).trans g1, (HK5.out _ (blk_lt g2)).trans g2, (HK5.out _ (blk_lt g3)).trans g3, HBW.out, fun y hy => ?_⟩⟩
              rcases List.mem_append.1 hy with hy | hy
              · exact HALL.out y hy
              · obtain rfl := List.mem_singleton.1 hy
                exact hc
            · obtain ⟨g0, g1, g2, g3, g4⟩ := HI.out
              have c5 : w5.cell? ⟨w1.heap.size, 0, none⟩ = some (.int .i64 f) := blk_cell ((hb5.block _ (blk_lt g2)).trans g2) 0
              have r5 : ∀ o, (w5.alloc o).heap[w.heap.size + 1]? = some (Obj.cells #[.nilIface] 47 (0, 0)) := fun o => (Below.heap_alloc w5 o _ (by have := hb5.size; omega)).trans ((hb5.block _ (blk_lt g1)).trans g1)
              have c6 : ∀ o, (w5.alloc o).cell? ⟨w.heap.size + 1, 0, none⟩ = some .nilIface := fun o => blk_cell (r5 o) 0
              have f6 : ∀ o, (w5.alloc o).frozen? ⟨w.heap.size + 1, 0, none⟩ = false := fun o => blk_frozen (r5 o) 0
              have hbw : Below w.heap.size w w5 := g4.trans (hb5.mono g4.size)
              have hs5 : W.heap.size ≤ w5.heap.size := hb5.size
              have hkeep : ∀ (o : Obj) (v : Value) (j : Nat), j < W.heap.size → j ≠ w.heap.size + 1 → ((w5.alloc o).setCell ⟨w.heap.size + 1, 0, none⟩ v).heap[j]? = W.heap[j]? := fun o v j hj hne => (Below.heap_setCell _ _ _ j hne).trans ((Below.heap_alloc w5 o j (by omega)).trans (hb5.block j hj))
              have HBD := Aside0.mk hBd
              have HR5 := Aside0.mk r5
              have HKP := Aside0.mk hkeep
              have HBW := Aside0.mk hbw
              obtain ⟨u1, v1, rfl⟩ := hBd.iface
              clear g0 g1 g2 g3 g4 hb5 hBd r5 hkeep hbw
              gi_wp2
              obtain ⟨hr, hK⟩ := HR.out
              have hD := HKP.out (.cells #[.int .i64 f, .iface u1 v1] 76) (.iface 74 (.pointer (some ⟨w5.heap.size, 0, none⟩)))
              have hbad : Bad ((w5.alloc (.cells #[.int .i64 f, .iface u1 v1] 76)).setCell ⟨w.heap.size + 1, 0, none⟩ (.iface 74 (.pointer (some ⟨w5.heap.size, 0, none⟩)))) (.iface 74 (.pointer (some ⟨w5.heap.size, 0, none⟩))) (k + 1) :=
                bad_store (.wrap _ _ _ k (World.alloc_heap_new _ _) (HBD.out.later (below_alloc (Below.refl _ _) _))) (HR5.out _)
              have hXs := HX.out.s
              exact ⟨hD _ (by omega) (by omega), hD _ (by omega) (by omega), rfl, ⟨x, by simp, hc⟩, ⟨_, k + 1, setCell_same (HR5.out _), BadX.of hbad ((hD _ (blk_lt hXs) (by omega)).trans hXs) ((hD _ (by omega) (by omega)).trans hK) ((hD _ (by omega) (by omega)).trans hr)⟩,
                (HBW.out.alloc HBW.out.size _).setCell (p := ⟨w.heap.size + 1, 0, none⟩) (by show w.heap.size ≤ w.heap.size + 1; omega) _⟩
          case done =>
            rintro xs W hxs ⟨h0, h1, h2, h3, hb, hall⟩ hK hlt
            rw [hsz4] at hK ⊢
            have hT : checkL (d + 1) s = true := by rw [HC.out, hxs]; simpa using hall
            have c8 : W.cell? ⟨w1.heap.size + 1, 0, none⟩ = some .nilIface := blk_cell h3 0
            have c4 : W.cell? ⟨w.heap.size + 1, 0, none⟩ = some .nilIface := blk_cell h1 0
            have f4 : W.frozen? ⟨w.heap.size + 1, 0, none⟩ = false := blk_frozen h1 0
            have H1 := Aside0.mk h1
            have HBW := Aside0.mk hb
            have HK := Aside0.mk ((Below.heap_setCell W ⟨w.heap.size + 1, 0, none⟩ .nilIface (w1.heap.size + 4) (by show w1.heap.size + 4 ≠ w.heap.size + 1; omega)).trans hK)
            clear h0 h1 h2 h3 hb hall hK
            gi_wp2
            refine ⟨by simp, .inl ⟨_, _, rfl, run_takeDeferred HK.out, ?_⟩⟩
            refine ⟨.nilIface, fin_results _ _ rfl (blk_cell ((World.putObj_heap_other (by omega)).trans (setCell_same H1.out)) 0), .inl ⟨hT, rfl⟩, ?_⟩
            exact (HBW.out.setCell (p := ⟨w.heap.size + 1, 0, none⟩) (by show w.heap.size ≤ w.heap.size + 1; omega) _).trans (belowK_b (w := w) (Nat.le_refl _) _ _ _ _ (by omega) HK.out rfl rfl)
          case bad =>
            rintro pre E W1 W2 hN2 ⟨h0, h1, h2, h3, hb, hall⟩ hBd hbe hS hK
            rw [hsz4] at hS hK ⊢
            have hF : checkL (d + 1) s = false := by rw [HC.out, hN2]
            have g3 := (hS.block _ (by simpa [World.setCell] using hbe) (by omega) (by omega) (by omega)).trans (setCell_same (v' := E) h3)
            have g1 := (hS.block _ (by have := blk_lt h1; simpa [World.setCell] using this) (by omega) (by omega) (by omega)).trans ((Below.heap_setCell W1 ⟨w1.heap.size + 1, 0, none⟩ E (w.heap.size + 1) (by show w.heap.size + 1 ≠ w1.heap.size + 1; omega)).trans h1)
            have c8 : W2.cell? ⟨w1.heap.size + 1, 0, none⟩ = some E := blk_cell g3 0
            have c4 : W2.cell? ⟨w.heap.size + 1, 0, none⟩ = some .nilIface := blk_cell g1 0
            have f4 : W2.frozen? ⟨w.heap.size + 1, 0, none⟩ = false := blk_frozen g1 0
            have hb2 : Below w.heap.size w W2 := hS.below (hb.setCell (p := ⟨w1.heap.size + 1, 0, none⟩) (by show w.heap.size ≤ w1.heap.size + 1; omega) E) (Nat.le_refl _) (by omega) (by omega)
            have H1 := Aside0.mk g1
            have HBW := Aside0.mk hb2
            have HBD := Aside0.mk hBd
            obtain ⟨u1, v1, rfl⟩ := hBd.iface
            have HK := Aside0.mk ((Below.heap_setCell W2 ⟨w.heap.size + 1, 0, none⟩ (.iface u1 v1) (w1.heap.size + 4) (by show w1.heap.size + 4 ≠ w.heap.size + 1; omega)).trans hK)
            clear h0 h1 h2 h3 hb hall hK g3 g1 hS hb2 hBd hbe
            gi_wp2
            refine ⟨by simp, .inl ⟨_, _, rfl, run_takeDeferred HK.out, ?_⟩⟩
            refine ⟨.iface u1 v1, fin_results _ _ rfl (blk_cell ((World.putObj_heap_other (by omega)).trans (setCell_same H1.out)) 0), .inr ⟨hF, _, 1, rfl, ?_⟩, ?_⟩
            · exact bad_put (bad_store HBD.out H1.out) HK.out
            · exact (HBW.out.setCell (p := ⟨w.heap.size + 1, 0, none⟩) (by show w.heap.size ≤ w.heap.size + 1; omega) _).trans (belowK_b (w := w) (Nat.le_refl _) _ _ _ _ (by omega) HK.out rfl rfl)
          case stop =>
            rintro c pre W hpre ⟨rfl, ⟨y, hy, hyb⟩, ⟨E, k, h1, hX⟩, hb⟩ hK
            rw [hsz4] at hK ⊢
            have hF : checkL (d + 1) s = false := by
              rw [HC.out]
              cases hI : itemsL (s.drop f) with
              | none => rfl
              | some xs =>
                have hm := (hpre xs hI).subset hy
                simp only [List.all_eq_false]
                exact ⟨y, hm, by rw [hyb]; decide⟩
            have H1 := Aside0.mk h1
            have HBW := Aside0.mk hb
            have HBD := Aside0.mk hX.bad
            have HK := Aside0.mk hK
            clear h1 hb hX hK
            gi_wp2
            refine ⟨by simp, .inl ⟨_, _, rfl, run_takeDeferred HK.out, ?_⟩⟩
            refine ⟨E, fin_results _ _ rfl (blk_cell ((World.putObj_heap_other (by omega)).trans H1.out) 0), .inr ⟨hF, _, k, rfl, bad_put HBD.out HK.out⟩, ?_⟩
            exact HBW.out.trans (belowK_b (w := w) (Nat.le_refl _) _ _ _ _ (by omega) HK.out rfl rfl)
  · have hC : checkL d s = false := by cases d <;> (unfold checkL; rw [hN])
    have HB := Aside0.mk hBd
    obtain ⟨u1, v1, rfl⟩ := hBd.iface
    have HBE := Aside0.mk hbel
    have HB4 := Aside0.mk hb4
    clear hBd hbel hb3 hb4
    gi_wp2
    exact fin_check _ _ rfl (blk_cell (setCell_same (two_keep HB4.out)) 0) ⟨.inr ⟨hC, _, 1, rfl, bad_store (HB.out.two _ _) (two_keep HB4.out)⟩, (Below.two HBE.out (by omega) _ _).setCell (p := ⟨w.heap.size + 1, 0, none⟩) (by show w.heap.size ≤ w.heap.size + 1; omega) _⟩
theorem check_calls (d : Nat) : ∀ (hd : d ≤ 1000) (W : World) (x : L), x.length ≤ 1000000000 → Calls Tryd.prog 22 #[.string (B x), .int .i64 d] W (CheckPost d x W) := by
  induction d with
  | zero => exact fun hd W x hx => callsIn_wide.1 (check_in W 0 hd x hx fun d' h => by omega)
  | succ d ih => exact fun hd W x hx => callsIn_wide.1 (check_in W (d + 1) hd x hx fun d' h => by
      obtain rfl : d = d' := by omega
      exact ih (by omega))
theorem Check_calls (w : World) (s : L) (hs : s.length ≤ 1000000000) :
    Calls Tryd.prog 14 #[.string (B s)] w fun e w' => e = .returned (.int .i64 (if checkL 32 s then 0 else 2)) ∧ Below w.heap.size w w' := by
  have HC := Aside0.mk (check_calls 32 (by decide) w s hs)
  generalize hF : (if checkL 32 s then (0 : Int) else 2) = F
  have HF := Aside0.mk hF
  clear hF
  go_enter Tryd.func14, Tryd.ntmps14
  go_wp2_with (go_at_call 22; fail)
  refine (HC.out).mono ?_
  rintro e w1 ⟨(⟨hc, rfl⟩ | ⟨hc, E, k, rfl, hBd⟩), hb⟩
  · have HB := Aside0.mk hb
    clear hb
    go_wp2
    go_ret
    exact ⟨by rw [← HF.out, hc]; rfl, HB.out⟩
  · have HT := Aside0.mk (told_calls w1 E k hBd)
    have HB := Aside0.mk hb
    obtain ⟨u, v, rfl⟩ := hBd.iface
    clear hb hBd
    go_wp2_with (go_at_call 18; refine (HT.out).mono ?_; rintro e w2 ⟨rfl, rfl⟩; clear HT)
    go_ret
    exact ⟨by rw [← HF.out, hc]; rfl, HB.out⟩
end Go.Proofs.YtibhhikaecpgiaaDoor.R
