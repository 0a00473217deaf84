/- What a push makes of the rows; within its loop. -/
import Derived.Test.YtdeagfjfipbniaaF9
set_option linter.unusedSimpArgs false
set_option linter.unusedVariables false
namespace Go.Proofs.Ytdeagfjfipbniaa.F
open Go.RowKit Go.Maps Go.Sort Go.Shelf Go.Proofs.YtdeagfjfipbniaaW.PrintWords Go.Proofs.YtdeagfjfipbniaaW.PrintLast Go.Proofs.YtdeagfjfipbniaaW.PrintMore
attribute [local go_sem] Oper.semAt_some

def lagNote (x : Note) (k : Int) : Note := ⟨k, 11, x.b, ⟨#[]⟩, none, 0, 0⟩
/-- What a push makes of a row. -/
inductive Pushed (room : Int) (x : Note) (r : Row) : Row → Prop
  | idle : r.f = false → Pushed room x r r
  | put (v : Value) : r.f = true → (r.n : Int) < room → Pushed room x r (putQ v { x with s := r.k } r)
  | lag (v : Value) : r.f = true → (r.n : Int) = room → Pushed room x r (setF false (putQ v (lagNote x r.k) r))
  | full : r.f = true → room < (r.n : Int) → Pushed room x r (setF false r)
theorem Pushed.k {room : Int} {x : Note} {r s : Row} (h : Pushed room x r s) : s.k = r.k := by cases h <;> rfl
theorem Pushed.b {room : Int} {x : Note} {r s : Row} (h : Pushed room x r s) : s.b = r.b := by cases h <;> rfl
inductive AllPushed (room : Int) (x : Note) : List Row → List Row → Prop
  | nil : AllPushed room x [] []
  | snoc {G1 G2 : List Row} {r s : Row} : AllPushed room x G1 G2 → Pushed room x r s → AllPushed room x (G1 ++ [r]) (G2 ++ [s])
def lags (room : Int) (r : Row) : Bool := r.f && decide (room ≤ (r.n : Int))
def lagCells (room : Int) (G : List Row) : List Value := (G.filter (lags room)).map fun r => .int .i64 r.k
theorem lag_snoc (room : Int) (G : List Row) (r : Row) : lagCells room (G ++ [r]) = lagCells room G ++ if lags room r then [.int .i64 r.k] else [] := by
  unfold lagCells
  rw [List.filter_append, List.map_append]
  cases h : lags room r <;> simp [h]
theorem upd_mid {G1 rest : List Row} {r : Row} {g : Row → Row} (h : Rising (G1 ++ r :: rest)) : upd r.k g (G1 ++ r :: rest) = G1 ++ g r :: rest := by
  unfold upd
  rw [List.map_append, List.map_cons, if_pos rfl]
  obtain ⟨h1, h2, h3⟩ := List.pairwise_append.1 h
  obtain ⟨h4, h5⟩ := List.pairwise_cons.1 h2
  congr 1
  · refine (List.map_congr_left fun s hs => ?_).trans (List.map_id _)
    have := h3 s hs r List.mem_cons_self
    rw [if_neg (by omega)]
    rfl
  · congr 1
    refine (List.map_congr_left fun s hs => ?_).trans (List.map_id _)
    have := h4 s hs
    rw [if_neg (by omega)]
    rfl
theorem FeedAt.keepOn {base p mb n : Nat} {w w' : World} {room : Int} {G : List Row} (h : FeedAt base w p room mb n G) (P : Nat → Prop) (hp : P p) (hm : P mb) (hr : ∀ r ∈ G, P r.b ∧ ∀ k, r.v.ownBlock = some k → P k)
    (hk : ∀ j, j < w.heap.size → P j → w'.heap[j]? = w.heap[j]?) : FeedAt base w' p room mb n G where
  pb := h.pb
  mbb := h.mbb
  feed := (hk p (blk_lt h.feed) hp).trans h.feed
  map := map_move h.map (by obtain ⟨_, _, hm'⟩ := map_at h.map; exact hk mb (blk_lt hm') hm)
  rising := h.rising
  lines := fun r hrr => by
    have hL := h.lines r hrr
    exact hL.move (hk _ (blk_lt hL.cell) (hr r hrr).1) fun k hk' => hk k (q_lt hL.row k hk') ((hr r hrr).2 k hk')
  apart := h.apart
/-- A block of the feed, while a push goes on: one of before, or one behind the loop's. -/
def Ours (N gs k : Nat) : Prop := k < N ∨ gs < k
def OursAll (N gs : Nat) (G : List Row) : Prop := ∀ r ∈ G, r.b < N ∧ ∀ k, r.v.ownBlock = some k → Ours N gs k
/-- Between two rounds. -/
structure PushI (base p mb n : Nat) (room : Int) (x : Note) (G : List Row) (w : World) (gs : Nat) (pre : List Row) (W : World) : Prop where
  feed : ∃ G1 rest, G = pre ++ rest ∧ AllPushed room x pre G1 ∧ FeedAt base W p room mb n (G1 ++ rest) ∧ OursAll w.heap.size gs (G1 ++ rest) ∧ Step p mb G w (G1 ++ rest) W
  fbox : W.heap[w.heap.size]? = some (Obj.cells #[.pointer (some ⟨p, 0, none⟩)] 24 (0, 0))
  note : ∃ s, W.heap[w.heap.size + 1]? = some (Obj.cells #[.int .i64 s, .int .i64 x.e, .int .i64 x.b, .string x.r, .slice x.A x.m x.c] 31 (0, 0))
  lag : ∃ v, W.heap[w.heap.size + 2]? = some (Obj.cells #[v] 27 (0, 0)) ∧ W.ownsRow (gs + 1) 3 1 v (lagCells room pre).length (lagCells room pre)
  below : Below base w W
  hg : w.heap.size + 6 ≤ gs
theorem boxes4 (w : World) (o1 o2 o3 o4 : Obj) : ((((w.alloc o1).alloc o2).alloc o3).alloc o4).heap[w.heap.size]? = some o1 ∧ ((((w.alloc o1).alloc o2).alloc o3).alloc o4).heap[w.heap.size + 1]? = some o2 ∧
    ((((w.alloc o1).alloc o2).alloc o3).alloc o4).heap[w.heap.size + 2]? = some o3 ∧ ((((w.alloc o1).alloc o2).alloc o3).alloc o4).heap[w.heap.size + 3]? = some o4 := by
  have e1 : (w.alloc o1).heap.size = w.heap.size + 1 := World.size_alloc _ _
  have e2 : ((w.alloc o1).alloc o2).heap.size = w.heap.size + 2 := by rw [World.size_alloc, e1]
  have e3 : (((w.alloc o1).alloc o2).alloc o3).heap.size = w.heap.size + 3 := by rw [World.size_alloc, e2]
  refine ⟨?_, ?_, ?_, ?_⟩
  · exact (Below.heap_alloc _ _ _ (by omega)).trans ((Below.heap_alloc _ _ _ (by omega)).trans ((Below.heap_alloc _ _ _ (by omega)).trans (heap_alloc_new _ _)))
  · rw [← e1]; exact (Below.heap_alloc _ _ _ (by omega)).trans ((Below.heap_alloc _ _ _ (by omega)).trans (heap_alloc_new _ _))
  · rw [← e2]; exact (Below.heap_alloc _ _ _ (by omega)).trans (heap_alloc_new _ _)
  · rw [← e3]; exact heap_alloc_new _ _
/-- Within a round that began at W. -/
structure Mid (G : List Row) (base p mb n : Nat) (room : Int) (x : Note) (w : World) (gs : Nat) (pre : List Row) (v : Value) (G1 : List Row) (s : Row) (rest : List Row) (W W' : World) : Prop where
  feed : FeedAt base W' p room mb n (G1 ++ s :: rest)
  ours : OursAll w.heap.size gs (G1 ++ s :: rest)
  still : Still (w.heap.size + 3) p mb gs (w.heap.size + 4) W W'
  fbox : W'.heap[w.heap.size]? = some (Obj.cells #[.pointer (some ⟨p, 0, none⟩)] 24 (0, 0))
  note : W'.heap[w.heap.size + 1]? = some (Obj.cells #[.int .i64 s.k, .int .i64 x.e, .int .i64 x.b, .string x.r, .slice x.A x.m x.c] 31 (0, 0))
  lbox : W'.heap[w.heap.size + 2]? = some (Obj.cells #[v] 27 (0, 0))
  lrow : W'.ownsRow (gs + 1) 3 1 v (lagCells room pre).length (lagCells room pre)
  below : Below base w W'
  step : Step p mb G w (G1 ++ s :: rest) W'
theorem Mid.move {base p mb n : Nat} {room : Int} {x : Note} {w : World} {gs : Nat} {pre : List Row} {v : Value} {G G1 : List Row} {s s' : Row} {rest : List Row} {W W' W'' : World} (h : Mid G base p mb n room x w gs pre v G1 s rest W W') (hg : w.heap.size + 6 ≤ gs) (hgs : gs < W'.heap.size)
    (hF : FeedAt base W'' p room mb n (G1 ++ s' :: rest)) (hO : OursAll w.heap.size gs (G1 ++ s' :: rest)) (hk : s'.k = s.k) (hb : Below base W' W'') (hmid : ∀ j, w.heap.size ≤ j → j ≤ gs → W''.heap[j]? = W'.heap[j]?) (hm : W''.heap[mb]? = W'.heap[mb]?)
    (hlag : ∀ k, v.ownBlock = some k → W''.heap[k]? = W'.heap[k]?) (hst : Step p mb (G1 ++ s :: rest) W' (G1 ++ s' :: rest) W'') : Mid G base p mb n room x w gs pre v G1 s' rest W W'' where
  feed := hF
  ours := hO
  still := ⟨(hmid _ (by omega) (by omega)).trans h.still.d, (hmid _ (by omega) (by omega)).trans h.still.l, Nat.le_trans h.still.size hb.size, (hmid _ (by omega) (by omega)).trans h.still.f, (hF.feed.trans h.feed.feed.symm).trans h.still.p, hm.trans h.still.m, (hmid _ (by omega) (by omega)).trans h.still.g⟩
  fbox := (hmid _ (by omega) (by omega)).trans h.fbox
  note := by rw [hk]; exact (hmid _ (by omega) (by omega)).trans h.note
  lbox := (hmid _ (by omega) (by omega)).trans h.lbox
  lrow := own_move h.lrow hlag
  below := h.below.trans hb
  step := h.step.trans hst
theorem Mid.grow {base p mb n : Nat} {room : Int} {x : Note} {w : World} {gs : Nat} {pre : List Row} {v : Value} {G G1 : List Row} {s : Row} {rest : List Row} {W W' W'' : World} (h : Mid G base p mb n room x w gs pre v G1 s rest W W') (hg : w.heap.size + 6 ≤ gs) (hgs : gs < W'.heap.size)
    (hb : Below W'.heap.size W' W'') (hbase : base ≤ w.heap.size) : Mid G base p mb n room x w gs pre v G1 s rest W W'' :=
  h.move hg hgs (h.feed.later hb) h.ours rfl (hb.mono (by omega)) (fun j _ hj => hb.block j (by omega)) (hb.block _ h.feed.map.lt) (fun k hk => hb.block k (h.lrow.lt k hk).2) (.below hb)
/-- A row's own block is none of the lagged ones'. -/
theorem Mid.lag_ne {base p mb n : Nat} {room : Int} {x : Note} {w : World} {gs : Nat} {pre : List Row} {v : Value} {G G1 : List Row} {s : Row} {rest : List Row} {W W' : World} (h : Mid G base p mb n room x w gs pre v G1 s rest W W') {k : Nat} (hk : v.ownBlock = some k) : k ≠ s.b ∧ s.v.ownBlock ≠ some k := by
  obtain ⟨_, c, hc⟩ := q_typed (q_of_own h.lrow) k hk
  have hL := h.feed.lines s (by simp)
  refine ⟨two_types hc hL.cell (by decide), fun e => ?_⟩
  obtain ⟨c2, hc2⟩ := (q_typed hL.row k e).2
  exact two_types hc hc2 (by decide) rfl
theorem Mid.mb_ne {base p mb n : Nat} {room : Int} {x : Note} {w : World} {gs : Nat} {pre : List Row} {v : Value} {G G1 : List Row} {s : Row} {rest : List Row} {W W' : World} (h : Mid G base p mb n room x w gs pre v G1 s rest W W') : mb ≠ s.b ∧ s.v.ownBlock ≠ some mb := by
  obtain ⟨_, _, hm⟩ := map_at h.feed.map
  have hL := h.feed.lines s (by simp)
  refine ⟨fun e => ?_, fun e => ?_⟩
  · rw [e, hL.cell] at hm
    cases hm
  · obtain ⟨c2, hc2⟩ := (q_typed hL.row mb e).2
    rw [hc2] at hm
    cases hm
theorem ours_mid {N gs : Nat} {G1 rest : List Row} {s s' : Row} (h : OursAll N gs (G1 ++ s :: rest)) (hb : s'.b = s.b) (hv : ∀ k, s'.v.ownBlock = some k → s.v.ownBlock = some k ∨ gs < k) : OursAll N gs (G1 ++ s' :: rest) := fun r hr => by
  rcases List.mem_append.1 hr with hr | hr
  · exact h r (List.mem_append_left _ hr)
  · rcases List.mem_cons.1 hr with rfl | hr
    · have h1 := h s (by simp)
      refine ⟨by rw [hb]; exact h1.1, fun k hk => ?_⟩
      rcases hv k hk with h2 | h2
      · exact h1.2 k h2
      · exact .inr h2
    · exact h r (List.mem_append_right _ (List.mem_cons_of_mem _ hr))
/-- The line follows no more. -/
theorem Mid.stop {base p mb n : Nat} {room : Int} {x : Note} {w : World} {gs : Nat} {pre : List Row} {v : Value} {G G1 : List Row} {s : Row} {rest : List Row} {W W' : World} (h : Mid G base p mb n room x w gs pre v G1 s rest W W') (hg : w.heap.size + 6 ≤ gs) (hgs : gs < W'.heap.size) (hbase : base ≤ w.heap.size) :
    Mid G base p mb n room x w gs pre v G1 (setF false s) rest W (W'.setCell ⟨s.b, 0, none⟩ (.bool false)) := by
  have hl := look_mem h.feed.rising (show s ∈ G1 ++ s :: rest by simp)
  obtain ⟨h1, h2, h3⟩ := h.feed.setF hl false
  rw [upd_mid h.feed.rising] at h1 h3
  have hob := (h.ours s (by simp)).1
  have hfar : ∀ j, j ≠ s.b → (W'.setCell ⟨s.b, 0, none⟩ (.bool false)).heap[j]? = W'.heap[j]? := fun j hj => Below.heap_setCell W' _ _ j hj
  exact h.move hg hgs h1 (ours_mid h.ours rfl fun k hk => .inl hk) rfl h2 (fun j hj _ => hfar j (by omega)) (hfar _ h.mb_ne.1) (fun k hk => hfar k (h.lag_ne hk).1) h3
/-- A notice was put. -/
theorem Mid.put {base p mb n : Nat} {room : Int} {x : Note} {w : World} {gs : Nat} {pre : List Row} {v : Value} {G G1 : List Row} {s : Row} {rest : List Row} {W W' W'' : World} (h : Mid G base p mb n room x w gs pre v G1 s rest W W') (hg : w.heap.size + 6 ≤ gs) (hgs : gs < W'.heap.size) (v2 : Value) (y : Note)
    (hF : FeedAt base W'' p room mb n (upd s.k (putQ v2 y) (G1 ++ s :: rest))) (hv : v2.ownBlock = s.v.ownBlock ∨ ∃ b, v2.ownBlock = some b ∧ W'.heap.size ≤ b) (hfar : ∀ j, j < W'.heap.size → j ≠ s.b → s.v.ownBlock ≠ some j → W''.heap[j]? = W'.heap[j]?) (hb : Below base W' W'') :
    Mid G base p mb n room x w gs pre v G1 (putQ v2 y s) rest W W'' := by
  have hl := look_mem h.feed.rising (show s ∈ G1 ++ s :: rest by simp)
  have hst : Step p mb (G1 ++ s :: rest) W' (upd s.k (putQ v2 y) (G1 ++ s :: rest)) W'' := .turn (fun q hq e => by
    have e2 := look_mem h.feed.rising hq
    rw [e, hl] at e2
    injection e2 with e2
    rw [← e2]
    refine ⟨rfl, fun j hj => ?_⟩
    rcases hv with e3 | ⟨b, e3, hbb⟩
    · exact .inl (e3 ▸ hj)
    · right
      have : some b = some j := e3.symm.trans hj
      injection this with this
      omega) (fun j hj hn => hfar j hj (fun e => hn (.inr (.inr ⟨s, by simp, .inl e.symm⟩))) (fun e => hn (.inr (.inr ⟨s, by simp, .inr e⟩)))) hb.size
  rw [upd_mid h.feed.rising] at hF hst
  have ho := h.ours s (by simp)
  refine h.move hg hgs hF (ours_mid h.ours rfl fun k hk => ?_) rfl hb (fun j h1 h2 => hfar j (by omega) (by omega) fun e => ?_) (hfar _ h.feed.map.lt h.mb_ne.1 h.mb_ne.2) (fun k hk => hfar k (h.lrow.lt k hk).2 (h.lag_ne hk).1 (h.lag_ne hk).2) hst
  · rcases hv with e | ⟨b, e, hbb⟩
    · exact .inl (e ▸ hk)
    · right
      have : some b = some k := e.symm.trans hk
      injection this with this
      omega
  · rcases ho.2 j e with h3 | h3 <;> omega
/-- The session lags. -/
theorem Mid.lagged {base p mb n : Nat} {room : Int} {x : Note} {w : World} {gs : Nat} {pre : List Row} {v : Value} {G G1 : List Row} {r s : Row} {rest : List Row} {W W6 w1 : World} (h : Mid G base p mb n room x w gs pre v G1 s rest W W6) (hg : w.heap.size + 6 ≤ gs) (hgs : gs < W6.heap.size) (hbase : base ≤ w.heap.size) (hp : p < w.heap.size) (hm : mb < w.heap.size)
    (v' : Value) (ho : w1.ownsRow (gs + 1) 3 1 v' ((lagCells room pre).length + 1) (lagCells room pre ++ [.int .i64 r.k])) (hgr : W6.grownBy w1 v.ownBlock) (hG : G = pre ++ r :: rest) (hA : AllPushed room x pre G1) (hrs : Pushed room x r s) (hla : lags room r = true) :
    Still (w.heap.size + 3) p mb gs (w.heap.size + 4) W (w1.setCell ⟨w.heap.size + 2, 0, none⟩ v') ∧ PushI base p mb n room x G w gs (pre ++ [r]) (w1.setCell ⟨w.heap.size + 2, 0, none⟩ v') := by
  have hown : ∀ k, v.ownBlock = some k → gs < k := fun k hk => (h.lrow.lt k hk).1
  have hf1 : ∀ j, j < W6.heap.size → v.ownBlock ≠ some j → w1.heap[j]? = W6.heap[j]? := fun j hj hne => hgr.block j hj fun e => hne e.symm
  have hmid1 : ∀ j, j ≤ gs → w1.heap[j]? = W6.heap[j]? := fun j hj => hf1 j (by omega) fun e => by have := hown j e; omega
  have hf2 : ∀ j, j ≠ w.heap.size + 2 → (w1.setCell ⟨w.heap.size + 2, 0, none⟩ v').heap[j]? = w1.heap[j]? := fun j hj => Below.heap_setCell w1 _ _ j hj
  have hmid : ∀ j, j ≤ gs → j ≠ w.heap.size + 2 → (w1.setCell ⟨w.heap.size + 2, 0, none⟩ v').heap[j]? = W6.heap[j]? := fun j h1 h2 => (hf2 j h2).trans (hmid1 j h1)
  have hF1 : FeedAt base w1 p room mb n (G1 ++ s :: rest) := h.feed.keepOn (fun k => v.ownBlock ≠ some k) (fun e => by have := hown _ e; omega) (fun e => by have := hown _ e; omega) (fun q hq => by
    have hL := h.feed.lines q hq
    refine ⟨fun e => ?_, fun k hk e => ?_⟩
    · obtain ⟨_, c, hc⟩ := q_typed (q_of_own h.lrow) _ e
      exact two_types hc hL.cell (by decide) rfl
    · obtain ⟨_, c, hc⟩ := q_typed (q_of_own h.lrow) _ e
      obtain ⟨_, c2, hc2⟩ := q_typed hL.row k hk
      exact two_types hc hc2 (by decide) rfl) fun j hj hne => hf1 j hj hne
  have hF2 : FeedAt base (w1.setCell ⟨w.heap.size + 2, 0, none⟩ v') p room mb n (G1 ++ s :: rest) := hF1.keepOn (Ours w.heap.size gs) (.inl hp) (.inl hm) (fun q hq => ⟨.inl (h.ours q hq).1, (h.ours q hq).2⟩) fun j _ hP => hf2 j (by rcases hP with h | h <;> omega)
  have hsz := hgr.size
  have hbw : Below base w (w1.setCell ⟨w.heap.size + 2, 0, none⟩ v') := ((h.below.trans ((Below.refl base W6).grown hgr (by omega) (fun k e => by have := hown k e; omega))).setCell (p := ⟨w.heap.size + 2, 0, none⟩) (by show base ≤ w.heap.size + 2; omega) _)
  refine ⟨⟨(hmid _ (by omega) (by omega)).trans h.still.d, (hmid _ (by omega) (by omega)).trans h.still.l, ?_, (hmid _ (by omega) (by omega)).trans h.still.f, (hmid _ (by omega) (by omega)).trans h.still.p, (hmid _ (by omega) (by omega)).trans h.still.m, (hmid _ (by omega) (by omega)).trans h.still.g⟩,
    ⟨G1 ++ [s], rest, by rw [List.append_assoc]; exact hG, hA.snoc hrs, by rw [List.append_assoc]; exact hF2, by rw [List.append_assoc]; exact h.ours, by rw [List.append_assoc]; exact ⟨fun j hj hn => (hmid j (by omega) (by omega)).trans (h.step.far j hj hn), h.step.foot, by have := h.step.size; simp only [World.setCell, Array.size_modify]; omega⟩⟩, (hmid _ (by omega) (by omega)).trans h.fbox, ⟨_, (hmid _ (by omega) (by omega)).trans h.note⟩, ⟨v', blk_put ((hmid1 _ (by omega)).trans h.lbox) 0 _ rfl, ?_⟩, hbw, hg⟩
  · have := h.still.size
    simp only [World.setCell, Array.size_modify]
    omega
  · have h1 := ownsRow_setCell_below ho (a := ⟨w.heap.size + 2, 0, none⟩) (by show w.heap.size + 2 < gs + 1; omega) v'
    rw [lag_snoc, hla]
    simpa using h1
theorem infoInt : (Try.prog.info? 3).map (fun i => (i.zero, i.size, i.bytes)) = some (some (.int .i64 0), 1, 8) := by kernel_rfl
end Go.Proofs.Ytdeagfjfipbniaa.F
