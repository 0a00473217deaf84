/- A feed's lines laid in, turned, and taken out. -/
import Derived.Test.YtdeagfjfipbniaaF2
set_option linter.unusedSimpArgs false
set_option linter.unusedVariables false
namespace Go.Proofs.Ytdeagfjfipbniaa.F
open Go.RowKit Go.Proofs.YtdeagfjfipbniaaW.PrintWords Go.Proofs.YtdeagfjfipbniaaW.PrintLast Go.Proofs.YtdeagfjfipbniaaW.PrintMore

theorem blk_lt {w : World} {b : Nat} {o : Obj} (h : w.heap[b]? = some o) : b < w.heap.size := (Array.getElem?_eq_some_iff.1 h).1
theorem LineAt.move {base : Nat} {w w' : World} {r : Row} (h : LineAt base w r) (h1 : w'.heap[r.b]? = w.heap[r.b]?) (h2 : ∀ k, r.v.ownBlock = some k → w'.heap[k]? = w.heap[k]?) : LineAt base w' r :=
  ⟨h.bb, h.wf, h1.trans h.cell, q_move h.row h2⟩
theorem map_move {P : Program} {k : TypeId} {R : Value → Option (DataW Unit × List MemPlace)} {w w' : World} {b n : Nat} {D : DataW Unit} (h : w.ownsMap P k R b n D) (hb : w'.heap[b]? = w.heap[b]?) : w'.ownsMap P k R b n D := by
  obtain ⟨es, clock, h1, r⟩ := h
  exact ⟨es, clock, hb.trans h1, r⟩
theorem map_at {P : Program} {k : TypeId} {R : Value → Option (DataW Unit × List MemPlace)} {w : World} {b n : Nat} {D : DataW Unit} (h : w.ownsMap P k R b n D) : ∃ es clock, w.heap[b]? = some (.map es clock) := by
  obtain ⟨es, clock, h1, r⟩ := h
  exact ⟨es, clock, h1⟩
theorem two_types {w : World} {a b : Nat} {c1 c2 : Array Value} {t1 t2 : TypeId} {f1 f2 : Nat × Nat} (h1 : w.heap[a]? = some (Obj.cells c1 t1 f1)) (h2 : w.heap[b]? = some (Obj.cells c2 t2 f2)) (ht : t1 ≠ t2) : a ≠ b := by
  rintro rfl
  rw [h1] at h2
  injection h2 with h2
  injection h2 with _ h2
  exact ht h2
section
variable {base p mb n : Nat} {w w' : World} {room : Int} {G : List Row}
theorem FeedAt.size (h : FeedAt base w p room mb n G) : base ≤ w.heap.size := by have := blk_lt h.feed; have := h.pb; omega
theorem FeedAt.keep (h : FeedAt base w p room mb n G) (hk : ∀ j, j < w.heap.size → base ≤ j → w'.heap[j]? = w.heap[j]?) : FeedAt base w' p room mb n G where
  pb := h.pb
  mbb := h.mbb
  feed := (hk p (blk_lt h.feed) h.pb).trans h.feed
  map := map_move h.map (by obtain ⟨_, _, hm⟩ := map_at h.map; exact hk mb (blk_lt hm) h.mbb)
  rising := h.rising
  lines := fun r hr => by
    have hL := h.lines r hr
    exact hL.move (hk _ (blk_lt hL.cell) hL.bb) fun k hk' => hk k (q_lt hL.row k hk') (q_typed hL.row k hk').1
  apart := h.apart
theorem FeedAt.later (h : FeedAt base w p room mb n G) (hb : Below w.heap.size w w') : FeedAt base w' p room mb n G := h.keep fun j hj _ => hb.block j hj
theorem FeedAt.mono (h : FeedAt base w p room mb n G) {m : Nat} (hm : n ≤ m) : FeedAt base w p room mb m G := { h with map := h.map.mono hm }
/-- One line is turned. -/
theorem FeedAt.turn (h : FeedAt base w p room mb n G) {k : Int} {r : Row} (hl : look k G = some r) {g : Row → Row} (hg : Leaves g)
    (hk : ∀ j, j < w.heap.size → j ≠ r.b → r.v.ownBlock ≠ some j → w'.heap[j]? = w.heap[j]?) (hr : LineAt base w' (g r))
    (ho : ∀ j, (g r).v.ownBlock = some j → r.v.ownBlock = some j ∨ w.heap.size ≤ j) : FeedAt base w' p room mb n (upd k g G) := by
  obtain ⟨hm, hrk⟩ := look_some hl
  have hL := h.lines r hm
  have hown : ∀ j, r.v.ownBlock = some j → ∃ cells, w.heap[j]? = some (Obj.cells cells 31 (0, 0)) := fun j hj => (q_typed hL.row j hj).2
  have hone : ∀ s ∈ G, s.k = k → s = r := fun s hs e => by
    have := look_mem h.rising hs
    rw [e, hl] at this
    injection this with this
    exact this.symm
  have hother : ∀ s ∈ G, s.k ≠ k → LineAt base w' s := fun s hs hne => by
    have hS := h.lines s hs
    have hA := h.apart s hs r hm (by rw [hrk]; exact hne)
    refine hS.move (hk _ (blk_lt hS.cell) hA.1 fun e => ?_) fun j hj => hk j (q_lt hS.row j hj) ?_ fun e => hA.2 j hj e
    · obtain ⟨c, hc⟩ := hown _ e
      exact two_types hS.cell hc (by decide) rfl
    · rintro rfl
      obtain ⟨c, hc⟩ := (q_typed hS.row _ hj).2
      exact two_types hL.cell hc (by decide) rfl
  obtain ⟨es, clock, hmap⟩ := map_at h.map
  refine ⟨h.pb, h.mbb, ?_, ?_, rising_upd hg k h.rising, ?_, ?_⟩
  · refine (hk p (blk_lt h.feed) (two_types h.feed hL.cell (by decide)) fun e => ?_).trans h.feed
    obtain ⟨c, hc⟩ := hown _ e
    exact two_types h.feed hc (by decide) rfl
  · rw [datum_upd hg]
    refine map_move h.map (hk mb (blk_lt hmap) ?_ fun e => ?_)
    · rintro rfl
      rw [hL.cell] at hmap
      cases hmap
    · obtain ⟨c, hc⟩ := hown _ e
      rw [hc] at hmap
      cases hmap
  · intro s hs
    obtain ⟨s0, hs0, rfl⟩ := List.mem_map.1 hs
    split
    · rename_i e
      rw [hone s0 hs0 e]
      exact hr
    · rename_i e
      exact hother s0 hs0 e
  · have key : ∀ s ∈ G, s.k ≠ k → Apart (g r) s := fun s hs hne => by
      have hS := h.lines s hs
      have hA := h.apart r hm s hs (by rw [hrk]; exact fun e => hne e.symm)
      refine ⟨by rw [hg.b]; exact hA.1, fun j hj he => ?_⟩
      rcases ho j hj with h1 | h1
      · exact hA.2 j h1 he
      · have := q_lt hS.row j he
        omega
    intro a ha b hb hne
    obtain ⟨a0, ha0, rfl⟩ := List.mem_map.1 ha
    obtain ⟨b0, hb0, rfl⟩ := List.mem_map.1 hb
    by_cases h1 : a0.k = k
    · by_cases h2 : b0.k = k
      · simp only [h1, h2, if_true, hg.k] at hne
        exact absurd rfl hne
      · simp only [h1, h2, if_true, if_false]
        rw [hone a0 ha0 h1]
        exact key b0 hb0 h2
    · by_cases h2 : b0.k = k
      · simp only [h1, h2, if_true, if_false]
        rw [hone b0 hb0 h2]
        exact (key a0 ha0 h1).symm
      · simp only [h1, h2, if_false] at hne ⊢
        exact h.apart a0 ha0 b0 hb0 hne
theorem FeedAt.dropped (h : FeedAt base w p room mb n G) (k : Int) (hm : w'.ownsMap Try.prog 3 lineRd mb n ((datum G).del (kl k))) (ht : w.mapTurned w' mb) : FeedAt base w' p room mb n (del k G) := by
  obtain ⟨es, clock, hmap⟩ := map_at h.map
  have hk : ∀ j, j < w.heap.size → j ≠ mb → w'.heap[j]? = w.heap[j]? := fun j hj hne => ht.grown.block j hj (fun e => hne (by injection e))
  have hcell : ∀ j c t f, w.heap[j]? = some (Obj.cells c t f) → w'.heap[j]? = w.heap[j]? := fun j c t f hc => hk j (blk_lt hc) (by rintro rfl; rw [hc] at hmap; cases hmap)
  refine ⟨h.pb, h.mbb, (hcell _ _ _ _ h.feed).trans h.feed, by rw [← datum_del]; exact hm, rising_del k h.rising, fun r hr => ?_, fun r hr s hs => h.apart r (List.mem_filter.1 hr).1 s (List.mem_filter.1 hs).1⟩
  have hL := h.lines r (List.mem_filter.1 hr).1
  refine hL.move (hcell _ _ _ _ hL.cell) fun j hj => ?_
  obtain ⟨c, hc⟩ := (q_typed hL.row j hj).2
  exact hcell _ _ _ _ hc
/-- A new line. -/
def fresh (k : Int) (b : Nat) : Row := { k, b, f := false, v := .slice none 0 0, q := [] }
theorem FeedAt.stored (h : FeedAt base w p room mb n G) (k : Int) (b : Nat) (hwf : wfI k) (hl : look k G = none) (hb : w.heap[b]? = some (Obj.cells #[.bool false, .slice none 0 0] 58 (0, 0))) (hbb : base ≤ b) (hne : ∀ r ∈ G, r.b ≠ b)
    (hm : w'.ownsMap Try.prog 3 lineRd mb (n + 1) ((datum G).put (kl k) (.lit (.int .i64 b)))) (ht : w.mapTurned w' mb) : FeedAt base w' p room mb (n + 1) (ins (fresh k b) G) := by
  obtain ⟨es, clock, hmap⟩ := map_at h.map
  have hk : ∀ j, j < w.heap.size → j ≠ mb → w'.heap[j]? = w.heap[j]? := fun j hj hne => ht.grown.block j hj (fun e => hne (by injection e))
  have hcell : ∀ j c t f, w.heap[j]? = some (Obj.cells c t f) → w'.heap[j]? = w.heap[j]? := fun j c t f hc => hk j (blk_lt hc) (by rintro rfl; rw [hc] at hmap; cases hmap)
  have hnew : ∀ s ∈ G, Apart (fresh k b) s := fun s hs => ⟨fun e => hne s hs e.symm, fun j hj => by simp [fresh, Value.ownBlock] at hj⟩
  refine ⟨h.pb, h.mbb, (hcell _ _ _ _ h.feed).trans h.feed, by rw [← datum_put (fresh k b) hl]; exact hm, rising_ins h.rising hl, fun r hr => ?_, fun r hr s hs hrs => ?_⟩
  · rcases mem_ins.1 hr with rfl | hr
    · exact ⟨hbb, hwf, (hcell _ _ _ _ hb).trans hb, rfl, .inl ⟨rfl, none, rfl, fun a ha => by cases ha⟩⟩
    · have hL := h.lines r hr
      refine hL.move (hcell _ _ _ _ hL.cell) fun j hj => ?_
      obtain ⟨c, hc⟩ := (q_typed hL.row j hj).2
      exact hcell _ _ _ _ hc
  · rcases mem_ins.1 hr with rfl | hr
    · rcases mem_ins.1 hs with rfl | hs
      · exact absurd rfl hrs
      · exact hnew s hs
    · rcases mem_ins.1 hs with rfl | hs
      · exact (hnew r hr).symm
      · exact h.apart r hr s hs hrs
end
def atG (k : Int) (b : Nat) (G : List Row) : List Row := match look k G with | some _ => G | none => ins (fresh k b) G
def tidyG (k : Int) (G : List Row) : List Row := match look k G with | some r => if r.f = false ∧ r.n = 0 then del k G else G | none => G
/-- The feed's own blocks. -/
def Foot (p mb : Nat) (G : List Row) (j : Nat) : Prop := j = p ∨ j = mb ∨ ∃ r ∈ G, r.b = j ∨ r.v.ownBlock = some j
/-- From one state of the feed to another one nothing turns but its own blocks; what it has more is new. -/
structure Step (p mb : Nat) (G : List Row) (w : World) (G' : List Row) (w' : World) : Prop where
  far : ∀ j, j < w.heap.size → ¬ Foot p mb G j → w'.heap[j]? = w.heap[j]?
  foot : ∀ j, Foot p mb G' j → Foot p mb G j ∨ w.heap.size ≤ j
  size : w.heap.size ≤ w'.heap.size
theorem Step.trans {p mb : Nat} {G G1 G2 : List Row} {w w1 w2 : World} (h : Step p mb G w G1 w1) (k : Step p mb G1 w1 G2 w2) : Step p mb G w G2 w2 :=
  ⟨fun j hj hn => (k.far j (Nat.lt_of_lt_of_le hj h.size) fun hf => by rcases h.foot j hf with h1 | h1; exact hn h1; omega).trans (h.far j hj hn),
    fun j hf => by
      rcases k.foot j hf with h1 | h1
      · exact h.foot j h1
      · exact .inr (Nat.le_trans h.size h1), Nat.le_trans h.size k.size⟩
theorem Step.below {p mb : Nat} {G : List Row} {w w' : World} (h : Below w.heap.size w w') : Step p mb G w G w' := ⟨fun j hj _ => h.block j hj, fun j hj => .inl hj, h.size⟩
theorem Step.sub {p mb : Nat} {G G' : List Row} {w w' : World} (hs : ∀ r ∈ G', r ∈ G) (hk : ∀ j, j < w.heap.size → j ≠ mb → w'.heap[j]? = w.heap[j]?) (hz : w.heap.size ≤ w'.heap.size) : Step p mb G w G' w' :=
  ⟨fun j hj hn => hk j hj fun e => hn (.inr (.inl e)), fun j hf => by
    rcases hf with h | h | ⟨r, hr, h⟩
    · exact .inl (.inl h)
    · exact .inl (.inr (.inl h))
    · exact .inl (.inr (.inr ⟨r, hs r hr, h⟩)), hz⟩
theorem Step.turn {p mb : Nat} {G : List Row} {w w' : World} {k : Int} {g : Row → Row} (hb : ∀ r ∈ G, r.k = k → (g r).b = r.b ∧ ∀ j, (g r).v.ownBlock = some j → r.v.ownBlock = some j ∨ w.heap.size ≤ j)
    (hk : ∀ j, j < w.heap.size → ¬ Foot p mb G j → w'.heap[j]? = w.heap[j]?) (hz : w.heap.size ≤ w'.heap.size) : Step p mb G w (upd k g G) w' :=
  ⟨hk, fun j hf => by
    rcases hf with h | h | ⟨r, hr, h⟩
    · exact .inl (.inl h)
    · exact .inl (.inr (.inl h))
    · obtain ⟨s, hs, rfl⟩ := List.mem_map.1 hr
      by_cases e : s.k = k
      · rw [if_pos e] at h
        obtain ⟨h1, h2⟩ := hb s hs e
        rcases h with h | h
        · exact .inl (.inr (.inr ⟨s, hs, .inl (h1.symm.trans h)⟩))
        · rcases h2 j h with h3 | h3
          · exact .inl (.inr (.inr ⟨s, hs, .inr h3⟩))
          · exact .inr h3
      · rw [if_neg e] at h
        exact .inl (.inr (.inr ⟨s, hs, h⟩)), hz⟩
theorem tidy_sub {k : Int} {G : List Row} : ∀ r ∈ tidyG k G, r ∈ G := fun r h => by
  unfold tidyG at h
  split at h
  · split at h
    · exact (List.mem_filter.1 h).1
    · exact h
  · exact h
theorem Step.tidy {p mb : Nat} {w w' : World} (k : Int) (G : List Row) (hk : ∀ j, j ≠ mb → w'.heap[j]? = w.heap[j]?) (hz : w.heap.size ≤ w'.heap.size) : Step p mb G w (tidyG k G) w' := .sub tidy_sub (fun j _ hj => hk j hj) hz
theorem Step.at {p mb : Nat} {G : List Row} {w w' : World} {k : Int} (hk : ∀ j, j < w.heap.size → j ≠ mb → w'.heap[j]? = w.heap[j]?) (hz : w.heap.size ≤ w'.heap.size) : Step p mb G w (atG k w.heap.size G) w' :=
  ⟨fun j hj hn => hk j hj fun e => hn (.inr (.inl e)), fun j hf => by
    rcases hf with h | h | ⟨r, hr, h⟩
    · exact .inl (.inl h)
    · exact .inl (.inr (.inl h))
    · unfold atG at hr
      split at hr
      · exact .inl (.inr (.inr ⟨r, hr, h⟩))
      · rcases mem_ins.1 hr with rfl | hr
        · rcases h with h | h
          · exact .inr (by simp only [fresh] at h; omega)
          · simp [fresh, Value.ownBlock] at h
        · exact .inl (.inr (.inr ⟨r, hr, h⟩)), hz⟩
theorem below_turned {base mb : Nat} {w w' : World} (h : w.mapTurned w' mb) (hb : base ≤ mb) : Below base w w' := by
  have hg := h.grown
  obtain ⟨es, clock, es', clock', hb', rfl⟩ := h
  exact ⟨hg.os, hg.tape, hg.output, hg.size, fun k hk => hg.block k (by have := blk_lt hb'; omega) (fun e => by injection e; omega)⟩
theorem turned_far {mb : Nat} {w w' : World} (h : w.mapTurned w' mb) {j : Nat} (hj : j ≠ mb) : w'.heap[j]? = w.heap[j]? := by
  obtain ⟨es, clock, es', clock', hb', rfl⟩ := h
  exact ChangeMaps.heap_setBlock_other hb' _ hj
set_option maxRecDepth 100000 in
theorem at_calls (base p mb n : Nat) (w : World) (room : Int) (G : List Row) (k : Int) (h : FeedAt base w p room mb n G) (hk : wfI k) (hn : n < 1000000) :
    Calls Try.prog 23 #[.pointer (some ⟨p, 0, none⟩), .int .i64 k] w fun e w' => ∃ r, look k (atG k w.heap.size G) = some r ∧ e = .returned (.pointer (some ⟨r.b, 0, none⟩)) ∧
      FeedAt base w' p room mb (n + 1) (atG k w.heap.size G) ∧ Below base w w' ∧ ∀ j, j < w.heap.size → j ≠ mb → w'.heap[j]? = w.heap[j]? := by
  have c1 : w.cell? ⟨p, 1, none⟩ = some (.map (some mb)) := blk_cell h.feed 1
  have HS := h.size
  go_enter Try.func23, Try.ntmps23
  rcases h.look_ok hk with ⟨r, hl, hr⟩ | ⟨hl, hr⟩
  · have hA : Aside0 (atG k w.heap.size G = G) := ⟨by simp [atG, hl]⟩
    have HL := Aside0.mk hl
    clear hl
    go_wp2
    go_ret
    rw [hA.out]
    exact ⟨r, HL.out, rfl, h.mono (Nat.le_succ _), Below.refl _ _, fun _ _ _ => rfl⟩
  · have hA : Aside0 (atG k w.heap.size G = ins (fresh k w.heap.size) G) := ⟨by simp [atG, hl]⟩
    have HL := Aside0.mk hl
    have H := Aside0.mk h
    have HN := Aside0.mk hn
    have h1 : FeedAt base (w.alloc (.cells #[.bool false, .slice none 0 0] 58)) p room mb n G := h.later (below_alloc (Below.refl _ _) _)
    have H1 := Aside0.mk h1
    have c2 : (w.alloc (.cells #[.bool false, .slice none 0 0] 58)).cell? ⟨p, 1, none⟩ = some (.map (some mb)) := blk_cell h1.feed 1
    clear hl h hn h1
    have HK := Aside0.mk hk
    have HC := Aside0.mk c1
    go_wp2_with (at_mapUpdate; refine wpList_mapUpdate_in _ rfl _ _ _ 46 rfl 3 54 keyed Try.underlying46 lineRd mb n (datum G) rfl H1.out.map (by have := HN.out; simp only [maxLen]; omega) _ _ (kl k) rfl rfl (key_of HK.out) (.lit (.int .i64 w.heap.size)) [] rfl ?_; intro w1 hown1 hturn1; have HO1 := Aside0.mk hown1; have HT1 := Aside0.mk hturn1; clear hown1 hturn1)
    go_ret
    rw [hA.out]
    exact ⟨fresh k w.heap.size, (look_ins (x := fresh k w.heap.size) k HL.out).trans (if_pos rfl), rfl,
      H1.out.stored k w.heap.size HK.out HL.out (heap_alloc_new w _) HS (fun r hr e => by have := blk_lt (H.out.lines r hr).cell; omega) HO1.out HT1.out,
      ((Below.refl base w).alloc HS _).trans (below_turned HT1.out H.out.mbb), fun j hj hne => (turned_far HT1.out hne).trans (Below.heap_alloc _ _ j hj)⟩
set_option maxRecDepth 100000 in
theorem tidy_calls (base p mb n : Nat) (w : World) (room : Int) (G : List Row) (k : Int) (h : FeedAt base w p room mb n G) (hk : wfI k) :
    Calls Try.prog 21 #[.pointer (some ⟨p, 0, none⟩), .int .i64 k] w fun e w' => e = .returned (.tuple #[]) ∧ FeedAt base w' p room mb n (tidyG k G) ∧ Below base w w' ∧ ∀ j, j ≠ mb → w'.heap[j]? = w.heap[j]? := by
  have c1 : w.cell? ⟨p, 1, none⟩ = some (.map (some mb)) := blk_cell h.feed 1
  go_enter Try.func21, Try.ntmps21
  have H := Aside0.mk h
  have HK := Aside0.mk hk
  rcases h.look_ok hk with ⟨r, hl, hr⟩ | ⟨hl, hr⟩
  · have hL := h.lines r (look_some hl).1
    have c2 : w.cell? ⟨r.b, 0, none⟩ = some (.bool r.f) := blk_cell hL.cell 0
    have c3 : w.cell? ⟨r.b, 1, none⟩ = some r.v := blk_cell hL.cell 1
    obtain ⟨A, c, hv, hc⟩ := q_slice hL.row
    rw [hv] at c3
    have HL := Aside0.mk hl
    by_cases hf : r.f = false
    · rw [hf] at c2
      by_cases hz : r.n = 0
      · have hA : Aside0 (tidyG k G = del k G) := ⟨by simp [tidyG, hl, hf, hz]⟩
        rw [hz] at c3
        clear h hl hL hv hf hz hc hk
        go_wp2_with (at_delete; refine wpList_delete_own _ rfl _ _ 46 3 rfl 54 keyed Try.underlying46 lineRd mb n (datum G) rfl H.out.map _ (kl k) rfl (key_of HK.out) ?_; intro w1 hown1 hturn1; have HO1 := Aside0.mk hown1; have HT1 := Aside0.mk hturn1; clear hown1 hturn1)
        go_end0
        rw [hA.out]
        exact ⟨rfl, H.out.dropped k HO1.out HT1.out, below_turned HT1.out H.out.mbb, fun j hj => turned_far HT1.out hj⟩
      · have hA : Aside0 (tidyG k G = G) := ⟨by simp [tidyG, hl, hz]⟩
        have hz' : ¬ ((r.n : Int) = 0) := by omega
        have HZ := Aside0.mk hz
        clear h hl hL hv hf hc hk hz
        go_wp2
        go_end0
        rw [hA.out]
        exact ⟨rfl, H.out, Below.refl _ _, fun _ _ => rfl⟩
    · have hf' : r.f = true := by simpa using hf
      have hA : Aside0 (tidyG k G = G) := ⟨by simp [tidyG, hl, hf']⟩
      rw [hf'] at c2
      clear h hl hL hv hf hc hk hf'
      go_wp2
      go_end0
      rw [hA.out]
      exact ⟨rfl, H.out, Below.refl _ _, fun _ _ => rfl⟩
  · have hA : Aside0 (tidyG k G = G) := ⟨by simp [tidyG, hl]⟩
    clear h hl hk
    go_wp2
    go_end0
    rw [hA.out]
    exact ⟨rfl, H.out, Below.refl _ _, fun _ _ => rfl⟩
set_option maxRecDepth 100000 in
theorem forget_calls (base p mb n : Nat) (w : World) (room : Int) (G : List Row) (k : Int) (h : FeedAt base w p room mb n G) (hk : wfI k) :
    Calls Try.prog 13 #[.pointer (some ⟨p, 0, none⟩), .int .i64 k] w fun e w' => e = .returned (.int .i64 (waits (look k G))) ∧ FeedAt base w' p room mb n (del k G) ∧ Below base w w' ∧ Step p mb G w (del k G) w' := by
  have c1 : w.cell? ⟨p, 1, none⟩ = some (.map (some mb)) := blk_cell h.feed 1
  go_enter Try.func13, Try.ntmps13
  have H := Aside0.mk h
  have HK := Aside0.mk hk
  clear h hk
  go_wp2_with (go_at_call 11; fail)
  refine (waiting_calls base p mb n w room G k H.out HK.out).mono ?_
  rintro e w1 ⟨rfl, rfl⟩
  go_wp2_with (at_delete; refine wpList_delete_own _ rfl _ _ 46 3 rfl 54 keyed Try.underlying46 lineRd mb n (datum G) rfl H.out.map _ (kl k) rfl (key_of HK.out) ?_; intro w1 hown1 hturn1; have HO1 := Aside0.mk hown1; have HT1 := Aside0.mk hturn1; clear hown1 hturn1)
  go_ret
  exact ⟨rfl, H.out.dropped k HO1.out HT1.out, below_turned HT1.out H.out.mbb, .sub (fun r hr => (List.mem_filter.1 hr).1) (fun j _ hj => turned_far HT1.out hj) (HT1.out.grown).size⟩
/-- One more follows no more. -/
def setF (b : Bool) (r : Row) : Row := { r with f := b }
theorem setF_leaves (b : Bool) : Leaves (setF b) := ⟨fun _ => rfl, fun _ => rfl⟩
theorem FeedAt.setF {base p mb n : Nat} {w : World} {room : Int} {G : List Row} (h : FeedAt base w p room mb n G) {k : Int} {r : Row} (hl : look k G = some r) (b : Bool) :
    FeedAt base (w.setCell ⟨r.b, 0, none⟩ (.bool b)) p room mb n (upd k (setF b) G) ∧ Below base w (w.setCell ⟨r.b, 0, none⟩ (.bool b)) ∧ Step p mb G w (upd k (setF b) G) (w.setCell ⟨r.b, 0, none⟩ (.bool b)) := by
  have hL := h.lines r (look_some hl).1
  have hoth : ∀ j, j ≠ r.b → (w.setCell ⟨r.b, 0, none⟩ (.bool b)).heap[j]? = w.heap[j]? := fun j hj => Below.heap_setCell w _ _ j hj
  refine ⟨h.turn hl (setF_leaves b) (fun j _ hj _ => hoth j hj) ⟨hL.bb, hL.wf, blk_put hL.cell 0 (.bool b) rfl, q_move hL.row fun j hj => hoth j ?_⟩ (fun j hj => .inl hj), (Below.refl base w).setCell (p := ⟨r.b, 0, none⟩) hL.bb _, .turn (fun s _ _ => ⟨rfl, fun j hj => .inl hj⟩) (fun j _ hn => hoth j fun e => hn (.inr (.inr ⟨r, (look_some hl).1, .inl e.symm⟩))) (by simp [World.setCell])⟩
  rintro rfl
  obtain ⟨c, hc⟩ := (q_typed hL.row _ hj).2
  exact two_types hL.cell hc (by decide) rfl
def unsubG (k : Int) (b : Nat) (G : List Row) : List Row := tidyG k (upd k (setF false) (atG k b G))
theorem follows_at (k : Int) (b : Nat) (G : List Row) {r : Row} (h : look k (atG k b G) = some r) : r.f = follows (look k G) := by
  unfold atG at h
  cases hl : look k G with
  | none =>
    rw [hl] at h
    simp only at h
    have h2 := (look_ins (x := fresh k b) k hl).symm.trans h
    rw [if_pos (show k = (fresh k b).k from rfl)] at h2
    injection h2 with h2
    rw [← h2]
    rfl
  | some s =>
    rw [hl] at h
    simp only at h
    rw [hl] at h
    injection h with h
    rw [← h]
    rfl
set_option maxRecDepth 100000 in
theorem unsub_calls (base p mb n : Nat) (w : World) (room : Int) (G : List Row) (k : Int) (h : FeedAt base w p room mb n G) (hk : wfI k) (hn : n < 1000000) :
    Calls Try.prog 17 #[.pointer (some ⟨p, 0, none⟩), .int .i64 k] w fun e w' => e = .returned (.bool (follows (look k G))) ∧ FeedAt base w' p room mb (n + 1) (unsubG k w.heap.size G) ∧ Below base w w' ∧ Step p mb G w (unsubG k w.heap.size G) w' := by
  go_enter Try.func17, Try.ntmps17
  have H := Aside0.mk h
  have HK := Aside0.mk hk
  have HN := Aside0.mk hn
  clear h hk hn
  go_wp2_with (go_at_call 23; fail)
  refine (at_calls base p mb n w room G k H.out HK.out HN.out).mono ?_
  rintro e w1 ⟨r, hl, rfl, h1, hb1, hfar1⟩
  have S1 := Aside0.mk (Step.at (p := p) (G := G) (k := k) hfar1 hb1.size)
  have hL := h1.lines r (look_some hl).1
  have c1 : w1.cell? ⟨r.b, 0, none⟩ = some (.bool r.f) := blk_cell hL.cell 0
  have f1 : w1.frozen? ⟨r.b, 0, none⟩ = false := blk_frozen hL.cell 0
  obtain ⟨h2, hb2, hs2⟩ := h1.setF hl false
  have S2 := Aside0.mk hs2
  have hf := follows_at k _ G hl
  have H2 := Aside0.mk h2
  have B1 := Aside0.mk hb1
  have B2 := Aside0.mk hb2
  have HF := Aside0.mk hf
  clear hl h1 hb1 hL h2 hb2 hf hfar1 hs2
  go_wp2_with (go_at_call 21; fail)
  refine (tidy_calls base p mb (n + 1) _ room _ k H2.out HK.out).mono ?_
  rintro e w2 ⟨rfl, h3, hb3, hf3⟩
  have S3 := Aside0.mk (Step.tidy (p := p) k (upd k (setF false) (atG k w.heap.size G)) hf3 hb3.size)
  have H3 := Aside0.mk h3
  have B3 := Aside0.mk hb3
  clear h3 hb3 hf3
  go_wp2
  go_ret
  exact ⟨congrArg (fun b => Ending.returned (.bool b)) HF.out, H3.out, (B1.out.trans B2.out).trans B3.out, (S1.out.trans S2.out).trans S3.out⟩
end Go.Proofs.Ytdeagfjfipbniaa.F
