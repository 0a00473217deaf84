/- The contract of rlp.Items. -/
import Derived.Test.YtibhhikaecpgiaaDoorL8
import Derived.Maps.AppendAt
set_option linter.unusedSimpArgs false
set_option linter.unusedVariables false
namespace Go.Proofs.YtibhhikaecpgiaaDoor.R
open Go.RowKit Go.Shelf Go.Proofs.YtibhhikaecpgiaaDoorW.PrintWords Go.Proofs.YtibhhikaecpgiaaDoorW.PrintLast Go.Proofs.YtibhhikaecpgiaaDoorW.PrintMore
attribute [local go_sem] Oper.semAt_some

def strs (xs : List L) : List Value := xs.map fun x => Value.string (B x)
theorem strs_length (xs : List L) : (strs xs).length = xs.length := by simp [strs]
theorem each_calls (w : World) (s : L) (be : Nat) :
    Calls Tryd.prog 17 #[.string (B s), .pointer (some ⟨be, 0, none⟩)] w fun e w' => e = .returned (.func (.func 24) #[] #[.pointer (some ⟨w.heap.size, 0, none⟩), .pointer (some ⟨w.heap.size + 1, 0, none⟩)]) ∧ w' = (w.alloc (.cells #[.string (B s)] 9)).alloc (.cells #[.pointer (some ⟨be, 0, none⟩)] 50) := by
  go_enter Tryd.func17, Tryd.ntmps17
  go_wp2
  go_ret
  exact ⟨rfl, rfl⟩
/-- What lies between two rounds of Items. -/
structure ItemsI (w W : World) (pre : List L) : Prop where
  row : ∃ v, W.heap[w.heap.size]? = some (Obj.cells #[v] 29 (0, 0)) ∧ W.ownsRow (w.heap.size + 6) 9 1 v pre.length (strs pre)
  err : W.heap[w.heap.size + 1]? = some (Obj.cells #[.nilIface] 47 (0, 0))
  below : Below w.heap.size w W
theorem infoStr : (Tryd.prog.info? 9).map (fun i => (i.zero, i.size, i.bytes)) = some (some (.string ⟨#[]⟩), 1, 16) := by kernel_rfl
theorem own_soft {W W' : World} {bs D base e size n : Nat} {v : Value} {xs : List Value} (h : W.ownsRow base e size v n xs) (hs : Soft bs D W W') (h1 : bs < base) (h2 : D + 1 < base) : W'.ownsRow base e size v n xs := by
  refine own_move h fun k hk => ?_
  rcases h.2 with ⟨rfl, _⟩ | ⟨g, cap, cur, rfl, hg, hh, _⟩
  · cases hk
  · have e : g = k := by simpa [Value.ownBlock] using hk
    subst e
    exact hs.block g (blk_lt hh) (by omega) (by omega) (by omega)
theorem own_notin {W : World} {base e size n : Nat} {v : Value} {xs : List Value} (h : W.ownsRow base e size v n xs) {k : Nat} (hk : k < base) : some k ≠ v.ownBlock := by
  rcases h.2 with ⟨rfl, _⟩ | ⟨g, cap, cur, rfl, hg, hh, _⟩
  · intro h; cases h
  · intro h
    have e : k = g := by simpa [Value.ownBlock] using h
    omega
theorem own_weaken {W : World} {base base' e size n : Nat} {v : Value} {xs : List Value} (h : W.ownsRow base e size v n xs) (hb : base' ≤ base) : W.ownsRow base' e size v n xs := by
  refine ⟨h.1, ?_⟩
  rcases h.2 with h2 | ⟨g, cap, cur, h3, hg, r⟩
  · exact .inl h2
  · exact .inr ⟨g, cap, cur, h3, Nat.le_trans hb hg, r⟩
theorem boxes4 (w : World) (o1 o2 o3 o4 : Obj) : ((((w.alloc o1).alloc o2).alloc o3).alloc o4).heap[w.heap.size]? = some o1 ∧ ((((w.alloc o1).alloc o2).alloc o3).alloc o4).heap[w.heap.size + 1]? = some o2 ∧
    ((((w.alloc o1).alloc o2).alloc o3).alloc o4).heap[w.heap.size + 2]? = some o3 ∧ ((((w.alloc o1).alloc o2).alloc o3).alloc o4).heap[w.heap.size + 3]? = some o4 := by
  have e1 : (w.alloc o1).heap.size = w.heap.size + 1 := World.size_alloc _ _
  have e2 : ((w.alloc o1).alloc o2).heap.size = w.heap.size + 2 := by rw [World.size_alloc, e1]
  have e3 : (((w.alloc o1).alloc o2).alloc o3).heap.size = w.heap.size + 3 := by rw [World.size_alloc, e2]
  refine ⟨?_, ?_, ?_, ?_⟩
  · exact (Below.heap_alloc _ _ _ (by omega)).trans ((Below.heap_alloc _ _ _ (by omega)).trans ((Below.heap_alloc _ _ _ (by omega)).trans (World.alloc_heap_new _ _)))
  · rw [← e1]; exact (Below.heap_alloc _ _ _ (by omega)).trans ((Below.heap_alloc _ _ _ (by omega)).trans (World.alloc_heap_new _ _))
  · rw [← e2]; exact (Below.heap_alloc _ _ _ (by omega)).trans (World.alloc_heap_new _ _)
  · rw [← e3]; exact World.alloc_heap_new _ _
set_option maxRecDepth 100000 in
set_option maxHeartbeats 4000000 in
theorem Items_in (w : World) (s : L) (hs : s.length ≤ 1000000000) :
    CallsIn Fence.wide 9 Tryd.prog 9 #[.string (B s)] w fun e w' =>
      ((∃ xs A c, itemsL s = some xs ∧ e = .returned (.tuple #[.slice A xs.length c, .int .i64 0]) ∧ w'.ownsRow w.heap.size 9 1 (.slice A xs.length c) xs.length (strs xs)) ∨
        (itemsL s = none ∧ e = .returned (.tuple #[.slice none 0 0, .int .i64 2]))) ∧ Below w.heap.size w w' := by
  refine callsIn_of_wp_marks Tryd.func9 rfl trivial ?_ rfl
  simp only [Tryd.ntmps9, List.size_toArray, List.length_cons, List.length_nil, Nat.reduceAdd, Nat.reduceSub, Array.replicate_succ, Array.replicate_zero, List.push_toArray, List.append_toArray, List.nil_append, List.cons_append]
  gi_wp2_with (gi_at_call 17; fail)
  refine ⟨trivial, (callsIn_wide.2 (each_calls _ s _)).mono ?_⟩
  rintro e w4 ⟨rfl, hw4⟩
  have hsz4 : w4.heap.size = w.heap.size + 4 := by rw [hw4]; simp
  have hbl : Below w.heap.size w w4 := by rw [hw4]; exact ((((Below.refl _ w).alloc (Nat.le_refl _) _).alloc (by simp) _).alloc (by simp; omega) _).alloc (by simp; omega) _
  have hb0 : w4.heap[w.heap.size]? = some (Obj.cells #[.slice none 0 0] 29 (0, 0)) := by rw [hw4]; exact (boxes4 w _ _ _ _).1
  have hb1 : w4.heap[w.heap.size + 1]? = some (Obj.cells #[.nilIface] 47 (0, 0)) := by rw [hw4]; exact (boxes4 w _ _ _ _).2.1
  have hbx : Boxes w4 (w.heap.size + 2) (w.heap.size + 3) (w.heap.size + 1) s := by
    rw [hw4]
    obtain ⟨h1, h2, h3, h4⟩ := boxes4 w (.cells #[.slice none 0 0] 29) (.cells #[.nilIface] 47) (.cells #[.string (B s)] 9) (.cells #[.pointer (some ⟨w.heap.size + 1, 0, none⟩)] 50)
    exact ⟨h3, h4, _, h2⟩
  clear hw4
  gi_wp2
  refine range_each (bs := w.heap.size + 2) (bp := w.heap.size + 3) (be := w.heap.size + 1) (s0 := s) hs rfl hbx (fun pre W => ItemsI w W pre) (fun _ _ _ => False) ?_ (fun _ _ _ _ h _ => h) ⟨⟨_, hb0, World.ownsRow_nil _ _ _ _⟩, hb1, hbl⟩
    (fun x => { tmps := #[.string (B s), undef, .slice none 0 0, .int .i64 0, .pointer (some ⟨w.heap.size, 0, none⟩), .pointer (some ⟨w.heap.size + 1, 0, none⟩), .string (B x), .string (B s), .func (.func 24) #[] #[.pointer (some ⟨w.heap.size + 2, 0, none⟩), .pointer (some ⟨w.heap.size + 3, 0, none⟩)], .string (B x), undef, undef, undef, undef, undef, undef, undef, undef, undef], defers := [] }) ?assign ?body ?done ?bad ?stop
  · rintro pre W W' ⟨⟨v, hv, ho⟩, he, hb⟩ hS
    rw [hsz4] at hS
    exact ⟨⟨v, (hS.block _ (blk_lt hv) (by omega) (by omega) (by omega)).trans hv, own_soft ho hS (by omega) (by omega)⟩, (hS.block _ (blk_lt he) (by omega) (by omega) (by omega)).trans he, hb.trans ⟨hS.os, hS.tape, hS.output, hS.size, fun k hk => hS.block k (by have := hb.size; omega) (by omega) (by omega) (by omega)⟩⟩
  case assign =>
    intro l x W K hK
    gi_wp2
    exact hK
  case body =>
    rintro l pre x rest W ⟨⟨v, hv, ho⟩, he, hb⟩ hX hxl hpl hlt _ _
    rw [hsz4] at hlt ⊢
    have c1 : W.cell? ⟨w.heap.size, 0, none⟩ = some v := blk_cell hv 0
    have HV := Aside0.mk hv
    have HO := Aside0.mk ho
    have HE := Aside0.mk he
    have HBW := Aside0.mk hb
    have HXX := Aside0.mk hX
    have HPL := Aside0.mk hpl
    obtain ⟨i0, hi0, hzz⟩ := Option.map_eq_some_iff.1 infoStr
    simp only [Prod.mk.injEq] at hzz
    obtain ⟨hz0, hz1, hz2⟩ := hzz
    have HZ := Aside0.mk (And.intro hi0 (And.intro hz0 (And.intro hz1 hz2)))
    clear hv ho he hb hX hpl hi0 hz0 hz1 hz2
    gi_wp2_with (gi_at_builtin; refine wpListIn_append_own _ rfl _ _ 29 rfl (w.heap.size + 6) 9 i0 (.string ⟨#[]⟩) 1 16 Tryd.underlying29 HZ.out.1 HZ.out.2.1 HZ.out.2.2.1 HZ.out.2.2.2 rfl (by decide) v pre.length (strs pre) rfl (HO.out.alloc _) ⟨W.heap.size, 0, none⟩ 1 1 [.string (B x)] rfl rfl (cell_one_new _ _ _) (by simp [Value.oneCell']) (by have := HPL.out; simp [maxLen]; omega) (by have := HPL.out; omega) (by simp; omega) ?_; intro v' w1 hown' hgrow _; obtain ⟨g', cap', rfl⟩ := ownsRow_succ hown'; have hsame : ∀ k, k < w.heap.size + 6 → w1.heap[k]? = W.heap[k]? := (fun k hk => (hgrow.block k (by simp; omega) (own_notin HO.out hk)).trans (Below.heap_alloc W _ k (by omega))); have hv1 := (hsame w.heap.size (by omega)).trans HV.out; have c2 : w1.cell? ⟨w.heap.size, 0, none⟩ = some v := blk_cell hv1 0; have f2 : w1.frozen? ⟨w.heap.size, 0, none⟩ = false := blk_frozen hv1 0; have HS1 := Aside0.mk hsame; have HV1 := Aside0.mk hv1; have O1 := Aside0.mk hown'; have G1 := Aside0.mk hgrow; clear hsame hv1 hown' hgrow)
    have hD : ∀ k, k < w.heap.size + 6 → k ≠ w.heap.size → (w1.setCell ⟨w.heap.size, 0, none⟩ (.slice (some ⟨g', 0, none⟩) (pre.length + 1) cap')).heap[k]? = W.heap[k]? := fun k hk hne => (Below.heap_setCell w1 _ _ k hne).trans (HS1.out k hk)
    have hown2 : (w1.setCell ⟨w.heap.size, 0, none⟩ (.slice (some ⟨g', 0, none⟩) (pre.length + 1) cap')).ownsRow (w.heap.size + 6) 9 1 (.slice (some ⟨g', 0, none⟩) (pre.length + 1) cap') (pre ++ [x]).length (strs (pre ++ [x])) := by
      have h1 := ownsRow_setCell_below O1.out (a := ⟨w.heap.size, 0, none⟩) (by show w.heap.size < w.heap.size + 6; omega) (.slice (some ⟨g', 0, none⟩) (pre.length + 1) cap')
      rw [List.length_append, List.length_singleton]
      have h2 : strs (pre ++ [x]) = strs pre ++ [.string (B x)] := by simp [strs]
      rw [h2]
      exact h1
    have hbel : Below w.heap.size w (w1.setCell ⟨w.heap.size, 0, none⟩ (.slice (some ⟨g', 0, none⟩) (pre.length + 1) cap')) := by
      refine Below.setCell ?_ (p := ⟨w.heap.size, 0, none⟩) (Nat.le_refl _) _
      refine (HBW.out.alloc HBW.out.size _).grown G1.out (by have := HBW.out.size; simp; omega) (fun k e => ?_)
      rcases HO.out.2 with ⟨rfl, _⟩ | ⟨g, cap, cur, rfl, hg, _⟩
      · cases e
      · have e2 : g = k := by simpa [Value.ownBlock] using e
        omega
    exact ⟨hD _ (by omega) (by omega), hD _ (by omega) (by omega), HXX.out.keep fun k hk => hD k (by omega) (by omega), ⟨⟨_, setCell_same HV1.out, hown2⟩, (hD _ (by omega) (by omega)).trans HE.out, hbel⟩⟩
  case done =>
    rintro xs W hxs ⟨⟨v, hv, ho⟩, he, hb⟩ hK hlt
    rw [hsz4] at hK ⊢
    have c1 : W.cell? ⟨w.heap.size, 0, none⟩ = some v := blk_cell hv 0
    have c2 : W.cell? ⟨w.heap.size + 1, 0, none⟩ = some .nilIface := blk_cell he 0
    obtain ⟨A, c, rfl, _⟩ := q_slice (q_of_own ho)
    have HO := Aside0.mk ho
    have HBW := Aside0.mk hb
    have HK := Aside0.mk hK
    clear hv he ho hb hK
    gi_wp2
    refine ⟨by simp, .inl ⟨_, _, rfl, run_takeDeferred HK.out, ?_⟩⟩
    refine ⟨_, results_tmp2 rfl _ _ _, .inl ⟨xs, A, c, hxs, rfl, ?_⟩, ?_⟩
    · exact own_weaken (ownsRow_putObj HO.out _ HK.out rfl) (by omega)
    · exact HBW.out.trans (belowK_b (w := w) (Nat.le_refl _) W _ _ _ (by omega) HK.out rfl rfl)
  case bad =>
    rintro pre E W1 W2 hN ⟨⟨v, hv, ho⟩, he, hb⟩ hBd hbe hS hK
    rw [hsz4] at hS hK ⊢
    have he2 := (hS.block _ (by simpa [World.setCell] using hbe) (by omega) (by omega) (by omega)).trans (setCell_same (v' := E) he)
    have c2 : W2.cell? ⟨w.heap.size + 1, 0, none⟩ = some E := blk_cell he2 0
    have hb2 : Below w.heap.size w W2 := (hb.setCell (p := ⟨w.heap.size + 1, 0, none⟩) (by show w.heap.size ≤ w.heap.size + 1; omega) E).trans ⟨hS.os, hS.tape, hS.output, hS.size, fun k hk => hS.block k (by have := hb.size; simp [World.setCell]; omega) (by omega) (by omega) (by omega)⟩
    have HT := Aside0.mk (told_calls W2 E 1 hBd)
    obtain ⟨u1, v1, rfl⟩ := hBd.iface
    have HBW := Aside0.mk hb2
    have HK := Aside0.mk hK
    clear hv he ho hb hK hb2 he2 hS hBd
    gi_wp2_with (gi_at_call 18; fail)
    refine ⟨trivial, (callsIn_wide.2 HT.out).mono ?_⟩
    rintro e w5 ⟨rfl, rfl⟩
    gi_wp2
    refine ⟨by simp, .inl ⟨_, _, rfl, run_takeDeferred HK.out, ?_⟩⟩
    exact ⟨_, results_tmp2 rfl _ _ _, .inr ⟨hN, rfl⟩, HBW.out.trans (belowK_b (w := w) (Nat.le_refl _) _ _ _ _ (by omega) HK.out rfl rfl)⟩
  case stop =>
    rintro c pre W _ h _
    exact h.elim
end Go.Proofs.YtibhhikaecpgiaaDoor.R
