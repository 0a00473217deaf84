/- Ranging over rlp.each: the iterator's contract, and the law of the loop. -/
import Derived.Test.YtibhhikaecpgiaaDoorL5
import Derived.Test.YtibhhikaecpgiaaDoorP3
import Derived.RangeFuncNested
import Derived.RangeFuncBound
import Derived.RangeFuncCalls
import Derived.RangeFuncLeaves
import Derived.Shelf.Abstract
import Derived.Shelf.RegionOpen
import Derived.WalkKit
import Derived.OwnWalkIn
import Derived.TacticsInMore
import Derived.LoopNIn
import Derived.LoopIn
set_option linter.unusedSimpArgs false
set_option linter.unusedVariables false
namespace Go.Proofs.YtibhhikaecpgiaaDoor.R
open Go.RowKit Go.Shelf Go.Proofs.YtibhhikaecpgiaaDoorW.PrintWords Go.Proofs.YtibhhikaecpgiaaDoorW.PrintLast Go.Proofs.YtibhhikaecpgiaaDoorW.PrintMore
attribute [local go_sem] Oper.semAt_some

/-- What is kept but for the block bs, and the two of a loop. -/
structure Soft (bs D : Nat) (W W' : World) : Prop where
  os : W'.os = W.os
  tape : W'.tape = W.tape
  output : W'.output = W.output
  size : W.heap.size ≤ W'.heap.size
  block : ∀ k, k < W.heap.size → k ≠ bs → k ≠ D → k ≠ D + 1 → W'.heap[k]? = W.heap[k]?
theorem Soft.refl (bs D : Nat) (W : World) : Soft bs D W W := ⟨rfl, rfl, rfl, Nat.le_refl _, fun _ _ _ _ _ => rfl⟩
theorem Soft.trans {bs D : Nat} {A B C : World} (h : Soft bs D A B) (k : Soft bs D B C) : Soft bs D A C :=
  ⟨k.os.trans h.os, k.tape.trans h.tape, k.output.trans h.output, Nat.le_trans h.size k.size, fun i hi h1 h2 h3 => (k.block i (Nat.lt_of_lt_of_le hi h.size) h1 h2 h3).trans (h.block i hi h1 h2 h3)⟩
theorem Soft.of_below {bs D : Nat} {W W' : World} (h : Below W.heap.size W W') : Soft bs D W W' := ⟨h.os, h.tape, h.output, h.size, fun k hk _ _ _ => h.block k hk⟩
theorem Soft.alloc {bs D : Nat} (W : World) (o : Obj) : Soft bs D W (W.alloc o) := .of_below (below_alloc (Below.refl _ _) _)
theorem Soft.put {bs D l : Nat} (W : World) (o : Obj) (hl : l = D ∨ l = D + 1) : Soft bs D W (W.putObj l o) :=
  ⟨rfl, rfl, rfl, by simp, fun k _ _ h1 h2 => World.putObj_heap_other (by omega)⟩
theorem Soft.store {bs D : Nat} (W : World) (v : Value) : Soft bs D W (W.setCell ⟨bs, 0, none⟩ v) :=
  ⟨rfl, rfl, rfl, by simp [World.setCell], fun k _ h1 _ _ => Below.heap_setCell W _ _ k h1⟩
theorem Bad.keep {W W' : World} {E : Value} {k : Nat} (h : Bad W E k) (hk : ∀ (b : Nat) (cs : Array Value), W.heap[b]? = some (Obj.cells cs 76 (0, 0)) → W'.heap[b]? = some (Obj.cells cs 76 (0, 0))) : Bad W' E k := by
  induction h with
  | leaf => exact .leaf
  | wrap b x E k hc h ih => exact .wrap b x E k (hk b _ hc) ih
theorem setCell_same {W : World} {b : Nat} {v v' : Value} {t : TypeId} (h : W.heap[b]? = some (Obj.cells #[v] t (0, 0))) : (W.setCell ⟨b, 0, none⟩ v').heap[b]? = some (Obj.cells #[v'] t (0, 0)) := blk_put h 0 v' rfl
theorem kind_bad {W W' : World} {E : Value} {k : Nat} (h : Bad W E k) {bs D be : Nat} {c1 c2 : Array Value} {f1 f2 : Nat × Nat} {r : Loop} {ds : Option (List Deferred)} (h1 : W.heap[bs]? = some (Obj.cells c1 9 f1)) (h2 : W.heap[be]? = some (Obj.cells c2 47 f2))
    (h3 : W.heap[D]? = some (.deferred ds)) (h4 : W.heap[D + 1]? = some (.loop r)) (hk : ∀ b, b < W.heap.size → b ≠ bs → b ≠ be → b ≠ D → b ≠ D + 1 → W'.heap[b]? = W.heap[b]?) : Bad W' E k := by
  refine h.keep fun b cs hb => (hk b (blk_lt hb) ?_ ?_ ?_ ?_).trans hb
  · rintro rfl; rw [h1] at hb; injection hb with hb; injection hb with _ h; exact absurd h (by decide)
  · rintro rfl; rw [h2] at hb; injection hb with hb; injection hb with _ h; exact absurd h (by decide)
  · rintro rfl; rw [h3] at hb; injection hb with hb; cases hb
  · rintro rfl; rw [h4] at hb; injection hb with hb; cases hb

def boxLen (bs : Nat) (W : World) : Nat := match W.heap[bs]? with | some (.cells #[.string s] _ _) => s.size | _ => 0
theorem B_empty (l : L) : (B l).toList.isEmpty = l.isEmpty := by rw [ByteArray.toList_eq]; rfl
structure Boxes (W : World) (bs bp be : Nat) (rest : L) : Prop where
  s : W.heap[bs]? = some (Obj.cells #[.string (B rest)] 9 (0, 0))
  p : W.heap[bp]? = some (Obj.cells #[.pointer (some ⟨be, 0, none⟩)] 50 (0, 0))
  e : ∃ v, W.heap[be]? = some (Obj.cells #[v] 47 (0, 0))
/-- The iterator, at whatever rounds. -/
def eachPost (bs bp be : Nat) (s0 : L) (J Jx : List L → World → Prop) (e : Ending) (W' : World) : Prop :=
  e = .returned (.tuple #[]) ∧ ((∃ xs, itemsL s0 = some xs ∧ J xs W') ∨ (itemsL s0 = none ∧ ∃ pre E W1, J pre W1 ∧ Bad W1 E 1 ∧ (∃ rest, Boxes W1 bs bp be rest) ∧ W' = W1.setCell ⟨be, 0, none⟩ E) ∨
    (∃ pre, (∀ xs, itemsL s0 = some xs → pre <+: xs) ∧ Jx pre W'))
set_option maxRecDepth 100000 in
set_option maxHeartbeats 4000000 in
theorem each_in (l bs bp be : Nat) (s0 : L) (hs0 : s0.length ≤ 1000000000) (J Jx : List L → World → Prop) (W : World)
    (hJs : ∀ pre W v, J pre W → J pre (W.setCell ⟨bs, 0, none⟩ v)) (hJb : ∀ pre W W', J pre W → Below W.heap.size W W' → J pre W')
    (hY : ∀ pre x rest W1, J pre W1 → Boxes W1 bs bp be rest → x.length ≤ s0.length → pre.length < s0.length → YieldAt Fence.wide 7 Tryd.prog l #[.string (B x)] W1 fun e W' =>
      (e = .returned (.bool true) ∧ J (pre ++ [x]) W' ∧ Boxes W' bs bp be rest) ∨ (e = .returned (.bool false) ∧ Jx (pre ++ [x]) W'))
    (h0 : J [] W) (hb : Boxes W bs bp be s0) :
    CallsIn Fence.wide 8 Tryd.prog 24 #[.func (.yield l) #[] #[], .pointer (some ⟨bs, 0, none⟩), .pointer (some ⟨bp, 0, none⟩)] W (eachPost bs bp be s0 J Jx) := by
  refine callsIn_of_wp Tryd.func24 rfl trivial ?_ rfl
  simp only [Tryd.ntmps24, List.size_toArray, List.length_cons, List.length_nil, Nat.reduceAdd, Nat.reduceSub, Array.replicate_succ, Array.replicate_zero, List.push_toArray, List.append_toArray, List.nil_append, List.cons_append]
  gi_wp2
  gi_loopw [8] (fun p wr => ∃ (pre : List L) (rest : L), Aside0 (J pre wr) ∧ Aside0 (Boxes wr bs bp be rest) ∧ Aside0 (itemsL s0 = (itemsL rest).map (pre ++ ·)) ∧ Aside0 (pre.length + rest.length ≤ s0.length)) (fun _ wr => boxLen bs wr)
  case atStart => exact ⟨[], s0, ⟨h0⟩, ⟨hb⟩, ⟨by simp⟩, ⟨by simp⟩⟩
  case round =>
    obtain ⟨pre, rest, HJ, HX, HI, HLN⟩ := hrel
    have hlen : rest.length ≤ s0.length := by have := HLN.out; omega
    have c0 : wr.cell? ⟨bs, 0, none⟩ = some (.string (B rest)) := blk_cell HX.out.s 0
    by_cases hr0 : rest = []
    · subst hr0
      have hne : (B []).toList.isEmpty = true := by rw [B_empty]; rfl
      gi_wp2
      go_end0
      exact ⟨rfl, .inl ⟨pre, by rw [HI.out, itemsL_nil]; simp, HJ.out⟩⟩
    · have hne : (B rest).toList.isEmpty = false := by rw [B_empty]; cases rest with | nil => exact absurd rfl hr0 | cons x r => rfl
      have HS := Aside0.mk (split_calls wr (B rest) (by rw [B_size]; omega))
      have HR0 := Aside0.mk hr0
      have hbl : boxLen bs wr = rest.length := by unfold boxLen; rw [HX.out.s]; exact B_size rest
      have HBL := Aside0.mk hbl
      clear hr0 hbl
      gi_wp2_with (gi_at_call 21; fail)
      refine ⟨trivial, (callsIn_wide.2 HS.out).mono ?_⟩
      rintro e w1 (⟨k, f, t, hN, rfl, rfl, hft, hts⟩ | ⟨hN, E, rfl, hBd, hBl⟩)
      · rw [B_data] at hN
        rw [B_size] at hts
        have hpos := splitN_pos hN
        have hIt := itemsL_some hN
        obtain ⟨x, hx⟩ : ∃ x : L, rest.take t = x := ⟨_, rfl⟩
        obtain ⟨r2, hr2⟩ : ∃ r : L, rest.drop t = r := ⟨_, rfl⟩
        have hxl : x.length ≤ s0.length := by rw [← hx, List.length_take]; omega
        have hr2l : Aside0 ((pre ++ [x]).length + r2.length ≤ s0.length) := ⟨by have := HLN.out; rw [List.length_append, List.length_singleton, ← hr2, List.length_drop]; omega⟩
        have hpl : pre.length < s0.length := by have := HLN.out; omega
        have hr2m : r2.length < rest.length := by rw [← hr2, List.length_drop]; omega
        have hsx : (B rest).extract 0 t = B x := by rw [B_extract rest 0 t hts, hx]; rfl
        have hsr : (B rest).extract t (B rest).size = B r2 := by rw [B_size, B_extract rest t rest.length (Nat.le_refl _), List.take_length, hr2]
        rw [hx, hr2] at hIt
        have HI2 : Aside0 (itemsL s0 = (itemsL r2).map ((pre ++ [x]) ++ ·)) := ⟨by rw [HI.out, hIt, Option.map_map]; congr 1; funext y; simp⟩
        obtain ⟨fn, tmps, assign, body, hy, hR⟩ := hY pre x rest w1 HJ.out HX.out hxl hpl
        have HRD := Aside0.mk hR
        have ht1 : (t : Int) ≤ ((B rest).size : Int) := by rw [B_size]; omega
        have ht2 : t ≤ (B rest).size := by rw [B_size]; exact hts
        clear hN hIt hx hr2 HS hR hpos hpl
        gi_wp2
        refine (HRD.out).mono ?_
        rintro e W3 (⟨rfl, hJ3, hX3⟩ | ⟨rfl, hJx3⟩)
        · have c3 : W3.cell? ⟨bs, 0, none⟩ = some (.string (B rest)) := blk_cell hX3.s 0
          have f3 : W3.frozen? ⟨bs, 0, none⟩ = false := blk_frozen hX3.s 0
          have J4 := Aside0.mk (hJs _ _ (.string (B r2)) hJ3)
          have hne1 : bp ≠ bs := by
            rintro rfl
            have h1 := hX3.s
            rw [hX3.p] at h1
            injection h1 with h1
            injection h1 with h1 h2
            exact absurd h2 (by decide)
          have hne2 : be ≠ bs := by
            rintro rfl
            have h1 := hX3.s
            obtain ⟨v, hv⟩ := hX3.e
            rw [hv] at h1
            injection h1 with h1
            injection h1 with h1 h2
            exact absurd h2 (by decide)
          have X4 : Aside0 (Boxes (W3.setCell ⟨bs, 0, none⟩ (.string (B r2))) bs bp be r2) := ⟨setCell_same hX3.s, (Below.heap_setCell W3 _ _ bp hne1).trans hX3.p, by obtain ⟨v, hv⟩ := hX3.e; exact ⟨v, (Below.heap_setCell W3 _ _ be hne2).trans hv⟩⟩
          have HBL2 : Aside0 (boxLen bs (W3.setCell ⟨bs, 0, none⟩ (.string (B r2))) = r2.length) := ⟨by unfold boxLen; rw [X4.out.s]; exact B_size r2⟩
          clear hJ3 hX3 hne1 hne2
          gi_wp2
          go_roundw
          case rel => exact ⟨pre ++ [x], r2, J4, X4, HI2, hr2l⟩
          case measure => rw [HBL2.out, HBL.out]; exact hr2m
        · have JX := Aside0.mk hJx3
          clear hJx3
          gi_wp2
          refine bodyPost_ret (results_none rfl _ _ _) rfl ?_
          exact ⟨rfl, .inr (.inr ⟨pre ++ [x], fun xs hxs => by
            rw [HI2.out] at hxs
            obtain ⟨ys, _, rfl⟩ := Option.map_eq_some_iff.1 hxs
            exact ⟨ys, rfl⟩, JX.out⟩)⟩
      · rw [B_data] at hN
        have hI0 : itemsL s0 = none := by rw [HI.out, itemsL_none HR0.out hN]; rfl
        have J1 := Aside0.mk (hJb _ _ _ HJ.out hBl)
        have hp1 := (hBl.block bp (blk_lt HX.out.p)).trans HX.out.p
        have c1 : w1.cell? ⟨bp, 0, none⟩ = some (.pointer (some ⟨be, 0, none⟩)) := blk_cell hp1 0
        obtain ⟨v, hv⟩ := HX.out.e
        have he1 := (hBl.block be (blk_lt hv)).trans hv
        have X1 : Aside0 (Boxes w1 bs bp be rest) := ⟨(hBl.block bs (blk_lt HX.out.s)).trans HX.out.s, hp1, v, he1⟩
        have c2 : w1.cell? ⟨be, 0, none⟩ = some v := blk_cell he1 0
        have f2 : w1.frozen? ⟨be, 0, none⟩ = false := blk_frozen he1 0
        have BD := Aside0.mk hBd
        have HI0 := Aside0.mk hI0
        obtain ⟨u1, v1, rfl⟩ := hBd.iface
        clear hN hBd hBl hp1 hv he1 HS hI0
        gi_wp2
        refine bodyPost_ret (results_none rfl _ _ _) rfl ?_
        exact ⟨rfl, .inr (.inl ⟨HI0.out, pre, _, w1, J1.out, BD.out, ⟨rest, X1.out⟩, rfl⟩)⟩
end Go.Proofs.YtibhhikaecpgiaaDoor.R
