/- SHA-256's words of all rounds: the contract of sha.spread. -/
import Derived.Test.YthgminihlejpnaaDoorS1
import Derived.StillTailTactics
import Derived.Deep.LoopGhost
import Derived.BigQuiet
import Derived.Deep.QuietTactic
import Derived.Laws.CopyOwn
set_option linter.unusedSimpArgs false
set_option linter.unusedVariables false
namespace Go.Proofs.YthgminihlejpnaaDoor.S
open Go.RowKit Go.Proofs.YthgminihlejpnaaDoorW.PrintWords Go.Proofs.YthgminihlejpnaaDoorW.PrintLast Go.Proofs.YthgminihlejpnaaDoorW.PrintMore

def u32s (l : List Int) : List Value := l.map fun x => Value.int .u32 x
def wordAt (bs : List Int) (i : Nat) : Int :=
  Go.bits .or .u32 (Go.bits .or .u32 (Go.bits .or .u32 (IntKind.u32.wrap (IntKind.u32.wrap (bs.getD (4 * i) 0) * 16777216)) (IntKind.u32.wrap (IntKind.u32.wrap (bs.getD (4 * i + 1) 0) * 65536))) (IntKind.u32.wrap (IntKind.u32.wrap (bs.getD (4 * i + 2) 0) * 256))) (IntKind.u32.wrap (bs.getD (4 * i + 3) 0))
def mixAt (W : List Int) (i : Nat) : Int :=
  (W.getD (i - 16) 0 + Go.bits .xor .u32 (Go.bits .xor .u32 (rotr (W.getD (i - 15) 0) 7) (rotr (W.getD (i - 15) 0) 18)) (W.getD (i - 15) 0 / 8) + W.getD (i - 7) 0 + Go.bits .xor .u32 (Go.bits .xor .u32 (rotr (W.getD (i - 2) 0) 17) (rotr (W.getD (i - 2) 0) 19)) (W.getD (i - 2) 0 / 1024)) % 4294967296
def spreadTo (bs : List Int) : Nat → List Int
  | 0 => List.replicate 64 0
  | i + 1 => (spreadTo bs i).set i (if i < 16 then wordAt bs i else mixAt (spreadTo bs i) i)
theorem spreadTo_length (bs : List Int) (i : Nat) : (spreadTo bs i).length = 64 := by
  induction i with
  | zero => simp [spreadTo]
  | succ i ih => simp [spreadTo, ih]

theorem u32s_set (W : List Int) (i : Nat) (v : Int) : (u32s W).toArray.setIfInBounds i (.int .u32 v) = (u32s (W.set i v)).toArray := by simp [u32s, List.map_set]
theorem u32_cell {w : World} {g t : Nat} {W : List Int} (h : w.heap[g]? = some (.cells (u32s W).toArray t (0, 0))) (hl : W.length = 64) (i : Nat) (hi : i < 64) : w.cell? ⟨g, i, none⟩ = some (.int .u32 (W.getD i 0)) := by
  rw [blk_cell h]
  simp [u32s, List.getElem?_eq_getElem (show i < W.length by omega), List.getD_eq_getElem?_getD]
set_option maxRecDepth 100000 in
set_option maxHeartbeats 1000000 in
theorem spread_calls (Bb off len cap : Nat) (bs : List Int) (w : World) (hl : 64 ≤ len) (hlc : len ≤ cap)
    (hb : ∀ j, j < 64 → w.cell? ⟨Bb, off + j, none⟩ = some (.int .u8 (bs.getD j 0))) :
    Calls Tryd.prog 18 #[.slice (some ⟨Bb, off, none⟩) len cap] w fun e w' => e = .returned (.agg (u32s (spreadTo bs 64)).toArray) ∧ Below w.heap.size w w' := by
  have Hb := Aside0.mk hb
  clear hb
  go_enter Tryd.func18, Tryd.ntmps18
  go_wp2
  go_loopg [8] 64 (fun gf s8 wx => ∃ i : Nat, s8 = .int .i64 i ∧ i + gf = 64 ∧ Aside0 (wx.heap[w.heap.size]? = some (.cells (u32s (List.replicate 64 0)).toArray 48 (0, 0))) ∧ Aside0 (wx.heap[w.heap.size + 1]? = some (.cells (u32s (spreadTo bs i)).toArray 48 (0, 0))) ∧ Aside0 (Below w.heap.size w wx))
  case atStart =>
    refine ⟨0, rfl, rfl, ⟨?_⟩, ⟨?_⟩, ⟨below_alloc (below_alloc (Below.refl _ _) _) _⟩⟩
    · rw [Below.heap_alloc _ _ _ (by simp)]; exact heap_alloc_new w _
    · have h := heap_alloc_new (w.alloc (.cells (u32s (List.replicate 64 0)).toArray 48)) (.cells (u32s (List.replicate 64 0)).toArray 48)
      simpa [u32s, spreadTo] using h
  case round =>
    obtain ⟨i, rfl, hg, HR, HW, HB⟩ := hrel
    by_cases h64 : i < 64
    · by_cases h16 : i < 16
      · have h4 : 4 * (i + 1) - 4 * i = 4 := by omega
        have hx := u32_cell HW.out (spreadTo_length bs i) i h64
        have hf := blk_frozen HW.out i
        have hbA : ∀ j, j < 64 → wr.cell? ⟨Bb, off + j, none⟩ = some (.int .u8 (bs.getD j 0)) := fun j hj => pw_cell_below HB.out (Hb.out j hj)
        have c0 := hbA (4 * i) (by omega)
        have c1 : wr.cell? ⟨Bb, off + 4 * i + 1, none⟩ = _ := hbA (4 * i + 1) (by omega)
        have c2 : wr.cell? ⟨Bb, off + 4 * i + 2, none⟩ = _ := hbA (4 * i + 2) (by omega)
        have c3 : wr.cell? ⟨Bb, off + 4 * i + 3, none⟩ = _ := hbA (4 * i + 3) (by omega)
        clear hbA
        go_wp2
        rw [h4]
        clear h4
        generalize hb0 : bs.getD (4 * i) 0 = b0 at c0
        generalize hb1 : bs.getD (4 * i + 1) 0 = b1 at c1
        generalize hb2 : bs.getD (4 * i + 2) 0 = b2 at c2
        generalize hb3 : bs.getD (4 * i + 3) 0 = b3 at c3
        have HB0 := Aside0.mk hb0
        have HB1 := Aside0.mk hb1
        have HB2 := Aside0.mk hb2
        have HB3 := Aside0.mk hb3
        clear hb0 hb1 hb2 hb3
        go_still_tail 24, (by kernel_rfl)
        have HR2 : Aside0 (wr.drew.heap[w.heap.size]? = _) := ⟨HR.out⟩
        have HW2 : Aside0 (wr.drew.heap[w.heap.size + 1]? = _) := ⟨HW.out⟩
        have HB2' : Aside0 (Below w.heap.size w wr.drew) := ⟨below_drew HB.out⟩
        have hx2 : wr.drew.cell? ⟨w.heap.size + 1, i, none⟩ = _ := hx
        have hf2 : wr.drew.frozen? ⟨w.heap.size + 1, i, none⟩ = false := hf
        clear hx hf c0 c1 c2 c3 HR HW HB
        change wpList _ _ _ _ _ wr.drew
        generalize wr.drew = w2 at HR2 HW2 HB2' hx2 hf2 ⊢
        have hv : Go.bits .or .u32 (Go.bits .or .u32 (Go.bits .or .u32 (IntKind.u32.wrap (IntKind.u32.wrap b0 * 16777216)) (IntKind.u32.wrap (IntKind.u32.wrap b1 * 65536))) (IntKind.u32.wrap (IntKind.u32.wrap b2 * 256))) (IntKind.u32.wrap b3) = wordAt bs i := by
          unfold wordAt
          rw [HB0.out, HB1.out, HB2.out, HB3.out]
        rw [hv]
        clear hv
        generalize hvv : wordAt bs i = v at *
        have HV := Aside0.mk hvv
        clear hvv
        go_wp2
        go_roundg (gk - 1)
        case measure => omega
        case rel =>
          refine ⟨i + 1, by go_num, by omega, ⟨blk_far HR2.out (by simp) _⟩, ⟨?_⟩, ⟨HB2'.out.setCell (by simp) _⟩⟩
          rw [blk_set HW2.out, u32s_set, spreadTo, if_pos h16, HV.out]
      · have e15 : ((i : Int) - 15).toNat = i - 15 := by omega
        have e2 : ((i : Int) - 2).toNat = i - 2 := by omega
        have e16 : ((i : Int) - 16).toNat = i - 16 := by omega
        have e7 : ((i : Int) - 7).toNat = i - 7 := by omega
        have g15 : 0 ≤ (i : Int) - 15 := by omega
        have g2 : 0 ≤ (i : Int) - 2 := by omega
        have g16 : 0 ≤ (i : Int) - 16 := by omega
        have g7 : 0 ≤ (i : Int) - 7 := by omega
        have k15 : (i : Int) - 15 < 64 := by omega
        have k2 : (i : Int) - 2 < 64 := by omega
        have k16 : (i : Int) - 16 < 64 := by omega
        have k7 : (i : Int) - 7 < 64 := by omega
        have hx1 := u32_cell HW.out (spreadTo_length bs i) (i - 15) (by omega)
        have hx2 := u32_cell HW.out (spreadTo_length bs i) (i - 2) (by omega)
        generalize hv1 : (spreadTo bs i).getD (i - 15) 0 = v1 at hx1
        generalize hv2 : (spreadTo bs i).getD (i - 2) 0 = v2 at hx2
        have HV1 := Aside0.mk hv1
        have HV2 := Aside0.mk hv2
        clear hv1 hv2
        go_wp2
        go_quiet (fail)
        clear hx1 hx2
        have HR2 : Aside0 ((wr.drewN nq).heap[w.heap.size]? = _) := ⟨HR.out⟩
        have HW2 : Aside0 ((wr.drewN nq).heap[w.heap.size + 1]? = _) := ⟨HW.out⟩
        have HB2' : Aside0 (Below w.heap.size w (wr.drewN nq)) := ⟨pw_below_drewN HB.out nq⟩
        clear HR HW HB
        generalize wr.drewN nq = w1 at HR2 HW2 HB2' ⊢
        have hx3 := u32_cell HW2.out (spreadTo_length bs i) (i - 16) (by omega)
        have hx4 := u32_cell HW2.out (spreadTo_length bs i) (i - 7) (by omega)
        have hx5 := u32_cell HW2.out (spreadTo_length bs i) i h64
        have hf := blk_frozen HW2.out i
        generalize hv3 : (spreadTo bs i).getD (i - 16) 0 = v3 at hx3
        generalize hv4 : (spreadTo bs i).getD (i - 7) 0 = v4 at hx4
        have HV3 := Aside0.mk hv3
        have HV4 := Aside0.mk hv4
        clear hv3 hv4
        go_wp2
        have l7 : (7 : Int) ≤ (i : Int) := by omega
        have l16 : (16 : Int) ≤ (i : Int) := by omega
        have w16 : IntKind.i64.wrap ((i : Int) - 16) = (i : Int) - 16 := by rw [IntKind.wrap_i64]; omega
        have w7 : IntKind.i64.wrap ((i : Int) - 7) = (i : Int) - 7 := by rw [IntKind.wrap_i64]; omega
        refine wp_region_still_tail 29 (by kernel_rfl) (by kernel_rfl) ?_
        simp only [List.take_succ_cons, List.take_zero, List.drop_succ_cons, List.drop_zero]
        iterate 6 still_step
        still_call (turned (right7 _ _))
        still_step
        still_call (turned (right18 _ _))
        iterate 11 still_step
        still_call (turned (right17 _ _))
        still_step
        still_call (turned (right19 _ _))
        iterate 6 still_step
        refine wpStill_nil ?_
        have HR3 : Aside0 (w1.drew.heap[w.heap.size]? = _) := ⟨HR2.out⟩
        have HW3 : Aside0 (w1.drew.heap[w.heap.size + 1]? = _) := ⟨HW2.out⟩
        have HB3 : Aside0 (Below w.heap.size w w1.drew) := ⟨below_drew HB2'.out⟩
        have hx6 : w1.drew.cell? ⟨w.heap.size + 1, i, none⟩ = _ := hx5
        have hf3 : w1.drew.frozen? ⟨w.heap.size + 1, i, none⟩ = false := hf
        clear hx3 hx4 hx5 hf HR2 HW2 HB2' w16 w7
        change wpList _ _ _ _ _ w1.drew
        generalize w1.drew = w2 at HR3 HW3 HB3 hx6 hf3 ⊢
        go_wp2
        go_roundg (gk - 1)
        case measure => omega
        case rel =>
          refine ⟨i + 1, by go_num, by omega, ⟨blk_far HR3.out (by simp) _⟩, ⟨?_⟩, ⟨HB3.out.setCell (by simp) _⟩⟩
          rw [blk_set HW3.out, u32s_set, spreadTo, if_neg h16]
          simp only [mixAt, HV1.out, HV2.out, HV3.out, HV4.out]
    · obtain rfl : i = 64 := by omega
      have hT : (Tryd.prog.info? 48).map (·.size) = some (u32s (spreadTo bs 64)).toArray.size := by
        rw [show (u32s (spreadTo bs 64)).toArray.size = 64 by simp [u32s, spreadTo_length]]
        kernel_rfl
      have hone : (u32s (spreadTo bs 64)).toArray.all (·.oneCell') = true := by simp [u32s, Value.oneCell']
      have hHid := Aside0.mk hT
      have hOne := Aside0.mk hone
      clear hT hone
      go_wp2_with (first
        | (refine wpList_load_row rfl 48 (.tmp 3) rfl (w.heap.size + 1) rfl 48 _ (0, 0) _ HW.out Tryd.underlying48 rfl hHid.out ?_)
        | (refine wpList_store_row rfl 48 (.tmp 2) _ rfl w.heap.size _ rfl rfl 48 _ HR.out hHid.out (by simp [u32s, spreadTo_length]) hOne.out ?_))
      refine bodyPost_ret (results_cell_row (t := 48) (cs := (u32s (spreadTo bs 64)).toArray) rfl _ _ w.heap.size _ _ rfl (setRow_heap _ _ _ _ _ _ HR.out) Tryd.underlying48 rfl hHid.out) rfl ⟨rfl, below_setRow HB.out (Nat.le_refl _) _⟩
end Go.Proofs.YthgminihlejpnaaDoor.S
