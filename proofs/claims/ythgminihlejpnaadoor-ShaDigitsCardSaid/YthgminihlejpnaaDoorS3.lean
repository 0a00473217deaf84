/- SHA-256's step by one block: the contract of sha's words.by. -/
import Derived.Test.YthgminihlejpnaaDoorS2
import Derived.Laws.Tables
set_option linter.unusedSimpArgs false
set_option linter.unusedVariables false
namespace Go.Proofs.YthgminihlejpnaaDoor.S
open Go.RowKit Go.Proofs.YthgminihlejpnaaDoorW.PrintWords Go.Proofs.YthgminihlejpnaaDoorW.PrintLast Go.Proofs.YthgminihlejpnaaDoorW.PrintMore

def begin_ : List Int := [1779033703, 3144134277, 1013904242, 2773480762, 1359893119, 2600822924, 528734635, 1541459225]
def steps_ : List Int := [1116352408, 1899447441, 3049323471, 3921009573, 961987163, 1508970993, 2453635748, 2870763221, 3624381080, 310598401, 607225278, 1426881987, 1925078388, 2162078206, 2614888103, 3248222580, 3835390401, 4022224774, 264347078, 604807628, 770255983, 1249150122, 1555081692, 1996064986, 2554220882, 2821834349, 2952996808, 3210313671, 3336571891, 3584528711, 113926993, 338241895, 666307205, 773529912, 1294757372, 1396182291, 1695183700, 1986661051, 2177026350, 2456956037, 2730485921, 2820302411, 3259730800, 3345764771, 3516065817, 3600352804, 4094571909, 275423344, 430227734, 506948616, 659060556, 883997877, 958139571, 1322822218, 1537002063, 1747873779, 1955562222, 2024104815, 2227730452, 2361852424, 2428436474, 2756734187, 3204031479, 3329325298]
/-- What the package's variables hold. -/
structure Glob (w : World) : Prop where
  begin_ : ∀ j, j < 8 → w.cell? ⟨0, j, none⟩ = some (.int .u32 (S.begin_.getD j 0))
  steps_ : ∀ j, j < 64 → w.cell? ⟨1, j, none⟩ = some (.int .u32 (S.steps_.getD j 0))
theorem Glob.below {w w1 : World} (h : Glob w) (hb : Below w.heap.size w w1) : Glob w1 :=
  ⟨fun j hj => pw_cell_below hb (h.begin_ j hj), fun j hj => pw_cell_below hb (h.steps_ j hj)⟩

def tOf (V : List Int) (k x : Int) : Int :=
  IntKind.u32.wrap (IntKind.u32.wrap (IntKind.u32.wrap (IntKind.u32.wrap (V.getD 7 0 + Go.bits .xor .u32 (Go.bits .xor .u32 (rotr (V.getD 4 0) 6) (rotr (V.getD 4 0) 11)) (rotr (V.getD 4 0) 25)) + Go.bits .xor .u32 (V.getD 6 0) (Go.bits .and .u32 (V.getD 4 0) (Go.bits .xor .u32 (V.getD 5 0) (V.getD 6 0)))) + k) + x)
def uOf (V : List Int) : Int :=
  IntKind.u32.wrap (Go.bits .xor .u32 (Go.bits .xor .u32 (rotr (V.getD 0 0) 2) (rotr (V.getD 0 0) 13)) (rotr (V.getD 0 0) 22) + Go.bits .or .u32 (Go.bits .and .u32 (V.getD 0 0) (V.getD 1 0)) (Go.bits .and .u32 (V.getD 2 0) (Go.bits .or .u32 (V.getD 0 0) (V.getD 1 0))))
def rnd (V : List Int) (k x : Int) : List Int :=
  [(tOf V k x + uOf V) % 4294967296, V.getD 0 0, V.getD 1 0, V.getD 2 0, (V.getD 3 0 + tOf V k x) % 4294967296, V.getD 4 0, V.getD 5 0, V.getD 6 0]
def rndTo (h W : List Int) : Nat → List Int
  | 0 => h
  | i + 1 => rnd (rndTo h W i) (steps_.getD i 0) (W.getD i 0)
def addTo (h V : List Int) : Nat → List Int
  | 0 => V
  | i + 1 => (addTo h V i).set i (((addTo h V i).getD i 0 + h.getD i 0) % 4294967296)
def byF (h bs : List Int) : List Int := addTo h (rndTo h (spreadTo bs 64) 64) 8
theorem rndTo_length (h W : List Int) (hh : h.length = 8) (i : Nat) : (rndTo h W i).length = 8 := by
  cases i with
  | zero => exact hh
  | succ i => rfl
theorem addTo_length (h V : List Int) (hV : V.length = 8) (i : Nat) : (addTo h V i).length = 8 := by
  induction i with
  | zero => exact hV
  | succ i ih => simp [addTo, ih]

theorem index_u32 {A : Array Value} {x : Int} (i : Nat) (hi : i < 64) (h : A[i]? = some (.int .u32 x)) (w : World) : (Instr.index 48 (.agg A) (.int .i64 (i : Int))).run Tryd.prog w = .ok (.int .u32 x) w := by
  have hi' : (i : Int) < 64 := by omega
  simp [Instr.index, asIntOf, run_underlying Tryd.underlying48, hi', go_sem, part, isAgg, run_underlying Tryd.underlying40, h]
  intro hx; omega
theorem index_u32_8 {A : Array Value} {x : Int} (i : Nat) (hi : i < 8) (h : A[i]? = some (.int .u32 x)) (w : World) : (Instr.index 42 (.agg A) (.int .i64 (i : Int))).run Tryd.prog w = .ok (.int .u32 x) w := by
  have hi' : (i : Int) < 8 := by omega
  simp [Instr.index, asIntOf, run_underlying Tryd.underlying42, hi', go_sem, part, isAgg, run_underlying Tryd.underlying40, h]
  intro hx; omega
theorem u32_cell8 {w : World} {g t : Nat} {W : List Int} (h : w.heap[g]? = some (.cells (u32s W).toArray t (0, 0))) (hl : W.length = 8) (i : Nat) (hi : i < 8) : w.cell? ⟨g, i, none⟩ = some (.int .u32 (W.getD i 0)) := by
  rw [blk_cell h]
  simp [u32s, List.getElem?_eq_getElem (show i < W.length by omega), List.getD_eq_getElem?_getD]
theorem three (w : World) (o1 o2 o3 : Obj) : (((w.alloc o1).alloc o2).alloc o3).heap[w.heap.size]? = some o1 ∧ (((w.alloc o1).alloc o2).alloc o3).heap[w.heap.size + 1]? = some o2 ∧ (((w.alloc o1).alloc o2).alloc o3).heap[w.heap.size + 1 + 1]? = some o3 ∧ Below w.heap.size w (((w.alloc o1).alloc o2).alloc o3) := by
  have s1 : (w.alloc o1).heap.size = w.heap.size + 1 := by simp
  have s2 : ((w.alloc o1).alloc o2).heap.size = w.heap.size + 1 + 1 := by simp
  refine ⟨blk_alloc (blk_alloc (blk_new w o1) _) _, ?_, ?_, below_alloc (below_alloc (below_alloc (Below.refl _ _) _) _) _⟩
  · rw [← s1]; exact blk_alloc (blk_new _ _) _
  · rw [← s2]; exact blk_new _ _

set_option maxRecDepth 100000 in
set_option maxHeartbeats 2000000 in
theorem by_calls (h : List Int) (Bb off len cap : Nat) (bs : List Int) (w : World) (hh : h.length = 8) (hl : 64 ≤ len) (hlc : len ≤ cap)
    (hb : ∀ j, j < 64 → w.cell? ⟨Bb, off + j, none⟩ = some (.int .u8 (bs.getD j 0))) (hG : Glob w) :
    Calls Tryd.prog 16 #[.agg (u32s h).toArray, .slice (some ⟨Bb, off, none⟩) len cap] w fun e w' => e = .returned (.agg (u32s (byF h bs)).toArray) ∧ Below w.heap.size w w' := by
  have Hb := Aside0.mk hb
  have HG := Aside0.mk hG
  clear hb hG
  obtain ⟨h0, h1, h2, h3, h4, h5, h6, h7, rfl⟩ : ∃ h0 h1 h2 h3 h4 h5 h6 h7, h = [h0, h1, h2, h3, h4, h5, h6, h7] := by
    match h, hh with
    | [h0, h1, h2, h3, h4, h5, h6, h7], _ => exact ⟨_, _, _, _, _, _, _, _, rfl⟩
  clear hh
  generalize hR : byF [h0, h1, h2, h3, h4, h5, h6, h7] bs = R
  have HR := Aside0.mk hR
  clear hR
  have hS := fun w hb => spread_calls Bb off len cap bs w hl hlc hb
  have HS := Aside0.mk hS
  clear hS
  simp only [u32s, List.map_cons, List.map_nil]
  go_enter Tryd.func16, Tryd.ntmps16
  go_wp2_with fail
  have T := three w (.cells #[.int .u32 h0, .int .u32 h1, .int .u32 h2, .int .u32 h3, .int .u32 h4, .int .u32 h5, .int .u32 h6, .int .u32 h7] 42) (.cells #[.int .u32 0, .int .u32 0, .int .u32 0, .int .u32 0, .int .u32 0, .int .u32 0, .int .u32 0, .int .u32 0] 42) (.cells #[.int .u32 h0, .int .u32 h1, .int .u32 h2, .int .u32 h3, .int .u32 h4, .int .u32 h5, .int .u32 h6, .int .u32 h7] 42)
  generalize (((w.alloc _).alloc _).alloc _) = W at T ⊢
  obtain ⟨T0, T1, T2, TB⟩ := T
  refine (HS.out W (fun j hj => pw_cell_below TB (Hb.out j hj))).mono ?_
  rintro e w1 ⟨rfl, hB1⟩
  have K0 := Aside0.mk (blk_below T0 hB1)
  have K1 := Aside0.mk (blk_below T1 hB1)
  have K2 := Aside0.mk (blk_below T2 hB1)
  have KB := Aside0.mk (TB.trans (hB1.mono TB.size))
  clear T0 T1 T2 TB hB1 HS
  generalize hWW : spreadTo bs 64 = WW
  have hWL : WW.length = 64 := by rw [← hWW]; exact spreadTo_length _ _
  have HWW := Aside0.mk hWW
  have HWL := Aside0.mk hWL
  clear hWW hWL
  go_wp2
  go_loopg [16] 64 (fun gf s16 wx => ∃ (i : Nat) (v0 v1 v2 v3 v4 v5 v6 v7 : Int), s16 = .int .i64 i ∧ i + gf = 64 ∧ Aside0 (rndTo [h0, h1, h2, h3, h4, h5, h6, h7] WW i = [v0, v1, v2, v3, v4, v5, v6, v7]) ∧ Aside0 (wx.heap[w.heap.size]? = some (.cells #[.int .u32 h0, .int .u32 h1, .int .u32 h2, .int .u32 h3, .int .u32 h4, .int .u32 h5, .int .u32 h6, .int .u32 h7] 42 (0, 0))) ∧ Aside0 (wx.heap[w.heap.size + 1]? = some (.cells #[.int .u32 0, .int .u32 0, .int .u32 0, .int .u32 0, .int .u32 0, .int .u32 0, .int .u32 0, .int .u32 0] 42 (0, 0))) ∧ Aside0 (wx.heap[w.heap.size + 1 + 1]? = some (.cells #[.int .u32 v0, .int .u32 v1, .int .u32 v2, .int .u32 v3, .int .u32 v4, .int .u32 v5, .int .u32 v6, .int .u32 v7] 42 (0, 0))) ∧ Aside0 (Below w.heap.size w wx))
  case atStart => exact ⟨0, _, _, _, _, _, _, _, _, rfl, rfl, ⟨rfl⟩, K0, K1, K2, KB⟩
  case round =>
    clear K0 K1 K2 KB
    obtain ⟨i, v0, v1, v2, v3, v4, v5, v6, v7, rfl, hg, HV, K0, K1, K2, KB⟩ := hrel
    by_cases h64 : i < 64
    · have hidx := index_u32 (A := (u32s WW).toArray) (x := WW.getD i 0) i h64 (by simp [u32s, List.getElem?_eq_getElem (show i < WW.length by have := HWL.out; omega), List.getD_eq_getElem?_getD])
      have hst := (HG.out.below KB.out).steps_ i h64
      generalize hxi : WW.getD i 0 = xi at hidx
      generalize hki : steps_.getD i 0 = ki at hst
      have HST := Aside0.mk hst
      have HXI := Aside0.mk hxi
      have HKI := Aside0.mk hki
      clear hxi hki
      have c0 : wr.cell? ⟨w.heap.size + 1 + 1, 0, none⟩ = some (.int .u32 v0) := blk_cell K2.out 0
      have c1 : wr.cell? ⟨w.heap.size + 1 + 1, 1, none⟩ = some (.int .u32 v1) := blk_cell K2.out 1
      have c2 : wr.cell? ⟨w.heap.size + 1 + 1, 2, none⟩ = some (.int .u32 v2) := blk_cell K2.out 2
      have c4 : wr.cell? ⟨w.heap.size + 1 + 1, 4, none⟩ = some (.int .u32 v4) := blk_cell K2.out 4
      have c5 : wr.cell? ⟨w.heap.size + 1 + 1, 5, none⟩ = some (.int .u32 v5) := blk_cell K2.out 5
      have c6 : wr.cell? ⟨w.heap.size + 1 + 1, 6, none⟩ = some (.int .u32 v6) := blk_cell K2.out 6
      have c7 : wr.cell? ⟨w.heap.size + 1 + 1, 7, none⟩ = some (.int .u32 v7) := blk_cell K2.out 7
      go_wp2
      refine wp_region_still_lit (by kernel_rfl) (by kernel_rfl) ?_
      iterate 6 still_step
      refine wpStill_nil ?_
      go_wp2
      clear hst
      have N0 := Aside0.mk (blk_drew K0.out)
      have N1 := Aside0.mk (blk_drew K1.out)
      have N2 := Aside0.mk (blk_drew K2.out)
      have NB := Aside0.mk (below_drew KB.out)
      have NG := Aside0.mk (show wr.drew.cell? ⟨1, i, none⟩ = _ from HST.out)
      clear K0 K1 K2 KB HST c0 c1 c2 c4 c5 c6 c7
      change Code.wp _ _ _ _ wr.drew
      generalize wr.drew = wa at N0 N1 N2 NB NG ⊢
      have K0 := N0
      have K1 := N1
      have K2 := N2
      have KB := NB
      have HST := NG
      clear N0 N1 N2 NB NG
      have c0 : wa.cell? ⟨w.heap.size + 1 + 1, 0, none⟩ = some (.int .u32 v0) := blk_cell K2.out 0
      have c1 : wa.cell? ⟨w.heap.size + 1 + 1, 1, none⟩ = some (.int .u32 v1) := blk_cell K2.out 1
      have c2 : wa.cell? ⟨w.heap.size + 1 + 1, 2, none⟩ = some (.int .u32 v2) := blk_cell K2.out 2
      have c4 : wa.cell? ⟨w.heap.size + 1 + 1, 4, none⟩ = some (.int .u32 v4) := blk_cell K2.out 4
      have c5 : wa.cell? ⟨w.heap.size + 1 + 1, 5, none⟩ = some (.int .u32 v5) := blk_cell K2.out 5
      have c6 : wa.cell? ⟨w.heap.size + 1 + 1, 6, none⟩ = some (.int .u32 v6) := blk_cell K2.out 6
      have c7 : wa.cell? ⟨w.heap.size + 1 + 1, 7, none⟩ = some (.int .u32 v7) := blk_cell K2.out 7
      have hst := HST.out
      refine wp_region_still_lit (by kernel_rfl) (by kernel_rfl) ?_
      iterate 3 still_step
      still_call (turned (right6 _ _))
      still_step
      still_call (turned (right11 _ _))
      iterate 2 still_step
      still_call (turned (right25 _ _))
      iterate 20 still_step
      refine wpStill_nil ?_
      go_wp2
      clear hst
      have N0 := Aside0.mk (blk_drew K0.out)
      have N1 := Aside0.mk (blk_drew K1.out)
      have N2 := Aside0.mk (blk_drew K2.out)
      have NB := Aside0.mk (below_drew KB.out)
      have NG := Aside0.mk (show wa.drew.cell? ⟨1, i, none⟩ = _ from HST.out)
      clear K0 K1 K2 KB HST c0 c1 c2 c4 c5 c6 c7
      change Code.wp _ _ _ _ wa.drew
      generalize wa.drew = wb at N0 N1 N2 NB NG ⊢
      have K0 := N0
      have K1 := N1
      have K2 := N2
      have KB := NB
      have HST := NG
      clear N0 N1 N2 NB NG
      have c0 : wb.cell? ⟨w.heap.size + 1 + 1, 0, none⟩ = some (.int .u32 v0) := blk_cell K2.out 0
      have c1 : wb.cell? ⟨w.heap.size + 1 + 1, 1, none⟩ = some (.int .u32 v1) := blk_cell K2.out 1
      have c2 : wb.cell? ⟨w.heap.size + 1 + 1, 2, none⟩ = some (.int .u32 v2) := blk_cell K2.out 2
      have c4 : wb.cell? ⟨w.heap.size + 1 + 1, 4, none⟩ = some (.int .u32 v4) := blk_cell K2.out 4
      have c5 : wb.cell? ⟨w.heap.size + 1 + 1, 5, none⟩ = some (.int .u32 v5) := blk_cell K2.out 5
      have c6 : wb.cell? ⟨w.heap.size + 1 + 1, 6, none⟩ = some (.int .u32 v6) := blk_cell K2.out 6
      have c7 : wb.cell? ⟨w.heap.size + 1 + 1, 7, none⟩ = some (.int .u32 v7) := blk_cell K2.out 7
      have hst := HST.out
      refine wp_region_still_lit (by kernel_rfl) (by kernel_rfl) ?_
      still_step
      still_call (turned (right2 _ _))
      still_step
      still_call (turned (right13 _ _))
      iterate 2 still_step
      still_call (turned (right22 _ _))
      iterate 15 still_step
      refine wpStill_nil ?_
      go_wp2
      clear hst
      have N0 := Aside0.mk (blk_drew K0.out)
      have N1 := Aside0.mk (blk_drew K1.out)
      have N2 := Aside0.mk (blk_drew K2.out)
      have NB := Aside0.mk (below_drew KB.out)
      have NG := Aside0.mk (show wb.drew.cell? ⟨1, i, none⟩ = _ from HST.out)
      clear K0 K1 K2 KB HST c0 c1 c2 c4 c5 c6 c7
      change Code.wp _ _ _ _ wb.drew
      generalize wb.drew = wc at N0 N1 N2 NB NG ⊢
      have K0 := N0
      have K1 := N1
      have K2 := N2
      have KB := NB
      have HST := NG
      clear N0 N1 N2 NB NG
      have c0 : wc.cell? ⟨w.heap.size + 1 + 1, 0, none⟩ = some (.int .u32 v0) := blk_cell K2.out 0
      have c1 : wc.cell? ⟨w.heap.size + 1 + 1, 1, none⟩ = some (.int .u32 v1) := blk_cell K2.out 1
      have c2 : wc.cell? ⟨w.heap.size + 1 + 1, 2, none⟩ = some (.int .u32 v2) := blk_cell K2.out 2
      have c4 : wc.cell? ⟨w.heap.size + 1 + 1, 4, none⟩ = some (.int .u32 v4) := blk_cell K2.out 4
      have c5 : wc.cell? ⟨w.heap.size + 1 + 1, 5, none⟩ = some (.int .u32 v5) := blk_cell K2.out 5
      have c6 : wc.cell? ⟨w.heap.size + 1 + 1, 6, none⟩ = some (.int .u32 v6) := blk_cell K2.out 6
      have c7 : wc.cell? ⟨w.heap.size + 1 + 1, 7, none⟩ = some (.int .u32 v7) := blk_cell K2.out 7
      have hst := HST.out
      have hTT : IntKind.u32.wrap (IntKind.u32.wrap (IntKind.u32.wrap (IntKind.u32.wrap (v7 + Go.bits .xor .u32 (Go.bits .xor .u32 (rotr v4 6) (rotr v4 11)) (rotr v4 25)) + Go.bits .xor .u32 v6 (Go.bits .and .u32 v4 (Go.bits .xor .u32 v5 v6))) + ki) + xi) = tOf [v0, v1, v2, v3, v4, v5, v6, v7] ki xi := rfl
      have hUU : IntKind.u32.wrap (Go.bits .xor .u32 (Go.bits .xor .u32 (rotr v0 2) (rotr v0 13)) (rotr v0 22) + Go.bits .or .u32 (Go.bits .and .u32 v0 v1) (Go.bits .and .u32 v2 (Go.bits .or .u32 v0 v1))) = uOf [v0, v1, v2, v3, v4, v5, v6, v7] := rfl
      rw [hTT, hUU]
      clear hTT hUU
      generalize htt : tOf [v0, v1, v2, v3, v4, v5, v6, v7] ki xi = tt
      generalize huu : uOf [v0, v1, v2, v3, v4, v5, v6, v7] = uu
      have HTT := Aside0.mk htt
      have HUU := Aside0.mk huu
      clear htt huu c0 c1 c2 c4 c5 c6 c7 hst HST
      refine wp_region_still_tail 2 (by kernel_rfl) (by kernel_rfl) ?_
      simp only [List.take_succ_cons, List.take_zero, List.drop_succ_cons, List.drop_zero]
      iterate 2 still_step
      refine wpStill_nil ?_
      have N0 := Aside0.mk (blk_drew K0.out)
      have N1 := Aside0.mk (blk_drew K1.out)
      have N2 := Aside0.mk (blk_drew K2.out)
      have NB := Aside0.mk (below_drew KB.out)
      clear K0 K1 K2 KB
      change wpList _ _ _ _ _ wc.drew
      generalize wc.drew = wd at N0 N1 N2 NB ⊢
      refine wpList_copy_splice rfl (.tmp 73) (.tmp 74) 51 51 rfl 40 Tryd.underlying51 (by kernel_rfl) (some ⟨w.heap.size + 1 + 1, 1, none⟩) (some ⟨w.heap.size + 1 + 1, 0, none⟩) 7 7 7 8 rfl rfl (w.heap.size + 1 + 1) 1 [.int .u32 v0, .int .u32 v1, .int .u32 v2, .int .u32 v3, .int .u32 v4, .int .u32 v5, .int .u32 v6, .int .u32 v7] 42 N2.out [.int .u32 v0, .int .u32 v1, .int .u32 v2, .int .u32 v3, .int .u32 v4, .int .u32 v5, .int .u32 v6] rfl (fun _ => ⟨rfl, _, rfl, ?_⟩) (by simp) (by simp [Value.oneCell']) (w.heap.size + 1 + 1) wd (Below.refl _ _) (Nat.le_refl _) ?_
      · intro j v hj
        have e : (⟨w.heap.size + 1 + 1, 0, none⟩ : Addr).add j = ⟨w.heap.size + 1 + 1, j, none⟩ := add_plain _ _
        rw [e, blk_cell N2.out]
        match j, hj with
        | 0, hj => exact hj
        | 1, hj => exact hj
        | 2, hj => exact hj
        | 3, hj => exact hj
        | 4, hj => exact hj
        | 5, hj => exact hj
        | 6, hj => exact hj
        | j + 7, hj => simp at hj
      intro we hK hB
      have M0 := Aside0.mk ((hB.block _ (by omega)).trans N0.out)
      have M1 := Aside0.mk ((hB.block _ (by omega)).trans N1.out)
      have M2 : Aside0 (we.heap[w.heap.size + 1 + 1]? = some (.cells #[.int .u32 v0, .int .u32 v0, .int .u32 v1, .int .u32 v2, .int .u32 v3, .int .u32 v4, .int .u32 v5, .int .u32 v6] 42 (0, 0))) := ⟨hK.out⟩
      have MB := Aside0.mk (NB.out.trans (hB.mono (by omega)))
      clear N0 N1 N2 NB hK hB
      have d4 : we.cell? ⟨w.heap.size + 1 + 1, 4, none⟩ = some (.int .u32 v3) := blk_cell M2.out 4
      have d0 : we.cell? ⟨w.heap.size + 1 + 1, 0, none⟩ = some (.int .u32 v0) := blk_cell M2.out 0
      have f4 := blk_frozen M2.out 4
      have f0 := blk_frozen M2.out 0
      go_wp2
      go_roundg (gk - 1)
      case measure => omega
      case rel =>
        refine ⟨i + 1, _, _, _, _, _, _, _, _, by go_num, by omega, ⟨?_⟩, ⟨blk_far (blk_far M0.out (by simp <;> omega) _) (by simp <;> omega) _⟩, ⟨blk_far (blk_far M1.out (by simp <;> omega) _) (by simp <;> omega) _⟩, ⟨blk_put (blk_put M2.out 4 _ rfl) 0 _ rfl⟩, ⟨(MB.out.setCell (by simp; omega) _).setCell (by simp; omega) _⟩⟩
        rw [rndTo, HV.out, HXI.out, HKI.out]
        simp only [rnd, HTT.out, HUU.out]
        rfl
    · obtain rfl : i = 64 := by omega
      have hH : (#[.int .u32 h0, .int .u32 h1, .int .u32 h2, .int .u32 h3, .int .u32 h4, .int .u32 h5, .int .u32 h6, .int .u32 h7] : Array Value) = (u32s [h0, h1, h2, h3, h4, h5, h6, h7]).toArray := rfl
      have hV : (#[.int .u32 v0, .int .u32 v1, .int .u32 v2, .int .u32 v3, .int .u32 v4, .int .u32 v5, .int .u32 v6, .int .u32 v7] : Array Value) = (u32s [v0, v1, v2, v3, v4, v5, v6, v7]).toArray := rfl
      rw [hH] at K0
      rw [hV, ← HV.out] at K2
      have hRR : addTo [h0, h1, h2, h3, h4, h5, h6, h7] (rndTo [h0, h1, h2, h3, h4, h5, h6, h7] WW 64) 8 = R := by rw [← HR.out, ← HWW.out]; rfl
      have hlH : [h0, h1, h2, h3, h4, h5, h6, h7].length = 8 := rfl
      have hlV : (rndTo [h0, h1, h2, h3, h4, h5, h6, h7] WW 64).length = 8 := rndTo_length _ _ rfl _
      clear HV hH hV HR
      go_wp2
      generalize [h0, h1, h2, h3, h4, h5, h6, h7] = H at K0 K2 hRR hlH hlV
      generalize rndTo H WW 64 = V at K2 hRR hlV
      have HRR := Aside0.mk hRR
      have HLH := Aside0.mk hlH
      have HLV := Aside0.mk hlV
      clear hRR hlH hlV
      go_loopg [86] 8 (fun gf s86 wx => ∃ (j : Nat), s86 = .int .i64 j ∧ j + gf = 8 ∧ Aside0 (wx.heap[w.heap.size]? = some (.cells (u32s H).toArray 42 (0, 0))) ∧ Aside0 (wx.heap[w.heap.size + 1]? = some (.cells #[.int .u32 0, .int .u32 0, .int .u32 0, .int .u32 0, .int .u32 0, .int .u32 0, .int .u32 0, .int .u32 0] 42 (0, 0))) ∧ Aside0 (wx.heap[w.heap.size + 1 + 1]? = some (.cells (u32s (addTo H V j)).toArray 42 (0, 0))) ∧ Aside0 (Below w.heap.size w wx))
      case atStart => exact ⟨0, rfl, rfl, K0, K1, K2, KB⟩
      case round =>
        clear K0 K1 K2 KB hg
        obtain ⟨j, rfl, hg, K0, K1, K2, KB⟩ := hrel
        by_cases h8 : j < 8
        · have c0 := u32_cell8 K0.out HLH.out j h8
          have c2 := u32_cell8 K2.out (addTo_length H V HLV.out j) j h8
          have f2 := blk_frozen K2.out j
          generalize hx0 : H.getD j 0 = x0 at c0
          generalize hx2 : (addTo H V j).getD j 0 = x2 at c2
          have HX0 := Aside0.mk hx0
          have HX2 := Aside0.mk hx2
          clear hx0 hx2
          go_wp2
          refine wp_region_still_tail 8 (by kernel_rfl) (by kernel_rfl) ?_
          simp only [List.take_succ_cons, List.take_zero, List.drop_succ_cons, List.drop_zero]
          iterate 8 still_step
          refine wpStill_nil ?_
          have N0 := Aside0.mk (blk_drew K0.out)
          have N1 := Aside0.mk (blk_drew K1.out)
          have N2 := Aside0.mk (blk_drew K2.out)
          have NB := Aside0.mk (below_drew KB.out)
          have d2 : wr.drew.cell? ⟨w.heap.size + 1 + 1, j, none⟩ = _ := c2
          have g2 : wr.drew.frozen? ⟨w.heap.size + 1 + 1, j, none⟩ = _ := f2
          clear K0 K1 K2 KB c0 c2 f2
          change wpList _ _ _ _ _ wr.drew
          generalize wr.drew = wd at N0 N1 N2 NB d2 g2 ⊢
          go_wp2
          go_roundg (gk - 1)
          case measure => omega
          case rel =>
            refine ⟨j + 1, by go_num, by omega, ⟨blk_far N0.out (by simp <;> omega) _⟩, ⟨blk_far N1.out (by simp <;> omega) _⟩, ⟨?_⟩, ⟨NB.out.setCell (by simp; omega) _⟩⟩
            rw [blk_set N2.out, u32s_set, addTo, HX0.out, HX2.out]
        · obtain rfl : j = 8 := by omega
          rw [HRR.out] at K2
          have hRL : R.length = 8 := by rw [← HRR.out]; exact addTo_length _ _ HLV.out _
          have hT : (Tryd.prog.info? 42).map (·.size) = some (u32s R).toArray.size := by
            rw [show (u32s R).toArray.size = 8 by simp [u32s, hRL]]
            kernel_rfl
          have hone : (u32s R).toArray.all (·.oneCell') = true := by simp [u32s, Value.oneCell']
          have hHid := Aside0.mk hT
          have hOne := Aside0.mk hone
          have HRL := Aside0.mk hRL
          clear hT hone hRL
          go_wp2_with (first
            | (refine wpList_load_row rfl 42 (.tmp 5) rfl (w.heap.size + 1 + 1) rfl 42 _ (0, 0) _ K2.out Tryd.underlying42 rfl hHid.out ?_)
            | (refine wpList_store_row rfl 42 (.tmp 4) _ rfl (w.heap.size + 1) _ rfl rfl 42 _ K1.out hHid.out (by simp [u32s, HRL.out]) hOne.out ?_))
          refine bodyPost_ret (results_cell_row (t := 42) (cs := (u32s R).toArray) rfl _ _ (w.heap.size + 1) _ _ rfl (setRow_heap _ _ _ _ _ _ K1.out) Tryd.underlying42 rfl hHid.out) rfl ⟨rfl, below_setRow KB.out (by omega) _⟩
end Go.Proofs.YthgminihlejpnaaDoor.S
