/- A hash that is written: the contract of (*sha.Hash).Write. -/
import Derived.Test.YthgminihlejpnaaDoorS4
import Derived.Deep.MidRow
import Derived.Deep.RegionHeld3
set_option linter.unusedSimpArgs false
set_option linter.unusedVariables false
namespace Go.Proofs.YthgminihlejpnaaDoor.S
open Go.RowKit Go.Proofs.YthgminihlejpnaaDoorW.PrintWords Go.Proofs.YthgminihlejpnaaDoorW.PrintLast Go.Proofs.YthgminihlejpnaaDoorW.PrintMore

def cellsOf (l : List UInt8) : List Value := l.map fun b => Value.int .u8 b.toNat
theorem cellsOf_length (l : List UInt8) : (cellsOf l).length = l.length := by simp [cellsOf]
theorem strCells_eq (s : ByteArray) : Lib.strCells s = cellsOf s.data.toList := rfl
theorem cellsOf_append (l m : List UInt8) : cellsOf (l ++ m) = cellsOf l ++ cellsOf m := by simp [cellsOf]
theorem cellsOf_drop (l : List UInt8) (k : Nat) : (cellsOf l).drop k = cellsOf (l.drop k) := by simp [cellsOf, List.map_drop]
def nsOf (l : List UInt8) : List Int := l.map fun b => (b.toNat : Int)
def absorb : Nat → List Int → List UInt8 → List Int × List UInt8
  | 0, h, l => (h, l)
  | k + 1, h, l => if l.length < 64 then (h, l) else absorb k (byF h (nsOf l)) (l.drop 64)

structure HashAt (W : World) (base g : Nat) (h : List Int) (v : Value) (rest : List UInt8) (n : Int) : Prop where
  len : h.length = 8
  blk : W.heap[g]? = some (.cells (u32s h ++ [v, .int .u64 n]).toArray 45 (0, 0))
  row : QRow W base 5 1 v rest.length (cellsOf rest)
  ge : base ≤ g
theorem HashAt.ne {W : World} {base g : Nat} {h : List Int} {v : Value} {rest : List UInt8} {n : Int} (H : HashAt W base g h v rest n) : some g ≠ v.ownBlock := by
  intro e
  obtain ⟨_, cells, hc⟩ := q_typed H.row g e.symm
  rw [H.blk] at hc
  injection hc with hc
  injection hc with _ ht
  exact absurd ht (by decide)
theorem HashAt.move {W W1 : World} {base g : Nat} {h : List Int} {v : Value} {rest : List UInt8} {n : Int} (H : HashAt W base g h v rest n) (hm : ∀ k, k < W.heap.size → (k = g ∨ some k = v.ownBlock) → W1.heap[k]? = W.heap[k]?) : HashAt W1 base g h v rest n :=
  ⟨H.len, (hm g (blk_lt H.blk) (.inl rfl)).trans H.blk, q_move H.row (fun k hk => hm k (q_lt H.row k hk) (.inr hk.symm)), H.ge⟩
theorem HashAt.below {W W1 : World} {base g : Nat} {h : List Int} {v : Value} {rest : List UInt8} {n : Int} (H : HashAt W base g h v rest n) (hb : Below W.heap.size W W1) : HashAt W1 base g h v rest n := H.move (fun k hk _ => hb.block k hk)

/-- What a call may turn: a hash's own block, and its row's. -/
structure Turns (w w' : World) (g : Nat) (v v' : Value) : Prop where
  os : w'.os = w.os
  tape : w'.tape = w.tape
  output : w'.output = w.output
  size : w.heap.size ≤ w'.heap.size
  block : ∀ k, k < w.heap.size → k ≠ g → some k ≠ v.ownBlock → w'.heap[k]? = w.heap[k]?
  own : v'.ownBlock = v.ownBlock ∨ ∃ b, v'.ownBlock = some b ∧ w.heap.size ≤ b
theorem Turns.below {w w' w0 : World} {g : Nat} {v v' : Value} {base : Nat} {h : List Int} {rest : List UInt8} {n : Int} (T : Turns w w' g v v') (H : HashAt w base g h v rest n) (hb : Below base w0 w) : Below base w0 w' := by
  refine hb.trans ⟨T.os, T.tape, T.output, T.size, fun k hk => ?_⟩
  have hlt := blk_lt H.blk
  have hge := H.ge
  refine T.block k (by omega) (by omega) (fun e => ?_)
  have := (q_typed H.row k e.symm).1
  omega
def gtop : Nat := 0 + 1 + 1
theorem Glob.block {w w1 : World} (h : Glob w) (hb : ∀ k, k < gtop → w1.heap[k]? = w.heap[k]?) : Glob w1 :=
  ⟨fun j hj => by rw [← h.begin_ j hj]; exact World.cell?_of_block (hb 0 (by unfold gtop; omega)), fun j hj => by rw [← h.steps_ j hj]; exact World.cell?_of_block (hb 1 (by unfold gtop; omega))⟩

section
variable {w W W' w2 : World} {g : Nat} {v v1 v2 : Value}
theorem Turns.start {u u2 : Value} {i j : Nat} (hg : (w.setCell ⟨g, i, none⟩ u).grownBy w2 v.ownBlock) (hat : v1.ownBlock = v.ownBlock ∨ ∃ b, v1.ownBlock = some b ∧ (w.setCell ⟨g, i, none⟩ u).heap.size ≤ b) : Turns w (w2.setCell ⟨g, j, none⟩ u2) g v v1 :=
  ⟨hg.os, hg.tape, hg.output, by simpa [World.setCell] using hg.size, fun k hk hkg hkv => (Below.heap_setCell w2 _ _ k hkg).trans ((hg.block k (by simpa [World.setCell] using hk) hkv).trans (Below.heap_setCell w _ _ k hkg)), by simpa [World.setCell] using hat⟩
theorem Turns.set (T : Turns w W g v v1) (i : Nat) (u : Value) : Turns w (W.setCell ⟨g, i, none⟩ u) g v v1 :=
  ⟨T.os, T.tape, T.output, by simpa [World.setCell] using T.size, fun k hk hkg hkv => (Below.heap_setCell W _ _ k hkg).trans (T.block k hk hkg hkv), T.own⟩
theorem Turns.sets (T : Turns w W g v v1) (o : Nat) (cs : List Value) : Turns w (W.setCells g o cs) g v v1 := by
  obtain ⟨s1, s2, s3, s4⟩ := setCells_same g cs o W
  exact ⟨s1.trans T.os, s2.trans T.tape, s3.trans T.output, by rw [s4]; exact T.size, fun k hk hkg hkv => (setCells_far cs o k hkg).trans (T.block k hk hkg hkv), T.own⟩
theorem Turns.grow (T : Turns w W g v v1) (hb : Below W.heap.size W W') : Turns w W' g v v1 :=
  ⟨hb.os.trans T.os, hb.tape.trans T.tape, hb.output.trans T.output, Nat.le_trans T.size hb.size, fun k hk hkg hkv => (hb.block k (Nat.lt_of_lt_of_le hk T.size)).trans (T.block k hk hkg hkv), T.own⟩
theorem Turns.to (T : Turns w W g v v1) (e : v2.ownBlock = v1.ownBlock) : Turns w W g v v2 :=
  ⟨T.os, T.tape, T.output, T.size, T.block, by rw [e]; exact T.own⟩
end
theorem absorb_length (k : Nat) (h : List Int) (hh : h.length = 8) (l : List UInt8) : (absorb k h l).1.length = 8 := by
  induction k generalizing h l with
  | zero => exact hh
  | succ k ih =>
    unfold absorb
    split
    · exact hh
    · exact ih _ (addTo_length _ _ (rndTo_length _ _ hh _) _) _

theorem last_store {P : Program} {ops : Array Oper} {op : Oper} {a : Act} {w : World} {K : Act → World → Prop} {Q : Exit → Act → World → Prop} (hw : Region.wanted op (yielded ops a.tmps) = true) (hN : op.dst = none) (ty : TypeId) (x y : Operand) (ho : op.op = .store ty x y)
    (b o : Nat) (cells : Array Value) (hx : a.eval x = .pointer (some ⟨b, o, none⟩)) (hy : a.eval y = .agg cells)
    (ht : w.there b o cells.size) (hi : (P.info? ty).map (·.size) = some cells.size) (h1 : cells.all (·.oneCell') = true)
    (h : K a (w.setCells b o cells.toList)) : if Region.wanted op (yielded ops a.tmps) = true then Oper.wp P op a w K Q else K (a.put none undef) w := by
  rw [if_pos hw]
  exact wp_store_mid ty x y ho b o cells hx hy ht hi h1 (by rw [hN]; exact h)
theorem range_of {w : World} {g : Nat} {t : TypeId} {cs : Array Value} {l : List Value} (h : w.heap[g]? = some (.cells cs t (0, 0))) (hl : cs.toList.take l.length = l) : w.rangeAt g 0 l := by
  intro j v hj
  rw [Nat.zero_add, blk_cell h, ← Array.getElem?_toList]
  rw [← hl, List.getElem?_take] at hj
  split at hj
  · exact hj
  · cases hj
theorem sets8 {w : World} {g : Nat} {t : TypeId} {k0 k1 k2 k3 k4 k5 k6 k7 x y : Value} (a0 a1 a2 a3 a4 a5 a6 a7 : Value) (h : w.heap[g]? = some (.cells #[k0, k1, k2, k3, k4, k5, k6, k7, x, y] t (0, 0))) :
    (w.setCells g 0 [a0, a1, a2, a3, a4, a5, a6, a7]).heap[g]? = some (.cells #[a0, a1, a2, a3, a4, a5, a6, a7, x, y] t (0, 0)) := by
  have h1 := blk_set (blk_set (blk_set (blk_set (blk_set (blk_set (blk_set (blk_set h 0 a0) 1 a1) 2 a2) 3 a3) 4 a4) 5 a5) 6 a6) 7 a7
  simpa [World.setCells] using h1
theorem there_of {w : World} {g n : Nat} {t : TypeId} {cs : Array Value} (h : w.heap[g]? = some (.cells cs t (0, 0))) (hn : n ≤ cs.size) : w.there g 0 n := fun j hj =>
  ⟨by rw [blk_cell h]; simp; omega, blk_frozen h _⟩
set_option maxRecDepth 100000 in
set_option maxHeartbeats 1000000 in
theorem write_calls (w0 w : World) (base g : Nat) (h : List Int) (v : Value) (rest : List UInt8) (n : Int) (s : ByteArray) (H : HashAt w base g h v rest n) (hG : Glob w) (hbase : gtop ≤ base) (hn0 : 0 ≤ n) (hn1 : n < 18446744073709551616)
    (hsz : rest.length + s.size ≤ 140737488355328) :
    Calls Tryd.prog 12 #[.pointer (some ⟨g, 0, none⟩), .string s] w fun e w' => e = .returned (.pointer (some ⟨g, 0, none⟩)) ∧
      ∃ v', HashAt w' base g (absorb (rest.length + s.size) h (rest ++ s.data.toList)).1 v' (absorb (rest.length + s.size) h (rest ++ s.data.toList)).2 ((n + s.size) % 18446744073709551616) ∧ Turns w w' g v v' := by
  have hlen := H.len
  obtain ⟨h0, h1, h2, h3, h4, h5, h6, h7, rfl⟩ : ∃ h0 h1 h2 h3 h4 h5 h6 h7, h = [h0, h1, h2, h3, h4, h5, h6, h7] := by
    match h, hlen with
    | [h0, h1, h2, h3, h4, h5, h6, h7], _ => exact ⟨_, _, _, _, _, _, _, _, rfl⟩
  have hb := H.blk
  simp only [u32s, List.map_cons, List.map_nil, List.cons_append, List.nil_append] at hb
  have c9 : w.cell? ⟨g, 9, none⟩ = some (.int .u64 n) := blk_cell hb 9
  have c8 : w.cell? ⟨g, 8, none⟩ = some v := blk_cell hb 8
  have f9 := blk_frozen hb 9
  have hs : s.size ≤ 140737488355328 := by omega
  have hne := H.ne
  have hbg : base ≤ w.heap.size := by have := blk_lt hb; have := H.ge; omega
  have HQ1 := Aside0.mk (q_move (w1 := w.setCell ⟨g, 9, none⟩ (.int .u64 (IntKind.u64.wrap (n + s.size)))) H.row (fun k hk => Below.heap_setCell w _ _ k (fun e => hne (by rw [hk]; exact congrArg some e.symm))))
  have HB1 := Aside0.mk (blk_put hb 9 (.int .u64 (IntKind.u64.wrap (n + s.size))) rfl)
  have HNE := Aside0.mk hne
  have hl8 : rest.length + s.size = (rest ++ s.data.toList).length := by rw [List.length_append, Array.length_toList]; rfl
  have hce : cellsOf rest ++ Lib.strCells s = cellsOf (rest ++ s.data.toList) := by rw [cellsOf_append]; rfl
  have htl : (rest ++ s.data.toList).length ≤ 140737488355328 := by rw [← hl8]; exact hsz
  generalize rest ++ s.data.toList = tot at hl8 hce htl ⊢
  rw [show absorb (rest.length + s.size) [h0, h1, h2, h3, h4, h5, h6, h7] tot = absorb tot.length [h0, h1, h2, h3, h4, h5, h6, h7] tot by rw [hl8]]
  generalize hF : absorb tot.length [h0, h1, h2, h3, h4, h5, h6, h7] tot = F
  generalize hN : (n + (s.size : Int)) % 18446744073709551616 = N
  have HN := Aside0.mk hN
  have HF := Aside0.mk hF
  have HL8 := Aside0.mk hl8
  have HCE := Aside0.mk hce
  clear hF hN hl8 hce
  have HH := Aside0.mk H
  have HB := Aside0.mk hb
  clear H hb hne
  go_enter Tryd.func12, Tryd.ntmps12
  go_wp2_with (at_builtin; refine wpList_append_q_str rfl (.tmp 19) (.tmp 20) 33 9 rfl base 5 Tryd.underlying33 Tryd.underlying9 (by kernel_rfl) v rest.length (cellsOf rest) rfl HQ1.out s rfl hsz (by simpa using hbg) ?_; intro v1 w2 hq hgr hat; obtain ⟨A1, m1, rfl, hlc1⟩ := q_slice hq; have HQ2 := Aside0.mk hq; have HGR := Aside0.mk hgr; have HAT := Aside0.mk hat; have HB2 := Aside0.mk ((hgr.block g (blk_lt HB1.out) HNE.out).trans HB1.out); have c8b : w2.cell? ⟨g, 8, none⟩ = some v := blk_cell HB2.out 8; have f8b := blk_frozen HB2.out 8; clear hq hgr hat c8 c9 f9)
  have hwN : IntKind.u64.wrap (n + (s.size : Int)) = N := by rw [IntKind.wrap_u64]; exact HN.out
  rw [hwN] at HB1 HGR HB2 HAT HQ1 ⊢
  clear hwN
  have HT := Aside0.mk (Turns.start (j := 8) (u2 := .slice A1 (rest.length + s.size) m1) HGR.out HAT.out)
  have HB3 := Aside0.mk (blk_put HB2.out 8 (.slice A1 (rest.length + s.size) m1) rfl)
  have HQ3 := Aside0.mk (q_move (w1 := w2.setCell ⟨g, 8, none⟩ (.slice A1 (rest.length + s.size) m1)) HQ2.out (fun k hk => Below.heap_setCell w2 _ _ k (fun e => by
    obtain ⟨_, cells, hc⟩ := q_typed HQ2.out k hk
    rw [show k = g from e, HB2.out] at hc
    injection hc with hc
    injection hc with _ ht
    exact absurd ht (by decide))))
  rw [HCE.out, HL8.out] at HQ3
  rw [HL8.out] at HB3 HT ⊢
  clear HB1 HB2 HQ1 HQ2 HGR HAT c8b f8b
  generalize w2.setCell ⟨g, 8, none⟩ (.slice A1 tot.length m1) = w3 at HT HB3 HQ3 ⊢
  go_loopg [] tot.length (fun gf wx => ∃ (k0 k1 k2 k3 k4 k5 k6 k7 : Int) (A : Option Addr) (c : Nat) (l : List UInt8), l.length ≤ gf ∧ l.length ≤ 140737488355328 ∧ Aside0 (absorb gf [k0, k1, k2, k3, k4, k5, k6, k7] l = F) ∧ Aside0 (wx.heap[g]? = some (.cells #[.int .u32 k0, .int .u32 k1, .int .u32 k2, .int .u32 k3, .int .u32 k4, .int .u32 k5, .int .u32 k6, .int .u32 k7, .slice A l.length c, .int .u64 N] 45 (0, 0))) ∧ Aside0 (QRow wx base 5 1 (.slice A l.length c) l.length (cellsOf l)) ∧ Aside0 (Turns w wx g v (.slice A l.length c)))
  case atStart => exact ⟨h0, h1, h2, h3, h4, h5, h6, h7, A1, m1, tot, Nat.le_refl _, htl, HF, HB3, HQ3, HT⟩
  case round =>
    clear HB3 HQ3 HT
    obtain ⟨k0, k1, k2, k3, k4, k5, k6, k7, A, c, l, hlg, hlm, HF2, HB3, HQ3, HT⟩ := hrel
    have c8 : wr.cell? ⟨g, 8, none⟩ = some (.slice A l.length c) := blk_cell HB3.out 8
    by_cases h64 : 64 ≤ l.length
    · have h64i : (64 : Int) ≤ (l.length : Int) := by omega
      go_wp2
      obtain ⟨gk, rfl⟩ : ∃ m, gk = m + 1 := ⟨gk - 1, by omega⟩
      have hQ := HQ3.out
      obtain ⟨g1, off, rfl⟩ : ∃ g1 off, A = some ⟨g1, off, none⟩ := by
        rcases hQ.2 with ⟨h0, _⟩ | ⟨g1, off, cap, cur, hv, _⟩
        · omega
        · injection hv with hv
          exact ⟨g1, _, hv⟩
      obtain ⟨ad, had, hcells⟩ := q_cells hQ (by omega)
      have hcb : ∀ j, j < 64 → wr.cell? ⟨g1, off + j, none⟩ = some (.int .u8 ((nsOf l).getD j 0)) := by
        intro j hj
        have h1 := hcells j (.int .u8 ((l[j]'(by omega)).toNat)) (by simp [cellsOf, List.getElem?_eq_getElem (show j < l.length by omega)])
        injection had with had
        rw [← had, show (⟨g1, off, none⟩ : Addr).add j = ⟨g1, off + j, none⟩ from Addr.add_lit ..] at h1
        rw [h1]
        simp [nsOf, List.getElem?_eq_getElem (show j < l.length by omega), List.getD_eq_getElem?_getD]
      have hlc : l.length ≤ c := by
        obtain ⟨A', c', he, hle⟩ := q_slice hQ
        injection he with _ _ he
        omega
      have hGw : Glob wr := hG.block (fun k hk => by
        have hlt : k < w.heap.size := by have := HH.out.ge; have := blk_lt HB.out; omega
        exact HT.out.block k hlt (by have := HH.out.ge; omega) (fun e => by have := (q_typed HH.out.row k e.symm).1; omega))
      have hBY := by_calls [k0, k1, k2, k3, k4, k5, k6, k7] g1 off l.length c (nsOf l)
      generalize hR : byF [k0, k1, k2, k3, k4, k5, k6, k7] (nsOf l) = R at hBY
      have hRl : R.length = 8 := by rw [← hR]; exact addTo_length _ _ (rndTo_length _ _ rfl _) _
      have HR := Aside0.mk hR
      obtain ⟨r0, r1, r2, r3, r4, r5, r6, r7, rfl⟩ : ∃ r0 r1 r2 r3 r4 r5 r6 r7, R = [r0, r1, r2, r3, r4, r5, r6, r7] := by
        match R, hRl with
        | [r0, r1, r2, r3, r4, r5, r6, r7], _ => exact ⟨_, _, _, _, _, _, _, _, rfl⟩
      have hBZ := fun w hb hG => hBY w rfl h64 hlc hb hG
      simp only [u32s, List.map_cons, List.map_nil] at hBZ
      have HBY := Aside0.mk hBZ
      clear hBZ
      have HCB := Aside0.mk hcb
      have HGW := Aside0.mk hGw
      have HLC := Aside0.mk hlc
      clear hR hRl hBY hcb hGw hQ had hcells hlc
      refine start_ (n := 13) (S := fun w' => w'.heap[g]? = some (.cells #[.int .u32 k0, .int .u32 k1, .int .u32 k2, .int .u32 k3, .int .u32 k4, .int .u32 k5, .int .u32 k6, .int .u32 k7, .slice (some ⟨g1, off, none⟩) l.length c, .int .u64 N] 45 (0, 0))) (ds := [12]) #[false, false, false, false, false, false, false, false, false, false, false, false, false] (by kernel_rfl) rfl rfl HB3.out (fun hHeld => ?_)
      refine pure_ (i := 0) (N := some 30) (v := ?_) (a' := ?_) #[true, false, false, false, false, false, false, false, false, false, false, false, false] rfl rfl (by kernel_rfl) (fun _ _ _ h => h) (Or.inl ⟨by rfl, ?_⟩) ?_ ?_
      rotate_left
      · intro w'
        go_simp
        with_reducible rfl
      rotate_left
      · simp only [Act.put, List.setIfInBounds_toArray, List.set_cons_zero, List.set_cons_succ]
        rfl
      refine pure_ (i := 1) (N := some 31) (v := ?_) (a' := ?_) #[true, true, false, false, false, false, false, false, false, false, false, false, false] rfl rfl (by kernel_rfl) (fun _ _ _ h => h) (Or.inl ⟨by rfl, ?_⟩) ?_ ?_
      rotate_left
      · intro w'
        go_simp
        with_reducible rfl
      rotate_left
      · simp only [Act.put, List.setIfInBounds_toArray, List.set_cons_zero, List.set_cons_succ]
        rfl
      refine pure_ (i := 2) (N := some 32) (v := ?_) (a' := ?_) #[true, true, true, false, false, false, false, false, false, false, false, false, false] rfl rfl (by kernel_rfl) (fun _ _ _ h => h) (Or.inl ⟨by rfl, ?_⟩) ?_ ?_
      rotate_left
      · intro w'
        go_simp
        with_reducible rfl
      rotate_left
      · simp only [Act.put, List.setIfInBounds_toArray, List.set_cons_zero, List.set_cons_succ]
        rfl
      refine pure_ (i := 3) (N := some 33) (v := ?_) (a' := ?_) #[true, true, true, true, false, false, false, false, false, false, false, false, false] rfl rfl (by kernel_rfl) (fun _ _ _ h => h) (Or.inl ⟨by rfl, ?_⟩) ?_ ?_
      rotate_left
      · intro w'
        go_simp
        with_reducible rfl
      rotate_left
      · simp only [Act.put, List.setIfInBounds_toArray, List.set_cons_zero, List.set_cons_succ]
        rfl
      refine take_ (i := 4) (N := some 34) (v := .agg #[.int .u32 k0, .int .u32 k1, .int .u32 k2, .int .u32 k3, .int .u32 k4, .int .u32 k5, .int .u32 k6, .int .u32 k7]) (a' := ?_) #[true, true, true, true, true, false, false, false, false, false, false, false, false] rfl rfl (by kernel_rfl) (fun _ _ _ h => h) ?hy4 hHeld ?ha4 ?_
      case hy4 => exact yieldsIf_load_mid (by rfl) 42 (.tmp 33) rfl g 0 rfl [.int .u32 k0, .int .u32 k1, .int .u32 k2, .int .u32 k3, .int .u32 k4, .int .u32 k5, .int .u32 k6, .int .u32 k7] _ (fun w' h' => range_of h' (by rfl)) Tryd.underlying42 rfl (by kernel_rfl)
      case ha4 =>
        simp only [Act.put, List.setIfInBounds_toArray, List.set_cons_zero, List.set_cons_succ]
        rfl
      refine pure_ (i := 5) (N := some 35) (v := ?_) (a' := ?_) #[true, true, true, true, true, true, false, false, false, false, false, false, false] rfl rfl (by kernel_rfl) (fun _ _ _ h => h) (Or.inl ⟨by rfl, ?_⟩) ?_ ?_
      rotate_left
      · intro w'
        go_simp
        with_reducible rfl
      rotate_left
      · simp only [Act.put, List.setIfInBounds_toArray, List.set_cons_zero, List.set_cons_succ]
        rfl
      refine pure_ (i := 6) (N := some 36) (v := ?_) (a' := ?_) #[true, true, true, true, true, true, true, false, false, false, false, false, false] rfl rfl (by kernel_rfl) (fun _ _ _ h => h) (Or.inl ⟨by rfl, ?_⟩) ?_ ?_
      rotate_left
      · intro w'
        go_simp
        with_reducible rfl
      rotate_left
      · simp only [Act.put, List.setIfInBounds_toArray, List.set_cons_zero, List.set_cons_succ]
        rfl
      refine pure_ (i := 7) (N := some 37) (v := ?_) (a' := ?_) #[true, true, true, true, true, true, true, true, false, false, false, false, false] rfl rfl (by kernel_rfl) (fun _ _ _ h => h) (Or.inl ⟨by rfl, ?_⟩) ?_ ?_
      rotate_left
      · intro w'
        go_simp
        with_reducible rfl
      rotate_left
      · simp only [Act.put, List.setIfInBounds_toArray, List.set_cons_zero, List.set_cons_succ]
        rfl
      refine take_ (i := 8) (N := some 38) (v := ?_) (a' := ?_) #[true, true, true, true, true, true, true, true, true, false, false, false, false] rfl rfl (by kernel_rfl) (fun _ _ _ h => h) (Or.inl ⟨by rfl, ?_⟩) hHeld ?_ ?_
      rotate_left
      · intro w' h'
        have c8 : w'.cell? ⟨g, 8, none⟩ = some (.slice (some ⟨g1, off, none⟩) l.length c) := blk_cell h' 8
        go_simp
        with_reducible rfl
      rotate_left
      · simp only [Act.put, List.setIfInBounds_toArray, List.set_cons_zero, List.set_cons_succ]
        rfl
      refine one_ (i := 9) (N := some 39) #[true, true, true, true, true, true, true, true, true, true, false, false, false] rfl rfl (by kernel_rfl) (by decide) (fun K hK => ?_)
      refine goes_ Tryd.func16 (by kernel_rfl) rfl #[.agg #[.int .u32 k0, .int .u32 k1, .int .u32 k2, .int .u32 k3, .int .u32 k4, .int .u32 k5, .int .u32 k6, .int .u32 k7], .slice (some ⟨g1, off, none⟩) l.length c] (by rfl) rfl rfl (by (try simp only [List.map_toArray, List.map_cons, List.map_nil]); first | done | rfl) ?_
      refine (HBY.out wr.drew HCB.out (HGW.out.below (below_drew (Below.refl _ _)))).mono ?_
      rintro e w1 ⟨rfl, hB1⟩
      refine ⟨_, rfl, ?_⟩
      have N3 := Aside0.mk (blk_below (blk_drew HB3.out) hB1)
      have NT := Aside0.mk ((HT.out.grow (below_drew (Below.refl _ _))).grow hB1)
      have NQ := Aside0.mk (q_move (w1 := w1) HQ3.out (fun k hk => (hB1.block k (q_lt HQ3.out k hk))))
      refine hK.out _ _ N3.out (fun hHeld => ?_)
      clear hK K HB3 HT HQ3 hB1 HCB HGW HBY
      refine norm_ (a' := ?_) ?_ ?_
      rotate_left
      · show Act.put _ (some 39) _ = _
        simp only [Act.put, List.setIfInBounds_toArray, List.set_cons_zero, List.set_cons_succ]
        rfl
      refine pure_ (i := 10) (N := some 40) (v := ?_) (a' := ?_) #[true, true, true, true, true, true, true, true, true, true, true, false, false] rfl rfl (by kernel_rfl) (fun _ _ _ h => h) (Or.inl ⟨by rfl, ?_⟩) ?_ ?_
      rotate_left
      · intro w'
        go_simp
        with_reducible rfl
      rotate_left
      · simp only [Act.put, List.setIfInBounds_toArray, List.set_cons_zero, List.set_cons_succ]
        rfl
      refine pure_ (i := 11) (N := some 41) (v := ?_) (a' := ?_) #[true, true, true, true, true, true, true, true, true, true, true, true, false] rfl rfl (by kernel_rfl) (fun _ _ _ h => h) (Or.inl ⟨by rfl, ?_⟩) ?_ ?_
      rotate_left
      · intro w'
        go_simp
        with_reducible rfl
      rotate_left
      · simp only [Act.put, List.setIfInBounds_toArray, List.set_cons_zero, List.set_cons_succ]
        rfl
      refine last_ (i := 12) (N := none) #[true, true, true, true, true, true, true, true, true, true, true, true, true] rfl rfl (by kernel_rfl) (by decide) (fun K hK => ?_)
      refine last_store (by rfl) rfl 42 (.tmp 41) (.tmp 39) rfl g 0 #[.int .u32 r0, .int .u32 r1, .int .u32 r2, .int .u32 r3, .int .u32 r4, .int .u32 r5, .int .u32 r6, .int .u32 r7] rfl rfl (there_of (n := 8) N3.out (by simp)) (by kernel_rfl) (by simp [Value.oneCell']) ?_
      refine hK.out _ _ ?_
      clear hK K
      refine done_ (by kernel_rfl) ?_
      have N4 : Aside0 ((w1.setCells g 0 #[Value.int .u32 r0, .int .u32 r1, .int .u32 r2, .int .u32 r3, .int .u32 r4, .int .u32 r5, .int .u32 r6, .int .u32 r7].toList).heap[g]? = some (.cells #[.int .u32 r0, .int .u32 r1, .int .u32 r2, .int .u32 r3, .int .u32 r4, .int .u32 r5, .int .u32 r6, .int .u32 r7, .slice (some ⟨g1, off, none⟩) l.length c, .int .u64 N] 45 (0, 0))) :=
        ⟨sets8 _ _ _ _ _ _ _ _ N3.out⟩
      have T4 := Aside0.mk (NT.out.sets 0 #[Value.int .u32 r0, .int .u32 r1, .int .u32 r2, .int .u32 r3, .int .u32 r4, .int .u32 r5, .int .u32 r6, .int .u32 r7].toList)
      have hne1 : ∀ k, (Value.slice (some ⟨g1, off, none⟩) l.length c).ownBlock = some k → k ≠ g := fun k hk e => by
        obtain ⟨_, cells, hc⟩ := q_typed NQ.out k hk
        rw [e, N3.out] at hc
        injection hc with hc
        injection hc with _ ht
        exact absurd ht (by decide)
      have Q4 := Aside0.mk (q_move (w1 := w1.setCells g 0 #[Value.int .u32 r0, .int .u32 r1, .int .u32 r2, .int .u32 r3, .int .u32 r4, .int .u32 r5, .int .u32 r6, .int .u32 r7].toList) NQ.out (fun k hk => setCells_far _ 0 k (hne1 k hk)))
      clear hHeld N3 NT NQ
      generalize w1.setCells g 0 #[Value.int .u32 r0, .int .u32 r1, .int .u32 r2, .int .u32 r3, .int .u32 r4, .int .u32 r5, .int .u32 r6, .int .u32 r7].toList = w4 at N4 T4 Q4 ⊢
      obtain ⟨i0, hi0, hzz⟩ := Option.map_eq_some_iff.1 (show (Tryd.prog.info? 5).map (fun i => (i.zero, i.size, i.bytes)) = some (some (.int .u8 0), 1, 1) by kernel_rfl)
      simp only [Prod.mk.injEq] at hzz
      have hcut := cut_from (P := Tryd.prog) 33 5 .i64 Tryd.underlying33 hi0 1 hzz.2.1 (some ⟨g1, off, none⟩) l.length c 64 (by omega) h64i
      have hqd := q_drop (k := 64) Q4.out h64
      have hob : (Value.slice (if c = 64 then some ⟨g1, off, none⟩ else (some (⟨g1, off, none⟩ : Addr)).map (·.add (64 * 1))) (l.length - 64) (c - 64)).ownBlock = (Value.slice (some ⟨g1, off, none⟩) l.length c).ownBlock := by
        split
        · rfl
        · simp [Value.ownBlock, Addr.add_lit]
      have hld : (l.drop 64).length = l.length - 64 := List.length_drop
      change ∀ W : World, (Instr.slice 33 (.slice (some ⟨g1, off, none⟩) l.length c) (some (.int .i64 64)) none none).run Tryd.prog W = .ok (.slice (if c = 64 then some ⟨g1, off, none⟩ else (some (⟨g1, off, none⟩ : Addr)).map (·.add (64 * 1))) (l.length - 64) (c - 64)) W at hcut
      rw [← hld] at hcut hqd hob
      rw [Nat.mul_one, cellsOf_drop] at hqd
      generalize (if c = 64 then some ⟨g1, off, none⟩ else (some (⟨g1, off, none⟩ : Addr)).map (·.add (64 * 1))) = A' at hcut hqd hob
      generalize c - 64 = c' at hcut hqd hob
      have T5 := Aside0.mk (T4.out.to hob)
      have Q5 := Aside0.mk hqd
      have c8 : w4.cell? ⟨g, 8, none⟩ = some (.slice (some ⟨g1, off, none⟩) l.length c) := blk_cell N4.out 8
      have f8 := blk_frozen N4.out 8
      have hle5 : (l.drop 64).length ≤ gk := by omega
      have hlm5 : (l.drop 64).length ≤ 140737488355328 := by omega
      have HA : Aside0 (absorb gk [r0, r1, r2, r3, r4, r5, r6, r7] (l.drop 64) = F) := ⟨by
        rw [← HF2.out, ← HR.out]
        simp only [absorb]
        rw [if_neg (by omega)]⟩
      have hne5 : Aside0 (∀ k, (Value.slice A' (l.drop 64).length c').ownBlock = some k → k ≠ g) := ⟨fun k hk => hne1 k (hob ▸ hk)⟩
      clear hld hob hqd hzz hi0 hne1 T4 Q4 HF2 hlg hlm HL8 HN
      generalize l.drop 64 = l' at *
      go_wp2
      go_roundg gk
      case measure => omega
      case rel => exact ⟨r0, r1, r2, r3, r4, r5, r6, r7, A', c', l', hle5, hlm5, HA, ⟨blk_put N4.out 8 _ rfl⟩, ⟨q_move Q5.out (fun k hk => Below.heap_setCell w4 _ _ k (hne5.out k hk))⟩, ⟨T5.out.set 8 _⟩⟩
    · have h64i : ¬ (64 : Int) ≤ (l.length : Int) := by omega
      go_wp2
      go_ret
      refine ⟨rfl, .slice A l.length c, ?_, HT.out⟩
      have hx : absorb gk [k0, k1, k2, k3, k4, k5, k6, k7] l = ([k0, k1, k2, k3, k4, k5, k6, k7], l) := by
        cases gk with
        | zero => rfl
        | succ gk => simp only [absorb]; rw [if_pos (by omega)]
      rw [hx] at HF2
      rw [← HF2.out]
      exact ⟨rfl, HB3.out, HQ3.out, HH.out.ge⟩
end Go.Proofs.YthgminihlejpnaaDoor.S
