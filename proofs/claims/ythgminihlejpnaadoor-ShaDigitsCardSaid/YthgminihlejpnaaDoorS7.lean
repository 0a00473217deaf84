/- The sum of what a hash has been told: the contract of (*sha.Hash).Sum. -/
import Derived.Test.YthgminihlejpnaaDoorS6
set_option linter.unusedSimpArgs false
set_option linter.unusedVariables false
namespace Go.Proofs.YthgminihlejpnaaDoor.S
open Go.RowKit Go.Proofs.YthgminihlejpnaaDoorW.PrintWords Go.Proofs.YthgminihlejpnaaDoorW.PrintLast Go.Proofs.YthgminihlejpnaaDoorW.PrintMore

section
variable {P : Program}
theorem appends_ {ops : Array Oper} {Q : Exit → Act → World → Prop} {oi : Oper} {N : Option Tmp} {a : Act} {w w1 : World} {v : Value} {K : Act → World → Prop} (hw : Region.wanted oi (yielded ops a.tmps) = true) (hN : oi.dst = N) {s x : Operand} {t u : TypeId}
    (ho : oi.op = .call { callee := .builtin .append, args := #[s, x], argTypes := #[t, u] }) (sv xv : Value) (hs : a.eval s = sv) (hx : a.eval x = xv) (hr : (Builtin.append_ #[t, u] oi.type #[sv, xv]).run P w = .ok v w1)
    (h : K (a.put N v) w1) : if Region.wanted oi (yielded ops a.tmps) = true then Oper.wp P oi a w K Q else K (a.put N undef) w := by
  refine value_ (w1 := w1) (v := v) hw hN ?_ h
  unfold execOp
  simp only [ho, resolve, invoke, builtin, Sem.run_bind, Sem.run_pure, Result.andThen_ok, List.map_toArray, List.map_cons, List.map_nil, hs, hx, hr]
theorem row_run {W : World} (base : Nat) (t ty e : TypeId) (k : IntKind) (ht : P.underlying t = some (.slice e)) (hinfo : (P.info? e).map (fun i => (i.zero, i.size, i.bytes)) = some (some (.int k 0), 1, 1))
    (v : Value) (xs ys : List Int) (A : Option Addr) (m c : Nat) (HO : W.ownsRow base e 1 v xs.length (nums k xs)) (HR : ReadsInt W k A m ys) (hbase : base ≤ W.heap.size) (hl : xs.length + m ≤ 140737488355328) :
    ∃ v1 w1, (Builtin.append_ #[t, t] ty #[v, .slice A m c]).run P W = .ok v1 w1 ∧ w1.ownsRow base e 1 v1 (xs ++ ys).length (nums k (xs ++ ys)) ∧ W.grownBy w1 v.ownBlock := by
  obtain ⟨i0, hi, hzz⟩ := Option.map_eq_some_iff.1 hinfo
  simp only [Prod.mk.injEq] at hzz
  obtain ⟨hz0, hz1, hz2⟩ := hzz
  have hm : ys.length = m := HR.1
  rcases A with _ | ad
  · have h0 : m = 0 := by
      rcases Nat.eq_zero_or_pos m with h0 | h0
      · exact h0
      · obtain ⟨ad, h, _⟩ := HR.2.2 h0
        cases h
    subst h0
    obtain rfl : ys = [] := List.eq_nil_of_length_eq_zero hm
    refine ⟨v, W, ?_, by simpa using HO, World.grownBy.refl W _⟩
    rcases HO.2 with ⟨rfl, hn⟩ | ⟨g, cap, cur, rfl, _, _, hnc, _⟩
    · simp [Builtin.append_, run_underlying ht, sizeOf, typeInfo, hi, Builtin.lenOf, Builtin.firstCells]
    · simp [Builtin.append_, run_underlying ht, sizeOf, typeInfo, hi, Builtin.lenOf, Builtin.firstCells, hnc, storeCells]
  · have hcells : ∀ j u, (nums k ys)[j]? = some u → W.cell? (ad.add j) = some u := by
      intro j u hu
      have hj : j < ys.length := by
        rcases Nat.lt_or_ge j ys.length with h | h
        · exact h
        · simp [nums, List.getElem?_eq_none h] at hu
      obtain ⟨ad', h', hc⟩ := HR.2.2 (by omega)
      injection h' with h'
      subst h'
      have := hc j (by omega)
      simp [nums, List.getElem?_eq_getElem hj] at hu
      subst hu
      rw [this]
      simp [List.getD_eq_getElem?_getD, List.getElem?_eq_getElem hj]
    obtain ⟨v1, w1, hr, h2, h3, _, h5⟩ := run_append_own_at (P := P) W base t ty e i0 (.int k 0) 1 1 ht hi hz0 hz1 hz2 rfl (by omega) v xs.length (nums k xs) HO ad m c (nums k ys) (by simp [nums, hm]) hcells
      (by intro u hu; simp only [nums, List.mem_map] at hu; obtain ⟨q, _, rfl⟩ := hu; rfl) (by simp only [maxLen]; omega) (by omega) hbase
    exact ⟨v1, w1, hr, by simpa [nums, hm] using h2, h3⟩
end
theorem wrap_same {n : Int} (h0 : -1 ≤ n) (h1 : n < 9223372036854775807) : wrap64 n = n := by
  unfold wrap64
  omega
theorem nums_nsOf (l : List UInt8) : nums .u8 (nsOf l) = cellsOf l := by simp [nums, nsOf, cellsOf]
theorem nsOf_length (l : List UInt8) : (nsOf l).length = l.length := by simp [nsOf]
theorem strOfNums_size (l : List Int) : (strOfNums l).size = l.length := by simp [strOfNums, ByteArray.size]
/-- A row of one's own is read. -/
theorem q_reads {W : World} {base n c : Nat} {e : TypeId} {A : Option Addr} {l : List UInt8} (h : QRow W base e 1 (.slice A n c) n (cellsOf l)) : ReadsInt W .u8 A n (nsOf l) := by
  have hl : l.length = n := by have := h.1; simpa [cellsOf] using this
  refine ⟨by rw [nsOf_length]; exact hl, q_max h, fun hn => ?_⟩
  obtain ⟨ad, ha, hc⟩ := q_cells h hn
  refine ⟨ad, ha, fun j hj => hc j _ ?_⟩
  have hj' : j < l.length := by omega
  simp [cellsOf, nsOf, List.getElem?_eq_getElem hj', List.getD_eq_getElem?_getD]
/-- The length of a text in bits, in eight bytes, the first i of them. -/
def lenTo (n : Int) : Nat → List Int
  | 0 => []
  | i + 1 => lenTo n i ++ [IntKind.u64.wrap (n * 8) / 2 ^ (56 - 8 * (i : Int)).toNat % 256]
theorem lenTo_length (n : Int) (i : Nat) : (lenTo n i).length = i := by induction i with | zero => rfl | succ i ih => simp [lenTo, ih]
def zerosFor (r : Nat) : Nat := (64 - (r + 9) % 64) % 64
def padI (r : Nat) (n : Int) : List Int := 128 :: (List.replicate (zerosFor r) 0 ++ lenTo n 8)
theorem padI_length (r : Nat) (n : Int) : (padI r n).length = zerosFor r + 9 := by simp [padI, lenTo_length]
def be (x : Int) : List Int := [x / 16777216 % 256, x / 65536 % 256, x / 256 % 256, x % 256]
def beTo (h : List Int) : Nat → List Int
  | 0 => []
  | i + 1 => beTo h i ++ be (h.getD i 0)
theorem beTo_length (h : List Int) (i : Nat) : (beTo h i).length = 4 * i := by induction i with | zero => rfl | succ i ih => simp [beTo, ih, be]; omega
def sumS (h : List Int) (rest : List UInt8) (n : Int) : ByteArray :=
  strOfNums (beTo (absorb (rest.length + (strOfNums (padI rest.length n)).size) h (rest ++ (strOfNums (padI rest.length n)).data.toList)).1 8)
def hashBlk (h : List Int) (v : Value) (n : Int) : Obj := .cells (u32s h ++ [v, .int .u64 n]).toArray 45 (0, 0)

theorem eight {h : List Int} (hl : h.length = 8) : ∃ h0 h1 h2 h3 h4 h5 h6 h7, h = [h0, h1, h2, h3, h4, h5, h6, h7] := by
  match h, hl with
  | [h0, h1, h2, h3, h4, h5, h6, h7], _ => exact ⟨_, _, _, _, _, _, _, _, rfl⟩
set_option maxRecDepth 100000 in
set_option maxHeartbeats 1000000 in
theorem sum_calls (w : World) (base g : Nat) (h : List Int) (v : Value) (rest : List UInt8) (n : Int) (H : HashAt w base g h v rest n) (hG : Glob w) (hbase : gtop ≤ base) (hsz : rest.length ≤ 1000000) :
    Calls Tryd.prog 13 #[.pointer (some ⟨g, 0, none⟩)] w fun e w' => e = .returned (.string (sumS h rest n)) ∧ Below w.heap.size w w' := by
  have hlen := H.len
  obtain ⟨h0, h1, h2, h3, h4, h5, h6, h7, rfl⟩ : ∃ h0 h1 h2 h3 h4 h5 h6 h7, h = [h0, h1, h2, h3, h4, h5, h6, h7] := by
    match h, hlen with
    | [h0, h1, h2, h3, h4, h5, h6, h7], _ => exact ⟨_, _, _, _, _, _, _, _, rfl⟩
  have hb := H.blk
  simp only [u32s, List.map_cons, List.map_nil, List.cons_append, List.nil_append] at hb
  obtain ⟨A, c, rfl, hlc⟩ := q_slice H.row
  have HR := Aside0.mk (q_reads H.row)
  have hbw : base ≤ w.heap.size := by have := blk_lt hb; have := H.ge; omega
  have HB := Aside0.mk hb
  have HH := Aside0.mk H
  generalize hF : sumS [h0, h1, h2, h3, h4, h5, h6, h7] rest n = F
  have HF := Aside0.mk hF
  clear hF H hb
  go_enter Tryd.func13, Tryd.ntmps13
  go_wp2
  refine start_ (n := 13) (S := fun w' => w'.heap[g]? = some (.cells #[.int .u32 h0, .int .u32 h1, .int .u32 h2, .int .u32 h3, .int .u32 h4, .int .u32 h5, .int .u32 h6, .int .u32 h7, .slice A rest.length c, .int .u64 n] 45 (0, 0))) (ds := []) #[false, false, false, false, false, false, false, false, false, false, false, false, false] (by kernel_rfl) rfl rfl HB.out (fun hHeld => ?_)
  refine pure_ (i := 0) (N := (some 9)) (v := ?_) (a' := ?_) #[true, false, false, false, false, false, false, false, false, false, false, false, false] rfl rfl (by kernel_rfl) (fun _ _ _ h => h) (Or.inl ⟨by rfl, ?_⟩) ?_ ?_
  rotate_left
  · intro w'
    go_simp
    with_reducible rfl
  rotate_left
  · simp only [Act.put, List.setIfInBounds_toArray, List.set_cons_zero, List.set_cons_succ]
    rfl
  refine pure_ (i := 1) (N := (some 10)) (v := ?_) (a' := ?_) #[true, true, false, false, false, false, false, false, false, false, false, false, false] rfl rfl (by kernel_rfl) (fun _ _ _ h => h) (Or.inl ⟨by rfl, ?_⟩) ?_ ?_
  rotate_left
  · intro w'
    go_simp
    with_reducible rfl
  rotate_left
  · simp only [Act.put, List.setIfInBounds_toArray, List.set_cons_zero, List.set_cons_succ]
    rfl
  refine pure_ (i := 2) (N := (some 11)) (v := ?_) (a' := ?_) #[true, true, true, false, false, false, false, false, false, false, false, false, false] rfl rfl (by kernel_rfl) (fun _ _ _ h => h) (Or.inl ⟨by rfl, ?_⟩) ?_ ?_
  rotate_left
  · intro w'
    go_simp
    with_reducible rfl
  rotate_left
  · simp only [Act.put, List.setIfInBounds_toArray, List.set_cons_zero, List.set_cons_succ]
    rfl
  refine take_ (i := 3) (N := (some 12)) (v := (.agg #[.int .u32 h0, .int .u32 h1, .int .u32 h2, .int .u32 h3, .int .u32 h4, .int .u32 h5, .int .u32 h6, .int .u32 h7])) (a' := ?_) #[true, true, true, true, false, false, false, false, false, false, false, false, false] rfl rfl (by kernel_rfl) (fun _ _ _ h => h) ?hy3 hHeld ?ha3 ?_
  case hy3 => exact yieldsIf_load_mid (by rfl) 42 (.tmp 11) rfl g 0 rfl [.int .u32 h0, .int .u32 h1, .int .u32 h2, .int .u32 h3, .int .u32 h4, .int .u32 h5, .int .u32 h6, .int .u32 h7] _ (fun w' h' => range_of h' (by rfl)) Tryd.underlying42 rfl (by kernel_rfl)
  case ha3 =>
    simp only [Act.put, List.setIfInBounds_toArray, List.set_cons_zero, List.set_cons_succ]
    rfl
  refine pure_ (i := 5) (N := (some 14)) (v := ?_) (a' := ?_) #[true, true, true, true, false, true, false, false, false, false, false, false, false] rfl rfl (by kernel_rfl) (fun _ _ _ h => h) (Or.inl ⟨by rfl, ?_⟩) ?_ ?_
  rotate_left
  · intro w'
    go_simp
    with_reducible rfl
  rotate_left
  · simp only [Act.put, List.setIfInBounds_toArray, List.set_cons_zero, List.set_cons_succ]
    rfl
  refine pure_ (i := 6) (N := (some 15)) (v := ?_) (a' := ?_) #[true, true, true, true, false, true, true, false, false, false, false, false, false] rfl rfl (by kernel_rfl) (fun _ _ _ h => h) (Or.inl ⟨by rfl, ?_⟩) ?_ ?_
  rotate_left
  · intro w'
    go_simp
    with_reducible rfl
  rotate_left
  · simp only [Act.put, List.setIfInBounds_toArray, List.set_cons_zero, List.set_cons_succ]
    rfl
  refine pure_ (i := 7) (N := (some 16)) (v := ?_) (a' := ?_) #[true, true, true, true, false, true, true, true, false, false, false, false, false] rfl rfl (by kernel_rfl) (fun _ _ _ h => h) (Or.inl ⟨by rfl, ?_⟩) ?_ ?_
  rotate_left
  · intro w'
    go_simp
    with_reducible rfl
  rotate_left
  · simp only [Act.put, List.setIfInBounds_toArray, List.set_cons_zero, List.set_cons_succ]
    rfl
  refine take_ (i := 8) (N := (some 17)) (v := ?_) (a' := ?_) #[true, true, true, true, false, true, true, true, true, false, false, false, false] rfl rfl (by kernel_rfl) (fun _ _ _ h => h) (Or.inl ⟨by rfl, ?_⟩) hHeld ?_ ?_
  rotate_left
  · intro w' h'
    have c8 : w'.cell? ⟨g, 8, none⟩ = some (.slice A rest.length c) := blk_cell h' 8
    go_simp
    with_reducible rfl
  rotate_left
  · simp only [Act.put, List.setIfInBounds_toArray, List.set_cons_zero, List.set_cons_succ]
    rfl
  refine one_ (i := 4) (N := (some 13)) #[true, true, true, true, true, true, true, true, true, false, false, false, false] rfl rfl (by kernel_rfl) (by decide) (fun K hK => ?_)
  refine value_ (w1 := ?_) (v := ?_) (by rfl) rfl ?_ ?_
  rotate_left 2
  · go_simp
    constructor
    · rfl
    · rfl
  have B1 : Below w.heap.size w (w.alloc (.cells #[] 5)).drew := below_drew ((Below.refl _ _).alloc (Nat.le_refl _) _)
  have O1 : (w.alloc (.cells #[] 5)).drew.ownsRow w.heap.size 5 1 (.slice (some ⟨w.heap.size, 0, none⟩) 0 0) ([] : List Int).length (nums .u8 []) := own_lit w w.heap.size 5 .u8 [] (Nat.le_refl _) (by simp)
  have z1 : w.heap.size ≤ (w.alloc (.cells #[] 5)).drew.heap.size := B1.size
  have HH1 := Aside0.mk (HH.out.below B1)
  refine hK.out _ _ (blk_below HB.out B1) (fun hHeld => ?_)
  clear hK K
  generalize (w.alloc (.cells #[] 5)).drew = W1 at *
  refine norm_ (a' := ?_) ?_ ?_
  rotate_left
  · show Act.put _ (some 13) _ = _
    simp only [Act.put, List.setIfInBounds_toArray, List.set_cons_zero, List.set_cons_succ]
    rfl
  refine one_ (i := 9) (N := (some 18)) #[true, true, true, true, true, true, true, true, true, true, false, false, false] rfl rfl (by kernel_rfl) (by decide) (fun K hK => ?_)
  obtain ⟨v1, w1, hr, O2, hgr⟩ := row_run (P := Tryd.prog) w.heap.size 33 33 5 .u8 Tryd.underlying33 (by kernel_rfl) _ [] (nsOf rest) A rest.length c O1 (q_reads HH1.out.row) z1 (by simp; omega)
  refine appends_ (by rfl) rfl rfl _ _ rfl rfl hr ?_
  have B2 := B1.grown hgr z1 (own_base O1)
  clear hHeld
  refine hK.out _ _ (blk_below HB.out B2) (fun hHeld => ?_)
  clear hK K hr hgr HH1 O1 B1 z1 W1
  rw [List.nil_append, nums_nsOf, nsOf_length] at O2
  obtain ⟨A1, c1, rfl, hlc1⟩ := q_slice (q_of_own O2)
  refine norm_ (a' := ?_) ?_ ?_
  rotate_left
  · show Act.put _ (some 18) _ = _
    simp only [Act.put, List.setIfInBounds_toArray, List.set_cons_zero, List.set_cons_succ]
    rfl
  refine pure_ (i := 10) (N := (some 19)) (v := ?_) (a' := ?_) #[true, true, true, true, true, true, true, true, true, true, true, false, false] rfl rfl (by kernel_rfl) (fun _ _ _ h => h) (Or.inl ⟨by rfl, ?_⟩) ?_ ?_
  rotate_left
  · intro w'
    go_simp
    with_reducible rfl
  rotate_left
  · simp only [Act.put, List.setIfInBounds_toArray, List.set_cons_zero, List.set_cons_succ]
    rfl
  refine one_ (i := 11) (N := (some 20)) #[true, true, true, true, true, true, true, true, true, true, true, true, false] rfl rfl (by kernel_rfl) (by decide) (fun K hK => ?_)
  refine value_ (w1 := ?_) (v := ?_) (by rfl) rfl ?_ ?_
  rotate_left 2
  · go_simp
    constructor
    · rfl
    · rfl
  have B3 : Below w.heap.size w (w1.alloc (.cells #[.int .u32 h0, .int .u32 h1, .int .u32 h2, .int .u32 h3, .int .u32 h4, .int .u32 h5, .int .u32 h6, .int .u32 h7, .slice A1 rest.length c1, .int .u64 0] 45)) := B2.alloc B2.size _
  have E3 : HashAt (w1.alloc (.cells #[.int .u32 h0, .int .u32 h1, .int .u32 h2, .int .u32 h3, .int .u32 h4, .int .u32 h5, .int .u32 h6, .int .u32 h7, .slice A1 rest.length c1, .int .u64 0] 45)) w.heap.size w1.heap.size [h0, h1, h2, h3, h4, h5, h6, h7] (.slice A1 rest.length c1) rest 0 :=
    ⟨rfl, blk_new _ _, q_move (q_of_own O2) (fun k hk => Below.heap_alloc _ _ _ (q_lt (q_of_own O2) k hk)), B2.size⟩
  clear hHeld
  refine hK.out _ _ (blk_below HB.out B3) (fun hHeld => ?_)
  clear hK K B2 O2
  generalize w1.alloc (.cells #[.int .u32 h0, .int .u32 h1, .int .u32 h2, .int .u32 h3, .int .u32 h4, .int .u32 h5, .int .u32 h6, .int .u32 h7, .slice A1 rest.length c1, .int .u64 0] 45) = w3 at *
  generalize w1.heap.size = b1 at *
  refine norm_ (a' := ?_) ?_ ?_
  rotate_left
  · show Act.put _ (some 20) _ = _
    simp only [Act.put, List.setIfInBounds_toArray, List.set_cons_zero, List.set_cons_succ]
    rfl
  refine pure_ (i := 12) (N := (some 3)) (v := ?_) (a' := ?_) #[true, true, true, true, true, true, true, true, true, true, true, true, true] rfl rfl (by kernel_rfl) (fun _ _ _ h => h) (Or.inl ⟨by rfl, ?_⟩) ?_ ?_
  rotate_left
  · intro w'
    go_simp
    with_reducible rfl
  rotate_left
  · simp only [Act.put, List.setIfInBounds_toArray, List.set_cons_zero, List.set_cons_succ]
    rfl
  refine done_ (by kernel_rfl) ?_
  have hB3 := Aside0.mk (blk_below HB.out B3)
  have HE := Aside0.mk E3
  have HB3 := Aside0.mk B3
  clear hHeld E3 B3 w1
  have c8 : w3.cell? ⟨b1, 8, none⟩ = some (.slice A1 rest.length c1) := blk_cell HE.out.blk 8
  clear hHeld hB3
  go_wp2
  go_loopg [4] (zerosFor rest.length) (fun gf s4 wx => ∃ (j cp : Nat) (Ap : Option Addr) (l : List Int), s4 = .slice Ap l.length cp ∧ j + gf = zerosFor rest.length ∧ l.length = 1 + j ∧ Aside0 (l = 128 :: List.replicate j 0) ∧ Aside0 (wx.ownsRow w3.heap.size 5 1 (.slice Ap l.length cp) l.length (nums .u8 l)) ∧ Aside0 (Below w3.heap.size w3 wx))
  case atStart =>
    exact ⟨0, 1, _, [128], rfl, by omega, rfl, ⟨rfl⟩, ⟨own_lit w3 w3.heap.size 5 .u8 [128] (Nat.le_refl _) (by simp)⟩, ⟨(Below.refl _ _).alloc (Nat.le_refl _) _⟩⟩
  case round =>
    clear c8
    obtain ⟨j, cp, Ap, l, rfl, hg, hl, HL, OP, PB⟩ := hrel
    have c8 : wr.cell? ⟨b1, 8, none⟩ = some (.slice A1 rest.length c1) := blk_cell (HE.out.below PB.out).blk 8
    have hz64 : zerosFor rest.length < 64 := by unfold zerosFor; omega
    obtain ⟨R, hR⟩ : ∃ R : Int, (rest.length : Int) = R := ⟨_, rfl⟩
    obtain ⟨L, hL⟩ : ∃ L : Int, (l.length : Int) = L := ⟨_, rfl⟩
    obtain ⟨X1, hX1⟩ : ∃ X : Int, R + L = X := ⟨_, rfl⟩
    obtain ⟨X2, hX2⟩ : ∃ X : Int, X1 + 8 = X := ⟨_, rfl⟩
    obtain ⟨q, hq⟩ : ∃ q : Int, X2 % 64 = q := ⟨_, rfl⟩
    have hX : (rest.length : Int) + (l.length : Int) + 8 = X2 := by omega
    have hw1 : wrap64 (R + L) = X1 := by rw [hX1]; exact wrap_same (by omega) (by omega)
    have hw2 : wrap64 (X1 + 8) = X2 := by rw [hX2]; exact wrap_same (by omega) (by omega)
    have hq3 : (R + L + 8) % 64 = q := by rw [show R + L + 8 = X2 by omega]; exact hq
    have hm2 : X2.tmod 64 = q := by rw [Int.tmod_eq_emod_of_nonneg (by omega)]; exact hq
    have hp3 := PB.out.size
    by_cases hj : j = zerosFor rest.length
    · obtain rfl : q = 0 := by
        unfold zerosFor at hj
        omega
      have HJ := Aside0.mk hj
      have HLL := Aside0.mk hl
      clear hj hl hX hX1 hX2
      go_wp2
      clear hw1 hw2 hm2 hq hq3 hR hL
      obtain ⟨z3, hz3⟩ : ∃ z : Nat, l.length = z := ⟨_, rfl⟩
      have HZ := Aside0.mk hz3
      have hlz : l.length ≤ 64 := by have := HLL.out; have := HJ.out; omega
      have HL2 : Aside0 (l = 128 :: List.replicate (zerosFor rest.length) 0) := ⟨by rw [HL.out, HJ.out]⟩
      clear hz3 c8 hg HL HJ HLL
      have c9 : wr.cell? ⟨g, 9, none⟩ = some (.int .u64 n) := blk_cell (blk_below (blk_below HB.out HB3.out) PB.out) 9
      go_loopg [4, 5] 8 (fun gf s4 s5 wx => ∃ (i cp : Nat) (Ap : Option Addr) (m : List Int) (T : Int), s4 = .slice Ap m.length cp ∧ s5 = .int .i64 T ∧ i + gf = 8 ∧ Aside0 (T = 56 - 8 * i) ∧ Aside0 (m = l ++ lenTo n i) ∧ Aside0 (wx.ownsRow w3.heap.size 5 1 (.slice Ap m.length cp) m.length (nums .u8 m)) ∧ Aside0 (Below w3.heap.size w3 wx))
      case atStart => exact ⟨0, cp, Ap, l, 56, rfl, rfl, rfl, ⟨rfl⟩, ⟨by simp [lenTo]⟩, OP, PB⟩
      case round =>
        clear OP PB
        obtain ⟨i, cp, Ap, m, T, rfl, rfl, hg, HT, HM, OP, PB⟩ := hrel
        by_cases hi : i = 8
        · have hT : T = -8 := by rw [HT.out, hi]; rfl
          subst hT
          have hi8 := hi
          clear hg hi
          have HP : Aside0 (m = padI rest.length n) := ⟨by rw [HM.out, HL2.out, hi8]; rfl⟩
          have hgr : Glob wr := hG.block (fun k hk => (PB.out.block k (by have := HB3.out.size; omega)).trans (HB3.out.block k (by omega)))
          have HER := HE.out.below PB.out
          have hml : (strOfNums m).size ≤ 1000 := by
            rw [HP.out, strOfNums_size, padI_length]
            have : zerosFor rest.length < 64 := by unfold zerosFor; omega
            omega
          have hWR := write_calls w wr w.heap.size b1 _ _ rest 0 (strOfNums m) HER hgr (by omega) (by decide) (by decide) (by omega)
          have hcv : (convert 33 9 (.slice Ap m.length cp)).run Tryd.prog wr = .ok (.string (strOfNums m)) wr := own_string Tryd.underlying33 Tryd.underlying5 Tryd.underlying9 OP.out
          have HWR := Aside0.mk hWR
          have HW := Aside0.mk HER
          have BW := Aside0.mk (HB3.out.trans (PB.out.mono HB3.out.size))
          clear hi8 hWR hgr HM OP PB hml HER HZ hlz HL2
          have HFm : strOfNums (beTo (absorb (rest.length + (strOfNums m).size) [h0, h1, h2, h3, h4, h5, h6, h7] (rest ++ (strOfNums m).data.toList)).1 8) = F := by rw [HP.out]; exact HF.out
          clear HP HF
          generalize absorb (rest.length + (strOfNums m).size) [h0, h1, h2, h3, h4, h5, h6, h7] (rest ++ (strOfNums m).data.toList) = AB at HWR HFm
          obtain ⟨kk, rr⟩ := AB
          simp only at HWR HFm
          have HF := Aside0.mk HFm
          clear HFm
          obtain ⟨i0, hi0, hzz⟩ := Option.map_eq_some_iff.1 (show (Tryd.prog.info? 5).map (fun i => (i.zero, i.size, i.bytes)) = some (some (.int .u8 0), 1, 1) by kernel_rfl)
          simp only [Prod.mk.injEq] at hzz
          have HMK : Aside0 (∀ W : World, ∃ w', (Instr.makeSlice 33 (.int .i64 0) (.int .i64 32)).run Tryd.prog W = .ok (.slice (some ⟨W.heap.size, 0, none⟩) 0 32) w' ∧ w'.ownsRow W.heap.size 5 1 (.slice (some ⟨W.heap.size, 0, none⟩) 0 32) 0 [] ∧ W.grownBy w' none) := ⟨fun W => run_make_own (P := Tryd.prog) W W.heap.size 33 5 i0 (.int .u8 0) 1 Tryd.underlying33 hi0 hzz.1 hzz.2.1 .i64 .i64 32 (by rw [hzz.2.2]; decide) (by decide) (Nat.le_refl _)⟩
          clear hzz hi0
          go_wp2_with (first | (go_at_call 12; refine (HWR.out).mono ?_; rintro e w4 ⟨rfl, v4, hE4, hT4⟩; obtain ⟨w5, hmk, hO5, hG5⟩ := HMK.out w4; have hB5 := (hT4.below HW.out BW.out).grown hG5 (hT4.below HW.out BW.out).size (fun k hk => by cases hk); have B4 := Aside0.mk (hT4.below HW.out BW.out); have B5 := Aside0.mk hB5; have O5 := Aside0.mk hO5; have P5 : Aside0 (Below w4.heap.size w4 w5) := ⟨(Below.refl _ _).grown hG5 (Nat.le_refl _) (fun k hk => by cases hk)⟩; have hl8 := hE4.len; have hb4 := blk_below hE4.blk P5.out; obtain ⟨k0, k1, k2, k3, k4, k5, k6, k7, rfl⟩ := eight hl8; have N5 := Aside0.mk hb4; clear hE4 hT4 hcv HWR HW BW HMK hB5 hG5 hO5 hl8 hb4) | ((with_reducible refine gate_dst (N := 59) rfl ?_); refine wpList_load_mid rfl 42 (.tmp 58) rfl b1 0 rfl [.int .u32 k0, .int .u32 k1, .int .u32 k2, .int .u32 k3, .int .u32 k4, .int .u32 k5, .int .u32 k6, .int .u32 k7] _ (range_of N5.out (by rfl)) Tryd.underlying42 rfl (by kernel_rfl) ?_))
          generalize hkk : [k0, k1, k2, k3, k4, k5, k6, k7] = kk at HF
          have hkl : kk.length = 8 := by rw [← hkk]; rfl
          have hagg : (u32s kk).toArray = #[.int .u32 k0, .int .u32 k1, .int .u32 k2, .int .u32 k3, .int .u32 k4, .int .u32 k5, .int .u32 k6, .int .u32 k7] := by rw [← hkk]; rfl
          have HAG := Aside0.mk hagg
          have HKL := Aside0.mk hkl
          clear hkk hagg hkl
          go_loopg [6, 60] 8 (fun gf s6 s60 wx => ∃ (i cp : Nat) (Ap : Option Addr) (o : List Int), s6 = .slice Ap o.length cp ∧ s60 = .int .i64 i ∧ i + gf = 8 ∧ Aside0 (o = beTo kk i) ∧ Aside0 (wx.ownsRow w4.heap.size 5 1 (.slice Ap o.length cp) o.length (nums .u8 o)) ∧ Aside0 (Below w4.heap.size w4 wx))
          case atStart => exact ⟨0, 32, _, [], rfl, rfl, rfl, ⟨rfl⟩, O5, P5⟩
          case round =>
            clear O5 P5 N5
            obtain ⟨i, cp, Ap, o, rfl, rfl, hg, HO, OP, PB⟩ := hrel
            by_cases hi : i = 8
            · subst hi
              have hcv : (convert 33 9 (.slice Ap o.length cp)).run Tryd.prog wr = .ok (.string (strOfNums o)) wr := own_string Tryd.underlying33 Tryd.underlying5 Tryd.underlying9 OP.out
              go_wp2
              go_ret
              rw [← HF.out, HO.out]
              exact ⟨rfl, B4.out.trans (PB.out.mono B4.out.size)⟩
            · have hi8 : i < 8 := by omega
              have hidx := index_u32_8 (A := (u32s kk).toArray) (x := kk.getD i 0) i hi8 (by simp [u32s, List.getElem?_eq_getElem (show i < kk.length by have := HKL.out; omega), List.getD_eq_getElem?_getD])
              generalize hxi : kk.getD i 0 = xi at hidx
              rw [HAG.out] at hidx
              have HXI := Aside0.mk hxi
              have hp3 := PB.out.size
              have hol : o.length + 4 ≤ 140737488355328 := by rw [HO.out, beTo_length]; omega
              have hii : (i : Int) < 8 := by omega
              clear hxi
              go_wp2_with ((with_reducible refine gate_dst (N := 76) rfl ?_); refine print_append_row (w0 := w4) w4.heap.size rfl (.tmp 63) (.tmp 75) 33 5 .u8 1 rfl Tryd.underlying33 (by kernel_rfl) (by decide) _ o (be xi) _ 4 4 rfl rfl (OP.out.alloc _) (own_reads' (own_lit wr w4.heap.size 5 .u8 (be xi) hp3 (by simp [be]))) (PB.out.alloc hp3 _) (PB.out.alloc hp3 _).size (by omega) ?_; intro v1 w1 hown hB hgr hat; obtain ⟨A2, c2, rfl, hlc2⟩ := q_slice (q_of_own hown); have O2 := Aside0.mk hown; have PB2 := Aside0.mk hB; clear hown hB hgr hat)
              go_roundg (gk - 1)
              case measure => omega
              case rel => exact ⟨i + 1, c2, A2, o ++ be xi, by rw [List.length_append], by go_num, by omega, ⟨by rw [HO.out, beTo, HXI.out]⟩, O2, PB2⟩
        · have hT0 : 0 ≤ T := by have := HT.out; omega
          have hT1 : T ≤ 56 := by have := HT.out; omega
          have c9 : wr.cell? ⟨g, 9, none⟩ = some (.int .u64 n) := blk_cell (blk_below (blk_below HB.out HB3.out) PB.out) 9
          have HI := Aside0.mk hi
          clear hi
          have hp3 := PB.out.size
          have hml : (m.length + 1) * 1 ≤ 140737488355328 := by rw [HM.out, List.length_append, lenTo_length]; omega
          go_wp2_with ((with_reducible refine gate_dst (N := 50) rfl ?_); refine print_append_num w3.heap.size rfl (.tmp 40) (.tmp 49) 33 5 .u8 1 rfl Tryd.underlying33 (by kernel_rfl) (by decide) _ m _ rfl rfl OP.out PB.out hp3 hml ?_; intro v1 w1 hown hB hgr hat; obtain ⟨A2, c2, rfl, hlc2⟩ := q_slice (q_of_own hown); have O2 := Aside0.mk hown; have PB2 := Aside0.mk hB; clear hown hB hgr hat)
          go_roundg (gk - 1)
          case measure => have hi := HI.out; omega
          case rel =>
            have hi := HI.out
            refine ⟨i + 1, c2, A2, _, _, by rw [List.length_append, List.length_singleton], rfl, by omega, ⟨?_⟩, ⟨?_⟩, O2, PB2⟩
            · rw [HT.out]; omega
            · rw [HM.out, lenTo, HT.out, List.append_assoc]
    · have hq1 : q ≠ 0 := by
        unfold zerosFor at hj hg
        omega
      have hq2 : (q != 0) = true := bne_iff_ne.2 hq1
      have HJ := Aside0.mk hj
      have HLL := Aside0.mk hl
      have hll : (l.length + 1) * 1 ≤ 140737488355328 := by omega
      clear hj hl hX hX1 hX2
      go_wp2_with ((with_reducible refine gate_dst (N := 35) rfl ?_); clear hw1 hw2 hm2 hq hq1 hq2 hq3 hR hL; refine print_append_num w3.heap.size rfl (.tmp 33) (.tmp 34) 33 5 .u8 1 rfl Tryd.underlying33 (by kernel_rfl) (by decide) _ l 0 rfl rfl OP.out PB.out hp3 hll ?_; intro v1 w1 hown hB hgr hat; obtain ⟨A2, c2, rfl, hlc2⟩ := q_slice (q_of_own hown); have O2 := Aside0.mk hown; have PB2 := Aside0.mk hB; clear hown hB hgr hat)
      go_roundg (gk - 1)
      case measure => have hj := HJ.out; omega
      case rel =>
        have hj := HJ.out
        have hl := HLL.out
        refine ⟨j + 1, c2, A2, l ++ [0], by rw [List.length_append, List.length_singleton], by omega, by rw [List.length_append, List.length_singleton]; omega, ⟨?_⟩, O2, PB2⟩
        rw [HL.out, List.cons_append, ← List.replicate_succ']
end Go.Proofs.YthgminihlejpnaaDoor.S
