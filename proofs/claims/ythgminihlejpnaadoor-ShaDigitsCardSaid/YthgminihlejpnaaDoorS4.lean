/- append(b, s...), s a string, onto a row of bytes that may begin inside its block. -/
import Derived.Test.YthgminihlejpnaaDoorS3
import Derived.Lib.AppendStr
set_option linter.unusedSimpArgs false
set_option linter.unusedVariables false
namespace Go.Proofs.YthgminihlejpnaaDoor.S
open Go.RowKit Go.Proofs.YthgminihlejpnaaDoorW.PrintWords Go.Proofs.YthgminihlejpnaaDoorW.PrintLast Go.Proofs.YthgminihlejpnaaDoorW.PrintMore

section
variable {P : Program} (w : World)
theorem run_append_room_str (t u ty e : TypeId) (i : TypeInfo) (ht : P.underlying t = some (.slice e)) (hu : P.underlying u = some .string) (hi : P.info? e = some i) (hs1 : i.size = 1)
    (g off sLen sCap : Nat) (cur : Array Value) (hg : w.heap[g]? = some (.cells cur e (0, 0))) (s : ByteArray)
    (hroom : sLen + s.size ≤ sCap) (hfit : off + sLen + s.size ≤ cur.size) :
    (Builtin.append_ #[t, u] ty #[.slice (some ⟨g, off, none⟩) sLen sCap, .string s]).run P w =
      .ok (.slice (some ⟨g, off, none⟩) (sLen + s.size) sCap) (w.setRow g (cur.toList.take (off + sLen) ++ Lib.strCells s ++ cur.toList.drop (off + sLen + s.size)).toArray) := by
  have hf := Lib.run_firstCells_string (P := P) w 1 s
  have hst := run_storeCells_at P g (off + sLen) e (Lib.strCells s) 0 cur w hg (by simpa [Lib.strCells_length] using hfit) (Lib.strCells_oneCell s)
  simp only [Nat.add_zero, Lib.strCells_length] at hst
  simp [Builtin.append_, run_underlying ht, run_underlying hu, sizeOf, typeInfo, hi, hs1, Builtin.lenOf, hroom, hf, Addr.add_lit, hst]
theorem run_append_none_str (t u ty e : TypeId) (i : TypeInfo) (ht : P.underlying t = some (.slice e)) (hu : P.underlying u = some .string) (hi : P.info? e = some i) (hs1 : i.size = 1)
    (b : Addr) (s : ByteArray) (h0 : s.size = 0) :
    (Builtin.append_ #[t, u] ty #[.slice (some b) 0 0, .string s]).run P w = .ok (.slice (some b) 0 0) w := by
  have hf := Lib.run_firstCells_string (P := P) w 1 s
  have hc : Lib.strCells s = [] := List.eq_nil_of_length_eq_zero (by rw [Lib.strCells_length, h0])
  rw [hc, h0] at hf
  simp [Builtin.append_, run_underlying ht, run_underlying hu, sizeOf, typeInfo, hi, hs1, Builtin.lenOf, h0, hf, storeCells]
end
theorem q_append_str {P : Program} (w : World) (base : Nat) (t u ty e : TypeId) (i : TypeInfo) (ht : P.underlying t = some (.slice e)) (hu : P.underlying u = some .string) (hi : P.info? e = some i) (hz : i.zero = some (.int .u8 0))
    (hsize : i.size = 1) (hby : i.bytes = 1) (v : Value) (n : Nat) (xs : List Value) (hown : QRow w base e 1 v n xs) (s : ByteArray)
    (h63 : n + s.size ≤ maxLen) (hbytes : n + s.size ≤ 140737488355328) (hbase : base ≤ w.heap.size) :
    ∃ v' w', (Builtin.append_ #[t, u] ty #[v, .string s]).run P w = .ok v' w' ∧ QRow w' base e 1 v' (n + s.size) (xs ++ Lib.strCells s) ∧ w.grownBy w' v.ownBlock ∧ (v'.ownBlock = v.ownBlock ∨ ∃ b, v'.ownBlock = some b ∧ w.heap.size ≤ b) := by
  have grows : ∀ (b : Addr) (cap : Nat), cap < n + s.size → (∀ j u, xs[j]? = some u → w.cell? (b.add j) = some u) → v = .slice (some b) n cap →
      ∃ v' w', (Builtin.append_ #[t, u] ty #[v, .string s]).run P w = .ok v' w' ∧ QRow w' base e 1 v' (n + s.size) (xs ++ Lib.strCells s) ∧ w.grownBy w' v.ownBlock ∧ (v'.ownBlock = v.ownBlock ∨ ∃ b, v'.ownBlock = some b ∧ w.heap.size ≤ b) := by
    intro b cap hcap hcells hv
    have hge := grownCap_ge w (n + s.size) cap e
    have hcm : grownCap w (n + s.size) cap e ≤ maxLen := grownCap_le_maxLen w (n + s.size) cap e h63
    have hxl : xs.length = n := by simpa using hown.1
    have hr := Lib.run_append_grow_string (P := P) w t u ty e i (.int .u8 0) ht hu hi hz b n cap xs (by rw [hown.1, hsize]) hcells s hcap (by simp only [maxLen] at h63; omega)
      (by rw [hby]; exact growslice_fits (by omega) (by omega))
    rw [hv]
    refine ⟨_, _, hr, ⟨by rw [List.length_append, hxl, Lib.strCells_length, Nat.mul_one], .inr ⟨w.heap.size, 0, _, _, rfl, hbase, heap_alloc_new w.drew _, hge, by omega, ?_, ?_⟩⟩, ⟨rfl, rfl, rfl, by simp, fun k hk _ => Below.heap_alloc w.drew _ k hk⟩, .inr ⟨w.heap.size, by simp [Value.ownBlock], Nat.le_refl _⟩⟩
    · have hz1 : (Value.int IntKind.u8 0).cells.size = 1 := rfl
      simp only [Array.size_append, List.size_toArray, size_zeroCells, hz1, hxl, Lib.strCells_length]
      omega
    · simp only [Array.toList_append, List.append_assoc]
      rw [Nat.zero_mul, List.drop_zero, ← List.append_assoc]
      exact List.take_left' (by rw [List.length_append, hxl, Lib.strCells_length, Nat.mul_one])
  rcases hown.2 with ⟨h0, A, hv, hA⟩ | ⟨g, off, cap, cur, hv, hbg, hg, hnc, hcm, hcs, htake⟩
  · have hx : xs = [] := List.eq_nil_of_length_eq_zero (by rw [hown.1, h0, Nat.zero_mul])
    subst hx
    subst h0
    cases A with
    | none =>
      have ho : w.ownsRow w.heap.size e 1 v 0 [] := ⟨rfl, .inl ⟨hv, rfl⟩⟩
      obtain ⟨v', w', hr, ho', hg', _⟩ := Lib.run_append_own_string (P := P) w w.heap.size t u ty e i ht hu hi hz hsize hby v 0 [] ho s (by omega) (by omega) (Nat.le_refl _)
      refine ⟨v', w', hr, q_lower (q_of_own ho') hbase, hg', ?_⟩
      rcases ho'.2 with ⟨he, _⟩ | ⟨g', cap', cur', he, hb, _⟩
      · exact .inl (by rw [he, hv])
      · exact .inr ⟨g', by rw [he]; simp [Value.ownBlock], hb⟩
    | some b =>
      by_cases hs0 : s.size = 0
      · have hc : Lib.strCells s = [] := List.eq_nil_of_length_eq_zero (by rw [Lib.strCells_length, hs0])
        refine ⟨v, w, by rw [hv]; exact run_append_none_str w t u ty e i ht hu hi hsize b s hs0, ?_, ⟨rfl, rfl, rfl, Nat.le_refl _, fun _ _ _ => rfl⟩, .inl rfl⟩
        rw [hc, hs0, List.append_nil]
        exact hown
      · exact grows b 0 (by omega) (fun j u hu => by simp at hu) hv
  · simp only [Nat.mul_one] at hv hcs htake
    by_cases hroom : n + s.size ≤ cap
    · have hr := run_append_room_str (P := P) w t u ty e i ht hu hi hsize g off n cap cur hg s hroom (by omega)
      have hxl : xs.length = n := by simpa using hown.1
      refine ⟨_, _, by rw [hv]; exact hr, ⟨by rw [List.length_append, hxl, Lib.strCells_length, Nat.mul_one], .inr ⟨g, off, cap, _, by rw [Nat.mul_one], hbg, setRow_heap w g cur _ e _ hg, hroom, hcm, ?_, ?_⟩⟩, ⟨rfl, rfl, rfl, by simp, fun k _ hk => setRow_other w g k _ (fun e => hk (by rw [hv]; simp [Value.ownBlock, e]))⟩, .inl (by rw [hv]; rfl)⟩
      · simp only [List.size_toArray, List.length_append, List.length_take, List.length_drop, Array.length_toList, Lib.strCells_length]
        omega
      · have ht' : (cur.toList.take (off + n)).drop off = xs := by rw [← htake, List.drop_take, Nat.add_sub_cancel_left]
        simp only [Nat.mul_one]
        rw [List.append_assoc, List.drop_append_of_le_length (by rw [List.length_take, Array.length_toList]; omega), ht', ← List.append_assoc]
        exact List.take_left' (by rw [List.length_append, hxl, Lib.strCells_length])
    · refine grows ⟨g, off, none⟩ cap (by omega) (fun j u hu => ?_) hv
      rw [show (⟨g, off, none⟩ : Addr).add j = ⟨g, off + j, none⟩ from Addr.add_lit .., cell_of_row w g _ cur e (0, 0) hg]
      rw [← htake, List.getElem?_take] at hu
      split at hu
      · rw [List.getElem?_drop] at hu
        rw [← Array.getElem?_toList]
        exact hu
      · cases hu
/-- The operation, for the walk. -/
theorem wpList_append_q_str {P : Program} {ops : Array Oper} {rest : List Oper} {o : Oper} {a : Act} {w : World} {Q : Exit → Act → World → Prop} (hgd : o.guard = none) (sl x : Operand) (t u : TypeId)
    (ho : o.op = .call { callee := .builtin .append, args := #[sl, x], argTypes := #[t, u] })
    (base : Nat) (e : TypeId) (ht : P.underlying t = some (.slice e)) (hu : P.underlying u = some .string) (hinfo : (P.info? e).map (fun i => (i.zero, i.size, i.bytes)) = some (some (.int .u8 0), 1, 1))
    (v : Value) (n : Nat) (xs : List Value) (hs : a.eval sl = v) (hown : QRow w base e 1 v n xs) (s : ByteArray) (hx : a.eval x = .string s)
    (hbytes : n + s.size ≤ 140737488355328) (hbase : base ≤ w.heap.size)
    (h : ∀ v' w', QRow w' base e 1 v' (n + s.size) (xs ++ Lib.strCells s) → w.grownBy w' v.ownBlock → (v'.ownBlock = v.ownBlock ∨ ∃ b, v'.ownBlock = some b ∧ w.heap.size ≤ b) → wpList P ops Q rest (a.put o.dst v') w') : wpList P ops Q (o :: rest) a w := by
  obtain ⟨i, hi, hzz⟩ := Option.map_eq_some_iff.1 hinfo
  simp only [Prod.mk.injEq] at hzz
  obtain ⟨hz0, hz1, hz2⟩ := hzz
  refine wpList_plain hgd fun K hK => ?_
  obtain ⟨v', w', hr, h2, h3, h4⟩ := q_append_str (P := P) w base t u o.type e i ht hu hi hz0 hz1 hz2 v n xs hown s (by simp only [maxLen]; omega) hbytes hbase
  unfold Oper.wp execOp
  simp only [ho, resolve, invoke, builtin, Sem.run_bind, Sem.run_pure, Result.andThen_ok, List.map_toArray, List.map_cons, List.map_nil, hs, hx, hr]
  exact hK _ _ (h v' w' h2 h3 h4)
end Go.Proofs.YthgminihlejpnaaDoor.S
