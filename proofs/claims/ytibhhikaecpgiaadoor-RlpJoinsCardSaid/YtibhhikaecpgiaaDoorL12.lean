/- The contract of rlp.Why at an error's number. -/
import Derived.Test.YtibhhikaecpgiaaDoorL11
set_option linter.unusedSimpArgs false
set_option linter.unusedVariables false
namespace Go.Proofs.YtibhhikaecpgiaaDoor.R
open Go.RowKit Go.Proofs.YtibhhikaecpgiaaDoorW.PrintWords Go.Proofs.YtibhhikaecpgiaaDoorW.PrintLast Go.Proofs.YtibhhikaecpgiaaDoorW.PrintMore
open Go.Extern.Stop Go.Stop Go.Extern

/-- What the package errors' variable holds. -/
def ErrT (w : World) : Prop := w.cell? ⟨0, 0, none⟩ = some (.iface 93 (.agg #[.pointer (some ⟨2, 47, none⟩)]))
theorem ErrT.below {n : Nat} {w w1 : World} (h : ErrT w) (hb : Below n w w1) (hn : 0 < n) : ErrT w1 := (hb.cell (p := ⟨0, 0, none⟩) hn).trans h
set_option maxHeartbeats 4000000 in
theorem as_miss (n : Int) (t : Addr) (w : World) :
    Calls Tryd.prog 23 #[.iface 24 (.int .i64 n), .iface 59 (.pointer (some t))] w fun ev w' => ev = .returned (.bool false) ∧ Below w.heap.size w w' := by
  have h8 := @run_callFunc_extern Tryd.prog 33 _ (ReflectliteValue.method (ReflectliteValue.valueError "reflectlite.Value.IsNil" 0) ReflectliteValue.isNil) Tryd.func33 (by kernel_rfl) (by kernel_rfl) (by kernel_rfl) (by kernel_rfl)
  have f6 := vo59
  have f7 := ty59
  have mK := mKind
  have k27 := kd59
  have k25 := kd57
  have mE := mElem
  have e27 := el59
  have tO := to24
  have mA := mAss
  have a25 := as57
  have nA := noAs
  have nU := noUn
  have nV := noUns
  have n8 := fun o => in59 w.heap.size t ((w.alloc (.cells #[.pointer (some t)] 59)).alloc o) (by simp)
  go_enter Tryd.func23, Tryd.ntmps23
  go_wp2
  refine wp_loop_rounds 1 ?_
  rw [rounds_succ]
  go_wp2
  go_ret
  exact ⟨rfl, by repeat (first | exact Below.refl _ _ | apply below_alloc)⟩
theorem rls (v x : Value) : ReflectliteValue.set #[v, x] = (do
    let (some (dst, a, fl), some (src, b, _)) := (← ReflectliteValue.parts v, ← ReflectliteValue.parts x)
      | unsupported (.noEntry "extern/(internal/reflectlite.Value).Set.zeroValue")
    if fl / ReflectliteValue.flagAddr % 2 == 0 then unsupported (.noEntry "extern/(internal/reflectlite.Value).Set.unaddressable")
    let val ← loadVar src b
    if ← Rtype.directlyAssignable dst src then storeVar dst a val
    else if ← Rtype.implements dst src then
      if (← Rtype.kind src) == 20 then
        match val with
        | .nilIface => unsupported (.noEntry "extern/reflectlite: a nil value of one interface type handed on as a value of another")
        | _ => storeVar dst a val
      else storeVar dst a (.iface src val)
    else panicString ("reflectlite.Set: value of type " ++ (← Rtype.spelt src) ++ " is not assignable to type " ++ (← Rtype.spelt dst))
    pure (.tuple #[])) := rfl
abbrev rvS (b : Nat) : Value := .agg #[.pointer (some ⟨2, 24, none⟩), .pointer (some ⟨b, 0, none⟩), .int .u64 130]
theorem pt24a (a : Addr) (w : World) : (ReflectliteValue.parts (rvE a)).run Tryd.prog w = .ok (some (24, a, 386)) w := by kernel_rfl
theorem pt24b (b : Nat) (w : World) : (ReflectliteValue.parts (rvS b)).run Tryd.prog w = .ok (some (24, ⟨b, 0, none⟩, 130)) w := by kernel_rfl
theorem di24 (w : World) : (Rtype.directlyAssignable 24 24).run Tryd.prog w = .ok true w := by kernel_rfl
theorem set24 (ta : Addr) (b : Nat) (n : Int) (old : Value) (W : World) (hb : W.cell? ⟨b, 0, none⟩ = some (.int .i64 n)) (ht : W.cell? ta = some old) (hf : W.frozen? ta = false) :
    (ReflectliteValue.set #[rvE ta, rvS b]).run Tryd.prog W = .ok (.tuple #[]) (W.setCell ta (.int .i64 n)) := by
  rw [rls]
  simp only [Sem.run_bind, pt24a, pt24b, Result.andThen]
  simp [ReflectliteValue.flagAddr, loadVar, isAgg, underlying, Tryd.underlying24, hb, Result.andThen, di24, storeVar, Value.cells, storeCells, Addr.add]
  rw [run_store Tryd.prog W ta _ _ (by rfl)]
  simp [ht, hf]
theorem cell_at4 (w : World) (o1 o2 o3 o4 : Obj) {t : Nat} {v : Value} (h : w.cell? ⟨t, 0, none⟩ = some v) : ((((w.alloc o1).alloc o2).alloc o3).alloc o4).cell? ⟨t, 0, none⟩ = some v := by
  have hlt := World.block_lt_of_cell? w _ h
  simp only at hlt
  rw [World.cell?_alloc_lt _ _ _ (by simp; omega), World.cell?_alloc_lt _ _ _ (by simp; omega), World.cell?_alloc_lt _ _ _ (by simp; omega), World.cell?_alloc_lt _ _ _ hlt]; exact h
theorem froz_at4 (w : World) (o1 o2 o3 o4 : Obj) {t : Nat} (hlt : t < w.heap.size) (h : w.frozen? ⟨t, 0, none⟩ = false) : ((((w.alloc o1).alloc o2).alloc o3).alloc o4).frozen? ⟨t, 0, none⟩ = false := by
  rw [World.frozen?_alloc_old _ _ _ (by simp; omega), World.frozen?_alloc_old _ _ _ (by simp; omega), World.frozen?_alloc_old _ _ _ (by simp; omega), World.frozen?_alloc_old _ _ _ (Nat.ne_of_lt hlt)]; exact h
set_option maxHeartbeats 4000000 in
theorem as_hit (n : Int) (t : Nat) (old : Value) (w : World) (hE : ErrT w) (ht : w.cell? ⟨t, 0, none⟩ = some old) (hf : w.frozen? ⟨t, 0, none⟩ = false) (hgt : 0 < w.heap.size) :
    Calls Tryd.prog 23 #[.iface 24 (.int .i64 n), .iface 61 (.pointer (some ⟨t, 0, none⟩))] w fun ev w' => ev = .returned (.bool true) ∧ ∃ W, Below w.heap.size w W ∧ w' = W.setCell ⟨t, 0, none⟩ (.int .i64 n) := by
  have h8 := @run_callFunc_extern Tryd.prog 33 _ (ReflectliteValue.method (ReflectliteValue.valueError "reflectlite.Value.IsNil" 0) ReflectliteValue.isNil) Tryd.func33 (by kernel_rfl) (by kernel_rfl) (by kernel_rfl) (by kernel_rfl)
  have h11 := @run_callFunc_extern Tryd.prog 39 _ (ReflectliteValue.method (ReflectliteValue.valueError "reflectlite.Value.Elem" 0) ReflectliteValue.elem) Tryd.func39 (by kernel_rfl) (by kernel_rfl) (by kernel_rfl) (by kernel_rfl)
  have h12 := @run_callFunc_extern Tryd.prog 40 _ ReflectliteValue.set Tryd.func40 (by kernel_rfl) (by kernel_rfl) (by kernel_rfl) (by kernel_rfl)
  have f6 := vo61
  have f7 := ty61
  have mK := mKind
  have k27 := kd61
  have k25 := kd24
  have mE := mElem
  have mI := mImpl
  have e27 := el61
  have i25 := im24
  have tO := to24
  have mA := mAss
  have a25 := as24
  have v25 := vo24
  have hlt := World.block_lt_of_cell? w _ ht
  have n8 := fun o => in61 w.heap.size ⟨t, 0, none⟩ ((w.alloc (.cells #[.pointer (some ⟨t, 0, none⟩)] 61)).alloc o) (by simp)
  have hg2 : ∀ o1 o2, ((w.alloc o1).alloc o2).cell? ⟨0, 0, none⟩ = some (.iface 93 (.agg #[.pointer (some ⟨2, 47, none⟩)])) := fun o1 o2 => by
    rw [World.cell?_alloc_lt _ _ _ (by show 0 < (w.alloc o1).heap.size; rw [World.size_alloc]; omega), World.cell?_alloc_lt _ _ _ hgt]; exact hE
  have el := fun o1 o2 => ev61 w.heap.size ⟨t, 0, none⟩ (((w.alloc (.cells #[.pointer (some ⟨t, 0, none⟩)] 61)).alloc o1).alloc o2) (by rw [World.cell?_alloc_lt _ _ ⟨w.heap.size, 0, none⟩ (by simp; omega)]; simp)
  have st := fun o1 o2 o3 => set24 ⟨t, 0, none⟩ (w.heap.size + 1 + 1 + 1) n old ((((w.alloc o1).alloc o2).alloc o3).alloc (.cells #[.int .i64 n] 24)) (by rw [World.cell?_alloc_at _ _ _ _ (by simp)]; rfl) (cell_at4 w _ _ _ _ ht) (froz_at4 w _ _ _ _ hlt hf)
  clear hE ht hf hgt hlt
  go_enter Tryd.func23, Tryd.ntmps23
  go_wp2
  refine wp_loop_rounds 1 ?_
  rw [rounds_succ]
  go_wp2
  go_ret
  exact ⟨rfl, _, by repeat (first | exact Below.refl _ _ | apply below_alloc), rfl⟩
theorem Why_calls (n : Int) (w : World) (hE : ErrT w) (hgt : 0 < w.heap.size) :
    Calls Tryd.prog 15 #[.iface 24 (.int .i64 n)] w fun e w' => e = .returned (.tuple #[.int .i64 (-1), .int .i64 n]) ∧ Below w.heap.size w w' := by
  have HE := Aside0.mk hE
  clear hE
  go_enter Tryd.func15, Tryd.ntmps15
  go_wp2_with (go_at_call 23; fail)
  obtain ⟨W2, hW2⟩ : ∃ W, ((w.alloc (.cells #[.int .i64 0] 24)).alloc (.cells #[.nilIface] 57)) = W := ⟨_, rfl⟩
  have hsz : W2.heap.size = w.heap.size + 2 := by rw [← hW2]; simp
  have hb2 : Below w.heap.size w W2 := by rw [← hW2]; exact ((Below.refl _ w).alloc (Nat.le_refl _) _).alloc (by simp) _
  have hc2 : W2.heap[w.heap.size]? = some (Obj.cells #[.int .i64 0] 24 (0, 0)) := by rw [← hW2]; exact (Below.heap_alloc _ _ _ (by simp)).trans (World.alloc_heap_new w _)
  rw [hW2]
  refine (as_miss n _ W2).mono ?_
  rintro e w3 ⟨rfl, hb3⟩
  have hc3 := (hb3.block _ (by omega)).trans hc2
  have hbw : Below w.heap.size w w3 := hb2.trans (hb3.mono (by omega))
  have hE3 : ErrT w3 := HE.out.below hbw (by omega)
  have HC3 := Aside0.mk hc3
  have HB3 := Aside0.mk hbw
  have HE3 := Aside0.mk hE3
  clear hW2 hb2 hc2 hb3 hc3 hbw hE3
  go_wp2_with (go_at_call 23; fail)
  refine (as_hit n w.heap.size (.int .i64 0) w3 HE3.out (blk_cell HC3.out 0) (blk_frozen HC3.out 0) (by have := HB3.out.size; omega)).mono ?_
  rintro e w4 ⟨rfl, W, hbW, rfl⟩
  have hcW := (hbW.block _ (blk_lt HC3.out)).trans HC3.out
  have c5 : (W.setCell ⟨w.heap.size, 0, none⟩ (.int .i64 n)).cell? ⟨w.heap.size, 0, none⟩ = some (.int .i64 n) := blk_cell (setCell_same hcW) 0
  have HB := Aside0.mk ((HB3.out.trans (hbW.mono HB3.out.size)).setCell (p := ⟨w.heap.size, 0, none⟩) (Nat.le_refl _) (.int .i64 n))
  clear hbW hcW
  go_wp2
  go_region
  go_wp2
  go_ret2
  exact ⟨rfl, below_drew1 HB.out⟩
end Go.Proofs.YtibhhikaecpgiaaDoor.R
