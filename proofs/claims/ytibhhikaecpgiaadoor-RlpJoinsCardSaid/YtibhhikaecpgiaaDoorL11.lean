/- rlp.Why of an error's number: errors.As at its two targets. -/
import Derived.Test.YtibhhikaecpgiaaDoorL10
import Derived.RowKitTokens
set_option linter.unusedSimpArgs false
set_option linter.unusedVariables false
namespace Go.Proofs.YtibhhikaecpgiaaDoor.R
open Go.RowKit Go.Proofs.YtibhhikaecpgiaaDoorW.PrintWords Go.Proofs.YtibhhikaecpgiaaDoorW.PrintLast Go.Proofs.YtibhhikaecpgiaaDoorW.PrintMore
open Go.Extern.Stop Go.Stop Go.Extern

abbrev rvOf (T : Nat) (b : Nat) : Value := .agg #[.pointer (some ⟨2, T, none⟩), .pointer (some ⟨b, 0, none⟩), .int .u64 150]
theorem vo59 (t : Addr) (w : World) : (callFunc 31 #[.iface 59 (.pointer (some t))]).run Tryd.prog w = .ok (.value (rvOf 59 w.heap.size)) (w.alloc (.cells #[.pointer (some t)] 59)) := by kernel_rfl
theorem vo61 (t : Addr) (w : World) : (callFunc 31 #[.iface 61 (.pointer (some t))]).run Tryd.prog w = .ok (.value (rvOf 61 w.heap.size)) (w.alloc (.cells #[.pointer (some t)] 61)) := by kernel_rfl
theorem ty59 (b : Nat) (w : World) : (callFunc 32 #[rvOf 59 b]).run Tryd.prog w = .ok (.value (.iface 93 (.agg #[.pointer (some ⟨2, 59, none⟩)]))) w := by kernel_rfl
theorem ty61 (b : Nat) (w : World) : (callFunc 32 #[rvOf 61 b]).run Tryd.prog w = .ok (.value (.iface 93 (.agg #[.pointer (some ⟨2, 61, none⟩)]))) w := by kernel_rfl
theorem mKind (h : Value) (w : World) : (Go.method 235 93 (.agg #[h]) "Kind").run Tryd.prog w = .ok (57, h) w := by kernel_rfl
theorem kd59 (w : World) : (callFunc 57 #[.pointer (some ⟨2, 59, none⟩)]).run Tryd.prog w = .ok (.value (.int .u8 22)) w := by kernel_rfl
theorem kd61 (w : World) : (callFunc 57 #[.pointer (some ⟨2, 61, none⟩)]).run Tryd.prog w = .ok (.value (.int .u8 22)) w := by kernel_rfl
theorem kd57 (w : World) : (callFunc 57 #[.pointer (some ⟨2, 57, none⟩)]).run Tryd.prog w = .ok (.value (.int .u8 20)) w := by kernel_rfl
theorem kd24 (w : World) : (callFunc 57 #[.pointer (some ⟨2, 24, none⟩)]).run Tryd.prog w = .ok (.value (.int .u8 2)) w := by kernel_rfl
theorem mElem (h : Value) (w : World) : (Go.method 235 93 (.agg #[h]) "Elem").run Tryd.prog w = .ok (71, .agg #[h]) w := by kernel_rfl
theorem mImpl (h : Value) (w : World) : (Go.method 235 93 (.agg #[h]) "Implements").run Tryd.prog w = .ok (72, .agg #[h]) w := by kernel_rfl
theorem mAss (h : Value) (w : World) : (Go.method 235 93 (.agg #[h]) "AssignableTo").run Tryd.prog w = .ok (69, .agg #[h]) w := by kernel_rfl
theorem el59 (w : World) : (callFunc 71 #[.agg #[.pointer (some ⟨2, 59, none⟩)]]).run Tryd.prog w = .ok (.value (.iface 93 (.agg #[.pointer (some ⟨2, 57, none⟩)]))) w := by kernel_rfl
theorem el61 (w : World) : (callFunc 71 #[.agg #[.pointer (some ⟨2, 61, none⟩)]]).run Tryd.prog w = .ok (.value (.iface 93 (.agg #[.pointer (some ⟨2, 24, none⟩)]))) w := by kernel_rfl
theorem im24 (w : World) : (callFunc 72 #[.agg #[.pointer (some ⟨2, 24, none⟩)], .iface 93 (.agg #[.pointer (some ⟨2, 47, none⟩)])]).run Tryd.prog w = .ok (.value (.bool true)) w := by kernel_rfl
theorem to24 (v : Value) (w : World) : (callFunc 35 #[.iface 24 v]).run Tryd.prog w = .ok (.value (.iface 93 (.agg #[.pointer (some ⟨2, 24, none⟩)]))) w := by kernel_rfl
theorem im57 (w : World) : (Rtype.implements 57 24).run Tryd.prog w = .ok false w := by
  have e1 : (Rtype.noPackMethods "a method set held against an interface's list" 24).run Tryd.prog w = .ok () w := by kernel_rfl
  have e2 : (Rtype.noPackMethods "a method set held against an interface's list" 57).run Tryd.prog w = .ok () w := by kernel_rfl
  have e3 : (Rtype.under 57).run Tryd.prog w = .ok (57, Tryd.t57) w := by kernel_rfl
  have e4 : (Rtype.under 24).run Tryd.prog w = .ok (3, Tryd.t3) w := by kernel_rfl
  have e5 : (typeInfo 24).run Tryd.prog w = .ok Tryd.t24 w := by kernel_rfl
  have e6 : (lacking (match Tryd.t57.desc with | .interface want => want | _ => #[]) Tryd.t24.methods).isEmpty = false := by kernel_rfl
  obtain ⟨m, hm⟩ := missingMethod_some (want := (match Tryd.t57.desc with | .interface want => want | _ => #[])) (got := Tryd.t24.methods) (fun e => by rw [e] at e6; cases e6)
  unfold Rtype.implements
  simp only [Sem.run_bind, e1, e2, e3, e4, Result.andThen]
  simp only [Tryd.t57] at hm
  simp only [Tryd.t57, Tryd.t3]
  simp [e5, hm, Sem.run_bind, Result.andThen]
theorem relation_is (what : String) (f : TypeId → TypeId → Sem Bool) (r u : Value) (T : TypeId) : ReflectliteType.relation what f #[r, .iface T u] = (do pure (.bool (← f (← ReflectliteType.ofRtype u) (← ReflectliteType.ofRtype r)))) := rfl
theorem as57 (w : World) : (callFunc 69 #[.agg #[.pointer (some ⟨2, 24, none⟩)], .iface 93 (.agg #[.pointer (some ⟨2, 57, none⟩)])]).run Tryd.prog w = .ok (.value (.bool false)) w := by
  have h := @run_callFunc_extern Tryd.prog 69 _ (ReflectliteType.relation "AssignableTo" ReflectliteType.assignableTo) Tryd.func69 (by kernel_rfl) (by kernel_rfl) (by kernel_rfl) (by kernel_rfl)
  have e1 : (ReflectliteType.ofRtype (.agg #[.pointer (some ⟨2, 57, none⟩)])).run Tryd.prog w = .ok 57 w := by kernel_rfl
  have e2 : (ReflectliteType.ofRtype (.agg #[.pointer (some ⟨2, 24, none⟩)])).run Tryd.prog w = .ok 24 w := by kernel_rfl
  have e3 : (Rtype.noPackMethods "AssignableTo" 24).run Tryd.prog w = .ok () w := by kernel_rfl
  have e4 : (Rtype.noPackMethods "AssignableTo" 57).run Tryd.prog w = .ok () w := by kernel_rfl
  have e5 : (Rtype.directlyAssignable 57 24).run Tryd.prog w = .ok false w := by kernel_rfl
  rw [h, relation_is]
  simp [ReflectliteType.assignableTo, Sem.run_bind, e1, e2, e3, e4, e5, im57, Result.andThen]
theorem as24 (w : World) : (callFunc 69 #[.agg #[.pointer (some ⟨2, 24, none⟩)], .iface 93 (.agg #[.pointer (some ⟨2, 24, none⟩)])]).run Tryd.prog w = .ok (.value (.bool true)) w := by kernel_rfl
theorem vo24 (n : Int) (w : World) : (callFunc 31 #[.iface 24 (.int .i64 n)]).run Tryd.prog w = .ok (.value (.agg #[.pointer (some ⟨2, 24, none⟩), .pointer (some ⟨w.heap.size, 0, none⟩), .int .u64 130])) (w.alloc (.cells #[.int .i64 n] 24)) := by kernel_rfl
theorem noAs (v : Value) (xT : TypeId) (w : World) : (Instr.typeAssert (.iface 24 v) xT 97 true).run Tryd.prog w = .ok (.tuple #[.nilIface, .bool false]) w := run_typeAssert_lacksB Tryd.underlying97 (by kernel_rfl) (by kernel_rfl) v xT w
theorem noUn (v : Value) (xT : TypeId) (w : World) : (Instr.typeAssert (.iface 24 v) xT 100 true).run Tryd.prog w = .ok (.tuple #[.nilIface, .bool false]) w := run_typeAssert_lacksB Tryd.underlying100 (by kernel_rfl) (by kernel_rfl) v xT w
theorem noUns (v : Value) (xT : TypeId) (w : World) : (Instr.typeAssert (.iface 24 v) xT 102 true).run Tryd.prog w = .ok (.tuple #[.nilIface, .bool false]) w := run_typeAssert_lacksB Tryd.underlying102 (by kernel_rfl) (by kernel_rfl) v xT w
/-! ### the entries that read memory -/
theorem rlm (z : Sem Value) (f : TypeId → Addr → Nat → Nat → Sem Value) (v : Value) :
    ReflectliteValue.method z f #[v] = (do match ← ReflectliteValue.parts v with | none => z | some (t, a, fl) => f t a fl (fl % 32)) := rfl
theorem pt59 (b : Nat) (w : World) : (ReflectliteValue.parts (rvOf 59 b)).run Tryd.prog w = .ok (some (59, ⟨b, 0, none⟩, 150)) w := by kernel_rfl
theorem pt61 (b : Nat) (w : World) : (ReflectliteValue.parts (rvOf 61 b)).run Tryd.prog w = .ok (some (61, ⟨b, 0, none⟩, 150)) w := by kernel_rfl
theorem in59 (b : Nat) (p : Addr) (W : World) (ha : W.cell? ⟨b, 0, none⟩ = some (.pointer (some p))) :
    (ReflectliteValue.method (ReflectliteValue.valueError "reflectlite.Value.IsNil" 0) ReflectliteValue.isNil #[rvOf 59 b]).run Tryd.prog W = .ok (.bool false) W := by
  rw [rlm]
  simp only [Sem.run_bind, pt59, Result.andThen]
  simp [ReflectliteValue.isNil, loadVar, isAgg, underlying, Tryd.underlying59, ha, Result.andThen]
theorem in61 (b : Nat) (p : Addr) (W : World) (ha : W.cell? ⟨b, 0, none⟩ = some (.pointer (some p))) :
    (ReflectliteValue.method (ReflectliteValue.valueError "reflectlite.Value.IsNil" 0) ReflectliteValue.isNil #[rvOf 61 b]).run Tryd.prog W = .ok (.bool false) W := by
  rw [rlm]
  simp only [Sem.run_bind, pt61, Result.andThen]
  simp [ReflectliteValue.isNil, loadVar, isAgg, underlying, Tryd.underlying61, ha, Result.andThen]
theorem eo61 (w : World) : (Rtype.elem? 61).run Tryd.prog w = .ok (some 24) w := by kernel_rfl
abbrev rvE (p : Addr) : Value := .agg #[.pointer (some ⟨2, 24, none⟩), .pointer (some p), .int .u64 386]
theorem mk24 (p : Addr) (w : World) : (ReflectliteValue.mk 24 p ReflectliteValue.flagAddr).run Tryd.prog w = .ok (rvE p) w := by kernel_rfl
theorem ev61 (b : Nat) (p : Addr) (W : World) (ha : W.cell? ⟨b, 0, none⟩ = some (.pointer (some p))) :
    (ReflectliteValue.method (ReflectliteValue.valueError "reflectlite.Value.Elem" 0) ReflectliteValue.elem #[rvOf 61 b]).run Tryd.prog W = .ok (rvE p) W := by
  rw [rlm]
  simp only [Sem.run_bind, pt61, Result.andThen]
  simp [ReflectliteValue.elem, loadVar, isAgg, underlying, Tryd.underlying61, ha, Result.andThen, eo61, mk24]
end Go.Proofs.YtibhhikaecpgiaaDoor.R
