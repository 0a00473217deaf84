/- What is malformed, as an error: a chain of faults; wrong; and told, which answers ErrMalformed of each. -/
import Derived.Test.YtibhhikaecpgiaaDoorProg
import Derived.Test.YtibhhikaecpgiaaDoorWMore
import Derived.Test.YtibhhikaecpgiaaDoorWSized
import Derived.WalkKit
import Derived.LaidEql
import Derived.Stop.Asserts
import Derived.RowKitTokens
set_option linter.unusedSimpArgs false
set_option linter.unusedVariables false
namespace Go.Proofs.YtibhhikaecpgiaaDoor.R
open Go.RowKit Go.Proofs.YtibhhikaecpgiaaDoorW.PrintWords Go.Proofs.YtibhhikaecpgiaaDoorW.PrintLast Go.Proofs.YtibhhikaecpgiaaDoorW.PrintMore
open Go.Extern.Stop Go.Stop Go.Extern

/-- A chain of k faults behind which stands ErrMalformed. -/
inductive Bad (W : World) : Value → Nat → Prop
  | leaf : Bad W (.iface 24 (.int .i64 2)) 0
  | wrap (b : Nat) (x E : Value) (k : Nat) : W.heap[b]? = some (.cells #[x, E] 76 (0, 0)) → Bad W E k → Bad W (.iface 74 (.pointer (some ⟨b, 0, none⟩))) (k + 1)
theorem Bad.later {W W' : World} {E : Value} {k : Nat} (h : Bad W E k) (hb : Below W.heap.size W W') : Bad W' E k := by
  induction h with
  | leaf => exact .leaf
  | wrap b x E k hc h ih => exact .wrap b x E k ((hb.block b (blk_lt hc)).trans hc) ih
theorem Bad.iface {W : World} {E : Value} {k : Nat} (h : Bad W E k) : ∃ u v, E = .iface u v := by cases h <;> exact ⟨_, _, rfl⟩
theorem wrong_calls (w : World) (n : Int) :
    Calls Tryd.prog 29 #[.int .i64 n] w fun e w' => ∃ E, e = .returned E ∧ Bad w' E 1 ∧ Below w.heap.size w w' := by
  go_enter Tryd.func29, Tryd.ntmps29
  go_wp2
  go_ret
  exact ⟨_, rfl, .wrap _ _ _ 0 (blk_new _ _) .leaf, below_alloc (Below.refl _ _) _⟩

/-! ### errors.Is -/
theorem isTypeOf (v : Value) (w : World) : (Extern.ReflectliteType.typeOf #[.iface 24 v]).run Tryd.prog w = .ok (.iface 93 (.agg #[.pointer (some ⟨2, 24, none⟩)])) w := by kernel_rfl
theorem isComparable (w : World) : (callFunc 70 #[.agg #[.pointer (some ⟨2, 24, none⟩)]]).run Tryd.prog w = .ok (.value (.bool true)) w := by kernel_rfl
theorem isMethodComparable (v : Value) (w : World) : (Go.method 235 93 v "Comparable").run Tryd.prog w = .ok (70, v) w := by kernel_rfl
theorem isSame (w : World) : (binOp .eql 47 (.iface 24 (.int .i64 2)) (.iface 24 (.int .i64 2))).run Tryd.prog w = .ok (.bool true) w := by kernel_rfl
theorem noIsF (v : Value) (xT : TypeId) (w : World) : (Instr.typeAssert (.iface 74 v) xT 105 true).run Tryd.prog w = .ok (.tuple #[.nilIface, .bool false]) w := run_typeAssert_lacksB Tryd.underlying105 (by kernel_rfl) (by kernel_rfl) v xT w
theorem hasUnwrapF (v : Value) (xT : TypeId) (w : World) : (Instr.typeAssert (.iface 74 v) xT 100 true).run Tryd.prog w = .ok (.tuple #[.iface 74 v, .bool true]) w := run_typeAssert_hasB Tryd.underlying100 (by kernel_rfl) v xT w
theorem methodUnwrapF (v : Value) (w : World) : (Go.method 235 74 v "Unwrap").run Tryd.prog w = .ok (64, v) w := by kernel_rfl

set_option maxRecDepth 1000000 in
theorem is_bad (W : World) (E : Value) (k : Nat) (hch : Bad W E k) :
    Calls Tryd.prog 36 #[E, .iface 24 (.int .i64 2), .bool true] W fun e w' => e = .returned (.bool true) ∧ w' = W := by
  have heq := isSame
  have nW := noIsF
  have uW := hasUnwrapF
  have mU := methodUnwrapF
  have HC := Aside0.mk hch
  clear hch
  go_enter Tryd.func36, Tryd.ntmps36
  go_wp2
  go_loopg [0] k (fun gf E' wl => wl = W ∧ Aside0 (Bad W E' gf))
  case atStart => exact ⟨rfl, HC⟩
  case round =>
    obtain ⟨rfl, HC'⟩ := hrel
    have hc' := HC'.out
    clear HC' HC
    cases hc' with
    | leaf =>
      go_wp2
      go_ret
      exact ⟨rfl, rfl⟩
    | wrap b x E1 k1 hcell h1 =>
      have hty := run_eql_iface_types (P := Tryd.prog) 74 24 (.pointer (some ⟨b, 0, none⟩)) (.int .i64 2) Tryd.underlying47 (by decide) wr
      obtain ⟨u1, v1, rfl⟩ := h1.iface
      have c1 : wr.cell? ⟨b, 1, none⟩ = some (.iface u1 v1) := blk_cell hcell 1
      have H1 := Aside0.mk h1
      clear h1 hcell
      go_wp2
      go_roundg k1
      case measure => omega
      case rel => exact ⟨rfl, H1⟩
theorem Is_bad (w : World) (E : Value) (k : Nat) (h : Bad w E k) :
    Calls Tryd.prog 25 #[E, .iface 24 (.int .i64 2)] w fun e w' => e = .returned (.bool true) ∧ w' = w := by
  have h8 := @run_callFunc_extern Tryd.prog 35 _ Extern.ReflectliteType.typeOf Tryd.func35 (by kernel_rfl) (by kernel_rfl) (by kernel_rfl) (by kernel_rfl)
  have tT := isTypeOf
  have cT := isComparable
  have mR := isMethodComparable
  have HB := Aside0.mk (is_bad w E k h)
  obtain ⟨u, v, rfl⟩ := h.iface
  clear h
  go_enter Tryd.func25, Tryd.ntmps25
  go_wp2_with (go_at_call 36; refine (HB.out).mono ?_; rintro e w1 ⟨rfl, rfl⟩; clear HB)
  go_ret
  exact ⟨rfl, rfl⟩
theorem told_calls (w : World) (E : Value) (k : Nat) (h : Bad w E k) :
    Calls Tryd.prog 18 #[E] w fun e w' => e = .returned (.int .i64 2) ∧ w' = w := by
  have HB := Aside0.mk (Is_bad w E k h)
  obtain ⟨u, v, rfl⟩ := h.iface
  clear h
  go_enter Tryd.func18, Tryd.ntmps18
  go_wp2_with (go_at_call 25; refine (HB.out).mono ?_; rintro e w1 ⟨rfl, rfl⟩; clear HB)
  go_ret
  exact ⟨rfl, rfl⟩
end Go.Proofs.YtibhhikaecpgiaaDoor.R
