/- From the rows' listed variable to what the walks ask of the world. -/
import Derived.Test.YtibhhikaecpgiaaDoorL12
import Derived.Test.YtibhhikaecpgiaaDoorRows
import Derived.ProofKit
import Derived.LaidMore
import Derived.LaidHandle
import Derived.MakeChecks
import Derived.Stop.Joined
set_option linter.unusedSimpArgs false
set_option linter.unusedVariables false
namespace Go.Proofs.YtibhhikaecpgiaaDoor.R
open Go.ChangeShapes Go.WideShapes Go.ChangeAt Go.RowKit Go.Proofs.YtibhhikaecpgiaaDoorW.PrintWords

/-- The list that the rows bear. -/
def laid1 : List (String × DataW Unit) := [("errors.errorType", Rows.laid_errors_errorType)]
theorem et_named : Tryd.prog.globalNamed "errors.errorType" = some 0 := by kernel_rfl
theorem rt_cut : (Tryd.prog.cutTypes.find? (·.1 == "internal/reflectlite.rtype")).map (·.2) = some 93 := by kernel_rfl
theorem one_row : ((List.range 135).filter fun t => Tryd.prog.rowNamed t [101, 114, 114, 111, 114]) = [47] := by kernel_rfl
theorem size_ts : Tryd.prog.types.size = 135 := by kernel_rfl
theorem errT_of_laid {W : World} (h : laidMetH Tryd.prog laid1 W) : ErrT W := by
  have h' : laidMet Tryd.prog [] W ∧ handlesMet Tryd.prog laid1 W := h
  obtain ⟨name, u, ty, e1, e2, e3, e4, e5⟩ := h'.2 _ (List.mem_singleton.2 rfl)
  have en : name = [101, 114, 114, 111, 114] := (Option.some.inj e1).symm
  subst en
  obtain rfl := Option.some.inj (rt_cut.symm.trans e2)
  have hm : ty ∈ (List.range 135).filter fun t => Tryd.prog.rowNamed t [101, 114, 114, 111, 114] := List.mem_filter.2 ⟨List.mem_range.2 (by rw [← size_ts]; exact e3), e4⟩
  rw [one_row] at hm
  obtain rfl := List.mem_singleton.1 hm
  have hh : typeHandle Tryd.prog 47 = .pointer (some ⟨2, 47, none⟩) := by kernel_rfl
  rw [hh] at e5
  unfold ErrT
  simpa using World.var?_cell et_named e5 0
theorem lit_range_u64 {n : Int} (h : (Lit.int .u64 n).wf = true) : 0 ≤ n ∧ n < 18446744073709551616 := by
  have h2 : 0 ≤ n ∧ n ≤ 18446744073709551615 := by simpa [Lit.wf, IntKind.bits, IntKind.signed, IntKind.min, IntKind.max] using h
  omega
theorem lit_range_u16 {n : Int} (h : (Lit.int .u16 n).wf = true) : 0 ≤ n ∧ n < 65536 := by
  have h2 : 0 ≤ n ∧ n ≤ 65535 := by simpa [Lit.wf, IntKind.bits, IntKind.signed, IntKind.min, IntKind.max] using h
  omega
/-- A world that meets the condition: the settled one, the variable's cell laid. -/
noncomputable def laidWorld (os : Os) : World :=
  let w0 := World.holding Tryd.prog os ⟨#[], #[], []⟩
  { w0 with heap := w0.heap.modify 0 fun
      | .cells _ t frozen => .cells #[.iface 93 (.agg #[.pointer (some ⟨2, 47, none⟩)])] t frozen
      | o => o }
theorem laidWorld_met (os : Os) (args : Array Value) : laidMetH Tryd.prog laid1 ((laidWorld os).forCall (fun _ _ => 0) ⟨#[], args, []⟩).memory :=
  laidMetH_of_parts (laidMet_nil _ _) (by kernel_rfl)
end Go.Proofs.YtibhhikaecpgiaaDoor.R
