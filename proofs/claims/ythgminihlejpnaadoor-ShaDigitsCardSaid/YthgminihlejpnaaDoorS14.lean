/- From the rows' listed variables to what the walks ask of the world. -/
import Derived.Test.YthgminihlejpnaaDoorS13
import Derived.Test.YthgminihlejpnaaDoorRows
import Derived.ProofKit
import Derived.Lib.LaidU8
import Derived.LaidMore
import Derived.MakeChecks
import Derived.Stop.Joined
set_option linter.unusedSimpArgs false
set_option linter.unusedVariables false
namespace Go.Proofs.YthgminihlejpnaaDoor.S
open Go.ChangeShapes Go.WideShapes Go.ChangeAt Go.RowKit Go.Proofs.YthgminihlejpnaaDoorW.PrintWords

/-- The list that the rows bear. -/
def laid2 : List (String × DataW Unit) := [("guilloche/sha.begin", Rows.laid_guilloche_sha_begin), ("guilloche/sha.steps", Rows.laid_guilloche_sha_steps)]
theorem door_met (os : Os) (args : Array Value) : laidMetH Tryd.prog laid2 ((World.doorLaid Tryd.prog 600 os).forCall (fun _ _ => 0) ⟨#[], args, []⟩).memory :=
  laidMetH_of_parts3 (fuel := 8) (laidMet_of_run' 8 (by kernel_rfl) (by kernel_rfl)) (by kernel_rfl) (by kernel_rfl)
theorem var_ints {P : Program} {W : World} {name : String} {zs : List Int} {k : IntKind} {g : Nat} {t e : TypeId} {n : Nat} (h : Lib.VarReads P W name (.agg (zs.map fun z => .lit (.int k z)))) (hn : zs.length = n)
    (hg : P.globalNamed name = some g) (ht : (P.globals[g]?).map (·.type) = some t) (hu : P.underlying t = some (.array n e)) (he : P.underlying e = some (.int k)) (hc : P.cellsOf e = 1) :
    ∀ j, j < n → W.cell? ⟨g, j, none⟩ = some (.int k (zs.getD j 0)) := by
  intro j hj
  obtain ⟨g', t', cs, fuel, p, h1, h2, h3, h4⟩ := h
  obtain rfl := Option.some.inj (hg.symm.trans h1)
  obtain rfl := Option.some.inj (ht.symm.trans h2)
  obtain ⟨fuel', d, q, hd, hr⟩ := Lib.array_elem hu h4 j hj
  rw [hc, Nat.mul_one] at hr
  obtain ⟨z, hcz, hdz, _⟩ := DataW.trod_int he hr
  have hv := World.var?_cell hg h3 j
  rw [hv]
  have h5 : cs.toList[j]? = some (.int k z) := by
    have := congrArg (·[0]?) hcz
    simpa [List.getElem?_take, List.getElem?_drop] using this
  have h6 : z = zs.getD j 0 := by
    obtain ⟨rfl, rfl⟩ := Prod.mk.inj hdz
    rw [List.getElem?_map] at hd
    obtain ⟨y, hy, hyz⟩ := Option.map_eq_some_iff.1 hd
    rw [List.getD_eq_getElem?_getD, hy]
    simpa using hyz.symm
  rw [← Array.getElem?_toList, h5, h6]
theorem glob_of_laid {W : World} (h : laidMetH Tryd.prog laid2 W) : Glob W := by
  rw [MakeChecks.laidMetH_plain _ _ _ (by kernel_rfl)] at h
  refine ⟨?_, ?_⟩
  · exact var_ints (zs := begin_) (Lib.laidMet.reads h (n := "guilloche/sha.begin") (List.mem_cons_self ..)) rfl (by kernel_rfl) (by kernel_rfl) Tryd.underlying42 Tryd.underlying40 (by kernel_rfl)
  · exact var_ints (zs := steps_) (Lib.laidMet.reads h (n := "guilloche/sha.steps") (List.mem_cons_of_mem _ (List.mem_cons_self ..))) rfl (by kernel_rfl) (by kernel_rfl) Tryd.underlying48 Tryd.underlying40 (by kernel_rfl)
theorem gtop_le {W : World} (h : Glob W) : gtop ≤ W.heap.size := by
  have h1 := World.block_lt_of_cell? W _ (h.begin_ 0 (by omega))
  have h2 := World.block_lt_of_cell? W _ (h.steps_ 0 (by omega))
  simp only at h1 h2
  unfold gtop
  omega
end Go.Proofs.YthgminihlejpnaaDoor.S
