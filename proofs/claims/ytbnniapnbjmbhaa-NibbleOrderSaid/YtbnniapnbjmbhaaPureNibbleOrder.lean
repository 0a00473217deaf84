/- A text is ahead of another one just if its path is; the path has twice as many nibbles, and is that text's again: for all texts. -/
import Derived.Test.YtbnniapnbjmbhaaPAx5
import Derived.Test.YtbnniapnbjmbhaaNL
set_option linter.unusedSimpArgs false
set_option linter.unusedVariables false
namespace Go.Proofs.Ytbnniapnbjmbhaa.Pure
open Go.RowKit Go.Proofs.Ytbnniapnbjmbhaa.PA Go.Proofs.YtbnniapnbjmbhaaW.PrintWords Go.Proofs.YtbnniapnbjmbhaaW.PrintLast Go.Proofs.Ytbnniapnbjmbhaa.Y Go.Proofs.Ytbnniapnbjmbhaa.NL

theorem key_path (l : List UInt8) : key (path l) = (B l, true) := by
  unfold key
  rw [path_length, if_neg (by omega), val_path, if_pos rfl, pairs_path]
theorem valid_ev0 (l : List UInt8) : Ev (fun _ => nibble_Valid.f (B l)) (val l) := ⟨0, fun _ _ => valid_f l⟩
theorem size_path (l : List UInt8) (h : l.length ≤ 200) : wrap64 (2 * ((B l).size : Int)) = ((2 * l.length : Nat) : Int) := by
  rw [size_B, wrap_id (by omega) (by omega)]
  omega
theorem NibbleOrder : guillochelaw01_NibbleOrder.Pure := by
  intro a0 a1 h0 h1
  obtain ⟨l, rfl⟩ := isB a0
  obtain ⟨m, rfl⟩ := isB a1
  rw [size_B] at h0 h1
  apply Ev.rounds
  refine Ev.congr (fun k => by unfold guillochelaw01_NibbleOrder.f; rfl) (works_ev.bind ?_)
  simp only [if_true, size_B]
  have hj : Ev (fun k => guillochelaw01_NibbleOrder.j0 k (B l) (B m) true true) true := by
    refine Ev.step (f := fun _ => some true) (fun k => ?_) (Ev.now _)
    simp only [guillochelaw01_NibbleOrder.j0, if_true]
  by_cases hs : (l.length : Int) > 200
  · simp only [hs, if_true]; exact hj
  · simp only [hs, if_false]
    by_cases hs1 : (m.length : Int) > 200
    · simp only [hs1, decide_true]; exact hj
    · simp only [hs1, decide_false]
      refine Ev.step (fun k => by simp only [guillochelaw01_NibbleOrder.j0]; rfl) ?_
      simp only [Bool.false_eq_true, if_false, size_path l (by omega)]
      refine (path_ev l (by omega)).bind ((key_ev (path l) (by rw [path_length]; omega)).bind ?_)
      rw [key_path]
      simp only [if_true]
      simp only [size_B, path_length, if_true]
      refine Ev.bind (valid_ev0 (path l)) ?_
      simp only [val_path, if_true]
      refine (path_ev m (by omega)).bind ?_
      simp only [toList_B, less_path, beq_self_eq_true]
      exact Ev.now _
end Go.Proofs.Ytbnniapnbjmbhaa.Pure
