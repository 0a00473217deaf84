/- The path of two texts, one behind the other, is both paths: for all texts. -/
import Derived.Test.YtbnniapnbjmbhaaPAx7
import Derived.Test.YtbnniapnbjmbhaaNL
set_option linter.unusedSimpArgs false
set_option linter.unusedVariables false
namespace Go.Proofs.Ytbnniapnbjmbhaa.Pure
open Go.RowKit Go.Proofs.Ytbnniapnbjmbhaa.PA Go.Proofs.YtbnniapnbjmbhaaW.PrintWords Go.Proofs.YtbnniapnbjmbhaaW.PrintLast Go.Proofs.Ytbnniapnbjmbhaa.Y Go.Proofs.Ytbnniapnbjmbhaa.NL

theorem key_path2 (l : List UInt8) : key (path l) = (B l, true) := by
  unfold key
  rw [path_length, if_neg (by omega), val_path, if_pos rfl, pairs_path]
theorem NibbleJoins : guillochelaw01_NibbleJoins.Pure := by
  intro a0 a1 h0 h1
  obtain ⟨l, rfl⟩ := isB a0
  obtain ⟨m, rfl⟩ := isB a1
  rw [size_B] at h0 h1
  apply Ev.rounds
  refine Ev.congr (fun k => by unfold guillochelaw01_NibbleJoins.f; rfl) (works_ev.bind ?_)
  simp only [if_true, size_B]
  have hj : Ev (fun k => guillochelaw01_NibbleJoins.j0 k (B l) (B m) true true) true := by
    refine Ev.step (f := fun _ => some true) (fun k => ?_) (Ev.now _)
    simp only [guillochelaw01_NibbleJoins.j0, if_true]
  by_cases hs : (l.length : Int) > 200
  · simp only [hs, if_true]; exact hj
  · simp only [hs, if_false]
    by_cases hs1 : (m.length : Int) > 200
    · simp only [hs1, decide_true]; exact hj
    · simp only [hs1, decide_false]
      refine Ev.step (fun k => by simp only [guillochelaw01_NibbleJoins.j0]; rfl) ?_
      simp only [Bool.false_eq_true, if_false]
      refine (path_ev l (by omega)).bind ((path_ev m (by omega)).bind ?_)
      have e1 : (B (path l)).size + (B (path m)).size ≤ 9223372036854775807 := by rw [size_B, size_B, path_length, path_length]; omega
      have e2 : (B l).size + (B m).size ≤ 9223372036854775807 := by rw [size_B, size_B]; omega
      simp only [e1, e2, if_true, append_B, ← path_append]
      refine (key_ev (path (l ++ m)) (by rw [path_length]; simp; omega)).bind ?_
      rw [key_path2]
      simp only [if_true]
      refine (path_ev (l ++ m) (by simp; omega)).bind ((path_ev l (by omega)).bind ((path_ev m (by omega)).bind ?_))
      simp only [e1, if_true, append_B, ← path_append]
      refine (com_ev (l ++ m) l (by simp; omega) (by omega)).bind ?_
      rw [com_append, size_B, beq_self_eq_true]
      exact Ev.now _
end Go.Proofs.Ytbnniapnbjmbhaa.Pure
