/- What two texts have in common is a beginning of both, and there is no longer one; it is the same the other way round: for all texts. -/
import Derived.Test.YtbnniapnbjmbhaaPAx6
import Derived.Test.YtbnniapnbjmbhaaNL
set_option linter.unusedSimpArgs false
set_option linter.unusedVariables false
namespace Go.Proofs.Ytbnniapnbjmbhaa.Pure
open Go.RowKit Go.Proofs.Ytbnniapnbjmbhaa.PA Go.Proofs.YtbnniapnbjmbhaaW.PrintWords Go.Proofs.YtbnniapnbjmbhaaW.PrintLast Go.Proofs.Ytbnniapnbjmbhaa.Y Go.Proofs.Ytbnniapnbjmbhaa.NL

theorem NibbleCommon : guillochelaw01_NibbleCommon.Pure := by
  intro a0 a1 h0 h1
  obtain ⟨l, rfl⟩ := isB a0
  obtain ⟨m, rfl⟩ := isB a1
  rw [size_B] at h0 h1
  apply Ev.rounds
  refine Ev.congr (fun k => by unfold guillochelaw01_NibbleCommon.f; rfl) (works_ev.bind ?_)
  simp only [if_true, size_B]
  have hj : Ev (fun k => guillochelaw01_NibbleCommon.j0 k (B l) (B m) true true) true := by
    refine Ev.step (f := fun _ => some true) (fun k => ?_) (Ev.now _)
    simp only [guillochelaw01_NibbleCommon.j0, if_true]
  by_cases hs : (l.length : Int) > 200
  · simp only [hs, if_true]; exact hj
  · simp only [hs, if_false]
    by_cases hs1 : (m.length : Int) > 200
    · simp only [hs1, decide_true]; exact hj
    · simp only [hs1, decide_false]
      refine Ev.step (fun k => by simp only [guillochelaw01_NibbleCommon.j0]; rfl) ?_
      simp only [Bool.false_eq_true, if_false]
      refine (com_ev l m (by omega) (by omega)).bind ?_
      have hle := com_le l m
      have c1 : ¬ ((com l m : Nat) : Int) < 0 := by omega
      have c2 : ¬ ((com l m : Nat) : Int) > ((B l).size : Int) := by rw [size_B]; omega
      have c3 : ¬ ((com l m : Nat) : Int) > ((B m).size : Int) := by rw [size_B]; omega
      have c4 : 0 ≤ ((com l m : Nat) : Int) := by omega
      have c5 : ((com l m : Nat) : Int) ≤ ((B l).size : Int) := by rw [size_B]; omega
      have c6 : ((com l m : Nat) : Int) ≤ ((B m).size : Int) := by rw [size_B]; omega
      simp only [c1, c2, c3, c4, c5, c6, if_true, if_false, Int.toNat_natCast, extract_B, toList_B, List.drop_zero, com_take l m, bne_self_eq_false]
      refine Ev.step (fun k => by simp only [guillochelaw01_NibbleCommon.j1]; rfl) ?_
      simp only [Bool.false_eq_true, if_false, if_true]
      have tail : Ev (fun k => (nibble_Common.f k (B m) (B l)).bind fun t => if t = ((com l m : Nat) : Int) then ((nibble_Common.f k (B l) (B l)).bind fun t2 => some (t2 == ((B l).size : Int))) else some false) true := by
        refine (com_ev m l (by omega) (by omega)).bind ?_
        rw [com_comm m l]
        simp only [if_true]
        refine (com_ev l l (by omega) (by omega)).bind ?_
        rw [com_self, size_B, beq_self_eq_true]
        exact Ev.now _
      by_cases d1 : ((com l m : Nat) : Int) = ((B l).size : Int)
      · simp only [d1, if_true]
        rw [d1] at tail
        exact tail
      · simp only [d1, if_false]
        by_cases d2 : ((com l m : Nat) : Int) = ((B m).size : Int)
        · simp only [d2, if_true]
          rw [d2] at tail
          exact tail
        · simp only [d2, if_false]
          have f1 : ((com l m : Nat) : Int) < ((B l).size : Int) := by omega
          have f2 : ((com l m : Nat) : Int) < ((B m).size : Int) := by omega
          have g1 : com l m < l.length := by rw [size_B] at f1; omega
          have g2 : com l m < m.length := by rw [size_B] at f2; omega
          have f3 : ¬ bt (B l) ((com l m : Nat) : Int) = bt (B m) ((com l m : Nat) : Int) := by
            rw [bt_B l _ g1, bt_B m _ g2]
            intro h
            exact com_next l m g1 g2 (UInt8.toNat_inj.1 (by omega))
          simp only [c4, f1, f2, f3, if_true, if_false]
          exact tail
end Go.Proofs.Ytbnniapnbjmbhaa.Pure
