/- The walk of ShaCollide. -/
import Derived.Test.YthgminihlejpnaaDoorS12
set_option linter.unusedSimpArgs false
set_option linter.unusedVariables false
namespace Go.Proofs.YthgminihlejpnaaDoor.S
open Go.RowKit Go.Proofs.YthgminihlejpnaaDoorW.PrintWords Go.Proofs.YthgminihlejpnaaDoorW.PrintLast Go.Proofs.YthgminihlejpnaaDoorW.PrintMore

theorem collide_comm (a b : ByteArray) : collideB a b = collideB b a := by
  unfold collideB
  rw [BEq.comm (a := a.toList), BEq.comm (a := (ofS [a]).toList)]
set_option maxRecDepth 100000 in
theorem lawCollide_calls (w : World) (a b : ByteArray) (hG : Glob w) (hbase : gtop ≤ w.heap.size) :
    Calls Tryd.prog 3 #[.string a, .string b] w fun e w' => e = .returned (.bool true) ∧ Below w.heap.size w w' := by
  have HWK := Aside0.mk (works_calls w hG hbase)
  by_cases ha : a.size ≤ 300
  · by_cases hb : b.size ≤ 300
    · have ha1 : ¬ 300 < (a.size : Int) := by omega
      have hb1 : ¬ 300 < (b.size : Int) := by omega
      have ha2 : a.size ≤ 1000000000 := by omega
      have hb2 : b.size ≤ 1000000000 := by omega
      have HC := Aside0.mk (fun W hB => collide_calls W a b (hG.below hB) (Nat.le_trans hbase (Below.size (B := w.heap.size) (w := w) hB)) ha2 hb2)
      have HD := Aside0.mk (fun W hB => collide_calls W b a (hG.below hB) (Nat.le_trans hbase (Below.size (B := w.heap.size) (w := w) hB)) hb2 ha2)
      have HA := Aside0.mk (fun W hB => of1_calls W a (hG.below hB) (Nat.le_trans hbase (Below.size (B := w.heap.size) (w := w) hB)) ha2)
      have HBB := Aside0.mk (fun W hB => of1_calls W b (hG.below hB) (Nat.le_trans hbase (Below.size (B := w.heap.size) (w := w) hB)) hb2)
      clear ha hb
      go_enter Tryd.func3, Tryd.ntmps3
      go_wp2_with (first | (go_at_call 7; refine (HWK.out).mono ?_; rintro e w1 ⟨rfl, hB1⟩; have B1 := Aside0.mk hB1; clear hB1 HWK) | (go_at_call 8; fail))
      refine (HC.out _ B1.out).mono ?_
      rintro e w2 ⟨rfl, hB2⟩
      have B2 := Aside0.mk (B1.out.trans (hB2.mono B1.out.size))
      clear hB2 B1
      by_cases hab : a = b
      · subst hab
        rw [collide_aa]
        go_wp2_with (go_at_call 8; fail)
        refine (HC.out _ B2.out).mono ?_
        rintro e w3 ⟨rfl, hB3⟩
        have B3 := Aside0.mk (B2.out.trans (hB3.mono B2.out.size))
        rw [collide_aa]
        clear hB3 B2
        go_wp2_with (go_at_call 8; fail)
        refine (HC.out _ B3.out).mono ?_
        rintro e w4 ⟨rfl, hB4⟩
        have B4 := Aside0.mk (B3.out.trans (hB4.mono B3.out.size))
        rw [collide_aa]
        clear hB4 B3
        go_wp2
        go_ret
        exact ⟨rfl, B4.out⟩
      · have hne : ¬ a.toList = b.toList := fun e => hab (text_inj e)
        have hne2 : (a.toList == b.toList) = false := by simpa using hne
        have hcb : collideB a b = ((ofS [a]).toList == (ofS [b]).toList) := by simp [collideB, hne2]
        have hdb : collideB b a = ((ofS [a]).toList == (ofS [b]).toList) := by rw [collide_comm, hcb]
        rw [hcb]
        go_wp2_with (go_at_call 9; fail)
        refine (HA.out _ B2.out).mono ?_
        rintro e w3 ⟨rfl, hB3⟩
        have B3 := Aside0.mk (B2.out.trans (hB3.mono B2.out.size))
        clear hB3 B2
        go_wp2_with (go_at_call 9; fail)
        refine (HBB.out _ B3.out).mono ?_
        rintro e w4 ⟨rfl, hB4⟩
        have B4 := Aside0.mk (B3.out.trans (hB4.mono B3.out.size))
        clear hB4 B3
        go_wp2_with (go_at_call 8; fail)
        refine (HC.out _ B4.out).mono ?_
        rintro e w5 ⟨rfl, hB5⟩
        have B5 := Aside0.mk (B4.out.trans (hB5.mono B4.out.size))
        rw [hcb]
        clear hB5 B4
        go_wp2_with (go_at_call 8; fail)
        refine (HD.out _ B5.out).mono ?_
        rintro e w6 ⟨rfl, hB6⟩
        have B6 := Aside0.mk (B5.out.trans (hB6.mono B5.out.size))
        rw [hdb]
        clear hB6 B5
        go_wp2
        go_ret
        exact ⟨rfl, B6.out⟩
    · have ha1 : ¬ 300 < (a.size : Int) := by omega
      have hb1 : 300 < (b.size : Int) := by omega
      go_enter Tryd.func3, Tryd.ntmps3
      go_wp2_with (go_at_call 7; refine (HWK.out).mono ?_; rintro e w1 ⟨rfl, hB1⟩; have B1 := Aside0.mk hB1; clear hB1 HWK)
      go_ret
      exact ⟨rfl, B1.out⟩
  · have ha1 : 300 < (a.size : Int) := by omega
    go_enter Tryd.func3, Tryd.ntmps3
    go_wp2_with (go_at_call 7; refine (HWK.out).mono ?_; rintro e w1 ⟨rfl, hB1⟩; have B1 := Aside0.mk hB1; clear hB1 HWK)
    go_ret
    exact ⟨rfl, B1.out⟩
end Go.Proofs.YthgminihlejpnaaDoor.S
