/- The row and the card of RlpNums. -/
import Derived.Test.YtibhhikaecpgiaaDoorL15
import Derived.Test.YtibhhikaecpgiaaDoorL16
import Derived.Test.YtibhhikaecpgiaaDoorCards
import Derived.Test.YtibhhikaecpgiaaDoorTie
import Derived.WalkKit
import Derived.OpenShut
import Derived.ShutString
import Derived.ChangeOld
import Derived.ChangeSame
import Derived.ChangeVars
import Derived.JoinedOf
import Derived.Below
import Derived.SizedLaws
import Derived.SevenTiedAt
namespace Go.Proofs.YtibhhikaecpgiaaDoor.R
open Go.ChangeShapes Go.WideShapes Go.ChangeAt Go.RowKit
open Go.ChangeMaps (open_string shut_string)
set_option linter.unusedVariables false
theorem own3 : ownKnob Tryd.prog.godebug = none := by kernel_rfl
set_option maxRecDepth 100000 in
theorem lifted3 (os : Os) (started : os.Started) (H : Type) (enc : TypeId × Value → H) :
    ReturnsInHanded {} Tryd.checked os 3 .any (fun w args => (Rows.rlpNumsSpec.pre enc Tryd.prog Tryd.f3 [] false w args ∧ laidMetH Tryd.prog laid1 w) ∧ sizedMet enc Tryd.prog Tryd.f3 (OpenSpec.ofChange Rows.rlpNumsSpec) false w args)
      (Rows.rlpNumsSpec.post enc Tryd.prog Tryd.f3 false true false false) := by
  refine returnsInHanded_of_change_and (C := Tryd.checked) (X := fun w _ => laidMetH Tryd.prog laid1 w) (fun _ _ _ hh h => h.of_heap hh) own3 started (by kernel_rfl) Tryd.func3
    (ChangeSpec.witness_at (enc := enc) (C := Tryd.checked) (os := os) (X := fun w _ => laidMetH Tryd.prog laid1 w) false (laidWorld os) #[.int .u64 0, .int .u64 0, .string ByteArray.empty] 8 rfl (by kernel_rfl) (by kernel_rfl) (by kernel_rfl) (by kernel_rfl) (by kernel_rfl) (laidWorld_met os _)) ?_
  intro W base args ds gs before hval0 hW _ _ hL _
  have hval : ∀ (j : Nat) t v, Tryd.f3.params[j]? = some t → args[j]? = some v → Value.okWide Tryd.prog W .any base t v := hval0
  have hW' := hW
  obtain ⟨p, q, hA0, hV, rfl, hfz, hnd⟩ := hW
  have hA : DataW.TrodAll enc Tryd.prog W 0 (fun _ => true) true Tryd.f3.params.toList args.toList ds p := hA0
  rw [Tryd.params3] at hA hval
  obtain ⟨v0, vs0, d0, ds0, p0, q0, hargs, rfl, rfl, h0, r0⟩ := trodAll_cons hA
  obtain ⟨v1, vs1, d1, ds1, p1, q1, rfl, rfl, rfl, h1, r1⟩ := trodAll_cons r0
  obtain ⟨v2, vs2, d2, ds2, p2, q2, rfl, rfl, rfl, h2, r2⟩ := trodAll_cons r1
  obtain ⟨rfl, rfl, rfl⟩ := trodAll_nil r2
  obtain rfl : args = #[v0, v1, v2] := by cases args; simp_all
  obtain ⟨rfl, rfl⟩ := trodVars_none hV
  obtain ⟨n0, rfl, rfl, rfl, hw0⟩ := open_int Tryd.underlying22 (hval 0 22 v0 rfl rfl) h0
  obtain ⟨m0, rfl, hm0⟩ : ∃ m : Nat, n0 = (m : Int) ∧ m < 18446744073709551616 := by
    have h := lit_range_u64 hw0
    exact ⟨n0.toNat, by omega, by omega⟩
  obtain ⟨n1, rfl, rfl, rfl, hw1⟩ := open_int Tryd.underlying22 (hval 1 22 v1 rfl rfl) h1
  obtain ⟨m1, rfl, hm1⟩ : ∃ m : Nat, n1 = (m : Int) ∧ m < 18446744073709551616 := by
    have h := lit_range_u64 hw1
    exact ⟨n1.toNat, by omega, by omega⟩
  obtain ⟨a2, rfl, rfl, rfl, y2⟩ := open_string Tryd.underlying9 (hval 2 9 v2 rfl rfl) h2
  have hE := errT_of_laid hL
  have hgt := World.block_lt_of_cell? W _ hE
  clear hA0 hval0
  obtain ⟨l2, hl2⟩ : ∃ l : L, a2 = B l := ⟨a2.data.toList, (B_of a2).symm⟩
  have hC := lawNums_calls W m0 m1 hm0 hm1 l2 hE hgt
  rw [← hl2] at hC
  refine hC.mono fun e W' ⟨he, bel⟩ => ?_
  subst he
  exact ⟨_, rfl, _, _, _, [], _, [], hW', trodAll_mk1 (shut_bool Tryd.underlying4 _), (trodAll_cons_mk (shut_int Tryd.underlying22 hw0) (trodAll_cons_mk (shut_int Tryd.underlying22 hw1) (trodAll_cons_mk (shut_string Tryd.underlying9 y2) trodAll_mk0))), rfl, bel.frame _, fun h => by cases h⟩
theorem row3 : Rows.RlpNumsSaid :=
  OpenClaim.holds_of_wide 3 Tryd.f3 rfl rfl rfl rfl rfl rfl rfl ⟨rfl, rfl, rfl, rfl, rfl⟩ rfl rfl rfl rfl rfl (by kernel_rfl) Tryd.func3 (by kernel_rfl)
    (of_decide_eq_true (by kernel_rfl)) (by unfold Func.isWrapper; first | (rw [if_pos (by decide +kernel)]; kernel_rfl) | (rw [if_neg (by decide +kernel)]; exact ⟨rfl, rfl⟩))
    (fun os started H enc _ => lifted3 os started H enc)
end Go.Proofs.YtibhhikaecpgiaaDoor.R
namespace Go.Proofs.YtibhhikaecpgiaaDoor
theorem rlpNumsCard_holds : Rows.RlpNumsCardSaid :=
  Claim7.holds_tied_plain_at .later [] [.handle] true (true, "d3815d4fa52966a4e320e1365884279a6c02ea32bbbd7e8d22480c4a0d87648c") true
    R.row3 (fun _ h => by cases h) (by kernel_rfl) (fun _ h => by cases h) rlpNums_row_tie rfl ⟨rfl, rfl⟩ (by kernel_rfl) rfl
    (fun f fn hf hfn => by
      obtain rfl : f = 3 := Option.some.inj ((show Tryd.prog.funcNamed "guilloche/guillochelaw02.RlpNums" = some 3 by kernel_rfl).symm.trans hf) |>.symm
      obtain rfl : fn = Tryd.f3 := (Option.some.inj (Tryd.func3.symm.trans hfn)).symm
      exact ⟨by kernel_rfl, fun j t ht => by
        rw [Tryd.params3] at ht
        have h3 : t = 9 ∨ t = 22 := by
          rcases j with _ | _ | _ | j
          · have h4 : t = 22 := by simpa using ht.symm
            simp [h4]
          · have h4 : t = 22 := by simpa using ht.symm
            simp [h4]
          · have h4 : t = 9 := by simpa using ht.symm
            simp [h4]
          · simp at ht
        rcases h3 with rfl | rfl
        · exact (show Tryd.prog.wantsStandIn 9 = false by kernel_rfl)
        · exact (show Tryd.prog.wantsStandIn 22 = false by kernel_rfl)⟩)
    (by kernel_rfl)
#print axioms rlpNumsCard_holds
end Go.Proofs.YtibhhikaecpgiaaDoor
