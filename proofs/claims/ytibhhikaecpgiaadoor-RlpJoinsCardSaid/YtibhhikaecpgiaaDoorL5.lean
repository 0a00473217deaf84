/- The contracts of rlp.Split and rlp.GetNum. -/
import Derived.Test.YtibhhikaecpgiaaDoorL4
import Derived.Test.YtibhhikaecpgiaaDoorL2
set_option linter.unusedSimpArgs false
set_option linter.unusedVariables false
namespace Go.Proofs.YtibhhikaecpgiaaDoor.R
open Go.RowKit Go.Proofs.YtibhhikaecpgiaaDoorW.PrintWords Go.Proofs.YtibhhikaecpgiaaDoorW.PrintLast Go.Proofs.YtibhhikaecpgiaaDoorW.PrintMore

theorem B_eta (s : ByteArray) : ∃ l : L, s = B l := ⟨s.data.toList, (B_of s).symm⟩
theorem B_extract (l : L) (i j : Nat) (hj : j ≤ l.length) : (B l).extract i j = B ((l.take j).drop i) := by
  rw [← B_of ((B l).extract i j)]
  congr 1
  simp [ByteArray.data_extract, List.drop_take]
/-- What rlp.Split answers. -/
def splitAns (l : L) : Value :=
  match splitL l with
  | some (k, b, r) => .tuple #[.bool k, .string (B b), .string (B r), .int .i64 0]
  | none => .tuple #[.bool false, .string ⟨#[]⟩, .string ⟨#[]⟩, .int .i64 2]
theorem Split_calls (w : World) (l : L) (hl : l.length ≤ 1000000000) :
    Calls Tryd.prog 13 #[.string (B l)] w fun e w' => e = .returned (splitAns l) ∧ Below w.heap.size w w' := by
  have hsz := B_size l
  have HS := Aside0.mk (split_calls w (B l) (by rw [hsz]; exact hl))
  generalize hF : splitAns l = F
  have HF := Aside0.mk hF
  clear hF
  go_enter Tryd.func13, Tryd.ntmps13
  go_wp2_with (go_at_call 21; fail)
  refine (HS.out).mono ?_
  rintro e w1 (⟨k, f, t, hN, rfl, rfl, hft, hts⟩ | ⟨hN, E, rfl, hB, hb⟩)
  · rw [B_data] at hN
    rw [hsz] at hts
    have hA : F = .tuple #[.bool k, .string ((B l).extract f t), .string ((B l).extract t (B l).size), .int .i64 0] := by
      rw [← HF.out, B_extract l f t hts, hsz, B_extract l t l.length (Nat.le_refl _), List.take_length]
      unfold splitAns splitL
      rw [hN]
      rfl
    have HA := Aside0.mk hA
    have h1 : (f : Int) ≤ (t : Int) := by omega
    have h2 : (t : Int) ≤ ((B l).size : Int) := by omega
    have h3 : f ≤ t := hft
    have h4 : t ≤ (B l).size := by omega
    clear HS hA hN hsz HF hts hft
    generalize B l = s at *
    go_wp2
    go_region
    go_wp2
    try simp only [Exit.inBlock, Exit.then]
    refine bodyPost_ret (results4 rfl _ _ _) rfl ?_
    exact ⟨by rw [HA.out]; rfl, below_drew1 (Below.refl _ _)⟩
  · rw [B_data] at hN
    have hA : F = .tuple #[.bool false, .string ⟨#[]⟩, .string ⟨#[]⟩, .int .i64 2] := by
      rw [← HF.out]
      unfold splitAns splitL
      rw [hN]
      rfl
    have HA := Aside0.mk hA
    clear hA
    have HT := Aside0.mk (told_calls w1 E 1 hB)
    have B1 := Aside0.mk hb
    obtain ⟨u, v, rfl⟩ := hB.iface
    clear hB hb HS
    go_wp2_with (go_at_call 18; refine (HT.out).mono ?_; rintro e w2 ⟨rfl, rfl⟩; clear HT)
    try simp only [Exit.inBlock, Exit.then]
    refine bodyPost_ret (results4 rfl _ _ _) rfl ?_
    exact ⟨by rw [HA.out]; rfl, B1.out⟩
end Go.Proofs.YtibhhikaecpgiaaDoor.R
