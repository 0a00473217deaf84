/- The contract of rlp.GetNum. -/
import Derived.Test.YtibhhikaecpgiaaDoorL5
set_option linter.unusedSimpArgs false
set_option linter.unusedVariables false
namespace Go.Proofs.YtibhhikaecpgiaaDoor.R
open Go.RowKit Go.Proofs.YtibhhikaecpgiaaDoorW.PrintWords Go.Proofs.YtibhhikaecpgiaaDoorW.PrintLast Go.Proofs.YtibhhikaecpgiaaDoorW.PrintMore

/-- The number that an item is. -/
def getN (l : L) : Option Nat :=
  match splitL l with
  | some (false, b, []) => if b.length ≤ 8 ∧ b.head? ≠ some 0 then some (nb b) else none
  | _ => none
def numAns (l : L) : Value :=
  match getN l with
  | some n => .tuple #[.int .u64 n, .int .i64 0]
  | none => .tuple #[.int .u64 0, .int .i64 2]
theorem B_empty (l : L) : (B l).toList.isEmpty = l.isEmpty := by rw [ByteArray.toList_eq]; rfl
theorem getN_cases (l : L) : (splitL l = none ∧ getN l = none) ∨ (∃ b r, splitL l = some (true, b, r) ∧ getN l = none) ∨ (∃ b r, splitL l = some (false, b, r) ∧ (
    (r.isEmpty = false ∧ getN l = none) ∨ (r.isEmpty = true ∧ 8 < b.length ∧ getN l = none) ∨ (r.isEmpty = true ∧ b.length ≤ 8 ∧ b.isEmpty = false ∧ b.getD 0 0 = 0 ∧ getN l = none) ∨
    (r.isEmpty = true ∧ b.length ≤ 8 ∧ (b = [] ∨ (b.isEmpty = false ∧ b.getD 0 0 ≠ 0)) ∧ getN l = some (nb b)))) := by
  unfold getN
  cases hs : splitL l with
  | none => exact .inl ⟨rfl, rfl⟩
  | some x =>
    obtain ⟨k, b, r⟩ := x
    cases k with
    | true => exact .inr (.inl ⟨b, r, rfl, rfl⟩)
    | false =>
      refine .inr (.inr ⟨b, r, rfl, ?_⟩)
      cases r with
      | cons x r => exact .inl ⟨rfl, rfl⟩
      | nil =>
        by_cases h8 : b.length ≤ 8
        · by_cases h0 : b.head? ≠ some 0
          · refine .inr (.inr (.inr ⟨rfl, h8, ?_, by simp only; rw [if_pos ⟨h8, h0⟩]⟩))
            cases b with
            | nil => exact .inl rfl
            | cons x b => exact .inr ⟨rfl, by simpa using h0⟩
          · refine .inr (.inr (.inl ⟨rfl, h8, ?_, ?_, by simp only; rw [if_neg (fun h => h0 h.2)]⟩))
            · cases b with
              | nil => simp at h0
              | cons x b => rfl
            · cases b with
              | nil => simp at h0
              | cons x b => simpa using h0
        · exact .inr (.inl ⟨rfl, by omega, by simp only; rw [if_neg (fun h => h8 h.1)]⟩)
set_option maxRecDepth 100000 in
theorem GetNum_calls (w : World) (l : L) (hl : l.length ≤ 1000000000) :
    Calls Tryd.prog 7 #[.string (B l)] w fun e w' => e = .returned (numAns l) ∧ Below w.heap.size w w' := by
  have HS := Aside0.mk (Split_calls w l hl)
  generalize hF : numAns l = F
  have HF := Aside0.mk hF
  clear hF
  have hans : ∀ v, splitAns l = v → Aside0 (Calls Tryd.prog 13 #[.string (B l)] w fun e w' => e = .returned v ∧ Below w.heap.size w w') := by rintro v rfl; exact HS
  rcases getN_cases l with ⟨hs, hg⟩ | ⟨b, r, hs, hg⟩ | ⟨b, r, hs, (⟨hr, hg⟩ | ⟨hr, hb, hg⟩ | ⟨hr, hb, hbe, hb0, hg⟩ | ⟨hr, hb, hbe, hg⟩)⟩
  · have HA := hans (.tuple #[.bool false, .string ⟨#[]⟩, .string ⟨#[]⟩, .int .i64 2]) (by unfold splitAns; rw [hs])
    have HR : Aside0 (F = .tuple #[.int .u64 0, .int .i64 2]) := ⟨by rw [← HF.out]; unfold numAns; rw [hg]⟩
    clear hs hg hans HS HF
    go_enter Tryd.func7, Tryd.ntmps7
    go_wp2_with (go_at_call 13; refine (HA.out).mono ?_; rintro e w1 ⟨rfl, hB1⟩; have B1 := Aside0.mk hB1; clear hB1 HA)
    go_ret2
    exact ⟨by rw [HR.out]; rfl, B1.out⟩
  · have HA := hans (.tuple #[.bool true, .string (B b), .string (B r), .int .i64 0]) (by unfold splitAns; rw [hs])
    have HR : Aside0 (F = .tuple #[.int .u64 0, .int .i64 2]) := ⟨by rw [← HF.out]; unfold numAns; rw [hg]⟩
    clear hs hg hans HS HF
    go_enter Tryd.func7, Tryd.ntmps7
    go_wp2_with (go_at_call 13; refine (HA.out).mono ?_; rintro e w1 ⟨rfl, hB1⟩; have B1 := Aside0.mk hB1; clear hB1 HA)
    go_ret2
    exact ⟨by rw [HR.out]; rfl, B1.out⟩
  · have HA := hans (.tuple #[.bool false, .string (B b), .string (B r), .int .i64 0]) (by unfold splitAns; rw [hs])
    have HR : Aside0 (F = .tuple #[.int .u64 0, .int .i64 2]) := ⟨by rw [← HF.out]; unfold numAns; rw [hg]⟩
    have hr1 : (B r).toList.isEmpty = false := by rw [B_empty, hr]
    clear hs hg hans HS HF
    go_enter Tryd.func7, Tryd.ntmps7
    go_wp2_with (go_at_call 13; refine (HA.out).mono ?_; rintro e w1 ⟨rfl, hB1⟩; have B1 := Aside0.mk hB1; clear hB1 HA)
    go_ret2
    exact ⟨by rw [HR.out]; rfl, B1.out⟩
  · have HA := hans (.tuple #[.bool false, .string (B b), .string (B r), .int .i64 0]) (by unfold splitAns; rw [hs])
    have HR : Aside0 (F = .tuple #[.int .u64 0, .int .i64 2]) := ⟨by rw [← HF.out]; unfold numAns; rw [hg]⟩
    have hr1 : (B r).toList.isEmpty = true := by rw [B_empty, hr]
    have hb1 : 8 < ((B b).size : Int) := by rw [B_size]; omega
    clear hs hg hans HS HF
    go_enter Tryd.func7, Tryd.ntmps7
    go_wp2_with (go_at_call 13; refine (HA.out).mono ?_; rintro e w1 ⟨rfl, hB1⟩; have B1 := Aside0.mk hB1; clear hB1 HA)
    go_ret2
    exact ⟨by rw [HR.out]; rfl, B1.out⟩
  · have HA := hans (.tuple #[.bool false, .string (B b), .string (B r), .int .i64 0]) (by unfold splitAns; rw [hs])
    have HR : Aside0 (F = .tuple #[.int .u64 0, .int .i64 2]) := ⟨by rw [← HF.out]; unfold numAns; rw [hg]⟩
    have hr1 : (B r).toList.isEmpty = true := by rw [B_empty, hr]
    have hb1 : ¬ 8 < ((B b).size : Int) := by rw [B_size]; omega
    have hbe1 : (B b).toList.isEmpty = false := by rw [B_empty, hbe]
    have h0 : 0 < (B b).size := by
      rw [B_size]
      cases b with
      | nil => simp at hbe
      | cons x b => simp
    have hat := B_at b 0 h0
    have hz : ((((B b)[0]'h0).toNat : Nat) : Int) = 0 := by rw [hat, hb0]; rfl
    clear hs hg hans HS HF hat hb0
    go_enter Tryd.func7, Tryd.ntmps7
    go_wp2_with (go_at_call 13; refine (HA.out).mono ?_; rintro e w1 ⟨rfl, hB1⟩; have B1 := Aside0.mk hB1; clear hB1 HA)
    go_ret2
    exact ⟨by rw [HR.out]; rfl, B1.out⟩
  · have HA := hans (.tuple #[.bool false, .string (B b), .string (B r), .int .i64 0]) (by unfold splitAns; rw [hs])
    have HR : Aside0 (F = .tuple #[.int .u64 (nb b), .int .i64 0]) := ⟨by rw [← HF.out]; unfold numAns; rw [hg]⟩
    have hr1 : (B r).toList.isEmpty = true := by rw [B_empty, hr]
    have hb1 : ¬ 8 < ((B b).size : Int) := by rw [B_size]; omega
    have hb8 : (B b).size ≤ 8 := by rw [B_size]; exact hb
    have HT : Aside0 (nb b = nb ((B b).data.toList.take (B b).size)) := ⟨by rw [B_data, B_size, List.take_length]⟩
    have hcase : ((B b).toList.isEmpty = true) ∨ ((B b).toList.isEmpty = false ∧ ∃ h0 : 0 < (B b).size, (((((B b)[0]'h0).toNat : Nat) : Int) == 0) = false) := by
      rcases hbe with rfl | ⟨h1, h2⟩
      · exact .inl (by rw [B_empty]; rfl)
      · have h0 : 0 < (B b).size := by
          rw [B_size]
          cases b with
          | nil => simp at h1
          | cons x b => simp
        refine .inr ⟨by rw [B_empty, h1], h0, beq_eq_false_iff_ne.2 fun h => h2 ?_⟩
        rw [B_at b 0 h0] at h
        exact UInt8.toNat_inj.1 (by simpa using h)
    clear hs hg hans HS HF hbe hb hr
    generalize hnb : nb b = N at HR HT
    clear hnb
    generalize B b = bb at *
    have main : ∀ (hx : (bb.toList.isEmpty = true) ∨ (bb.toList.isEmpty = false ∧ ∃ h0 : 0 < bb.size, ((((bb[0]'h0).toNat : Nat) : Int) == 0) = false)), Calls Tryd.prog 7 #[.string (B l)] w fun e w' => e = .returned F ∧ Below w.heap.size w w' := by
      intro hx
      rcases hx with hx | ⟨hx, h0, hx0⟩
      all_goals
        clear hcase
        go_enter Tryd.func7, Tryd.ntmps7
        go_wp2_with (go_at_call 13; refine (HA.out).mono ?_; rintro e w1 ⟨rfl, hB1⟩; have B1 := Aside0.mk hB1; clear hB1 HA)
        go_loopg [8, 42] bb.size (fun gf s8 s42 wx => ∃ (i n : Nat), s8 = .int .u64 n ∧ s42 = .int .i64 i ∧ i + gf = bb.size ∧ Aside0 (n = nb (bb.data.toList.take i)) ∧ wx = w1)
        case atStart => exact ⟨0, 0, rfl, rfl, by omega, ⟨rfl⟩, rfl⟩
        case round =>
          obtain ⟨i, n, rfl, rfl, hgg, HN, rfl⟩ := hrel
          by_cases hi : i < bb.size
          · have hii : (i : Int) < (bb.size : Int) := by omega
            have hn := nb_take bb.data.toList i (by omega)
            rw [← HN.out] at hn
            have hn0 : (n : Int) < 72057594037927936 := by omega
            have hc : (((bb[i]'hi).toNat : Nat) : Int) < 256 := by have := (bb[i]'hi).toNat_lt; omega
            have hor := or_byte (n : Int) (((bb[i]'hi).toNat : Nat) : Int) (by omega) hn0 (by omega) hc
            have HN1 : Aside0 (n * 256 + (bb[i]'hi).toNat = nb (bb.data.toList.take (i + 1))) := ⟨by rw [byte_snoc bb i hi, nb_snoc, ← HN.out]; omega⟩
            clear hn
            go_wp2
            go_roundg (gk - 1)
            case measure => omega
            case rel => exact ⟨i + 1, n * 256 + (bb[i]'hi).toNat, by go_num, by go_num, by omega, HN1, rfl⟩
          · have hii : ¬ (i : Int) < (bb.size : Int) := by omega
            have hik : i = bb.size := by omega
            have HNN : Aside0 (N = n) := ⟨by rw [HT.out, HN.out, hik]⟩
            clear hik
            go_wp2
            go_ret2
            exact ⟨by rw [HR.out, HNN.out]; rfl, B1.out⟩
    exact main hcase
end Go.Proofs.YtibhhikaecpgiaaDoor.R
