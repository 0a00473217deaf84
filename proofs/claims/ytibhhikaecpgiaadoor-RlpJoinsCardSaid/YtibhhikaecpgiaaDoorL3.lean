/- A length of some bytes: the contract of rlp.size. -/
import Derived.Test.YtibhhikaecpgiaaDoorL1
import Derived.Test.YtibhhikaecpgiaaDoorP2
import Derived.Laws.BitsLemmas
set_option linter.unusedSimpArgs false
set_option linter.unusedVariables false
namespace Go.Proofs.YtibhhikaecpgiaaDoor.R
open Go.RowKit Go.Proofs.YtibhhikaecpgiaaDoorW.PrintWords Go.Proofs.YtibhhikaecpgiaaDoorW.PrintLast Go.Proofs.YtibhhikaecpgiaaDoorW.PrintMore

theorem wraps_u64 (n : Int) (h₀ : 0 ≤ n) (h₁ : n < 2 ^ 64) : IntKind.u64.wrap n = n := by
  have h₂ : n < 18446744073709551616 := h₁
  simp [IntKind.wrap, IntKind.bits, IntKind.signed]
  omega
theorem or_byte (n c : Int) (h0 : 0 ≤ n) (h1 : n < 72057594037927936) (h2 : 0 ≤ c) (h3 : c < 256) : Go.bits .or .u64 (n * 256) c = n * 256 + c :=
  bits_join .u64 64 (by decide) wraps_u64 8 (n * 256) c (by omega) (by show n * 256 % 256 = 0; omega) (by show n * 256 < 18446744073709551616; omega) h2 (by show c < 256; omega) (by show c < 18446744073709551616; omega)
theorem byte_at (s : ByteArray) (i : Nat) (h : i < s.size) : s.data.toList.getD i 0 = s[i]'h := by
  have h' : i < s.data.toList.length := by rw [Array.length_toList]; exact h
  rw [List.getD_eq_getElem?_getD, List.getElem?_eq_getElem h']
  simp; rfl
theorem byte_snoc (s : ByteArray) (i : Nat) (h : i < s.size) : s.data.toList.take (i + 1) = s.data.toList.take i ++ [s[i]'h] := by
  have h' : i < s.data.toList.length := by rw [Array.length_toList]; exact h
  rw [List.take_succ_eq_append_getElem h']
  simp; rfl
theorem nb_take (l : L) (i : Nat) (h : i ≤ 7) : nb (l.take i) < 72057594037927936 := by
  have h1 := nb_lt (l.take i)
  have h2 : (l.take i).length ≤ 7 := by simp; omega
  have h3 : 256 ^ (l.take i).length ≤ 256 ^ 7 := Nat.pow_le_pow_right (by decide) h2
  have h4 : (256 : Nat) ^ 7 = 72057594037927936 := by decide
  omega
set_option maxRecDepth 100000 in
theorem size_calls (w : World) (s : ByteArray) (k : Nat) (hk1 : 1 ≤ k) (hk8 : k ≤ 8) :
    Calls Tryd.prog 30 #[.string s, .int .i64 k] w fun e w' =>
      (∃ m : Nat, sizeN s.data.toList k = some m ∧ e = .returned (.tuple #[.int .u64 m, .nilIface]) ∧ w' = w) ∨ (sizeN s.data.toList k = none ∧ ∃ E, e = .returned (.tuple #[.int .u64 0, E]) ∧ Bad w' E 1 ∧ Below w.heap.size w w') := by
  have HW := Aside0.mk (wrong_calls w 1)
  have hsl : s.data.toList.length = s.size := Array.length_toList
  by_cases hsk : s.size < k
  · have hz : sizeN s.data.toList k = none := by unfold sizeN; rw [if_pos (.inl (by rw [hsl]; exact hsk))]
    have h1 : (s.size : Int) < (k : Int) := by omega
    have HZ := Aside0.mk hz
    clear hz hsl hsk
    go_enter Tryd.func30, Tryd.ntmps30
    go_wp2_with (go_at_call 29; refine (HW.out).mono ?_; rintro e w1 ⟨E, rfl, hB, hb⟩; have B1 := Aside0.mk (And.intro hB hb); clear hB hb HW)
    go_ret2
    exact .inr ⟨HZ.out, E, rfl, B1.out⟩
  · have h1 : ¬ (s.size : Int) < (k : Int) := by omega
    have h0s : 0 < s.size := by omega
    by_cases hz0 : (s[0]'h0s).toNat = 0
    · have hz : sizeN s.data.toList k = none := by unfold sizeN; rw [if_pos (.inr (by rw [byte_at s 0 h0s]; exact hz0))]
      have h2 : (((s[0]'h0s).toNat : Nat) : Int) = 0 := by omega
      have HZ := Aside0.mk hz
      clear hz hsl hsk hz0
      go_enter Tryd.func30, Tryd.ntmps30
      go_wp2_with (go_at_call 29; refine (HW.out).mono ?_; rintro e w1 ⟨E, rfl, hB, hb⟩; have B1 := Aside0.mk (And.intro hB hb); clear hB hb HW)
      go_ret2
      exact .inr ⟨HZ.out, E, rfl, B1.out⟩
    · have h2 : ¬ (((s[0]'h0s).toNat : Nat) : Int) = 0 := by omega
      have hz : sizeN s.data.toList k = if nb (s.data.toList.take k) ≤ 55 ∨ 1048576 < nb (s.data.toList.take k) then none else some (nb (s.data.toList.take k)) := by
        unfold sizeN
        rw [if_neg]
        rintro (h | h)
        · omega
        · rw [byte_at s 0 h0s] at h; exact hz0 h
      have HZ := Aside0.mk hz
      have HSK := Aside0.mk hsk
      clear hz hsl hz0
      go_enter Tryd.func30, Tryd.ntmps30
      go_wp2
      go_loopg [6, 19] k (fun gf s6 s19 wx => ∃ (i n : Nat), s6 = .int .u64 n ∧ s19 = .int .i64 i ∧ i + gf = k ∧ Aside0 (n = nb (s.data.toList.take i)) ∧ wx = w)
      case atStart => exact ⟨0, 0, rfl, rfl, by omega, ⟨rfl⟩, rfl⟩
      case round =>
        obtain ⟨i, n, rfl, rfl, hg, HN, rfl⟩ := hrel
        by_cases hi : i < k
        · have hii : (i : Int) < (k : Int) := by omega
          have hsi : i < s.size := by omega
          have hn := nb_take s.data.toList i (by omega)
          rw [← HN.out] at hn
          have hn0 : (n : Int) < 72057594037927936 := by omega
          have hc : (((s[i]'hsi).toNat : Nat) : Int) < 256 := by have := (s[i]'hsi).toNat_lt; omega
          have hor := or_byte (n : Int) (((s[i]'hsi).toNat : Nat) : Int) (by omega) hn0 (by omega) hc
          have HN1 : Aside0 (n * 256 + (s[i]'hsi).toNat = nb (s.data.toList.take (i + 1))) := ⟨by rw [byte_snoc s i hsi, nb_snoc, ← HN.out]; omega⟩
          clear hn
          go_wp2
          go_roundg (gk - 1)
          case measure => omega
          case rel => exact ⟨i + 1, n * 256 + (s[i]'hsi).toNat, by go_num, by go_num, by omega, HN1, rfl⟩
        · have hii : ¬ (i : Int) < (k : Int) := by omega
          have hik : i = k := by omega
          have hN := HN.out
          rw [hik] at hN
          have hz := HZ.out
          rw [← hN] at hz
          by_cases h55 : n ≤ 55 ∨ 1048576 < n
          · rw [if_pos h55] at hz
            have HZ1 := Aside0.mk hz
            clear hz HZ hN hik HN
            rcases h55 with h55 | h55
            · have h5 : (n : Int) ≤ 55 := by omega
              go_wp2_with (go_at_call 29; refine (HW.out).mono ?_; rintro e w1 ⟨E, rfl, hB, hb⟩; have B1 := Aside0.mk (And.intro hB hb); clear hB hb HW)
              go_ret2
              exact .inr ⟨HZ1.out, E, rfl, B1.out⟩
            · have h5 : ¬ (n : Int) ≤ 55 := by omega
              have h6 : 1048576 < (n : Int) := by omega
              go_wp2_with (go_at_call 29; refine (HW.out).mono ?_; rintro e w1 ⟨E, rfl, hB, hb⟩; have B1 := Aside0.mk (And.intro hB hb); clear hB hb HW)
              go_ret2
              exact .inr ⟨HZ1.out, E, rfl, B1.out⟩
          · rw [if_neg h55] at hz
            have HZ1 := Aside0.mk hz
            clear hz HZ hN hik HN
            have h5 : ¬ (n : Int) ≤ 55 := by omega
            have h6 : ¬ 1048576 < (n : Int) := by omega
            go_wp2
            go_ret2
            exact .inl ⟨n, HZ1.out, rfl, rfl⟩
end Go.Proofs.YtibhhikaecpgiaaDoor.R
