/- The contract of guillocheref02.Same, of two rows alike; the walk of RlpJoins. -/
import Derived.Test.YtibhhikaecpgiaaDoorL15
import Derived.Test.YtibhhikaecpgiaaDoorWGuard
set_option linter.unusedSimpArgs false
set_option linter.unusedVariables false
namespace Go.Proofs.YtibhhikaecpgiaaDoor.R
open Go.RowKit Go.Proofs.YtibhhikaecpgiaaDoorW.PrintWords Go.Proofs.YtibhhikaecpgiaaDoorW.PrintLast Go.Proofs.YtibhhikaecpgiaaDoorW.PrintMore

theorem own_strs {W : World} {base e n c : Nat} {A : Option Addr} {xs : List L} (h : W.ownsRow base e 1 (.slice A n c) n (strs xs)) : ReadsOf Value.string ByteArray.empty W A n (xs.map B) := by
  have e : strs xs = encs Value.string (xs.map B) := by simp [strs, encs]
  rw [e] at h
  exact own_reads_of' h
set_option maxRecDepth 100000 in
theorem Same_calls (w : World) (n : Nat) (xs : List ByteArray) (A A' : Option Addr) (c c' : Nat) (h1 : ReadsOf Value.string ByteArray.empty w A n xs) (h2 : ReadsOf Value.string ByteArray.empty w A' n xs) :
    Calls Tryd.prog 10 #[.slice A n c, .slice A' n c'] w fun e w' => e = .returned (.bool true) ∧ Below w.heap.size w w' := by
  have hmax := h1.2.1
  have H1 := Aside0.mk h1
  have H2 := Aside0.mk h2
  clear h1 h2
  go_enter Tryd.func10, Tryd.ntmps10
  go_wp2
  go_loopg [5] n (fun gf s5 wx => ∃ (i : Nat), s5 = .int .i64 i ∧ i + gf = n ∧ Aside0 (Below w.heap.size w wx))
  case atStart => exact ⟨0, rfl, by omega, ⟨Below.refl _ _⟩⟩
  case round =>
    obtain ⟨i, rfl, hg, HB⟩ := hrel
    by_cases hi : i < n
    · have hii : (i : Int) < (n : Int) := by omega
      obtain ⟨ad1, rfl, hc1⟩ := (H1.out.below HB.out).at_ (i : Int) (by omega) hii
      obtain ⟨ad2, rfl, hc2⟩ := (H2.out.below HB.out).at_ (i : Int) (by omega) hii
      rw [Int.toNat_natCast] at hc1 hc2
      go_wp2
      go_region
      go_wp2
      go_roundg (gk - 1)
      case measure => omega
      case rel => exact ⟨i + 1, by go_num, by omega, ⟨below_drew1 HB.out⟩⟩
    · have hii : ¬ (i : Int) < (n : Int) := by omega
      go_wp2
      go_ret
      exact ⟨rfl, HB.out⟩
/-- What rlp.Items answers. -/
def ItemsPost (w : World) (s : L) (e : Ending) (w' : World) : Prop :=
  ((∃ xs A c, itemsL s = some xs ∧ e = .returned (.tuple #[.slice A xs.length c, .int .i64 0]) ∧ ReadsOf Value.string ByteArray.empty w' A xs.length (xs.map B)) ∨
        (itemsL s = none ∧ e = .returned (.tuple #[.slice none 0 0, .int .i64 2]))) ∧ Below w.heap.size w w'
theorem Items_calls (w : World) (s : L) (hs : s.length ≤ 1000000000) : Calls Tryd.prog 9 #[.string (B s)] w (ItemsPost w s) :=
  (callsIn_wide.1 (Items_in w s hs)).mono fun e w' h => by
    obtain ⟨⟨xs, A, c, h1, h2, h3⟩ | h1, hb⟩ := h
    · exact ⟨.inl ⟨xs, A, c, h1, h2, own_strs h3⟩, hb⟩
    · exact ⟨.inr h1, hb⟩
theorem items_len (k : Nat) : ∀ (s : L) (xs : List L), s.length ≤ k → itemsL s = some xs → xs.length ≤ s.length := by
  induction k with
  | zero =>
    intro s xs hk h
    obtain rfl : s = [] := List.eq_nil_of_length_eq_zero (by omega)
    rw [itemsL_nil] at h
    obtain rfl := (Option.some.inj h).symm
    simp
  | succ k ih =>
    intro s xs hk h
    by_cases hs : s = []
    · subst hs
      rw [itemsL_nil] at h
      obtain rfl := (Option.some.inj h).symm
      simp
    · cases hN : splitN s with
      | none => rw [itemsL_none hs hN] at h; cases h
      | some x =>
        obtain ⟨k0, f, t⟩ := x
        have hp := splitN_pos hN
        rw [itemsL_some hN] at h
        obtain ⟨l', h3, rfl⟩ := Option.map_eq_some_iff.1 h
        have := ih (s.drop t) l' (by rw [List.length_drop]; omega) h3
        rw [List.length_drop] at this
        rw [List.length_cons]
        omega
set_option maxRecDepth 100000 in
set_option maxHeartbeats 4000000 in
theorem lawJoins_calls (w : World) (a b : L) (hE : ErrT w) (hgt : 0 < w.heap.size) :
    Calls Tryd.prog 4 #[.string (B a), .string (B b)] w fun e w' => e = .returned (.bool true) ∧ Below w.heap.size w w' := by
  have HWK := Aside0.mk (works_calls w hE hgt)
  clear hE hgt
  by_cases ha : a.length ≤ 400
  · by_cases hb : b.length ≤ 400
    · have ha1 : ¬ 400 < ((B a).size : Int) := by rw [B_size]; omega
      have hb1 : ¬ 400 < ((B b).size : Int) := by rw [B_size]; omega
      have hx3 : B a ++ B b = B (a ++ b) := B_append a b
      have hadd : ¬ 9223372036854775807 < (((B a).size + (B b).size : Nat) : Int) := by rw [B_size, B_size]; omega
      have HA := Aside0.mk (fun W => Items_calls W a (by omega))
      have HBB := Aside0.mk (fun W => Items_calls W b (by omega))
      have HAB := Aside0.mk (fun W => Items_calls W (a ++ b) (by rw [List.length_append]; omega))
      have hap : ∀ xs, itemsL a = some xs → itemsL (a ++ b) = (itemsL b).map (xs ++ ·) := fun xs h => items_append a.length a b xs (Nat.le_refl _) h
      have HAP := Aside0.mk hap
      have HLA := Aside0.mk (fun xs h => items_len a.length a xs (Nat.le_refl _) h)
      have HLB := Aside0.mk (fun xs h => items_len b.length b xs (Nat.le_refl _) h)
      have HL4 := Aside0.mk (And.intro ha hb)
      clear hap ha hb
      generalize B (a ++ b) = bab at *
      generalize B a = ba at *
      generalize B b = bb at *
      go_enter Tryd.func4, Tryd.ntmps4
      go_wp2_with (go_at_call 6; refine (HWK.out).mono ?_; rintro e w1 ⟨rfl, hB1⟩; have B1 := Aside0.mk hB1; clear hB1 HWK)
      refine (HA.out w1).mono ?_
      rintro e w2 ⟨(⟨xs, A1, c1, hxs, rfl, hR1⟩ | ⟨hxs, rfl⟩), hB2⟩
      · have B2 := Aside0.mk (B1.out.trans (hB2.mono B1.out.size))
        have R1 := Aside0.mk hR1
        have HXS := Aside0.mk hxs
        clear hB2 B1 hR1 hxs HA
        go_wp2_with (go_at_call 9; fail)
        refine (HBB.out w2).mono ?_
        rintro e w3 ⟨(⟨ys, A2, c2, hys, rfl, hR2⟩ | ⟨hys, rfl⟩), hB3⟩
        · have B3 := Aside0.mk (B2.out.trans (hB3.mono B2.out.size))
          have R1' := Aside0.mk (R1.out.below hB3)
          have R2 := Aside0.mk hR2
          have HYS := Aside0.mk hys
          clear hB3 B2 hR2 hys HBB R1
          go_wp2_with (go_at_call 9; fail)
          refine (HAB.out w3).mono ?_
          rintro e w4 ⟨(⟨zs, A3, c3, hzs, rfl, hR3⟩ | ⟨hzs, rfl⟩), hB4⟩
          · have hz : zs = xs ++ ys := by
              have h := HAP.out xs HXS.out
              rw [HYS.out, hzs] at h
              simpa using h
            subst hz
            have B4 := Aside0.mk (B3.out.trans (hB4.mono B3.out.size))
            have R1'' := Aside0.mk (R1'.out.below hB4)
            have R2' := Aside0.mk (R2.out.below hB4)
            have R3 := Aside0.mk hR3
            have hxl : xs.length ≤ 400 := Nat.le_trans (HLA.out xs HXS.out) HL4.out.1
            have hyl : ys.length ≤ 400 := Nat.le_trans (HLB.out ys HYS.out) HL4.out.2
            have HXL := Aside0.mk (And.intro hxl hyl)
            clear hB4 B3 hR3 hzs HAB R1' R2 hxl hyl hx3 hadd
            have hB5 := Aside0.mk (below_alloc (Below.refl w4.heap.size w4) (.cells #[] 9))
            go_wp2_with (first
              | ((with_reducible refine gate_dst (N := 71) rfl ?_); refine gate_guard (by rfl) ?_; refine print_append_row_of (w0 := w4) Value.string ByteArray.empty w4.heap.size rfl (.tmp 69) (.tmp 70) 29 9 (.string ⟨#[]⟩) 16 rfl Tryd.underlying29 (by kernel_rfl) rfl (by decide) (fun _ => rfl) _ ([] : List ByteArray) (xs.map B) A1 xs.length c1 rfl rfl (own_lit_of (enc := Value.string) w4 w4.heap.size 9 ([] : List ByteArray) (Nat.le_refl _) (by simp)) (R1''.out.below hB5.out) hB5.out hB5.out.size (by have := HXL.out; simp; omega) ?_; intro v1 w5 hown hB hgr hat; rw [List.nil_append, List.length_map] at hown; obtain ⟨A5, c5, rfl, hlc5⟩ := q_slice (q_of_own hown); have O5 := Aside0.mk hown; have B5 := Aside0.mk hB; clear hown hB hgr hat)
              | ((with_reducible refine gate_dst (N := 73) rfl ?_); refine gate_guard (by rfl) ?_; refine print_append_row_of (w0 := w4) Value.string ByteArray.empty w4.heap.size rfl (.tmp 71) (.tmp 72) 29 9 (.string ⟨#[]⟩) 16 rfl Tryd.underlying29 (by kernel_rfl) rfl (by decide) (fun _ => rfl) _ (xs.map B) (ys.map B) A2 ys.length c2 rfl rfl (by rw [List.length_map]; exact O5.out) (R2'.out.below B5.out) B5.out B5.out.size (by have := HXL.out; simp; omega) ?_; intro v1 w6 hown hB hgr hat; rw [← List.map_append, List.length_map, List.length_append] at hown; obtain ⟨A6, c6, rfl, hlc6⟩ := q_slice (q_of_own hown); have O6 := Aside0.mk hown; have B6 := Aside0.mk hB; clear hown hB hgr hat)
              | (go_at_call 10; fail))
            have hR3 := R3.out
            rw [List.length_append] at hR3
            refine (Same_calls w6 (xs.length + ys.length) ((xs ++ ys).map B) A3 A6 c3 c6 (hR3.below (B6.out.mono (Nat.le_refl _))) (own_reads_of' O6.out)).mono ?_
            rintro e w7 ⟨rfl, hB7⟩
            have B7 := Aside0.mk (B4.out.trans (B6.out.mono B4.out.size) |>.trans (hB7.mono (Nat.le_trans B4.out.size B6.out.size)))
            clear hB7
            go_wp2
            go_ret
            exact ⟨rfl, B7.out⟩
          · exfalso
            have h := HAP.out xs HXS.out
            rw [HYS.out, hzs] at h
            cases h
        · have B3 := Aside0.mk (B2.out.trans (hB3.mono B2.out.size))
          have HYS := Aside0.mk hys
          clear hB3 B2 hys HBB
          go_wp2_with (go_at_call 9; fail)
          refine (HAB.out w3).mono ?_
          rintro e w4 ⟨(⟨zs, A3, c3, hzs, rfl, hR3⟩ | ⟨hzs, rfl⟩), hB4⟩
          · exfalso
            have h := HAP.out xs HXS.out
            rw [HYS.out, hzs] at h
            cases h
          · have B4 := Aside0.mk (B3.out.trans (hB4.mono B3.out.size))
            clear hB4 B3 HAB hx3 hadd
            go_wp2
            go_ret
            exact ⟨rfl, B4.out⟩
      · have B2 := Aside0.mk (B1.out.trans (hB2.mono B1.out.size))
        clear hB2 B1 HA
        go_wp2_with (go_at_call 9; fail)
        refine (HBB.out w2).mono ?_
        rintro e w3 ⟨h3, hB3⟩
        have B3 := Aside0.mk (B2.out.trans (hB3.mono B2.out.size))
        have h3' : ∃ v x, e = .returned (.tuple #[v, x]) := by
          rcases h3 with ⟨ys, A2, c2, _, rfl, _⟩ | ⟨_, rfl⟩ <;> exact ⟨_, _, rfl⟩
        obtain ⟨v3, x3, rfl⟩ := h3'
        clear hB3 B2 h3 HBB
        go_wp2_with (go_at_call 9; fail)
        refine (HAB.out w3).mono ?_
        rintro e w4 ⟨h4, hB4⟩
        have B4 := Aside0.mk (B3.out.trans (hB4.mono B3.out.size))
        have h4' : ∃ v x, e = .returned (.tuple #[v, x]) := by
          rcases h4 with ⟨ys, A2, c2, _, rfl, _⟩ | ⟨_, rfl⟩ <;> exact ⟨_, _, rfl⟩
        obtain ⟨v4, x4, rfl⟩ := h4'
        clear hB4 B3 h4 HAB hx3 hadd
        go_wp2
        go_ret
        exact ⟨rfl, B4.out⟩
    · have ha1 : ¬ 400 < ((B a).size : Int) := by rw [B_size]; omega
      have hb1 : 400 < ((B b).size : Int) := by rw [B_size]; omega
      generalize B a = ba at *
      generalize B b = bb at *
      go_enter Tryd.func4, Tryd.ntmps4
      go_wp2_with (go_at_call 6; refine (HWK.out).mono ?_; rintro e w1 ⟨rfl, hB1⟩; have B1 := Aside0.mk hB1; clear hB1 HWK)
      go_ret
      exact ⟨rfl, B1.out⟩
  · have ha1 : 400 < ((B a).size : Int) := by rw [B_size]; omega
    generalize B a = ba at *
    generalize B b = bb at *
    go_enter Tryd.func4, Tryd.ntmps4
    go_wp2_with (go_at_call 6; refine (HWK.out).mono ?_; rintro e w1 ⟨rfl, hB1⟩; have B1 := Aside0.mk hB1; clear hB1 HWK)
    go_ret
    exact ⟨rfl, B1.out⟩
end Go.Proofs.YtibhhikaecpgiaaDoor.R
