/- The walk of RlpCuts. -/
import Derived.Test.YtibhhikaecpgiaaDoorL15
set_option linter.unusedSimpArgs false
set_option linter.unusedVariables false
namespace Go.Proofs.YtibhhikaecpgiaaDoor.R
open Go.RowKit Go.Proofs.YtibhhikaecpgiaaDoorW.PrintWords Go.Proofs.YtibhhikaecpgiaaDoorW.PrintLast Go.Proofs.YtibhhikaecpgiaaDoorW.PrintMore

theorem check_none (d : Nat) {x : L} (h : splitN x = none) : checkL d x = false := by cases d <;> (unfold checkL; rw [h])
theorem check_cut (d : Nat) (k : Bool) (b : L) (hb : b.length ≤ 1048576) (j : Nat) (hj : j < (putL k b).length) : checkL d ((putL k b).take j) = false := check_none d (splitN_none (cut_none k b hb j hj))
theorem check_more (d : Nat) (k : Bool) (b r : L) (hb : b.length ≤ 1048576) (hr : 1 ≤ r.length) : checkL d (putL k b ++ r) = false := by
  obtain ⟨f, t, hN, h1, h2⟩ := splitN_put k b r hb
  have hl := congrArg List.length h2
  rw [List.length_drop] at hl
  have hnot : ¬ (putL k b ++ r).length ≤ t := by omega
  cases d <;> (unfold checkL; rw [hN]; simp only [decide_eq_false hnot, Bool.false_and])
theorem check_text (d : Nat) (b : L) (hb : b.length ≤ 1048576) : checkL d (textL b) = true := by
  obtain ⟨f, t, hN, h1, h2⟩ := splitN_put false b [] hb
  have hl := congrArg List.length h2
  rw [List.length_drop, List.append_nil] at hl
  rw [List.append_nil] at hN
  have : (textL b).length ≤ t := by simp at hl; show (putL false b).length ≤ t; omega
  have hN' : splitN (textL b) = some (false, f, t) := hN
  cases d <;> (unfold checkL; rw [hN']; simp [this])
theorem check_list (b c : L) (hb : b.length ≤ 1048576) (hc : c.length ≤ 1048576) (hs : (textL b ++ textL c).length ≤ 1048576) : checkL 32 (listL (textL b ++ textL c)) = true := by
  obtain ⟨f, t, hN, h1, h2⟩ := splitN_put true (textL b ++ textL c) [] hs
  have hl := congrArg List.length h2
  rw [List.append_nil] at hN h1 hl
  rw [List.length_drop] at hl
  have ht : (listL (textL b ++ textL c)).length ≤ t := by simp at hl; show (putL true (textL b ++ textL c)).length ≤ t; omega
  have hN' : splitN (listL (textL b ++ textL c)) = some (true, f, t) := hN
  have h1' : (listL (textL b ++ textL c)).drop f = textL b ++ textL c := by
    have h3 : (putL true (textL b ++ textL c)).take t = putL true (textL b ++ textL c) := List.take_of_length_le ht
    rw [h3] at h1
    exact h1
  unfold checkL
  rw [hN']
  simp only [h1', items_two b c hb hc]
  simp [ht, check_text 31 b hb, check_text 31 c hc]
theorem text_le (b : L) : (textL b).length ≤ b.length + 9 := by
  unfold textL wrapL
  have h8 := dg_length 8 b.length
  split
  · omega
  · split
    · simp
    · simp; omega
theorem list_le (b : L) : (listL b).length ≤ b.length + 9 := by
  unfold listL wrapL
  have h8 := dg_length 8 b.length
  split
  · simp
  · simp; omega
theorem splitAns_none {x : L} (h : splitL x = none) : splitAns x = .tuple #[.bool false, .string ⟨#[]⟩, .string ⟨#[]⟩, .int .i64 2] := by unfold splitAns; rw [h]
theorem texts_eq (b c : L) (hb : b.length ≤ 1048576) (hc : c.length ≤ 1048576) : ((B (textL b)).toList == (B (textL c)).toList) = ((B b).toList == (B c).toList) := by
  simp only [ByteArray.toList_eq, B_data]
  by_cases h : b = c
  · rw [h]; simp
  · have h2 : ¬ textL b = textL c := fun e => h (text_inj hb hc e)
    rw [beq_eq_false_iff_ne.2 h, beq_eq_false_iff_ne.2 h2]
set_option maxRecDepth 100000 in
set_option maxHeartbeats 4000000 in
theorem lawCuts_calls (w : World) (b c : L) (a : Nat) (ha : a < 65536) (hE : ErrT w) (hgt : 0 < w.heap.size) :
    Calls Tryd.prog 5 #[.string (B b), .string (B c), .int .u16 a] w fun e w' => e = .returned (.bool true) ∧ Below w.heap.size w w' := by
  have HWK := Aside0.mk (works_calls w hE hgt)
  clear hE hgt
  by_cases hb : b.length ≤ 400
  · by_cases hc : c.length ≤ 400
    · have hb1 : ¬ 400 < ((B b).size : Int) := by rw [B_size]; omega
      have hc1 : ¬ 400 < ((B c).size : Int) := by rw [B_size]; omega
      have hs := text_le b
      have ht := text_le c
      have hlen : (textL b ++ textL c).length ≤ 818 := by rw [List.length_append]; omega
      have hll : (listL (textL b ++ textL c)).length ≤ 827 := by have := list_le (textL b ++ textL c); omega
      have hp1 : 1 ≤ (textL b).length := put_pos false b
      have hp2 : 1 ≤ (listL (textL b ++ textL c)).length := put_pos true _
      have HTB := Aside0.mk (fun W => text_calls W b (by omega))
      have HTC := Aside0.mk (fun W => text_calls W c (by omega))
      have HL : Aside0 (∀ W : World, Calls Tryd.prog 12 #[.slice (some ⟨W.heap.size, 0, none⟩) 2 2] (W.alloc (.cells #[.string (B (textL b)), .string (B (textL c))] 9)) fun e w' => e = .returned (.string (B (listL (textL b ++ textL c)))) ∧ Below W.heap.size W w') := ⟨fun W => by
        have h := listn_calls W [textL b, textL c] #[.string (B (textL b)), .string (B (textL c))] 2 rfl rfl (by simp at hlen ⊢; omega) (by simp)
        have e : [textL b, textL c].flatten = textL b ++ textL c := by simp
        rwa [e] at h⟩
      have HEQ := Aside0.mk (texts_eq b c (by omega) (by omega))
      obtain ⟨s, hS⟩ : ∃ s, textL b = s := ⟨_, rfl⟩
      obtain ⟨tc, hT⟩ : ∃ s, textL c = s := ⟨_, rfl⟩
      have hcl := check_list b c (by omega) (by omega) (by omega)
      have hcm := check_more 32 true (textL b ++ textL c) (textL b) (by omega) hp1
      have hcutL := fun j hj => splitAns_none (cut_none true (textL b ++ textL c) (by omega) j hj)
      have hcutS := check_cut 32 false b (by omega)
      change ∀ j, j < (textL b).length → checkL 32 ((textL b).take j) = false at hcutS
      change checkL 32 (listL (textL b ++ textL c) ++ textL b) = false at hcm
      change ∀ j, j < (listL (textL b ++ textL c)).length → splitAns ((listL (textL b ++ textL c)).take j) = _ at hcutL
      obtain ⟨l, hl⟩ : ∃ s, listL (textL b ++ textL c) = s := ⟨_, rfl⟩
      rw [hl] at HL hcl hcm hcutL hll hp2
      rw [hS] at HTB HL HEQ hcm hcutS hp1 hs hlen
      rw [hT] at HTC HL HEQ ht hlen
      clear hl
      obtain ⟨r1, hr1⟩ : ∃ r, a % l.length = r := ⟨_, rfl⟩
      obtain ⟨r2, hr2⟩ : ∃ r, a % s.length = r := ⟨_, rfl⟩
      have hr1l : r1 < l.length := by rw [← hr1]; exact Nat.mod_lt _ hp2
      have hr2l : r2 < s.length := by rw [← hr2]; exact Nat.mod_lt _ hp1
      have hlI : ((B l).size : Int) = (l.length : Int) := by rw [B_size]
      have hsI : ((B s).size : Int) = (s.length : Int) := by rw [B_size]
      have HSP : Aside0 (∀ W : World, Calls Tryd.prog 13 #[.string (B (l.take r1))] W fun e w' => e = .returned (.tuple #[.bool false, .string ⟨#[]⟩, .string ⟨#[]⟩, .int .i64 2]) ∧ Below W.heap.size W w') := ⟨fun W => by
        have h := Split_calls W (l.take r1) (by rw [List.length_take]; omega)
        rwa [hcutL r1 hr1l] at h⟩
      have HC1 : Aside0 (∀ W : World, Calls Tryd.prog 14 #[.string (B (s.take r2))] W fun e w' => e = .returned (.int .i64 2) ∧ Below W.heap.size W w') := ⟨fun W => by
        have h := Check_calls W (s.take r2) (by rw [List.length_take]; omega)
        rwa [hcutS r2 hr2l] at h⟩
      have HC2 : Aside0 (∀ W : World, Calls Tryd.prog 14 #[.string (B (l ++ s))] W fun e w' => e = .returned (.int .i64 2) ∧ Below W.heap.size W w') := ⟨fun W => by
        have h := Check_calls W (l ++ s) (by rw [List.length_append]; omega)
        rwa [hcm] at h⟩
      have HC3 : Aside0 (∀ W : World, Calls Tryd.prog 14 #[.string (B l)] W fun e w' => e = .returned (.int .i64 0) ∧ Below W.heap.size W w') := ⟨fun W => by
        have h := Check_calls W l (by omega)
        rwa [hcl] at h⟩
      have hx1 : (B l).extract 0 r1 = B (l.take r1) := by rw [B_extract l 0 r1 (by omega)]; rfl
      have hx2 : (B s).extract 0 r2 = B (s.take r2) := by rw [B_extract s 0 r2 (by omega)]; rfl
      have hx3 : B l ++ B s = B (l ++ s) := B_append l s
      have hadd : ¬ 9223372036854775807 < (((B l).size + (B s).size : Nat) : Int) := by rw [B_size, B_size]; omega
      have hm1 : (a : Int) % ((B l).size : Int) = (r1 : Int) := by rw [hlI, ← hr1]; norm_cast
      have hm2 : (a : Int) % ((B s).size : Int) = (r2 : Int) := by rw [hsI, ← hr2]; norm_cast
      have hz1 : ¬ ((B l).size : Int) = 0 := by omega
      have hz2 : ¬ ((B s).size : Int) = 0 := by omega
      have hq1 : (r1 : Int) ≤ ((B l).size : Int) := by omega
      have hq2 : (r2 : Int) ≤ ((B s).size : Int) := by omega
      have ha0 : (a : Int) < 65536 := by omega
      have HX1 := Aside0.mk (And.intro hx1 (And.intro hm1 (And.intro hz1 hq1)))
      have HX2 := Aside0.mk (And.intro hx2 (And.intro hm2 (And.intro hz2 hq2)))
      have HX3 := Aside0.mk (And.intro hx3 hadd)
      have HA0 := Aside0.mk ha0
      clear ha0 ha
      clear hx1 hx2 hx3 hm1 hm2 hz1 hz2 hq1 hq2 hadd
      clear hcl hcm hcutL hcutS hS hT hr1 hr2 hr1l hr2l hlI hsI hs ht hlen hll hp1 hp2 hb hc
      generalize B (l.take r1) = x1 at *
      generalize B (s.take r2) = x2 at *
      generalize B (l ++ s) = x3 at *
      generalize B l = bl at *
      generalize B s = bs at *
      generalize B tc = bt at *
      generalize B b = bb at *
      generalize B c = bc at *
      go_enter Tryd.func5, Tryd.ntmps5
      go_wp2_with (go_at_call 6; refine (HWK.out).mono ?_; rintro e w1 ⟨rfl, hB1⟩; have B1 := Aside0.mk hB1; clear hB1 HWK)
      refine (HTB.out w1).mono ?_
      rintro e w2 ⟨rfl, hB2⟩
      have B2 := Aside0.mk (B1.out.trans (hB2.mono B1.out.size))
      clear hB2 B1
      go_wp2_with (go_at_call 11; fail)
      refine (HTC.out w2).mono ?_
      rintro e w3 ⟨rfl, hB3⟩
      have B3 := Aside0.mk (B2.out.trans (hB3.mono B2.out.size))
      clear hB3 B2
      go_wp2_with (go_at_call 12; fail)
      refine (HL.out w3).mono ?_
      rintro e w4 ⟨rfl, hB4⟩
      have B4 := Aside0.mk (B3.out.trans (hB4.mono B3.out.size))
      clear hB4 B3
      obtain ⟨hx1, hm1, hz1, hq1⟩ := HX1.out
      have ha0 := HA0.out
      go_wp2_with (go_at_call 13; fail)
      refine (HSP.out w4).mono ?_
      rintro e w5 ⟨rfl, hB5⟩
      have B5 := Aside0.mk (B4.out.trans (hB5.mono B4.out.size))
      clear hB5 B4 hx1 hm1 hz1 hq1
      obtain ⟨hx2, hm2, hz2, hq2⟩ := HX2.out
      go_wp2_with (go_at_call 14; fail)
      refine (HC1.out w5).mono ?_
      rintro e w6 ⟨rfl, hB6⟩
      have B6 := Aside0.mk (B5.out.trans (hB6.mono B5.out.size))
      clear hB6 B5 hx2 hm2 hz2 hq2
      obtain ⟨hx3, hadd⟩ := HX3.out
      go_wp2_with (go_at_call 14; fail)
      refine (HC2.out w6).mono ?_
      rintro e w7 ⟨rfl, hB7⟩
      have B7 := Aside0.mk (B6.out.trans (hB7.mono B6.out.size))
      clear hB7 B6
      go_wp2_with (go_at_call 14; fail)
      refine (HC3.out w7).mono ?_
      rintro e w8 ⟨rfl, hB8⟩
      have B8 := Aside0.mk (B7.out.trans (hB8.mono B7.out.size))
      clear hB8 B7
      go_wp2_with (go_at_call 11; fail)
      refine (HTC.out w8).mono ?_
      rintro e w9 ⟨rfl, hB9⟩
      have B9 := Aside0.mk (B8.out.trans (hB9.mono B8.out.size))
      clear hB9 B8
      have HEQ2 := HEQ.out
      go_wp2
      go_ret
      exact ⟨rfl, B9.out⟩
    · have hb1 : ¬ 400 < ((B b).size : Int) := by rw [B_size]; omega
      have hc1 : 400 < ((B c).size : Int) := by rw [B_size]; omega
      generalize B b = bb at *
      generalize B c = bc at *
      go_enter Tryd.func5, Tryd.ntmps5
      go_wp2_with (go_at_call 6; refine (HWK.out).mono ?_; rintro e w1 ⟨rfl, hB1⟩; have B1 := Aside0.mk hB1; clear hB1 HWK)
      go_ret
      exact ⟨rfl, B1.out⟩
  · have hb1 : 400 < ((B b).size : Int) := by rw [B_size]; omega
    generalize B b = bb at *
    generalize B c = bc at *
    go_enter Tryd.func5, Tryd.ntmps5
    go_wp2_with (go_at_call 6; refine (HWK.out).mono ?_; rintro e w1 ⟨rfl, hB1⟩; have B1 := Aside0.mk hB1; clear hB1 HWK)
    go_ret
    exact ⟨rfl, B1.out⟩
end Go.Proofs.YtibhhikaecpgiaaDoor.R
