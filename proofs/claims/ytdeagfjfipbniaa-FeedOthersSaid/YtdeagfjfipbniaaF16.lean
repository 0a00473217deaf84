/- What is done of one session is nothing to another one. -/
import Derived.Test.YtdeagfjfipbniaaF15
set_option linter.unusedSimpArgs false
set_option linter.unusedVariables false
namespace Go.Proofs.Ytdeagfjfipbniaa.F
open Go.RowKit Go.Proofs.YtdeagfjfipbniaaW.PrintWords Go.Proofs.YtdeagfjfipbniaaW.PrintLast Go.Proofs.YtdeagfjfipbniaaW.PrintMore

abbrev roomOf (room : Int) : Int := min (max room 1) 4
/-- What lies at a round of the acts. -/
structure Rounds (base p mb : Nat) (room : Int) (A : Option Addr) (l : List Act4) (w4 W : World) (i : Nat) (G : List Row) : Prop where
  feed : FeedAt base W p (roomOf room) mb i G
  inv : Inv (roomOf room) G
  below : Below base w4 W
set_option maxRecDepth 100000 in
set_option maxHeartbeats 4000000 in
theorem others_calls (w : World) (room : Int) (A : Option Addr) (c : Nat) (l : List Act4) (a : Act4) (s : Int) (hl : ActsAt w A l) (hlw : ∀ x ∈ l, wfI x.s) (haw : wfI a.s) (hsw : wfI s) :
    Calls Try.prog 4 #[.int .i64 room, .slice A l.length c, actV a, .int .i64 s] w fun e w' => e = .returned (.bool true) ∧ Below w.heap.size w w' := by
  have HL := Aside0.mk hl
  have HLW := Aside0.mk (And.intro hlw (And.intro haw hsw))
  clear hl hlw haw hsw
  unfold actV
  go_enter Try.func4, Try.ntmps4
  go_wp2_with (go_at_call 6; fail)
  obtain ⟨w1, hw1⟩ : ∃ w1, w.alloc (.cells #[.int .i64 a.K, .int .i64 a.s, .int .i64 a.b, .string a.r] 36) = w1 := ⟨_, rfl⟩
  have hb1 : Below w.heap.size w w1 := by rw [← hw1]; exact (Below.refl _ _).alloc (Nat.le_refl _) _
  have hbox1 : w1.heap[w.heap.size]? = some (Obj.cells #[.int .i64 a.K, .int .i64 a.s, .int .i64 a.b, .string a.r] 36 (0, 0)) := by rw [← hw1]; exact heap_alloc_new w _
  rw [hw1]
  refine (works_calls w1).mono ?_
  rintro e w2 ⟨rfl, hb2⟩
  have X2 := Aside0.mk ((hb2.block _ (blk_lt hbox1)).trans hbox1)
  have B2 := Aside0.mk (hb1.trans (hb2.mono hb1.size))
  clear hb1 hbox1 hw1 hb2
  go_wp2_with (go_at_call 7; fail)
  refine (new_calls w2 room).mono ?_
  rintro e w3 ⟨p, mb, rfl, h3, hb3⟩
  have F3 := Aside0.mk h3
  have B3 := Aside0.mk (B2.out.trans (hb3.mono B2.out.size))
  have C3 := Aside0.mk hb3
  have L3 := Aside0.mk (HL.out.below B3.out)
  clear h3 hb3
  go_wp2_with (go_at_call 8; fail)
  refine (few_calls w3 A c l L3.out).mono ?_
  rintro e w3' ⟨lk, rfl, hlk, rfl⟩
  have X3 := Aside0.mk ((C3.out.block _ (blk_lt X2.out)).trans X2.out)
  have BX := Aside0.mk (blk_lt X2.out)
  cases lk with
  | false =>
    go_wp2
    go_ret
    exact ⟨rfl, B3.out⟩
  | true =>
    have LK := Aside0.mk (hlk rfl)
    clear hlk
    have b0 : w3'.cell? ⟨w.heap.size, 0, none⟩ = some (.int .i64 a.K) := blk_cell X3.out 0
    have b1 : w3'.cell? ⟨w.heap.size, 1, none⟩ = some (.int .i64 a.s) := blk_cell X3.out 1
    have b2 : w3'.cell? ⟨w.heap.size, 2, none⟩ = some (.int .i64 a.b) := blk_cell X3.out 2
    have b3 : w3'.cell? ⟨w.heap.size, 3, none⟩ = some (.string a.r) := blk_cell X3.out 3
    obtain ⟨w4, hw4⟩ : ∃ w4, w3'.alloc (.cells #[.int .i64 a.K, .int .i64 a.s, .int .i64 a.b, .string a.r] 36) = w4 := ⟨_, rfl⟩
    have hb4 : Below w3'.heap.size w3' w4 := by rw [← hw4]; exact (Below.refl _ _).alloc (Nat.le_refl _) _
    have hc4 : w4.heap[w3'.heap.size]? = some (Obj.cells #[.int .i64 a.K, .int .i64 a.s, .int .i64 a.b, .string a.r] 36 (0, 0)) := by rw [← hw4]; exact heap_alloc_new w3' _
    have ha4 : ActsAt w4 (some ⟨w3'.heap.size, 0, none⟩) [a] := fun i x hi => by
      cases i with
      | succ i => simp at hi
      | zero =>
        obtain rfl : a = x := Option.some.inj hi
        have e0 : (⟨w3'.heap.size, 0, none⟩ : Addr).add (0 * 4) = ⟨w3'.heap.size, 0, none⟩ := rfl
        exact ⟨_, rfl, blk_cell hc4 0, blk_cell hc4 1, blk_cell hc4 2, blk_cell hc4 3⟩
    have A4 := Aside0.mk ha4
    have F4 := Aside0.mk (F3.out.later hb4)
    have B4 := Aside0.mk (B3.out.trans (hb4.mono B3.out.size))
    have X4 := Aside0.mk ((hb4.block _ (blk_lt X3.out)).trans X3.out)
    have L4 := Aside0.mk (L3.out.below hb4)
    have HW4 := Aside0.mk hw4
    clear hw4 hb4 hc4 ha4
    go_wp2_with (go_at_call 8; fail)
    rw [HW4.out]
    have hfew := few_calls w4 (some ⟨w3'.heap.size, 0, none⟩) 1 [a] A4.out
    rw [show ([a] : List Act4).length = 1 from rfl] at hfew
    refine hfew.mono ?_
    rintro e w4' ⟨lk2, rfl, _, rfl⟩
    clear hfew b0 b1 b2 b3
    have b0 : w4'.cell? ⟨w.heap.size, 0, none⟩ = some (.int .i64 a.K) := blk_cell X4.out 0
    have b1 : w4'.cell? ⟨w.heap.size, 1, none⟩ = some (.int .i64 a.s) := blk_cell X4.out 1
    cases lk2 with
    | false =>
      go_wp2
      go_ret
      exact ⟨rfl, B4.out⟩
    | true =>
      by_cases hs : a.s = s
      · go_wp2
        go_ret
        exact ⟨rfl, B4.out⟩
      by_cases hK : a.K = 2
      · go_wp2
        go_ret
        exact ⟨rfl, B4.out⟩
      have HS := Aside0.mk hs
      have HK := Aside0.mk hK
      have hs' : (a.s == s) = false := by simpa using hs
      have hK' : (a.K == 2) = false := by simpa using hK
      go_wp2
      have LL : Aside0 (∀ ad, A = some ad → l ≠ [] → ad.block < w2.heap.size) := ⟨fun ad e hne => by have := HL.out.lt ad e hne; have := B2.out.size; omega⟩
      clear hs hK hs' hK' b0 b1
      go_loopw [12] (fun x wr => ∃ (i : Nat) (G : List Row), x = .int .i64 i ∧ i ≤ l.length ∧ Aside0 (Rounds w2.heap.size p mb room A l w4' wr i G)) (fun x _ => l.length - (intOf x).toNat)
      case atStart => exact ⟨0, [], rfl, Nat.zero_le _, ⟨⟨F4.out, ⟨fun r hr => by simp at hr, by decide⟩, Below.refl _ _⟩⟩⟩
      case round =>
        obtain ⟨i, G, rfl, hi, R1⟩ := hrel
        have LW := Aside0.mk (L4.out.belowK LL.out R1.out.below)
        by_cases h1 : i < l.length
        · have h1' : (i : Int) < (l.length : Int) := by omega
          have hib : (i : Int) < 1000 := by have := LK.out; omega
          obtain ⟨ad, rfl, c0, c1, c2, c3⟩ := LW.out i l[i] (List.getElem?_eq_getElem h1)
          have HM := Aside0.mk (List.getElem_mem h1)
          have hdo := do_calls w2.heap.size p mb i wr (roomOf room) G l[i] R1.out.feed (by have := LK.out; omega) (HLW.out.1 _ HM.out) (by unfold roomOf; omega) (by unfold roomOf; omega) R1.out.inv
          unfold actV at hdo
          have DO := Aside0.mk hdo
          clear hdo
          go_wp2_with (go_at_call 9; fail)
          refine DO.out.mono ?_
          rintro e W2 ⟨⟨v, rfl⟩, hb, G', hF, hD⟩
          have R2 : Aside0 (Rounds w2.heap.size p mb room (some ad) l w4' W2 (i + 1) G') := ⟨⟨hF, did_inv hD R1.out.inv R1.out.feed.rising (by unfold roomOf; omega), R1.out.below.trans hb⟩⟩
          clear hb hF hD c0 c1 c2 c3
          go_wp2
          go_roundw
          case rel => exact ⟨i + 1, G', by simp, h1, R2⟩
          case measure => simp [intOf]; omega
        · have h1' : ¬ ((i : Int) < (l.length : Int)) := by omega
          have X5 := Aside0.mk ((R1.out.below.block _ BX.out).trans X4.out)
          have IL : Aside0 (i < 900000) := ⟨by have := LK.out; omega⟩
          clear h1
          go_wp2_with (go_at_call 12; fail)
          refine (follows_calls w2.heap.size p mb i wr (roomOf room) G s R1.out.feed HLW.out.2.2).mono ?_
          rintro e wr1 ⟨rfl, rfl⟩
          go_wp2_with (go_at_call 11; fail)
          refine (waiting_calls w2.heap.size p mb i wr1 (roomOf room) G s R1.out.feed HLW.out.2.2).mono ?_
          rintro e wr2 ⟨rfl, rfl⟩
          have b0 : wr2.cell? ⟨w.heap.size, 0, none⟩ = some (.int .i64 a.K) := blk_cell X5.out 0
          have b1 : wr2.cell? ⟨w.heap.size, 1, none⟩ = some (.int .i64 a.s) := blk_cell X5.out 1
          have b2 : wr2.cell? ⟨w.heap.size, 2, none⟩ = some (.int .i64 a.b) := blk_cell X5.out 2
          have b3 : wr2.cell? ⟨w.heap.size, 3, none⟩ = some (.string a.r) := blk_cell X5.out 3
          have hdo := do_calls w2.heap.size p mb i wr2 (roomOf room) G a R1.out.feed IL.out HLW.out.2.1 (by unfold roomOf; omega) (by unfold roomOf; omega) R1.out.inv
          unfold actV at hdo
          have DO := Aside0.mk hdo
          clear hdo
          go_wp2_with (go_at_call 9; fail)
          refine DO.out.mono ?_
          rintro e W2 ⟨⟨v, rfl⟩, hb, G', hF, hD⟩
          have hlk2 := did_other hD (fun e => HS.out e.symm) HK.out
          have LK2 := Aside0.mk hlk2
          have F2 := Aside0.mk hF
          have E2 := Aside0.mk (B4.out.trans ((R1.out.below.trans hb).mono B2.out.size))
          clear hb hF hD b0 b1 b2 b3 hlk2
          go_wp2_with (go_at_call 12; fail)
          refine (follows_calls w2.heap.size p mb (i + 1) W2 (roomOf room) G' s F2.out HLW.out.2.2).mono ?_
          rintro e W3 ⟨rfl, rfl⟩
          rw [LK2.out]
          go_wp2_with (go_at_call 11; fail)
          refine (waiting_calls w2.heap.size p mb (i + 1) W3 (roomOf room) G' s F2.out HLW.out.2.2).mono ?_
          rintro e W4 ⟨rfl, rfl⟩
          rw [LK2.out]
          go_wp2
          go_ret
          exact ⟨rfl, E2.out⟩
end Go.Proofs.Ytdeagfjfipbniaa.F
