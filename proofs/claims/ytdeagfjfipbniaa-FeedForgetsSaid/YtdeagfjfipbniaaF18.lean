/- There are never more than there may be. Printed by mkF18.py. -/
import Derived.Test.YtdeagfjfipbniaaF17
import Derived.BigQuiet
import Derived.Deep.QuietTactic
set_option linter.unusedSimpArgs false
set_option linter.unusedVariables false
namespace Go.Proofs.Ytdeagfjfipbniaa.F
open Go.RowKit Go.Proofs.YtdeagfjfipbniaaW.PrintWords Go.Proofs.YtdeagfjfipbniaaW.PrintLast Go.Proofs.YtdeagfjfipbniaaW.PrintMore

theorem waits_le {room : Int} {G : List Row} (h : Inv room G) (k : Int) (h0 : 0 ≤ room + 1) : (waits (look k G) : Int) ≤ room + 1 := by
  cases hl : look k G with
  | none => simpa [waits] using h0
  | some r => exact h.q r (look_some hl).1
theorem count_take (G : List Row) (j : Nat) (r : Row) (h : G[j]? = some r) : count (G.take (j + 1)) = count (G.take j) + if r.f then 1 else 0 := by
  rw [List.take_add_one, h]
  exact count_snoc _ _
theorem count_take_le (G : List Row) (j : Nat) : count (G.take j) ≤ count G := by
  have h : count G = count (G.take j) + count (G.drop j) := by
    unfold count
    rw [← List.length_append, ← List.filter_append, List.take_append_drop]
  omega
set_option maxRecDepth 100000 in
set_option maxHeartbeats 4000000 in
theorem room_calls (w : World) (room : Int) (A : Option Addr) (c : Nat) (l : List Act4) (hl : ActsAt w A l) (hlw : ∀ x ∈ l, wfI x.s) :
    Calls Try.prog 3 #[.int .i64 room, .slice A l.length c] w fun e w' => e = .returned (.bool true) ∧ Below w.heap.size w w' := by
  have HL := Aside0.mk hl
  have HLW := Aside0.mk hlw
  clear hl hlw
  go_enter Try.func3, Try.ntmps3
  go_wp2_with (go_at_call 6; fail)
  refine (works_calls w).mono ?_
  rintro e w2 ⟨rfl, hb2⟩
  have B2 := Aside0.mk hb2
  clear hb2
  go_wp2_with (go_at_call 7; fail)
  refine (new_calls w2 room).mono ?_
  rintro e w3 ⟨p, mb, rfl, h3, hb3⟩
  have F4 := Aside0.mk h3
  have B4 := Aside0.mk (B2.out.trans (hb3.mono B2.out.size))
  have L4 := Aside0.mk (HL.out.below B4.out)
  clear h3 hb3
  go_wp2_with (go_at_call 8; fail)
  refine (few_calls w3 A c l L4.out).mono ?_
  rintro e w4 ⟨lk, rfl, hlk, rfl⟩
  cases lk with
  | false =>
    go_wp2
    go_ret
    exact ⟨rfl, B4.out⟩
  | true =>
    have LK := Aside0.mk (hlk rfl)
    clear hlk
    have LL : Aside0 (∀ ad, A = some ad → l ≠ [] → ad.block < w2.heap.size) := ⟨fun ad e hne => by have := HL.out.lt ad e hne; have := B2.out.size; omega⟩
    go_wp2
    go_loopw [8] (fun x wr => ∃ (i : Nat) (G : List Row), x = .int .i64 i ∧ i ≤ l.length ∧ Aside0 (Rounds w2.heap.size p mb room A l w4 wr i G)) (fun x _ => l.length - (intOf x).toNat)
    case atStart => exact ⟨0, [], rfl, Nat.zero_le _, ⟨⟨F4.out, ⟨fun r hr => by simp at hr, by decide⟩, Below.refl _ _⟩⟩⟩
    case round =>
      obtain ⟨i, G, rfl, hi, R1⟩ := hrel
      have LW := Aside0.mk (L4.out.belowK LL.out R1.out.below)
      by_cases h1 : i < l.length
      · have h1' : (i : Int) < (l.length : Int) := by omega
        have hib : (i : Int) < 1000 := by have := LK.out; omega
        obtain ⟨ad, rfl, c0, c1, c2, c3⟩ := LW.out i l[i] (List.getElem?_eq_getElem h1)
        have HM := Aside0.mk (List.getElem_mem h1)
        have hdo := do_calls w2.heap.size p mb i wr (roomOf room) G l[i] R1.out.feed (by have := LK.out; omega) (HLW.out _ HM.out) (by unfold roomOf; omega) (by unfold roomOf; omega) R1.out.inv
        unfold actV at hdo
        have DO := Aside0.mk hdo
        clear hdo
        go_wp2_with (go_at_call 9; fail)
        refine DO.out.mono ?_
        rintro e W2 ⟨⟨v, rfl⟩, hb, G', hF, hD⟩
        have R2 : Aside0 (Rounds w2.heap.size p mb room (some ad) l w4 W2 (i + 1) G') := ⟨⟨hF, did_inv hD R1.out.inv R1.out.feed.rising (by unfold roomOf; omega), R1.out.below.trans hb⟩⟩
        clear hb hF hD c0 c1 c2 c3
        go_wp2_with (go_at_call 10; fail)
        refine (sessions_calls w2.heap.size p mb (i + 1) W2 (roomOf room) G' R2.out.feed (by have := LK.out; omega)).mono ?_
        rintro e w8 ⟨v8, rfl, hrow, hb8⟩
        have R8 : Aside0 (Rounds w2.heap.size p mb room (some ad) l w4 w8 (i + 1) G') := ⟨⟨R2.out.feed.later hb8, R2.out.inv, R2.out.below.trans (hb8.mono R2.out.feed.size)⟩⟩
        obtain ⟨A8, c8, rfl, _⟩ := q_slice (q_of_own hrow)
        have Q8 := Aside0.mk hrow
        have LG : Aside0 (G'.length ≤ 61) := ⟨by have h1 := R8.out.feed.map.size_le; rw [datum_size] at h1; have := LK.out; omega⟩
        clear hrow hb8
        go_wp2
        go_loopw [10, 11] (fun f x wr => ∃ (j q : Nat), x = .int .i64 j ∧ j ≤ G'.length ∧ wr = w8.drewN q ∧ f = .int .i64 (count (G'.take j))) (fun _ x _ => G'.length - (intOf x).toNat)
        case atStart => exact ⟨0, 0, rfl, Nat.zero_le _, rfl, rfl⟩
        case round =>
          obtain ⟨j, q, rfl, hj, hwr, rfl⟩ := hrel
          have FR : Aside0 (FeedAt w2.heap.size wr p (roomOf room) mb (i + 1) G') := ⟨by rw [hwr]; exact R8.out.feed.keep fun _ _ _ => rfl⟩
          have QR : Aside0 (wr.ownsRow w2.heap.size 3 1 (.slice A8 G'.length c8) G'.length (keyCells G')) := ⟨by rw [hwr]; exact own_move (own_weaken Q8.out R2.out.feed.size) fun _ _ => rfl⟩
          have WR := Aside0.mk hwr
          have CT : Aside0 (count (G'.take j) ≤ 4) := ⟨Nat.le_trans (count_take_le _ _) R8.out.inv.c⟩
          clear hwr
          by_cases h2 : j < G'.length
          · have h2' : (j : Int) < (G'.length : Int) := by omega
            have hjb : (j : Int) < 100 := by have := LG.out; omega
            have hcb : (count (G'.take j) : Int) ≤ 4 := by have := CT.out; omega
            obtain ⟨r, hr⟩ : ∃ r, G'[j]? = some r := ⟨G'[j], List.getElem?_eq_getElem h2⟩
            obtain ⟨ad8, rfl, hcells⟩ := q_cells (q_of_own QR.out) (by omega)
            obtain ⟨g8, rfl⟩ : ∃ g, ad8 = ⟨g, 0, none⟩ := by
              rcases QR.out.2 with ⟨e1, e2⟩ | ⟨g, cap, cur, he, _⟩
              · omega
              · injection he with he
                injection he with he
                exact ⟨g, he⟩
            have hcell : ∀ (k : Nat) (s : Row), G'[k]? = some s → wr.cell? ⟨g8, k, none⟩ = some (.int .i64 s.k) := fun k s hs => by
              have h1 := hcells k (.int .i64 s.k) (by rw [keyCells, List.getElem?_map, hs]; rfl)
              rwa [add_at, Nat.zero_add] at h1
            have c4 := hcell j r hr
            have hwf : Aside0 (wfI r.k) := ⟨(FR.out.lines r (List.mem_of_getElem? hr)).wf⟩
            have hlk : Aside0 (look r.k G' = some r) := ⟨look_mem FR.out.rising (List.mem_of_getElem? hr)⟩
            obtain ⟨nw, hnw⟩ : ∃ nw, waits (look r.k G') = nw := ⟨_, rfl⟩
            have hnb : (nw : Int) ≤ roomOf room + 1 := by rw [← hnw]; exact waits_le R8.out.inv _ (by unfold roomOf; omega)
            have hwait : ∀ q, Calls Try.prog 11 #[.pointer (some ⟨p, 0, none⟩), .int .i64 r.k] (wr.drewN q) fun e w' => e = .returned (.int .i64 nw) ∧ w' = wr.drewN q := fun q => by
              rw [← hnw]; exact waiting_calls w2.heap.size p mb (i + 1) (wr.drewN q) (roomOf room) G' r.k (FR.out.keep fun _ _ _ => rfl) hwf.out
            have WT := Aside0.mk hwait
            have HR := Aside0.mk hr
            have HC := Aside0.mk hcell
            clear hwait hnw hr hcells hcell
            have hroom : (room < 1 ∧ roomOf room = 1) ∨ (4 < room ∧ roomOf room = 4) ∨ (1 ≤ room ∧ room ≤ 4 ∧ roomOf room = room) := by unfold roomOf; omega
            obtain ⟨cn, hcn0⟩ : ∃ cn, count (G'.take j) = cn := ⟨_, rfl⟩
            rw [hcn0] at hcb ⊢
            have hcn := Aside0.mk hcn0
            clear hcn0 CT
            cases j with
            | zero =>
              rcases hroom with ⟨h5, h6⟩ | ⟨h5, h6⟩ | ⟨h5, h5', h6⟩
              · have hdec : decide (2 < (nw : Int)) = false := decide_eq_false (by omega)
                go_wp2_with fail
                go_big_quiet (first | (go_at_call 11; refine Calls.quiet_of_same (WT.out _)))
                have HNQ : Aside0 (wr.drewN nq = w8.drewN (q + nq)) := ⟨by rw [WR.out, World.drewN_drewN]⟩
                have FQ : Aside0 (FeedAt w2.heap.size (wr.drewN nq) p (roomOf room) mb (i + 1) G') := ⟨FR.out.keep fun _ _ _ => rfl⟩
                clear hdec h5 h6 
                go_wp2_with (go_at_call 12; fail)
                refine (follows_calls w2.heap.size p mb (i + 1) (wr.drewN nq) (roomOf room) G' r.k FQ.out hwf.out).mono ?_
                rintro e w9 ⟨rfl, rfl⟩
                clear c4
                rw [hlk.out, show follows (some r) = r.f from rfl]
                cases hrf : r.f with
                | true =>
                  go_wp2
                  go_roundw
                  case rel => exact ⟨0 + 1, q + nq, by simp, h2, HNQ.out, by rw [count_take G' (0) r HR.out, hcn.out, hrf]; simp⟩
                  case measure => simp [intOf]; omega
                | false =>
                  go_wp2
                  go_roundw
                  case rel => exact ⟨0 + 1, q + nq, by simp, h2, HNQ.out, by rw [count_take G' (0) r HR.out, hcn.out, hrf]; simp⟩
                  case measure => simp [intOf]; omega
              · have hdec : decide (5 < (nw : Int)) = false := decide_eq_false (by omega)
                go_wp2_with fail
                go_big_quiet (first | (go_at_call 11; refine Calls.quiet_of_same (WT.out _)))
                have HNQ : Aside0 (wr.drewN nq = w8.drewN (q + nq)) := ⟨by rw [WR.out, World.drewN_drewN]⟩
                have FQ : Aside0 (FeedAt w2.heap.size (wr.drewN nq) p (roomOf room) mb (i + 1) G') := ⟨FR.out.keep fun _ _ _ => rfl⟩
                clear hdec h5 h6 
                go_wp2_with (go_at_call 12; fail)
                refine (follows_calls w2.heap.size p mb (i + 1) (wr.drewN nq) (roomOf room) G' r.k FQ.out hwf.out).mono ?_
                rintro e w9 ⟨rfl, rfl⟩
                clear c4
                rw [hlk.out, show follows (some r) = r.f from rfl]
                cases hrf : r.f with
                | true =>
                  go_wp2
                  go_roundw
                  case rel => exact ⟨0 + 1, q + nq, by simp, h2, HNQ.out, by rw [count_take G' (0) r HR.out, hcn.out, hrf]; simp⟩
                  case measure => simp [intOf]; omega
                | false =>
                  go_wp2
                  go_roundw
                  case rel => exact ⟨0 + 1, q + nq, by simp, h2, HNQ.out, by rw [count_take G' (0) r HR.out, hcn.out, hrf]; simp⟩
                  case measure => simp [intOf]; omega
              · have hdec : decide (room + 1 < (nw : Int)) = false := decide_eq_false (by omega)
                go_wp2_with fail
                go_big_quiet (first | (go_at_call 11; refine Calls.quiet_of_same (WT.out _)))
                have HNQ : Aside0 (wr.drewN nq = w8.drewN (q + nq)) := ⟨by rw [WR.out, World.drewN_drewN]⟩
                have FQ : Aside0 (FeedAt w2.heap.size (wr.drewN nq) p (roomOf room) mb (i + 1) G') := ⟨FR.out.keep fun _ _ _ => rfl⟩
                clear hdec h5 h6  h5'
                go_wp2_with (go_at_call 12; fail)
                refine (follows_calls w2.heap.size p mb (i + 1) (wr.drewN nq) (roomOf room) G' r.k FQ.out hwf.out).mono ?_
                rintro e w9 ⟨rfl, rfl⟩
                clear c4
                rw [hlk.out, show follows (some r) = r.f from rfl]
                cases hrf : r.f with
                | true =>
                  go_wp2
                  go_roundw
                  case rel => exact ⟨0 + 1, q + nq, by simp, h2, HNQ.out, by rw [count_take G' (0) r HR.out, hcn.out, hrf]; simp⟩
                  case measure => simp [intOf]; omega
                | false =>
                  go_wp2
                  go_roundw
                  case rel => exact ⟨0 + 1, q + nq, by simp, h2, HNQ.out, by rw [count_take G' (0) r HR.out, hcn.out, hrf]; simp⟩
                  case measure => simp [intOf]; omega
            | succ m =>
              obtain ⟨s, hs⟩ : ∃ s, G'[m]? = some s := ⟨G'[m]'(by omega), List.getElem?_eq_getElem (by omega)⟩
              have c5 := HC.out m s hs
              have hlt : s.k < r.k := by
                obtain ⟨e1, e2⟩ := List.getElem?_eq_some_iff.1 hs
                obtain ⟨e3, e4⟩ := List.getElem?_eq_some_iff.1 HR.out
                rw [← e2, ← e4]
                exact List.pairwise_iff_getElem.1 FR.out.rising m (m + 1) e1 e3 (by omega)
              have hdec2 : decide (r.k ≤ s.k) = false := decide_eq_false (by omega)
              have hmb : (m : Int) < 100 := by omega
              clear hs hlt hjb
              rcases hroom with ⟨h5, h6⟩ | ⟨h5, h6⟩ | ⟨h5, h5', h6⟩
              · have hdec : decide (2 < (nw : Int)) = false := decide_eq_false (by omega)
                go_wp2_with fail
                go_big_quiet (first | (go_at_call 11; refine Calls.quiet_of_same (WT.out _)))
                have HNQ : Aside0 (wr.drewN nq = w8.drewN (q + nq)) := ⟨by rw [WR.out, World.drewN_drewN]⟩
                have FQ : Aside0 (FeedAt w2.heap.size (wr.drewN nq) p (roomOf room) mb (i + 1) G') := ⟨FR.out.keep fun _ _ _ => rfl⟩
                clear hdec h5 h6 hdec2 c5
                go_wp2_with (go_at_call 12; fail)
                refine (follows_calls w2.heap.size p mb (i + 1) (wr.drewN nq) (roomOf room) G' r.k FQ.out hwf.out).mono ?_
                rintro e w9 ⟨rfl, rfl⟩
                clear c4
                rw [hlk.out, show follows (some r) = r.f from rfl]
                cases hrf : r.f with
                | true =>
                  go_wp2
                  go_roundw
                  case rel => exact ⟨m + 1 + 1, q + nq, by simp, h2, HNQ.out, by rw [count_take G' (m + 1) r HR.out, hcn.out, hrf]; simp⟩
                  case measure => simp [intOf]; omega
                | false =>
                  go_wp2
                  go_roundw
                  case rel => exact ⟨m + 1 + 1, q + nq, by simp, h2, HNQ.out, by rw [count_take G' (m + 1) r HR.out, hcn.out, hrf]; simp⟩
                  case measure => simp [intOf]; omega
              · have hdec : decide (5 < (nw : Int)) = false := decide_eq_false (by omega)
                go_wp2_with fail
                go_big_quiet (first | (go_at_call 11; refine Calls.quiet_of_same (WT.out _)))
                have HNQ : Aside0 (wr.drewN nq = w8.drewN (q + nq)) := ⟨by rw [WR.out, World.drewN_drewN]⟩
                have FQ : Aside0 (FeedAt w2.heap.size (wr.drewN nq) p (roomOf room) mb (i + 1) G') := ⟨FR.out.keep fun _ _ _ => rfl⟩
                clear hdec h5 h6 hdec2 c5
                go_wp2_with (go_at_call 12; fail)
                refine (follows_calls w2.heap.size p mb (i + 1) (wr.drewN nq) (roomOf room) G' r.k FQ.out hwf.out).mono ?_
                rintro e w9 ⟨rfl, rfl⟩
                clear c4
                rw [hlk.out, show follows (some r) = r.f from rfl]
                cases hrf : r.f with
                | true =>
                  go_wp2
                  go_roundw
                  case rel => exact ⟨m + 1 + 1, q + nq, by simp, h2, HNQ.out, by rw [count_take G' (m + 1) r HR.out, hcn.out, hrf]; simp⟩
                  case measure => simp [intOf]; omega
                | false =>
                  go_wp2
                  go_roundw
                  case rel => exact ⟨m + 1 + 1, q + nq, by simp, h2, HNQ.out, by rw [count_take G' (m + 1) r HR.out, hcn.out, hrf]; simp⟩
                  case measure => simp [intOf]; omega
              · have hdec : decide (room + 1 < (nw : Int)) = false := decide_eq_false (by omega)
                go_wp2_with fail
                go_big_quiet (first | (go_at_call 11; refine Calls.quiet_of_same (WT.out _)))
                have HNQ : Aside0 (wr.drewN nq = w8.drewN (q + nq)) := ⟨by rw [WR.out, World.drewN_drewN]⟩
                have FQ : Aside0 (FeedAt w2.heap.size (wr.drewN nq) p (roomOf room) mb (i + 1) G') := ⟨FR.out.keep fun _ _ _ => rfl⟩
                clear hdec h5 h6 hdec2 c5 h5'
                go_wp2_with (go_at_call 12; fail)
                refine (follows_calls w2.heap.size p mb (i + 1) (wr.drewN nq) (roomOf room) G' r.k FQ.out hwf.out).mono ?_
                rintro e w9 ⟨rfl, rfl⟩
                clear c4
                rw [hlk.out, show follows (some r) = r.f from rfl]
                cases hrf : r.f with
                | true =>
                  go_wp2
                  go_roundw
                  case rel => exact ⟨m + 1 + 1, q + nq, by simp, h2, HNQ.out, by rw [count_take G' (m + 1) r HR.out, hcn.out, hrf]; simp⟩
                  case measure => simp [intOf]; omega
                | false =>
                  go_wp2
                  go_roundw
                  case rel => exact ⟨m + 1 + 1, q + nq, by simp, h2, HNQ.out, by rw [count_take G' (m + 1) r HR.out, hcn.out, hrf]; simp⟩
                  case measure => simp [intOf]; omega
          · have h2' : ¬ ((j : Int) < (G'.length : Int)) := by omega
            obtain ⟨cn, hcn0⟩ : ∃ cn, count (G'.take j) = cn := ⟨_, rfl⟩
            have hcb : (cn : Int) ≤ 4 := by have := CT.out; omega
            rw [hcn0]
            have RR : Aside0 (Rounds w2.heap.size p mb room (some ad) l w4 wr (i + 1) G') := ⟨⟨FR.out, R8.out.inv, R8.out.below.trans (by rw [WR.out]; exact ⟨rfl, rfl, rfl, Nat.le_refl _, fun _ _ => rfl⟩)⟩⟩
            clear hcn0 CT h2
            go_wp2
            go_roundw
            case rel => exact ⟨i + 1, G', by simp, h1, RR⟩
            case measure => simp [intOf]; omega
      · have h1' : ¬ ((i : Int) < (l.length : Int)) := by omega
        have E1 := Aside0.mk (B4.out.trans (R1.out.below.mono B2.out.size))
        clear h1
        go_wp2
        go_ret
        exact ⟨rfl, E1.out⟩
end Go.Proofs.Ytdeagfjfipbniaa.F
