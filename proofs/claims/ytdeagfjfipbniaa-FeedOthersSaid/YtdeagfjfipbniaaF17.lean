/- Of what is forgotten nothing is left. -/
import Derived.Test.YtdeagfjfipbniaaF16
set_option linter.unusedSimpArgs false
set_option linter.unusedVariables false
namespace Go.Proofs.Ytdeagfjfipbniaa.F
open Go.RowKit Go.Proofs.YtdeagfjfipbniaaW.PrintWords Go.Proofs.YtdeagfjfipbniaaW.PrintLast Go.Proofs.YtdeagfjfipbniaaW.PrintMore

theorem count_filter_lt {G : List Row} {P : Row → Bool} {r : Row} (hr : r ∈ G) (hf : r.f = true) (hp : P r = false) : count (G.filter P) < count G := by
  induction G with
  | nil => simp at hr
  | cons y s ih =>
    have hle := count_filter s P
    rcases List.mem_cons.1 hr with rfl | hr
    · rw [List.filter_cons_of_neg (by simp [hp]), count_cons, if_pos hf]
      omega
    · have := ih hr
      rw [List.filter_cons]
      split
      · rw [count_cons, count_cons]; omega
      · rw [count_cons]; omega
theorem count_del_lt {k : Int} {G : List Row} {r : Row} (h : look k G = some r) (hf : r.f = true) : count (del k G) < count G := by
  obtain ⟨h1, h2⟩ := look_some h
  exact count_filter_lt h1 hf (by simp [h2])
theorem look_sub (k : Int) (b : Nat) {G : List Row} (h : look k G = none) : look k (subG k b G) = some (setF true (fresh k b)) := by
  rw [subG, look_upd (setF_leaves true), if_pos rfl]
  have h1 : look k (atG k b G) = some (fresh k b) := by
    unfold atG
    rw [h]
    exact (look_ins (x := fresh k b) k h).trans (if_pos rfl)
  rw [h1]
  rfl
set_option maxRecDepth 100000 in
set_option maxHeartbeats 4000000 in
theorem forgets_calls (w : World) (room : Int) (A : Option Addr) (c : Nat) (l : List Act4) (s : Int) (hl : ActsAt w A l) (hlw : ∀ x ∈ l, wfI x.s) (hsw : wfI s) :
    Calls Try.prog 5 #[.int .i64 room, .slice A l.length c, .int .i64 s] w fun e w' => e = .returned (.bool true) ∧ Below w.heap.size w w' := by
  have HL := Aside0.mk hl
  have HLW := Aside0.mk (And.intro hlw hsw)
  clear hl hlw hsw
  go_enter Try.func5, Try.ntmps5
  go_wp2_with (go_at_call 6; fail)
  refine (works_calls w).mono ?_
  rintro e w2 ⟨rfl, hb2⟩
  have B2 := Aside0.mk hb2
  clear hb2
  go_wp2_with (go_at_call 7; fail)
  refine (new_calls w2 room).mono ?_
  rintro e w3 ⟨p, mb, rfl, h3, hb3⟩
  have F4 := Aside0.mk h3
  have B4 := Aside0.mk (B2.out.trans (hb3.mono B2.out.size))
  have L4 := Aside0.mk (HL.out.below B4.out)
  clear h3 hb3
  go_wp2_with (go_at_call 8; fail)
  refine (few_calls w3 A c l L4.out).mono ?_
  rintro e w4 ⟨lk, rfl, hlk, rfl⟩
  cases lk with
  | false =>
    go_wp2
    go_ret
    exact ⟨rfl, B4.out⟩
  | true =>
    have LK := Aside0.mk (hlk rfl)
    clear hlk
    have LL : Aside0 (∀ ad, A = some ad → l ≠ [] → ad.block < w2.heap.size) := ⟨fun ad e hne => by have := HL.out.lt ad e hne; have := B2.out.size; omega⟩
    go_wp2
    go_loopw [10] (fun x wr => ∃ (i : Nat) (G : List Row), x = .int .i64 i ∧ i ≤ l.length ∧ Aside0 (Rounds w2.heap.size p mb room A l w4 wr i G)) (fun x _ => l.length - (intOf x).toNat)
    case atStart => exact ⟨0, [], rfl, Nat.zero_le _, ⟨⟨F4.out, ⟨fun r hr => by simp at hr, by decide⟩, Below.refl _ _⟩⟩⟩
    case round =>
      obtain ⟨i, G, rfl, hi, R1⟩ := hrel
      have LW := Aside0.mk (L4.out.belowK LL.out R1.out.below)
      by_cases h1 : i < l.length
      · have h1' : (i : Int) < (l.length : Int) := by omega
        have hib : (i : Int) < 1000 := by have := LK.out; omega
        obtain ⟨ad, rfl, c0, c1, c2, c3⟩ := LW.out i l[i] (List.getElem?_eq_getElem h1)
        have HM := Aside0.mk (List.getElem_mem h1)
        have hdo := do_calls w2.heap.size p mb i wr (roomOf room) G l[i] R1.out.feed (by have := LK.out; omega) (HLW.out.1 _ HM.out) (by unfold roomOf; omega) (by unfold roomOf; omega) R1.out.inv
        unfold actV at hdo
        have DO := Aside0.mk hdo
        clear hdo
        go_wp2_with (go_at_call 9; fail)
        refine DO.out.mono ?_
        rintro e W2 ⟨⟨v, rfl⟩, hb, G', hF, hD⟩
        have R2 : Aside0 (Rounds w2.heap.size p mb room (some ad) l w4 W2 (i + 1) G') := ⟨⟨hF, did_inv hD R1.out.inv R1.out.feed.rising (by unfold roomOf; omega), R1.out.below.trans hb⟩⟩
        clear hb hF hD c0 c1 c2 c3
        go_wp2
        go_roundw
        case rel => exact ⟨i + 1, G', by simp, h1, R2⟩
        case measure => simp [intOf]; omega
      · have h1' : ¬ ((i : Int) < (l.length : Int)) := by omega
        have IL : Aside0 (i < 900000) := ⟨by have := LK.out; omega⟩
        have E1 := Aside0.mk (B4.out.trans (R1.out.below.mono B2.out.size))
        clear h1
        go_wp2_with (go_at_call 11; fail)
        refine (waiting_calls w2.heap.size p mb i wr (roomOf room) G s R1.out.feed HLW.out.2).mono ?_
        rintro e wr1 ⟨rfl, rfl⟩
        go_wp2_with (go_at_call 12; fail)
        refine (follows_calls w2.heap.size p mb i wr1 (roomOf room) G s R1.out.feed HLW.out.2).mono ?_
        rintro e wr2 ⟨rfl, rfl⟩
        go_wp2_with (go_at_call 13; fail)
        refine (forget_calls w2.heap.size p mb i wr2 (roomOf room) G s R1.out.feed HLW.out.2).mono ?_
        rintro e w5 ⟨rfl, h5, hb5, _⟩
        have F5 := Aside0.mk h5
        have E5 := Aside0.mk (E1.out.trans (hb5.mono B2.out.size))
        have N5 : Aside0 (look s (del s G) = none) := ⟨by rw [look_del, if_pos rfl]⟩
        clear h5 hb5
        go_wp2_with (go_at_call 14; fail)
        refine (pop_calls w2.heap.size p mb i w5 (roomOf room) _ s F5.out HLW.out.2).mono ?_
        rintro e w6 (⟨_, rfl, h6, hb6, _⟩ | ⟨r6, v6, x6, hl6, _⟩)
        rotate_left
        · rw [N5.out] at hl6; cases hl6
        simp only [noNote, Note.cells]
        obtain ⟨w7, hw7⟩ : ∃ w7, w6.alloc (.cells #[.int .i64 0, .int .i64 0, .int .i64 0, .string ⟨#[]⟩, .slice none 0 0] 31) = w7 := ⟨_, rfl⟩
        have hb7 : Below w6.heap.size w6 w7 := by rw [← hw7]; exact (Below.refl _ _).alloc (Nat.le_refl _) _
        have F7 := Aside0.mk (h6.later hb7)
        have E7 := Aside0.mk (E5.out.trans ((hb6.mono B2.out.size).trans (hb7.mono (by have := h6.size; have := B2.out.size; omega))))
        have HW7 := Aside0.mk hw7
        clear h6 hb6 hw7 hb7
        go_wp2_with (go_at_call 10; fail)
        rw [HW7.out]
        refine (sessions_calls w2.heap.size p mb i w7 (roomOf room) _ F7.out (by have := IL.out; omega)).mono ?_
        rintro e w8 ⟨v8, rfl, hrow, hb8⟩
        have F8 := Aside0.mk (F7.out.later hb8)
        have E8 := Aside0.mk (E7.out.trans (hb8.mono (by have := F7.out.size; have := B2.out.size; omega)))
        obtain ⟨A8, c8, rfl, _⟩ := q_slice (q_of_own hrow)
        have R8 := Aside0.mk hrow
        have LG : Aside0 ((del s G).length ≤ 1000000) := ⟨by have h1 := F8.out.map.size_le; rw [datum_size] at h1; have := IL.out; omega⟩
        clear hrow hb8
        go_wp2
        go_loopw [17] (fun x wr => ∃ j : Nat, x = .int .i64 j ∧ j ≤ (del s G).length ∧ wr = w8) (fun x _ => (del s G).length - (intOf x).toNat)
        case atStart => exact ⟨0, rfl, Nat.zero_le _, rfl⟩
        case round =>
          obtain ⟨j, rfl, hj, rfl⟩ := hrel
          by_cases h2 : j < (del s G).length
          · have h2' : (j : Int) < ((del s G).length : Int) := by omega
            obtain ⟨ad, rfl, hcells⟩ := q_cells (q_of_own R8.out) (by omega)
            have hkj : (del s G)[j]? = some (del s G)[j] := List.getElem?_eq_getElem h2
            have c4 : wr.cell? (ad.add j) = some (.int .i64 ((del s G)[j]).k) := hcells j _ (by rw [keyCells, List.getElem?_map, hkj]; rfl)
            have hne : (((del s G)[j]).k == s) = false := by
              have h3 := look_none N5.out _ (List.getElem_mem h2)
              simpa using h3
            have hjb : (j : Int) < 2000000 := by have := LG.out; omega
            clear hcells hkj
            go_wp2
            go_roundw
            case rel => exact ⟨j + 1, by simp, h2, trivial⟩
            case measure => simp [intOf]; omega
          · have h2' : ¬ ((j : Int) < ((del s G).length : Int)) := by omega
            clear h2
            go_wp2_with (go_at_call 15; fail)
            refine ((callsIn_wide (n := 9)).1 (subscribe_in w2.heap.size p mb i wr (roomOf room) _ s F8.out HLW.out.2 (by have := IL.out; omega))).mono ?_
            rintro e w9 (⟨hc, rfl, h9, hb9, _⟩ | ⟨hc, rfl, hb9, b9, h9, _⟩)
            · have hfw : follows (look s G) = false := by
                cases hf : look s G with
                | none => rfl
                | some r =>
                  cases hrf : r.f with
                  | false => exact hrf
                  | true =>
                    exfalso
                    have h3 := count_del_lt hf hrf
                    have h4 := R1.out.inv.c
                    rcases hc with hc | hc
                    · rw [N5.out] at hc; cases hc
                    · omega
              have F9 := Aside0.mk h9
              have E9 := Aside0.mk (E8.out.trans (hb9.mono B2.out.size))
              rw [hfw]
              clear h9 hb9 hfw hc
              go_wp2_with (go_at_call 11; fail)
              refine (waiting_calls w2.heap.size p mb (i + 1) w9 (roomOf room) _ s F9.out HLW.out.2).mono ?_
              rintro e w10 ⟨rfl, rfl⟩
              rw [N5.out, show ((waits none : Nat) : Int) = 0 from rfl]
              go_wp2
              go_ret
              exact ⟨rfl, E9.out⟩
            · have F9 := Aside0.mk h9
              have E9 := Aside0.mk (E8.out.trans (hb9.mono B2.out.size))
              clear h9 hb9 hc
              cases hfo : follows (look s G) with
              | false =>
                go_wp2_with (go_at_call 11; fail)
                refine (waiting_calls w2.heap.size p mb (i + 1) w9 (roomOf room) _ s F9.out HLW.out.2).mono ?_
                rintro e w10 ⟨rfl, rfl⟩
                rw [look_sub s b9 N5.out, show ((waits (some (setF true (fresh s b9))) : Nat) : Int) = 0 from rfl]
                go_wp2
                go_ret
                exact ⟨rfl, E9.out⟩
              | true =>
                go_wp2_with (go_at_call 11; fail)
                refine (waiting_calls w2.heap.size p mb (i + 1) w9 (roomOf room) _ s F9.out HLW.out.2).mono ?_
                rintro e w10 ⟨rfl, rfl⟩
                rw [look_sub s b9 N5.out, show ((waits (some (setF true (fresh s b9))) : Nat) : Int) = 0 from rfl]
                go_wp2
                go_ret
                exact ⟨rfl, E9.out⟩
end Go.Proofs.Ytdeagfjfipbniaa.F
