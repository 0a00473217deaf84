-- written by hprint.py (a driver of this session's round the print), from the translation; not trusted: Lean checks it.
import Derived.Test.YtbnniapnbjmbhaaPAx0
import Derived.Test.YtbnniapnbjmbhaaPAx1
import Derived.Test.YtbnniapnbjmbhaaPAx2
namespace Go.Proofs.Ytbnniapnbjmbhaa.PA
open Go.RowKit Go.Proofs.YtbnniapnbjmbhaaW.PrintWords Go.Proofs.YtbnniapnbjmbhaaW.PrintLast Go.Proofs.YtbnniapnbjmbhaaW.PrintMore
attribute [local go_sem] max2_int min2_int max_two min_two max_three min_three max_four min_four   -- for this text's walks alone
set_option linter.unusedVariables false
set_option linter.unusedSimpArgs false

/-! ### guillochelaw01_NibbleOrder: function 4 -/
def guillochelaw01_NibbleOrder.j0 : Nat → ByteArray → ByteArray → Bool → Bool → Option (Bool)
 | 0, _, _, _, _ => none
 | k + 1, x0, x1, x5, x19 => if x19 = true then (some x5) else ((nibble_Path.f k x0).bind fun t181 => ((nibble_Key.f k t181).bind fun bt182 => (if x5 = true then (if bt182.2 = true then (if bt182.1.toList = x0.toList then (if (t181.size : Int) = (wrap64 (2 * (x0.size : Int))) then ((nibble_Valid.f t181).bind fun t184 => (if t184 = true then ((nibble_Path.f k x1).bind fun t185 => (some ((Op.bytesLess t181.toList t185.toList) == (Op.bytesLess x0.toList x1.toList)))) else (some false))) else (some false)) else (some false)) else (some false)) else (some false))))
def guillochelaw01_NibbleOrder.f (k : Nat) (a0 : ByteArray) (a1 : ByteArray) : Option (Bool) := (guillochelaw01_works.f k).bind fun t180 => (if t180 = true then (if (a0.size : Int) > 200 then (guillochelaw01_NibbleOrder.j0 k a0 a1 t180 true) else (guillochelaw01_NibbleOrder.j0 k a0 a1 t180 (decide ((a1.size : Int) > 200)))) else (some false))
theorem guillochelaw01_NibbleOrder.mono_l : ∀ k, (∀ y0 y1 y2 y3, LeO (guillochelaw01_NibbleOrder.j0 k y0 y1 y2 y3) (guillochelaw01_NibbleOrder.j0 (k + 1) y0 y1 y2 y3))
 | 0 => fun _ _ _ _ r h => by simp [guillochelaw01_NibbleOrder.j0] at h
 | k + 1 => by
  have ih0 := guillochelaw01_NibbleOrder.mono_l k
  ·intro y0 y1 y2 y3
   unfold guillochelaw01_NibbleOrder.j0
   repeat' first
   | (with_reducible exact ih0 _ _ _ _)
   | (with_reducible exact guillochelaw01_works.mono _)
   | (with_reducible exact nibble_Key.mono _ _)
   | (with_reducible exact nibble_Path.mono _ _)
   | (with_reducible exact LeO.refl _)
   | (with_reducible exact LeO.none _)
   | (with_reducible refine LeO.ite ?_ ?_)
   | (with_reducible refine LeO.bind ?_ (fun _ => ?_))
   | exact ih0 _ _ _ _
   | exact guillochelaw01_works.mono _
   | exact nibble_Key.mono _ _
   | exact nibble_Path.mono _ _
   | exact LeO.none _
   | refine LeO.ite ?_ ?_
   | refine LeO.bind ?_ (fun _ => ?_)
theorem guillochelaw01_NibbleOrder.mono : ∀ a0 a1 k, LeO (guillochelaw01_NibbleOrder.f k a0 a1) (guillochelaw01_NibbleOrder.f (k + 1) a0 a1) := by
 intro a0 a1 k
 have ih0 := guillochelaw01_NibbleOrder.mono_l k
 unfold guillochelaw01_NibbleOrder.f
 repeat' first
   | (with_reducible exact ih0 _ _ _ _)
   | (with_reducible exact guillochelaw01_works.mono _)
   | (with_reducible exact nibble_Key.mono _ _)
   | (with_reducible exact nibble_Path.mono _ _)
   | (with_reducible exact LeO.refl _)
   | (with_reducible exact LeO.none _)
   | (with_reducible refine LeO.ite ?_ ?_)
   | (with_reducible refine LeO.bind ?_ (fun _ => ?_))
   | exact ih0 _ _ _ _
   | exact guillochelaw01_works.mono _
   | exact nibble_Key.mono _ _
   | exact nibble_Path.mono _ _
   | exact LeO.none _
   | refine LeO.ite ?_ ?_
   | refine LeO.bind ?_ (fun _ => ?_)
set_option maxHeartbeats 8000000 in
set_option maxRecDepth 100000 in
theorem guillochelaw01_NibbleOrder.calls (k : Nat) (a0 : ByteArray) (a1 : ByteArray) (r : Bool) (w : World) (h : guillochelaw01_NibbleOrder.f k a0 a1 = some r) :
  Calls Try.prog 4 #[.string a0, .string a1] w fun e w' => e = .returned (.bool r) ∧ Below w.heap.size w w' := by
 have HB := Aside0.mk (Below.refl w.heap.size w)
 have H : ((guillochelaw01_works.f k).bind fun t180 => (if t180 = true then (if (a0.size : Int) > 200 then (guillochelaw01_NibbleOrder.j0 k a0 a1 t180 true) else (guillochelaw01_NibbleOrder.j0 k a0 a1 t180 (decide ((a1.size : Int) > 200)))) else (some false))) = some r := h
 clear h
 replace H := Option.bind_eq_some_iff.mp H
 obtain ⟨t180, A30, H⟩ := H
 replace H : (if t180 = true then (if (a0.size : Int) > 200 then (guillochelaw01_NibbleOrder.j0 k a0 a1 t180 true) else (guillochelaw01_NibbleOrder.j0 k a0 a1 t180 (decide ((a1.size : Int) > 200)))) else (some false)) = some r := H
 have A3 := Aside0.mk A30
 clear A30
 by_cases c4 : t180 = true
 ·subst c4
  have H1 : (if (a0.size : Int) > 200 then (guillochelaw01_NibbleOrder.j0 k a0 a1 true true) else (guillochelaw01_NibbleOrder.j0 k a0 a1 true (decide ((a1.size : Int) > 200)))) = some r := by rw [if_pos rfl] at H; exact H
  clear H
  have H := H1
  clear H1
  have HC5 := Aside0.mk H
  clear H
  go_enter Try.func4, Try.ntmps4
  go_upto_region 4 with (first | ((with_reducible refine gate_callee (f := 8) rfl ?_); refine goesL_ (some 9) rfl rfl Try.func8 (by kernel_rfl) rfl #[] rfl (by (try simp only [List.map_toArray, List.map_cons, List.map_nil]); first | done | rfl | (simp only [List.length_drop, List.length_take]; rfl)) ?_; (with_reducible refine (guillochelaw01_works.calls k  true _ A3.out).mono ?_); rintro e w6 ⟨rfl, hb⟩; refine ⟨_, rfl, ?_⟩; have n0_ := Aside0.mk (below_step (by repeat (first | (with_reducible first | exact HB.out | apply below_alloc | apply pw_below_drewN | apply below_drew1) | exact HB.out)) hb); clear HB; have HB := n0_; clear n0_; (try clear hb); (try clear hb2); (try clear hk); (try clear hi)))
  (try simp only [Act.put, List.setIfInBounds_toArray, List.set_cons_zero, List.set_cons_succ])
  go_cut [19] (fun v19 wc => ∃ (kq : Nat) (x19_4 : Bool), v19 = .bool x19_4 ∧ Aside0 (guillochelaw01_NibbleOrder.j0 kq a0 a1 true x19_4 = some r) ∧ Aside0 (kq ≤ k) ∧ Aside0 (Below w.heap.size w wc))
  case first =>
   have H := HC5.out
   clear HC5
   by_cases c7 : (a0.size : Int) > 200
   ·rw [if_pos c7] at H
    have c7b0 : decide (200 < (a0.size : Int)) = true := decide_eq_true c7
    have c7b1 : decide (200 < a0.size) = true := decide_eq_true (by omega)
    clear c7
    (first | rw [c7b0] | (simp only [i64_w, i32_w]; rw [c7b0]) | skip)
    have H' := Aside0.mk H
    clear H
    go_wp2
    go_meet
    case rel => exact ⟨_, (true), (by first | rfl | (simp; done) | (simp [*]; done)), H', ⟨by first | omega | exact Nat.le_refl _⟩, ⟨by repeat (first | (with_reducible first | exact HB.out | apply below_alloc | apply pw_below_drewN | apply below_drew1) | exact HB.out)⟩⟩
   ·rw [if_neg c7] at H
    have c7b0 : decide (200 < (a0.size : Int)) = false := decide_eq_false c7
    have c7b1 : decide (200 < a0.size) = false := decide_eq_false (by omega)
    clear c7
    (first | rw [c7b0] | (simp only [i64_w, i32_w]; rw [c7b0]) | skip)
    have H' := Aside0.mk H
    clear H
    go_wp2
    go_meet
    case rel => exact ⟨_, (decide ((a1.size : Int) > 200)), (by first | rfl | (simp; done) | (simp [*]; done)), H', ⟨by first | omega | exact Nat.le_refl _⟩, ⟨by repeat (first | (with_reducible first | exact HB.out | apply below_alloc | apply pw_below_drewN | apply below_drew1) | exact HB.out)⟩⟩
  case rest =>
   clear HC5
   try clear p2
   try clear c4
   try clear c7
   try clear c7b0
   try clear c7b1
   obtain ⟨kq, x19_4, rfl, HA, HJ4, HB⟩ := hcut
   cases kq with
   | zero => exact absurd HA.out (by simp [guillochelaw01_NibbleOrder.j0])
   | succ kj4 =>
    have H := HA.out
    clear HA
    simp only [guillochelaw01_NibbleOrder.j0] at H
    by_cases c8 : x19_4 = true
    ·subst c8
     have H1 : (some true) = some r := by rw [if_pos rfl] at H; exact H
     clear H
     have H := H1
     clear H1
     obtain rfl := Option.some.inj H
     go_wp2
     go_ret
     exact ⟨by first | rfl | (simp [errW_none, errW_some] <;> rfl) | (simp [*, errW_none, errW_some] <;> rfl), by repeat (first | (with_reducible first | exact HB.out | apply below_alloc | apply pw_below_drewN | apply below_drew1) | exact HB.out)⟩
    ·replace c8 := Bool.eq_false_iff.mpr c8
     subst c8
     have H1 : ((nibble_Path.f kj4 a0).bind fun t181 => ((nibble_Key.f kj4 t181).bind fun bt182 => (if true = true then (if bt182.2 = true then (if bt182.1.toList = a0.toList then (if (t181.size : Int) = (wrap64 (2 * (a0.size : Int))) then ((nibble_Valid.f t181).bind fun t184 => (if t184 = true then ((nibble_Path.f kj4 a1).bind fun t185 => (some ((Op.bytesLess t181.toList t185.toList) == (Op.bytesLess a0.toList a1.toList)))) else (some false))) else (some false)) else (some false)) else (some false)) else (some false)))) = some r := by rw [if_neg (show ¬ (false = true) by decide)] at H; exact H
     clear H
     have H := H1
     clear H1
     replace H := Option.bind_eq_some_iff.mp H
     obtain ⟨t181, A90, H⟩ := H
     replace H : ((nibble_Key.f kj4 t181).bind fun bt182 => (if true = true then (if bt182.2 = true then (if bt182.1.toList = a0.toList then (if (t181.size : Int) = (wrap64 (2 * (a0.size : Int))) then ((nibble_Valid.f t181).bind fun t184 => (if t184 = true then ((nibble_Path.f kj4 a1).bind fun t185 => (some ((Op.bytesLess t181.toList t185.toList) == (Op.bytesLess a0.toList a1.toList)))) else (some false))) else (some false)) else (some false)) else (some false)) else (some false))) = some r := H
     have A9 := Aside0.mk A90
     clear A90
     replace H := Option.bind_eq_some_iff.mp H
     obtain ⟨⟨t182, t183⟩, A100, H⟩ := H
     replace H : (if true = true then (if t183 = true then (if t182.toList = a0.toList then (if (t181.size : Int) = (wrap64 (2 * (a0.size : Int))) then ((nibble_Valid.f t181).bind fun t184 => (if t184 = true then ((nibble_Path.f kj4 a1).bind fun t185 => (some ((Op.bytesLess t181.toList t185.toList) == (Op.bytesLess a0.toList a1.toList)))) else (some false))) else (some false)) else (some false)) else (some false)) else (some false)) = some r := H
     have A10 := Aside0.mk A100
     clear A100
     by_cases c11 : true = true
     ·clear c11
      have H1 : (if t183 = true then (if t182.toList = a0.toList then (if (t181.size : Int) = (wrap64 (2 * (a0.size : Int))) then ((nibble_Valid.f t181).bind fun t184 => (if t184 = true then ((nibble_Path.f kj4 a1).bind fun t185 => (some ((Op.bytesLess t181.toList t185.toList) == (Op.bytesLess a0.toList a1.toList)))) else (some false))) else (some false)) else (some false)) else (some false)) = some r := by rw [if_pos rfl] at H; exact H
      clear H
      have H := H1
      clear H1
      by_cases c12 : t183 = true
      ·subst c12
       have H1 : (if t182.toList = a0.toList then (if (t181.size : Int) = (wrap64 (2 * (a0.size : Int))) then ((nibble_Valid.f t181).bind fun t184 => (if t184 = true then ((nibble_Path.f kj4 a1).bind fun t185 => (some ((Op.bytesLess t181.toList t185.toList) == (Op.bytesLess a0.toList a1.toList)))) else (some false))) else (some false)) else (some false)) = some r := by rw [if_pos rfl] at H; exact H
       clear H
       have H := H1
       clear H1
       by_cases c13 : t182.toList = a0.toList
       ·rw [if_pos c13] at H
        have c13b0 : (t182.toList == a0.toList) = true := beq_iff_eq.mpr c13
        have c13b1 : (t182.toList != a0.toList) = false := bne_eq_false_iff_eq.mpr c13
        clear c13
        by_cases c14 : (t181.size : Int) = (wrap64 (2 * (a0.size : Int)))
        ·rw [if_pos c14] at H
         have c14b0 : ((t181.size : Int) == (wrap64 (2 * (a0.size : Int)))) = true := beq_iff_eq.mpr c14
         have c14b1 : ((t181.size : Int) != (wrap64 (2 * (a0.size : Int)))) = false := bne_eq_false_iff_eq.mpr c14
         clear c14
         replace H := Option.bind_eq_some_iff.mp H
         obtain ⟨t184, A150, H⟩ := H
         replace H : (if t184 = true then ((nibble_Path.f kj4 a1).bind fun t185 => (some ((Op.bytesLess t181.toList t185.toList) == (Op.bytesLess a0.toList a1.toList)))) else (some false)) = some r := H
         have A15 := Aside0.mk A150
         clear A150
         by_cases c16 : t184 = true
         ·subst c16
          have H1 : ((nibble_Path.f kj4 a1).bind fun t185 => (some ((Op.bytesLess t181.toList t185.toList) == (Op.bytesLess a0.toList a1.toList)))) = some r := by rw [if_pos rfl] at H; exact H
          clear H
          have H := H1
          clear H1
          replace H := Option.bind_eq_some_iff.mp H
          obtain ⟨t185, A170, H⟩ := H
          replace H : (some ((Op.bytesLess t181.toList t185.toList) == (Op.bytesLess a0.toList a1.toList))) = some r := H
          have A17 := Aside0.mk A170
          clear A170
          obtain rfl := Option.some.inj H
          go_wp2_with (first | ((with_reducible refine gate_callee (f := 11) rfl ?_); refine goesL_ (some 22) rfl rfl Try.func11 (by kernel_rfl) rfl #[.string a0] rfl (by (try simp only [List.map_toArray, List.map_cons, List.map_nil]); first | done | rfl | (simp only [List.length_drop, List.length_take]; rfl)) ?_; (with_reducible refine (nibble_Path.calls kj4 a0 t181 _ A9.out).mono ?_); rintro e w18 ⟨rfl, hb⟩; refine ⟨_, rfl, ?_⟩; have n0_ := Aside0.mk (below_step (by repeat (first | (with_reducible first | exact HB.out | apply below_alloc | apply pw_below_drewN | apply below_drew1) | exact HB.out)) hb); clear HB; have HB := n0_; clear n0_; (try clear hb); (try clear hb2); (try clear hk); (try clear hi)) | ((with_reducible refine gate_callee (f := 9) rfl ?_); refine goesL_ (some 25) rfl rfl Try.func9 (by kernel_rfl) rfl #[.string t181] rfl (by (try simp only [List.map_toArray, List.map_cons, List.map_nil]); first | done | rfl | (simp only [List.length_drop, List.length_take]; rfl)) ?_; (with_reducible refine (nibble_Key.calls kj4 t181 t182 true _ A10.out).mono ?_); rintro e w19 ⟨rfl, hb⟩; refine ⟨_, rfl, ?_⟩; have n0_ := Aside0.mk (below_step (by repeat (first | (with_reducible first | exact HB.out | apply below_alloc | apply pw_below_drewN | apply below_drew1) | exact HB.out)) hb); clear HB; have HB := n0_; clear n0_; (try clear hb); (try clear hb2); (try clear hk); (try clear hi)) | (go_at_call 13; (with_reducible refine (nibble_Valid.calls t181 true _ A15.out).mono ?_); rintro e w20 ⟨rfl, hb⟩; have n0_ := Aside0.mk (below_step (by repeat (first | (with_reducible first | exact HB.out | apply below_alloc | apply pw_below_drewN | apply below_drew1) | exact HB.out)) hb); clear HB; have HB := n0_; clear n0_; (try clear hb); (try clear hb2); (try clear hk); (try clear hi)) | (go_at_call 11; (with_reducible refine (nibble_Path.calls kj4 a1 t185 _ A17.out).mono ?_); rintro e w21 ⟨rfl, hb⟩; have n0_ := Aside0.mk (below_step (by repeat (first | (with_reducible first | exact HB.out | apply below_alloc | apply pw_below_drewN | apply below_drew1) | exact HB.out)) hb); clear HB; have HB := n0_; clear n0_; (try clear hb); (try clear hb2); (try clear hk); (try clear hi)))
          go_ret
          exact ⟨by first | rfl | (simp [errW_none, errW_some] <;> rfl) | (simp [*, errW_none, errW_some] <;> rfl), by repeat (first | (with_reducible first | exact HB.out | apply below_alloc | apply pw_below_drewN | apply below_drew1) | exact HB.out)⟩
         ·replace c16 := Bool.eq_false_iff.mpr c16
          subst c16
          have H1 : (some false) = some r := by rw [if_neg (show ¬ (false = true) by decide)] at H; exact H
          clear H
          have H := H1
          clear H1
          obtain rfl := Option.some.inj H
          go_wp2_with (first | ((with_reducible refine gate_callee (f := 11) rfl ?_); refine goesL_ (some 22) rfl rfl Try.func11 (by kernel_rfl) rfl #[.string a0] rfl (by (try simp only [List.map_toArray, List.map_cons, List.map_nil]); first | done | rfl | (simp only [List.length_drop, List.length_take]; rfl)) ?_; (with_reducible refine (nibble_Path.calls kj4 a0 t181 _ A9.out).mono ?_); rintro e w22 ⟨rfl, hb⟩; refine ⟨_, rfl, ?_⟩; have n0_ := Aside0.mk (below_step (by repeat (first | (with_reducible first | exact HB.out | apply below_alloc | apply pw_below_drewN | apply below_drew1) | exact HB.out)) hb); clear HB; have HB := n0_; clear n0_; (try clear hb); (try clear hb2); (try clear hk); (try clear hi)) | ((with_reducible refine gate_callee (f := 9) rfl ?_); refine goesL_ (some 25) rfl rfl Try.func9 (by kernel_rfl) rfl #[.string t181] rfl (by (try simp only [List.map_toArray, List.map_cons, List.map_nil]); first | done | rfl | (simp only [List.length_drop, List.length_take]; rfl)) ?_; (with_reducible refine (nibble_Key.calls kj4 t181 t182 true _ A10.out).mono ?_); rintro e w23 ⟨rfl, hb⟩; refine ⟨_, rfl, ?_⟩; have n0_ := Aside0.mk (below_step (by repeat (first | (with_reducible first | exact HB.out | apply below_alloc | apply pw_below_drewN | apply below_drew1) | exact HB.out)) hb); clear HB; have HB := n0_; clear n0_; (try clear hb); (try clear hb2); (try clear hk); (try clear hi)) | (go_at_call 13; (with_reducible refine (nibble_Valid.calls t181 false _ A15.out).mono ?_); rintro e w24 ⟨rfl, hb⟩; have n0_ := Aside0.mk (below_step (by repeat (first | (with_reducible first | exact HB.out | apply below_alloc | apply pw_below_drewN | apply below_drew1) | exact HB.out)) hb); clear HB; have HB := n0_; clear n0_; (try clear hb); (try clear hb2); (try clear hk); (try clear hi)))
          go_ret
          exact ⟨by first | rfl | (simp [errW_none, errW_some] <;> rfl) | (simp [*, errW_none, errW_some] <;> rfl), by repeat (first | (with_reducible first | exact HB.out | apply below_alloc | apply pw_below_drewN | apply below_drew1) | exact HB.out)⟩
        ·rw [if_neg c14] at H
         have c14b0 : ((t181.size : Int) == (wrap64 (2 * (a0.size : Int)))) = false := beq_eq_false_iff_ne.mpr c14
         have c14b1 : ((t181.size : Int) != (wrap64 (2 * (a0.size : Int)))) = true := bne_iff_ne.mpr c14
         obtain rfl := Option.some.inj H
         go_wp2_with (first | ((with_reducible refine gate_callee (f := 11) rfl ?_); refine goesL_ (some 22) rfl rfl Try.func11 (by kernel_rfl) rfl #[.string a0] rfl (by (try simp only [List.map_toArray, List.map_cons, List.map_nil]); first | done | rfl | (simp only [List.length_drop, List.length_take]; rfl)) ?_; (with_reducible refine (nibble_Path.calls kj4 a0 t181 _ A9.out).mono ?_); rintro e w25 ⟨rfl, hb⟩; refine ⟨_, rfl, ?_⟩; have n0_ := Aside0.mk (below_step (by repeat (first | (with_reducible first | exact HB.out | apply below_alloc | apply pw_below_drewN | apply below_drew1) | exact HB.out)) hb); clear HB; have HB := n0_; clear n0_; (try clear hb); (try clear hb2); (try clear hk); (try clear hi)) | ((with_reducible refine gate_callee (f := 9) rfl ?_); refine goesL_ (some 25) rfl rfl Try.func9 (by kernel_rfl) rfl #[.string t181] rfl (by (try simp only [List.map_toArray, List.map_cons, List.map_nil]); first | done | rfl | (simp only [List.length_drop, List.length_take]; rfl)) ?_; (with_reducible refine (nibble_Key.calls kj4 t181 t182 true _ A10.out).mono ?_); rintro e w26 ⟨rfl, hb⟩; refine ⟨_, rfl, ?_⟩; have n0_ := Aside0.mk (below_step (by repeat (first | (with_reducible first | exact HB.out | apply below_alloc | apply pw_below_drewN | apply below_drew1) | exact HB.out)) hb); clear HB; have HB := n0_; clear n0_; (try clear hb); (try clear hb2); (try clear hk); (try clear hi)))
         go_ret
         exact ⟨by first | rfl | (simp [errW_none, errW_some] <;> rfl) | (simp [*, errW_none, errW_some] <;> rfl), by repeat (first | (with_reducible first | exact HB.out | apply below_alloc | apply pw_below_drewN | apply below_drew1) | exact HB.out)⟩
       ·rw [if_neg c13] at H
        have c13b0 : (t182.toList == a0.toList) = false := beq_eq_false_iff_ne.mpr c13
        have c13b1 : (t182.toList != a0.toList) = true := bne_iff_ne.mpr c13
        obtain rfl := Option.some.inj H
        go_wp2_with (first | ((with_reducible refine gate_callee (f := 11) rfl ?_); refine goesL_ (some 22) rfl rfl Try.func11 (by kernel_rfl) rfl #[.string a0] rfl (by (try simp only [List.map_toArray, List.map_cons, List.map_nil]); first | done | rfl | (simp only [List.length_drop, List.length_take]; rfl)) ?_; (with_reducible refine (nibble_Path.calls kj4 a0 t181 _ A9.out).mono ?_); rintro e w27 ⟨rfl, hb⟩; refine ⟨_, rfl, ?_⟩; have n0_ := Aside0.mk (below_step (by repeat (first | (with_reducible first | exact HB.out | apply below_alloc | apply pw_below_drewN | apply below_drew1) | exact HB.out)) hb); clear HB; have HB := n0_; clear n0_; (try clear hb); (try clear hb2); (try clear hk); (try clear hi)) | ((with_reducible refine gate_callee (f := 9) rfl ?_); refine goesL_ (some 25) rfl rfl Try.func9 (by kernel_rfl) rfl #[.string t181] rfl (by (try simp only [List.map_toArray, List.map_cons, List.map_nil]); first | done | rfl | (simp only [List.length_drop, List.length_take]; rfl)) ?_; (with_reducible refine (nibble_Key.calls kj4 t181 t182 true _ A10.out).mono ?_); rintro e w28 ⟨rfl, hb⟩; refine ⟨_, rfl, ?_⟩; have n0_ := Aside0.mk (below_step (by repeat (first | (with_reducible first | exact HB.out | apply below_alloc | apply pw_below_drewN | apply below_drew1) | exact HB.out)) hb); clear HB; have HB := n0_; clear n0_; (try clear hb); (try clear hb2); (try clear hk); (try clear hi)))
        go_ret
        exact ⟨by first | rfl | (simp [errW_none, errW_some] <;> rfl) | (simp [*, errW_none, errW_some] <;> rfl), by repeat (first | (with_reducible first | exact HB.out | apply below_alloc | apply pw_below_drewN | apply below_drew1) | exact HB.out)⟩
      ·replace c12 := Bool.eq_false_iff.mpr c12
       subst c12
       have H1 : (some false) = some r := by rw [if_neg (show ¬ (false = true) by decide)] at H; exact H
       clear H
       have H := H1
       clear H1
       obtain rfl := Option.some.inj H
       go_wp2_with (first | ((with_reducible refine gate_callee (f := 11) rfl ?_); refine goesL_ (some 22) rfl rfl Try.func11 (by kernel_rfl) rfl #[.string a0] rfl (by (try simp only [List.map_toArray, List.map_cons, List.map_nil]); first | done | rfl | (simp only [List.length_drop, List.length_take]; rfl)) ?_; (with_reducible refine (nibble_Path.calls kj4 a0 t181 _ A9.out).mono ?_); rintro e w29 ⟨rfl, hb⟩; refine ⟨_, rfl, ?_⟩; have n0_ := Aside0.mk (below_step (by repeat (first | (with_reducible first | exact HB.out | apply below_alloc | apply pw_below_drewN | apply below_drew1) | exact HB.out)) hb); clear HB; have HB := n0_; clear n0_; (try clear hb); (try clear hb2); (try clear hk); (try clear hi)) | ((with_reducible refine gate_callee (f := 9) rfl ?_); refine goesL_ (some 25) rfl rfl Try.func9 (by kernel_rfl) rfl #[.string t181] rfl (by (try simp only [List.map_toArray, List.map_cons, List.map_nil]); first | done | rfl | (simp only [List.length_drop, List.length_take]; rfl)) ?_; (with_reducible refine (nibble_Key.calls kj4 t181 t182 false _ A10.out).mono ?_); rintro e w30 ⟨rfl, hb⟩; refine ⟨_, rfl, ?_⟩; have n0_ := Aside0.mk (below_step (by repeat (first | (with_reducible first | exact HB.out | apply below_alloc | apply pw_below_drewN | apply below_drew1) | exact HB.out)) hb); clear HB; have HB := n0_; clear n0_; (try clear hb); (try clear hb2); (try clear hk); (try clear hi)))
       go_ret
       exact ⟨by first | rfl | (simp [errW_none, errW_some] <;> rfl) | (simp [*, errW_none, errW_some] <;> rfl), by repeat (first | (with_reducible first | exact HB.out | apply below_alloc | apply pw_below_drewN | apply below_drew1) | exact HB.out)⟩
     ·exact absurd rfl c11
 ·replace c4 := Bool.eq_false_iff.mpr c4
  subst c4
  have H1 : (some false) = some r := by rw [if_neg (show ¬ (false = true) by decide)] at H; exact H
  clear H
  have H := H1
  clear H1
  obtain rfl := Option.some.inj H
  go_enter Try.func4, Try.ntmps4
  go_wp2_with (first | ((with_reducible refine gate_callee (f := 8) rfl ?_); refine goesL_ (some 9) rfl rfl Try.func8 (by kernel_rfl) rfl #[] rfl (by (try simp only [List.map_toArray, List.map_cons, List.map_nil]); first | done | rfl | (simp only [List.length_drop, List.length_take]; rfl)) ?_; (with_reducible refine (guillochelaw01_works.calls k  false _ A3.out).mono ?_); rintro e w33 ⟨rfl, hb⟩; refine ⟨_, rfl, ?_⟩; have n0_ := Aside0.mk (below_step (by repeat (first | (with_reducible first | exact HB.out | apply below_alloc | apply pw_below_drewN | apply below_drew1) | exact HB.out)) hb); clear HB; have HB := n0_; clear n0_; (try clear hb); (try clear hb2); (try clear hk); (try clear hi)))
  go_ret
  exact ⟨by first | rfl | (simp [errW_none, errW_some] <;> rfl) | (simp [*, errW_none, errW_some] <;> rfl), by repeat (first | (with_reducible first | exact HB.out | apply below_alloc | apply pw_below_drewN | apply below_drew1) | exact HB.out)⟩

/-- THE ONE PURE STATEMENT of guillochelaw01_NibbleOrder: yours. -/
def guillochelaw01_NibbleOrder.Pure : Prop := ∀ (a0 : ByteArray) (a1 : ByteArray), a0.size ≤ 140737488351232 → a1.size ≤ 140737488351232 → ∃ k, guillochelaw01_NibbleOrder.f k a0 a1 = some true
theorem guillochelaw01_NibbleOrder.walk (P : guillochelaw01_NibbleOrder.Pure) (a0 : ByteArray) (a1 : ByteArray) (w : World) (w0 : a0.size ≤ 140737488351232) (w1 : a1.size ≤ 140737488351232) :
  Calls Try.prog 4 #[.string a0, .string a1] w fun e w' => e = .returned (.bool true) ∧ Below w.heap.size w w' := by
 obtain ⟨k, h⟩ := P a0 a1 w0 w1
 refine (guillochelaw01_NibbleOrder.calls k a0 a1 true w h).mono ?_
 rintro e w' ⟨rfl, hd⟩
 exact ⟨rfl, hd⟩

end Go.Proofs.Ytbnniapnbjmbhaa.PA
