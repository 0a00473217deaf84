/- What rlp.Text, rlp.Num, and rlp.List answer, as bytes: from the printed contracts of digits, wrap, Text and Num. -/
import Derived.Test.YtibhhikaecpgiaaDoorP2
import Derived.Test.YtibhhikaecpgiaaDoorL1
import Derived.Test.YtibhhikaecpgiaaDoorL3
import Derived.Test.YtibhhikaecpgiaaDoorShelf
set_option linter.unusedSimpArgs false
set_option linter.unusedVariables false
namespace Go.Proofs.YtibhhikaecpgiaaDoor.R
open Go.RowKit Go.Proofs.YtibhhikaecpgiaaDoorW.PrintWords Go.Proofs.YtibhhikaecpgiaaDoorW.PrintLast Go.Proofs.YtibhhikaecpgiaaDoorW.PrintMore

def B (l : L) : ByteArray := ⟨l.toArray⟩
@[simp] theorem B_data (l : L) : (B l).data.toList = l := rfl
theorem B_of (s : ByteArray) : B s.data.toList = s := by cases s; simp [B]
theorem B_inj {l m : L} (h : B l = B m) : l = m := by have := congrArg (fun s => s.data.toList) h; exact this
theorem B_append (l m : L) : B l ++ B m = B (l ++ m) := by
  have : (B l ++ B m).data.toList = l ++ m := by simp [ByteArray.data_append]
  rw [← B_of (B l ++ B m), this]
theorem B_size (l : L) : (B l).size = l.length := by simp [B, ByteArray.size]
def ints (l : L) : List Int := l.map fun b => (b.toNat : Int)
theorem ints_str (l : L) : strOfNums (ints l) = B l := by
  simp only [strOfNums, ints, B, List.map_map]
  congr 2
  conv => rhs; rw [← List.map_id l]
  refine List.map_congr_left fun c _ => ?_
  simp
theorem ints_append (l m : L) : ints (l ++ m) = ints l ++ ints m := by simp [ints]
theorem ints_length (l : L) : (ints l).length = l.length := by simp [ints]
theorem dg_fuel (k n : Nat) (h : n < 256 ^ k) : dg (k + 1) n = dg k n := by
  induction k generalizing n with
  | zero => simp at h; subst h; rfl
  | succ k ih =>
    have e1 : dg (k + 1 + 1) n = if n = 0 then [] else dg (k + 1) (n / 256) ++ [UInt8.ofNat (n % 256)] := rfl
    have e2 : dg (k + 1) n = if n = 0 then [] else dg k (n / 256) ++ [UInt8.ofNat (n % 256)] := rfl
    by_cases hn : n = 0
    · rw [e1, e2, if_pos hn, if_pos hn]
    · rw [e1, e2, if_neg hn, if_neg hn, ih (n / 256) (by rw [Nat.div_lt_iff_lt_mul (by decide)]; rw [Nat.pow_succ] at h; exact h)]
theorem dg_step (m : Nat) (h : m < 256 ^ 8) : dg 8 m = if m = 0 then [] else dg 8 (m / 256) ++ [UInt8.ofNat (m % 256)] := by
  have h2 : m / 256 < 256 ^ 7 := by rw [Nat.div_lt_iff_lt_mul (by decide)]; exact h
  rw [dg_fuel 7 (m / 256) h2, dg]
theorem dg_nil (m : Nat) : dg 8 m = [] ↔ m = 0 := by
  constructor
  · intro h
    unfold dg at h
    by_cases hm : m = 0
    · exact hm
    · rw [if_neg hm] at h; simp at h
  · rintro rfl; rfl
theorem pow_shift (n g : Nat) : n / 2 ^ (8 * g) = n / 256 ^ g := by rw [Nat.pow_mul]
theorem lit1_string (W : World) (c : Int) : (convert 41 9 (.slice (some ⟨W.heap.size, 0, none⟩) 1 1)).run Tryd.prog (W.alloc (.cells #[.int .u8 c] 5)) = .ok (.string (strOfNums [c])) (W.alloc (.cells #[.int .u8 c] 5)) :=
  own_string Tryd.underlying41 Tryd.underlying5 Tryd.underlying9 (own_lit W W.heap.size 5 .u8 [c] (Nat.le_refl _) (by simp))
theorem ints_one (n : Nat) (c : Int) (h : (n : Int) % 256 = c) : ints [UInt8.ofNat n] = [c] := by
  subst h
  simp [ints, UInt8.toNat_ofNat']
set_option maxRecDepth 100000 in
theorem digits_calls (w : World) (n : Nat) (hn : n < 256 ^ 8) :
    Calls Tryd.prog 16 #[.int .u64 n] w fun e w' => ∃ (A : Option Addr) (cp : Nat), e = .returned (.slice A (dg 8 n).length cp) ∧ w'.ownsRow w.heap.size 5 1 (.slice A (dg 8 n).length cp) (ints (dg 8 n)).length (nums .u8 (ints (dg 8 n))) ∧ Below w.heap.size w w' := by
  go_enter Tryd.func16, Tryd.ntmps16
  go_wp2
  go_loopg [3, 4] 8 (fun gf s3 s4 wx => ∃ (A : Option Addr) (cp : Nat) (D : L) (T : Int), s3 = .slice A D.length cp ∧ s4 = .int .i64 T ∧ Aside0 (gf ≤ 8 ∧ T = 8 * (gf : Int) - 8) ∧ Aside0 (D = dg 8 (n / 256 ^ gf)) ∧ Aside0 (wx.ownsRow w.heap.size 5 1 (.slice A D.length cp) (ints D).length (nums .u8 (ints D))) ∧ Aside0 (Below w.heap.size w wx))
  case atStart =>
    refine ⟨none, 0, [], 56, rfl, rfl, ⟨by omega, rfl⟩, ⟨?_⟩, ⟨World.ownsRow_nil _ _ _ _⟩, ⟨Below.refl _ _⟩⟩
    rw [Nat.div_eq_of_lt hn]
    rfl
  case round =>
    obtain ⟨A, cp, D, T, rfl, rfl, HT, HD, HO, HB⟩ := hrel
    cases gk with
    | zero =>
      have hT : T < 0 := by have := HT.out.2; omega
      go_wp2
      go_ret
      have hD := HD.out
      rw [Nat.pow_zero, Nat.div_one] at hD
      rw [← hD]
      exact ⟨A, cp, rfl, HO.out, HB.out⟩
    | succ g =>
      have hT0 : 0 ≤ T := by have := HT.out.2; omega
      have hT1 : T ≤ 56 := by have := HT.out; omega
      obtain ⟨m, hm⟩ : ∃ m : Nat, n / 256 ^ g = m := ⟨_, rfl⟩
      obtain ⟨c, hc⟩ : ∃ c : Int, (m : Int) % 256 = c := ⟨_, rfl⟩
      have hsh : (n : Int) / 2 ^ T.toNat = (m : Int) := by
        have e1 : T.toNat = 8 * g := by have := HT.out.2; omega
        rw [e1, ← hm, ← pow_shift]
        norm_cast
      have hm8 : n / 256 ^ (g + 1) = m / 256 := by rw [← hm, Nat.div_div_eq_div_mul, Nat.pow_succ]
      have hst : dg 8 m = if m = 0 then [] else dg 8 (m / 256) ++ [UInt8.ofNat (m % 256)] := dg_step m (by rw [← hm]; exact Nat.lt_of_le_of_lt (Nat.div_le_self _ _) hn)
      have hD := HD.out
      rw [hm8] at hD
      rw [← hD] at hst
      have hc0 : 0 ≤ c ∧ c < 256 := by omega
      have hDl : D.length ≤ 8 := by rw [hD]; exact dg_length 8 _
      have hD0 : D = [] ↔ m / 256 = 0 := by rw [hD]; exact dg_nil _
      by_cases hskip : c = 0 ∧ D = []
      · obtain ⟨h1, h2⟩ := hskip
        have h3 : m = 0 := by have := hD0.1 h2; omega
        have HD2 : Aside0 (([] : L) = dg 8 (n / 256 ^ g)) := ⟨by rw [hm, h3]; rfl⟩
        subst h2 h1
        clear hst hD hD0 hm8 HD hm h3
        go_wp2
        go_roundg g
        case measure => omega
        case rel => exact ⟨A, cp, [], T - 8, rfl, by go_num, ⟨by have := HT.out; omega, by have := HT.out; omega⟩, HD2, HO, HB⟩
      · have h3 : ¬ m = 0 := fun h => hskip ⟨by omega, hD0.2 (by omega)⟩
        rw [if_neg h3] at hst
        have HD2 : Aside0 (D ++ [UInt8.ofNat (m % 256)] = dg 8 (n / 256 ^ g)) := ⟨by rw [hm, ← hst]⟩
        have hcm : ((m % 256 : Nat) : Int) = c := by omega
        have hi1 : ints [UInt8.ofNat (m % 256)] = [c] := ints_one _ _ (by omega)
        have HI1 := Aside0.mk hi1
        have hil : (ints D).length = D.length := ints_length D
        have hcond : c = 0 → 0 < D.length := fun h => List.length_pos_iff.2 (fun h2 => hskip ⟨h, h2⟩)
        have HDL := Aside0.mk hDl
        have HIL := Aside0.mk hil
        clear hst hD hD0 hm8 HD hm h3 hi1 hcm hskip hDl hil
        by_cases hc00 : c = 0
        · have hDp : 0 < (D.length : Int) := by have := hcond hc00; omega
          subst hc00
          have HCM := Aside0.mk hc
          clear hcond
          go_wp2_with ((with_reducible refine gate_dst (N := 24) rfl ?_); refine print_append_num (w0 := w) w.heap.size rfl (.tmp 21) (.tmp 23) 41 5 .u8 1 rfl Tryd.underlying41 (by kernel_rfl) (by decide) _ (ints D) _ rfl rfl HO.out HB.out HB.out.size (by have h1 := HDL.out; have h2 := HIL.out; omega) ?_; intro v1 w1 hown hB hgr hat; obtain ⟨A2, c2, rfl, hlc2⟩ := q_slice (q_of_own hown); have O2 := Aside0.mk hown; have PB2 := Aside0.mk hB; clear hown hB hgr hat)
          go_roundg g
          case measure => omega
          case rel =>
            have he : (ints D ++ [0]) = ints (D ++ [UInt8.ofNat (m % 256)]) := by rw [ints_append, HI1.out]
            have hl2 : (ints (D ++ [UInt8.ofNat (m % 256)])).length = (D ++ [UInt8.ofNat (m % 256)]).length := ints_length _
            have ho := O2.out
            rw [he] at ho
            rw [hl2] at ho
            refine ⟨A2, c2, D ++ [UInt8.ofNat (m % 256)], T - 8, by rw [List.length_append, List.length_singleton, HIL.out], by go_num, ⟨by have := HT.out; omega, by have := HT.out; omega⟩, HD2, ⟨?_⟩, PB2⟩
            rw [hl2]
            exact ho
        · clear hcond
          go_wp2_with ((with_reducible refine gate_dst (N := 24) rfl ?_); refine print_append_num (w0 := w) w.heap.size rfl (.tmp 21) (.tmp 23) 41 5 .u8 1 rfl Tryd.underlying41 (by kernel_rfl) (by decide) _ (ints D) _ rfl rfl HO.out HB.out HB.out.size (by have h1 := HDL.out; have h2 := HIL.out; omega) ?_; intro v1 w1 hown hB hgr hat; obtain ⟨A2, c2, rfl, hlc2⟩ := q_slice (q_of_own hown); have O2 := Aside0.mk hown; have PB2 := Aside0.mk hB; clear hown hB hgr hat)
          go_roundg g
          case measure => omega
          case rel =>
            have he : (ints D ++ [c]) = ints (D ++ [UInt8.ofNat (m % 256)]) := by rw [ints_append, HI1.out]
            have hl2 : (ints (D ++ [UInt8.ofNat (m % 256)])).length = (D ++ [UInt8.ofNat (m % 256)]).length := ints_length _
            have ho := O2.out
            rw [he] at ho
            rw [hl2] at ho
            refine ⟨A2, c2, D ++ [UInt8.ofNat (m % 256)], T - 8, by rw [List.length_append, List.length_singleton, HIL.out], by go_num, ⟨by have := HT.out; omega, by have := HT.out; omega⟩, HD2, ⟨?_⟩, PB2⟩
            rw [hl2]
            exact ho
theorem B_cons (c : UInt8) (l : L) : B [c] ++ B l = B (c :: l) := B_append [c] l
set_option maxRecDepth 100000 in
theorem wrap_calls (w : World) (b : L) (base : Nat) (hb : b.length ≤ 1000000000) (h0 : base ≤ 192) :
    Calls Tryd.prog 19 #[.string (B b), .int .u8 base] w fun e w' => e = .returned (.string (B (wrapL b base))) ∧ Below w.heap.size w w' := by
  have hsz : (B b).size = b.length := B_size b
  have hL1 := fun W c => lit1_string W c
  by_cases h : b.length ≤ 55
  · obtain ⟨x, hx⟩ : ∃ x : Int, (base : Int) + (b.length : Int) = x := ⟨_, rfl⟩
    have hx8 : 0 ≤ x ∧ x < 256 := by omega
    have hW : wrapL b base = UInt8.ofNat (base + b.length) :: b := by unfold wrapL; rw [if_pos h]
    have hI : strOfNums [x] ++ B b = B (wrapL b base) := by
      rw [hW, ← B_cons, ← ints_str [UInt8.ofNat (base + b.length)], ints_one (base + b.length) x (by omega)]
    generalize hR : B (wrapL b base) = R at hI
    have HI := Aside0.mk hI
    have h1 : ((B b).size : Int) ≤ 55 := by omega
    have hxx : (base : Int) + ((B b).size : Int) = x := by omega
    have hs1 : (strOfNums [x]).size = 1 := rfl
    have hadd : ¬ 9223372036854775807 < (((strOfNums [x]).size + (B b).size : Nat) : Int) := by rw [hs1]; omega
    clear hI hR hW
    generalize B b = bb at *
    go_enter Tryd.func19, Tryd.ntmps19
    go_wp2
    go_ret
    exact ⟨by rw [← HI.out]; rfl, below_alloc (Below.refl _ _) _⟩
  · have hdl := dg8_len (n := b.length) (by omega)
    have hD := digits_calls w b.length (by omega)
    obtain ⟨D, hDD⟩ : ∃ D : L, dg 8 b.length = D := ⟨_, rfl⟩
    rw [hDD] at hdl hD
    obtain ⟨x, hx⟩ : ∃ x : Int, (base : Int) + 55 + (D.length : Int) = x := ⟨_, rfl⟩
    have hx8 : 0 ≤ x ∧ x < 256 := by omega
    have hW : wrapL b base = UInt8.ofNat (base + 55 + D.length) :: (D ++ b) := by unfold wrapL; rw [if_neg h, hDD]
    have hI : strOfNums ([x] ++ ints D) ++ B b = B (wrapL b base) := by
      rw [hW, ← ints_one (base + 55 + D.length) x (by omega), ← ints_append, ints_str, B_append]
      rfl
    have hs1 : (strOfNums ([x] ++ ints D)).size = 1 + D.length := by
      have := ints_length D
      simp [strOfNums, ByteArray.size, this]
      omega
    generalize hR : B (wrapL b base) = R at hI
    generalize hS : strOfNums ([x] ++ ints D) = S at hI hs1
    have HI := Aside0.mk hI
    have HS := Aside0.mk hS
    have h1 : ¬ ((B b).size : Int) ≤ 55 := by omega
    have h2 : ((B b).size : Int) ≤ 1000000000 := by omega
    have hadd : ¬ 9223372036854775807 < ((S.size + (B b).size : Nat) : Int) := by rw [hs1]; omega
    have hDl8 : (D.length : Int) ≤ 8 := by omega
    have hDl1 : 0 ≤ (D.length : Int) := by omega
    have hbs : (b.length : Int) = ((B b).size : Int) := by omega
    have hil := ints_length D
    have HIL := Aside0.mk hil
    have hrd : ∀ W base e A cp, World.ownsRow W base e 1 (.slice A D.length cp) (ints D).length (nums .u8 (ints D)) → ReadsInt W .u8 A D.length (ints D) := by
      intro W base e A cp ho
      rw [hil] at ho
      exact own_reads' ho
    have HRD := Aside0.mk hrd
    rw [hbs] at hD
    have HDG := Aside0.mk hD
    clear hI hR hW hS hD hdl hDD hrd hil hsz
    generalize B b = bb at *
    clear h hbs hb
    have HL1 := Aside0.mk hL1
    clear hL1
    go_enter Tryd.func19, Tryd.ntmps19
    go_wp2_with (go_at_call 16; fail)
    refine (HDG.out).mono ?_
    rintro e w1 ⟨A, cp, rfl, ho, hB1⟩
    have B1 := Aside0.mk hB1
    have RD := Aside0.mk (HRD.out _ _ _ _ _ (ho.alloc (.cells #[.int .u8 x] 5)))
    clear ho hB1 HDG HRD
    go_wp2_with ((with_reducible refine gate_dst (N := 30) rfl ?_); refine print_append_row (w0 := w) w.heap.size rfl (.tmp 28) (.tmp 29) 41 5 .u8 1 rfl Tryd.underlying41 (by kernel_rfl) (by decide) _ [x] (ints D) A D.length cp rfl rfl (own_lit w1 w.heap.size 5 .u8 [x] B1.out.size (by simp)) RD.out (B1.out.alloc B1.out.size _) (by have := (B1.out.alloc B1.out.size (.cells #[.int .u8 x] 5)).size; exact this) (by have := HIL.out; simp; omega) ?_; intro v1 w2 hown hB hgr hat; have hcv := own_string (src := 41) (dst := 9) Tryd.underlying41 Tryd.underlying5 Tryd.underlying9 hown; rw [HS.out] at hcv; have B2 := Aside0.mk hB; clear hown hB hgr hat)
    go_ret
    exact ⟨by rw [← HI.out]; rfl, B2.out⟩
theorem B_at (b : L) (i : Nat) (h : i < (B b).size) : (B b)[i]'h = b.getD i 0 := by
  have := byte_at (B b) i h
  rw [B_data] at this
  exact this.symm
theorem text_calls (w : World) (b : L) (hb : b.length ≤ 1000000000) :
    Calls Tryd.prog 11 #[.string (B b)] w fun e w' => e = .returned (.string (B (textL b))) ∧ Below w.heap.size w w' := by
  have HW := Aside0.mk (wrap_calls w b 128 hb (by omega))
  by_cases h1 : b.length = 1
  · have hsz : (B b).size = 1 := by rw [B_size, h1]
    have hs1 : ((B b).size : Int) = 1 := by omega
    have h0 : 0 < (B b).size := by omega
    have hat := B_at b 0 h0
    by_cases h2 : (b.getD 0 0).toNat < 128
    · have hR : textL b = b := by unfold textL; rw [if_pos ⟨h1, h2⟩]
      rw [hR]
      have h3 : ((((B b)[0]'h0).toNat : Nat) : Int) < 128 := by rw [hat]; omega
      clear hat
      go_enter Tryd.func11, Tryd.ntmps11
      go_wp2
      go_ret
      exact ⟨rfl, Below.refl _ _⟩
    · have hR : textL b = wrapL b 128 := by unfold textL; rw [if_neg (by rintro ⟨_, h⟩; exact h2 h)]
      rw [hR]
      have h3 : ¬ ((((B b)[0]'h0).toNat : Nat) : Int) < 128 := by rw [hat]; omega
      clear hat
      go_enter Tryd.func11, Tryd.ntmps11
      go_wp2_with (go_at_call 19; refine (HW.out).mono ?_; rintro e w1 ⟨rfl, hB1⟩; have B1 := Aside0.mk hB1; clear hB1 HW)
      go_ret
      exact ⟨rfl, B1.out⟩
  · have hR : textL b = wrapL b 128 := by unfold textL; rw [if_neg (by rintro ⟨h, _⟩; exact h1 h)]
    rw [hR]
    have hs1 : ¬ ((B b).size : Int) = 1 := by rw [B_size]; omega
    go_enter Tryd.func11, Tryd.ntmps11
    go_wp2_with (go_at_call 19; refine (HW.out).mono ?_; rintro e w1 ⟨rfl, hB1⟩; have B1 := Aside0.mk hB1; clear hB1 HW)
    go_ret
    exact ⟨rfl, B1.out⟩
theorem num_calls (w : World) (n : Nat) (hn : n < 256 ^ 8) :
    Calls Tryd.prog 8 #[.int .u64 n] w fun e w' => e = .returned (.string (B (textL (dg 8 n)))) ∧ Below w.heap.size w w' := by
  have HD := Aside0.mk (digits_calls w n hn)
  have HT := Aside0.mk (fun W => text_calls W (dg 8 n) (by have := dg_length 8 n; omega))
  go_enter Tryd.func8, Tryd.ntmps8
  go_wp2_with (go_at_call 16; fail)
  refine (HD.out).mono ?_
  rintro e w1 ⟨A, cp, rfl, ho, hB1⟩
  have B1 := Aside0.mk hB1
  have hcv := own_string (src := 41) (dst := 9) Tryd.underlying41 Tryd.underlying5 Tryd.underlying9 ho
  rw [ints_str] at hcv
  clear ho hB1 HD
  go_wp2_with (go_at_call 11; refine (HT.out w1).mono ?_; rintro e w2 ⟨rfl, hB2⟩; have B2 := Aside0.mk (B1.out.trans (hB2.mono B1.out.size)); clear hB2 HT)
  go_ret
  exact ⟨rfl, B2.out⟩
theorem joinTail_nil (r : List (List UInt8)) : Lib.joinTail [] r = r.flatten := by
  induction r with
  | nil => rfl
  | cons x r ih => simp [Lib.joinTail, ih]
theorem join_flat (xs : List L) : Lib.join ((xs.map B).map (·.data.toList)) (⟨#[]⟩ : ByteArray).data.toList = xs.flatten := by
  have e : (xs.map B).map (·.data.toList) = xs := by
    rw [List.map_map]
    conv => rhs; rw [← List.map_id xs]
    exact List.map_congr_left fun _ _ => rfl
  rw [e]
  cases xs with
  | nil => rfl
  | cons x r => rw [Lib.join_cons, joinTail_nil]; simp
/-- Items, as an item. -/
theorem list_calls (w : World) (xs : List L) (A : Option Addr) (c : Nat) (hA : A = none ∨ ∃ bk o, A = some ⟨bk, o, none⟩) (hr : ReadsOf Value.string ByteArray.empty w A xs.length (xs.map B)) (hc : xs.length ≤ c) (hlen : xs.flatten.length ≤ 1000000000) (hn : xs.length ≤ 1000000000) :
    Calls Tryd.prog 12 #[.slice A xs.length c] w fun e w' => e = .returned (.string (B (listL xs.flatten))) ∧ Below w.heap.size w w' := by
  have HJ : Aside0 (Calls Tryd.prog 20 #[.slice A xs.length c, .string ⟨#[]⟩] w fun e w' => e = .returned (.string (B xs.flatten)) ∧ Below w.heap.size w w') := by
    refine ⟨?_⟩
    cases xs with
    | nil => exact (Tryd.strings_Join_none A c ⟨#[]⟩ w).mono fun e w' h => ⟨h.1, by rw [h.2]; exact Below.refl _ _⟩
    | cons x xs =>
      obtain ⟨ad, rfl, hcell⟩ := hr.2.2 (by simp)
      rcases hA with h | ⟨bk, o, h⟩
      · cases h
      · injection h with h
        subst h
        have hJ := join_flat (x :: xs)
        have hbk : bk < w.heap.size := World.block_lt_of_cell? w _ (hcell 0 (by simp))
        have hl : (List.map B (x :: xs)).length = (x :: xs).length := List.length_map _
        have := Tryd.strings_Join bk o c ((x :: xs).map B) ⟨#[]⟩ w (fun j y hy => by
          have hj : j < (x :: xs).length := by
            have := (List.getElem?_eq_some_iff.1 hy).1
            rwa [hl] at this
          have h1 := hcell j hj
          rw [add_at] at h1
          rw [h1, List.getD_eq_getElem?_getD, hy]
          rfl) hbk (by rw [hl]; omega) (by rw [hl]; exact hc) (by rw [hJ]; omega)
        rw [hl, hJ] at this
        exact this
  have HW := Aside0.mk (fun W => wrap_calls W xs.flatten 192 hlen (by omega))
  go_enter Tryd.func12, Tryd.ntmps12
  go_wp2_with (first | (go_at_call 20; refine (HJ.out).mono ?_; rintro e w1 ⟨rfl, hB1⟩; have B1 := Aside0.mk hB1; clear hB1 HJ) | (go_at_call 19; refine (HW.out w1).mono ?_; rintro e w2 ⟨rfl, hB2⟩; have B2 := Aside0.mk (B1.out.trans (hB2.mono B1.out.size)); clear hB2 HW))
  go_ret
  exact ⟨rfl, B2.out⟩
end Go.Proofs.YtibhhikaecpgiaaDoor.R
