/- The walk of ShaFresh. -/
import Derived.Test.YthgminihlejpnaaDoorS15
set_option linter.unusedSimpArgs false
set_option linter.unusedVariables false
namespace Go.Proofs.YthgminihlejpnaaDoor.S
open Go.RowKit Go.Proofs.YthgminihlejpnaaDoorW.PrintWords Go.Proofs.YthgminihlejpnaaDoorW.PrintLast Go.Proofs.YthgminihlejpnaaDoorW.PrintMore

theorem wordAt_congr {b c : List Int} (h : ∀ i, i < 64 → b.getD i 0 = c.getD i 0) (i : Nat) (hi : i < 16) : wordAt b i = wordAt c i := by
  unfold wordAt
  rw [h (4 * i) (by omega), h (4 * i + 1) (by omega), h (4 * i + 2) (by omega), h (4 * i + 3) (by omega)]
theorem spreadTo_congr {b c : List Int} (h : ∀ i, i < 64 → b.getD i 0 = c.getD i 0) (k : Nat) : spreadTo b k = spreadTo c k := by
  induction k with
  | zero => rfl
  | succ k ih =>
    rw [spreadTo, spreadTo, ih]
    by_cases hk : k < 16
    · rw [if_pos hk, if_pos hk, wordAt_congr h k hk]
    · rw [if_neg hk, if_neg hk]
theorem byF_append (h : List Int) (l m : List UInt8) (hl : ¬ l.length < 64) : byF h (nsOf (l ++ m)) = byF h (nsOf l) := by
  unfold byF
  rw [spreadTo_congr (c := nsOf l) (fun i hi => ?_)]
  have h1 : i < l.length := by omega
  have h2 : i < (List.map (fun b : UInt8 => (b.toNat : Int)) l).length := by rw [List.length_map]; exact h1
  rw [nsOf, nsOf, List.map_append, List.getD_eq_getElem?_getD, List.getD_eq_getElem?_getD, List.getElem?_append_left h2]
theorem absorb_nil (k : Nat) (h : List Int) : absorb k h [] = (h, []) := by
  cases k with
  | zero => rfl
  | succ k => unfold absorb; rw [if_pos (by decide)]
theorem absorb_fuel (k : Nat) : ∀ (j : Nat) (h : List Int) (l : List UInt8), l.length ≤ k → l.length ≤ j → absorb k h l = absorb j h l := by
  induction k with
  | zero =>
    intro j h l hk hj
    obtain rfl : l = [] := List.eq_nil_of_length_eq_zero (by omega)
    rw [absorb_nil, absorb_nil]
  | succ k ih =>
    intro j h l hk hj
    cases j with
    | zero =>
      obtain rfl : l = [] := List.eq_nil_of_length_eq_zero (by omega)
      rw [absorb_nil, absorb_nil]
    | succ j =>
      rw [absorb, absorb]
      by_cases hl : l.length < 64
      · rw [if_pos hl, if_pos hl]
      · rw [if_neg hl, if_neg hl]
        exact ih j _ _ (by rw [List.length_drop]; omega) (by rw [List.length_drop]; omega)
theorem absorb_append (k : Nat) : ∀ (h : List Int) (l m : List UInt8) (j i : Nat), l.length ≤ k → l.length + m.length ≤ j → (absorb k h l).2.length + m.length ≤ i → absorb j h (l ++ m) = absorb i (absorb k h l).1 ((absorb k h l).2 ++ m) := by
  induction k with
  | zero =>
    intro h l m j i hk hj hi
    obtain rfl : l = [] := List.eq_nil_of_length_eq_zero (by omega)
    exact absorb_fuel j i h _ (by simpa using hj) (by simpa [absorb] using hi)
  | succ k ih =>
    intro h l m j i hk hj hi
    by_cases hl : l.length < 64
    · have e : absorb (k + 1) h l = (h, l) := by rw [absorb, if_pos hl]
      rw [e] at hi ⊢
      exact absorb_fuel j i h _ (by rw [List.length_append]; exact hj) (by rw [List.length_append]; exact hi)
    · have e : absorb (k + 1) h l = absorb k (byF h (nsOf l)) (l.drop 64) := by rw [absorb, if_neg hl]
      rw [e] at hi ⊢
      cases j with
      | zero => omega
      | succ j =>
        rw [absorb, if_neg (by rw [List.length_append]; omega), byF_append h l m hl, List.drop_append_of_le_length (by omega)]
        exact ih _ _ m j i (by rw [List.length_drop]; omega) (by rw [List.length_drop]; omega) hi
theorem Told.tell_append (t : Told) (ht : 0 ≤ t.n) (a b : ByteArray) : (t.tell a).tell b = t.tell (a ++ b) := by
  have hA := absorb_append (t.rest.length + a.size) t.h (t.rest ++ a.data.toList) b.data.toList (t.rest.length + (a ++ b).size) ((t.tell a).rest.length + b.size) (by rw [List.length_append, Array.length_toList]; exact Nat.le_refl _) (by rw [List.length_append, Array.length_toList, Array.length_toList, ByteArray.size_append]; show _ + _ + b.size ≤ _; show t.rest.length + a.size + b.size ≤ _; omega) (Nat.le_refl _)
  rw [List.append_assoc] at hA
  have hd : (a ++ b).data.toList = a.data.toList ++ b.data.toList := by rw [ByteArray.data_append, Array.toList_append]
  have hn : ((t.n + (a.size : Int)) % 18446744073709551616 + (b.size : Int)) % 18446744073709551616 = (t.n + ((a ++ b).size : Int)) % 18446744073709551616 := by rw [ByteArray.size_append]; omega
  have e1 : (t.tell (a ++ b)) = ⟨(absorb (t.rest.length + (a ++ b).size) t.h (t.rest ++ (a ++ b).data.toList)).1, (absorb (t.rest.length + (a ++ b).size) t.h (t.rest ++ (a ++ b).data.toList)).2, (t.n + (a ++ b).size) % 18446744073709551616⟩ := rfl
  rw [e1, hd, hA, ← hn]
  rfl
theorem ofS1 (a : ByteArray) : (Told.new.tell a).sum = ofS [a] := rfl
theorem ofS2 (a b : ByteArray) : ((Told.new.tell a).tell b).sum = ofS [a, b] := rfl
theorem ofS_app (a b : ByteArray) : ((Told.new.tell a).tell b).sum = ofS [a ++ b] := by rw [Told.tell_append _ (by decide), ofS1]

/-- Two hashes, apart. -/
structure Two (W : World) (base g k : Nat) (t u : Told) (v x : Value) : Prop where
  hh : Has W base g t v
  hk : Has W base k u x
  gk : g ≠ k
  gx : some g ≠ x.ownBlock
  kv : some k ≠ v.ownBlock
  vx : ∀ b, v.ownBlock = some b → x.ownBlock ≠ some b
theorem Two.swap {W : World} {base g k : Nat} {t u : Told} {v x : Value} (T : Two W base g k t u v x) : Two W base k g u t x v :=
  ⟨T.hk, T.hh, T.gk.symm, T.kv, T.gx, fun b hx hv => T.vx b hv hx⟩
theorem Two.below {W W1 : World} {base g k : Nat} {t u : Told} {v x : Value} (T : Two W base g k t u v x) (hb : Below W.heap.size W W1) : Two W1 base g k t u v x :=
  ⟨HashAt.below T.hh hb, HashAt.below T.hk hb, T.gk, T.gx, T.kv, T.vx⟩
theorem Two.turn {W W1 : World} {base g k : Nat} {t t' u : Told} {v v' x : Value} (T : Two W base g k t u v x) (H : Has W1 base g t' v') (hT : Turns W W1 g v v') : Two W1 base g k t' u v' x := by
  have hkl := blk_lt T.hk.blk
  refine ⟨H, HashAt.move T.hk fun j hj hjk => hT.block j hj ?_ ?_, T.gk, T.gx, ?_, ?_⟩
  · rintro rfl
    rcases hjk with hjk | hjk
    · exact T.gk hjk
    · exact T.gx hjk
  · intro e
    rcases hjk with rfl | hjk
    · exact T.kv e
    · exact T.vx j e.symm hjk.symm
  · rcases hT.own with e | ⟨b, e, hb⟩
    · rw [e]; exact T.kv
    · rw [e]; intro h; injection h with h; omega
  · intro b hb hx
    rcases hT.own with e | ⟨b', e, hb'⟩
    · rw [e] at hb; exact T.vx b hb hx
    · rw [e] at hb
      injection hb with hb
      have := q_lt T.hk.row b hx
      omega
set_option maxRecDepth 100000 in
theorem lawFresh_calls (w : World) (a b : ByteArray) (hG : Glob w) (hbase : gtop ≤ w.heap.size) :
    Calls Tryd.prog 5 #[.string a, .string b] w fun e w' => e = .returned (.bool true) ∧ Below w.heap.size w w' := by
  have HWK := Aside0.mk (works_calls w hG hbase)
  have HNW := Aside0.mk (fun W hB base hb => new_has W (hG.below hB) base hb)
  by_cases ha : a.size ≤ 300
  · by_cases hb : b.size ≤ 300
    · have ha1 : ¬ 300 < (a.size : Int) := by omega
      have hb1 : ¬ 300 < (b.size : Int) := by omega
      have ha2 : a.size ≤ 1000000000 := by omega
      have hb2 : b.size ≤ 1000000000 := by omega
      have hab2 : (a ++ b).size ≤ 1000000000 := by rw [ByteArray.size_append]; omega
      have HA2 := Aside0.mk ha2
      have HB2 := Aside0.mk hb2
      have HAB2 := Aside0.mk hab2
      have hXY3 : ¬ 9223372036854775807 < (a.size : Int) + (b.size : Int) := by omega
      have hXY4 : ¬ 9223372036854775807 < ((a.size + b.size : Nat) : Int) := by omega
      clear ha hb ha2 hb2 hab2
      go_enter Tryd.func5, Tryd.ntmps5
      go_wp2_with (first | (go_at_call 7; refine (HWK.out).mono ?_; rintro e w1 ⟨rfl, hB1⟩; have B1 := Aside0.mk hB1; clear hB1 HWK) | (go_at_call 11; fail))
      refine (HNW.out w1 B1.out w.heap.size B1.out.size).mono ?_
      rintro e w2 ⟨rfl, v2, hE2, hB2, ho2⟩
      have E2 := Aside0.mk hE2
      have HO2 := Aside0.mk ho2
      have HK1 : Aside0 (w1.heap.size < w2.heap.size) := ⟨blk_lt hE2.blk⟩
      have B2 := Aside0.mk (B1.out.trans (hB2.mono B1.out.size))
      generalize hg : w1.heap.size = g at E2 HK1
      have HG0 := Aside0.mk hg
      clear hE2 hB2 ho2 hg B1
      go_wp2_with (go_at_call 11; fail)
      refine (HNW.out w2 B2.out w.heap.size B2.out.size).mono ?_
      rintro e w3 ⟨rfl, v3, hE3, hB3, ho3⟩
      have T3 : Aside0 (Two w3 w.heap.size g w2.heap.size Told.new Told.new v2 v3) := ⟨⟨HashAt.below E2.out hB3, hE3, Nat.ne_of_lt HK1.out, by rw [ho3]; exact fun h => (by cases h), by rw [HO2.out]; exact fun h => (by cases h), fun b hb => by rw [HO2.out] at hb; cases hb⟩⟩
      have B3 := Aside0.mk (B2.out.trans (hB3.mono B2.out.size))
      generalize hk : w2.heap.size = k at T3
      have HK0 := Aside0.mk hk
      clear hE3 hB3 ho3 hk B2 E2 HO2 HK1
      go_wp2_with (go_at_call 12; fail)
      refine (write_has a Told.Ok.new T3.out.hh (hG.below B3.out) hbase HA2.out).mono ?_
      rintro e w4 ⟨rfl, v4, hE4, hT4⟩
      have T4 := Aside0.mk (T3.out.turn hE4 hT4)
      have B4 := Aside0.mk (hT4.below T3.out.hh B3.out)
      clear hE4 hT4 T3 B3
      go_wp2_with (go_at_call 12; fail)
      refine (write_has b Told.Ok.new T4.out.hk (hG.below B4.out) hbase HB2.out).mono ?_
      rintro e w5 ⟨rfl, v5, hE5, hT5⟩
      have T5 := Aside0.mk (T4.out.swap.turn hE5 hT5).swap
      have B5 := Aside0.mk (hT5.below T4.out.hk B4.out)
      clear hE5 hT5 T4 B4
      go_wp2_with (go_at_call 13; fail)
      refine (sum_has (Told.Ok.new.tell a) T5.out.hh (hG.below B5.out) hbase).mono ?_
      rw [ofS1]
      rintro e w6 ⟨rfl, hB6⟩
      have T6 := Aside0.mk (T5.out.below hB6)
      have B6 := Aside0.mk (B5.out.trans (hB6.mono B5.out.size))
      clear hB6 T5 B5
      go_wp2_with (go_at_call 13; fail)
      refine (sum_has (Told.Ok.new.tell b) T6.out.hk (hG.below B6.out) hbase).mono ?_
      rw [ofS1]
      rintro e w7 ⟨rfl, hB7⟩
      have T7 := Aside0.mk (T6.out.below hB7)
      have B7 := Aside0.mk (B6.out.trans (hB7.mono B6.out.size))
      clear hB7 T6 B6
      go_wp2_with (go_at_call 12; fail)
      refine (write_has b (Told.Ok.new.tell a) T7.out.hh (hG.below B7.out) hbase HB2.out).mono ?_
      rintro e w8 ⟨rfl, v8, hE8, hT8⟩
      have T8 := Aside0.mk (T7.out.turn hE8 hT8)
      have B8 := Aside0.mk (hT8.below T7.out.hh B7.out)
      clear hE8 hT8 T7 B7
      go_wp2_with (go_at_call 12; fail)
      refine (write_has a (Told.Ok.new.tell b) T8.out.hk (hG.below B8.out) hbase HA2.out).mono ?_
      rintro e w9 ⟨rfl, v9, hE9, hT9⟩
      have T9 := Aside0.mk (T8.out.swap.turn hE9 hT9).swap
      have B9 := Aside0.mk (hT9.below T8.out.hk B8.out)
      clear hE9 hT9 T8 B8
      go_wp2_with (go_at_call 9; fail)
      refine (of1_calls w9 a (hG.below B9.out) (Nat.le_trans hbase B9.out.size) HA2.out).mono ?_
      rintro e w10 ⟨rfl, hB10⟩
      have T10 := Aside0.mk (T9.out.below hB10)
      have B10 := Aside0.mk (B9.out.trans (hB10.mono B9.out.size))
      clear hB10 T9 B9
      go_wp2_with (go_at_call 9; fail)
      refine (of1_calls w10 b (hG.below B10.out) (Nat.le_trans hbase B10.out.size) HB2.out).mono ?_
      rintro e w11 ⟨rfl, hB11⟩
      have T11 := Aside0.mk (T10.out.below hB11)
      have B11 := Aside0.mk (B10.out.trans (hB11.mono B10.out.size))
      clear hB11 T10 B10
      go_wp2_with (go_at_call 13; fail)
      refine (sum_has ((Told.Ok.new.tell a).tell b) T11.out.hh (hG.below B11.out) hbase).mono ?_
      rw [ofS_app]
      rintro e w12 ⟨rfl, hB12⟩
      have T12 := Aside0.mk (T11.out.below hB12)
      have B12 := Aside0.mk (B11.out.trans (hB12.mono B11.out.size))
      clear hB12 T11 B11
      go_wp2_with (go_at_call 9; fail)
      refine (of1_calls w12 (a ++ b) (hG.below B12.out) (Nat.le_trans hbase B12.out.size) HAB2.out).mono ?_
      rintro e w13 ⟨rfl, hB13⟩
      have T13 := Aside0.mk (T12.out.below hB13)
      have B13 := Aside0.mk (B12.out.trans (hB13.mono B12.out.size))
      clear hB13 T12 B12
      go_wp2_with (go_at_call 13; fail)
      refine (sum_has ((Told.Ok.new.tell b).tell a) T13.out.hk (hG.below B13.out) hbase).mono ?_
      rw [ofS2]
      rintro e w14 ⟨rfl, hB14⟩
      have B14 := Aside0.mk (B13.out.trans (hB14.mono B13.out.size))
      clear hB14 T13 B13
      go_wp2_with (go_at_call 9; fail)
      refine (of2_calls w14 b a (hG.below B14.out) (Nat.le_trans hbase B14.out.size) HB2.out HA2.out).mono ?_
      rintro e w15 ⟨rfl, hB15⟩
      have B15 := Aside0.mk (B14.out.trans (hB15.mono B14.out.size))
      clear hB15 B14
      go_wp2
      go_ret
      exact ⟨rfl, B15.out⟩
    · have ha1 : ¬ 300 < (a.size : Int) := by omega
      have hb1 : 300 < (b.size : Int) := by omega
      go_enter Tryd.func5, Tryd.ntmps5
      go_wp2_with (first | (go_at_call 7; refine (HWK.out).mono ?_; rintro e w1 ⟨rfl, hB1⟩; have B1 := Aside0.mk hB1; clear hB1 HWK) | (go_at_call 11; fail))
      refine (HNW.out w1 B1.out w.heap.size B1.out.size).mono ?_
      rintro e w2 ⟨rfl, v2, hE2, hB2, ho2⟩
      have B2 := Aside0.mk (B1.out.trans (hB2.mono B1.out.size))
      clear hE2 hB2 ho2 B1
      go_wp2_with (go_at_call 11; fail)
      refine (HNW.out w2 B2.out w.heap.size B2.out.size).mono ?_
      rintro e w3 ⟨rfl, v3, hE3, hB3, ho3⟩
      have B3 := Aside0.mk (B2.out.trans (hB3.mono B2.out.size))
      clear hE3 hB3 ho3 B2
      go_wp2
      go_ret
      exact ⟨rfl, B3.out⟩
  · have ha1 : 300 < (a.size : Int) := by omega
    go_enter Tryd.func5, Tryd.ntmps5
    go_wp2_with (first | (go_at_call 7; refine (HWK.out).mono ?_; rintro e w1 ⟨rfl, hB1⟩; have B1 := Aside0.mk hB1; clear hB1 HWK) | (go_at_call 11; fail))
    refine (HNW.out w1 B1.out w.heap.size B1.out.size).mono ?_
    rintro e w2 ⟨rfl, v2, hE2, hB2, ho2⟩
    have B2 := Aside0.mk (B1.out.trans (hB2.mono B1.out.size))
    clear hE2 hB2 ho2 B1
    go_wp2_with (go_at_call 11; fail)
    refine (HNW.out w2 B2.out w.heap.size B2.out.size).mono ?_
    rintro e w3 ⟨rfl, v3, hE3, hB3, ho3⟩
    have B3 := Aside0.mk (B2.out.trans (hB3.mono B2.out.size))
    clear hE3 hB3 ho3 B2
    go_wp2
    go_ret
    exact ⟨rfl, B3.out⟩
end Go.Proofs.YthgminihlejpnaaDoor.S
