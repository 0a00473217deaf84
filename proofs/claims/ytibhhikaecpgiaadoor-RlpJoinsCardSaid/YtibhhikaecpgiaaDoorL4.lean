/- The first item of bytes: the contract of rlp.split. (Printed by mkL4.py.) -/
import Derived.Test.YtibhhikaecpgiaaDoorL3
set_option linter.unusedSimpArgs false
set_option linter.unusedVariables false
namespace Go.Proofs.YtibhhikaecpgiaaDoor.R
open Go.RowKit Go.Proofs.YtibhhikaecpgiaaDoorW.PrintWords Go.Proofs.YtibhhikaecpgiaaDoorW.PrintLast Go.Proofs.YtibhhikaecpgiaaDoorW.PrintMore

theorem results4 {fn : Func} {t u v x : Tmp} (h : fn.results = #[.tmp t, .tmp u, .tmp v, .tmp x]) (tmps : Array Value) (P : Program) (w : World) :
    (results fn tmps).run P w = .ok (.tuple #[tmps.getD t undef, tmps.getD u undef, tmps.getD v undef, tmps.getD x undef]) w := by
  simp [results, h]
theorem data_cons (s : ByteArray) (h : 0 < s.size) : s.data.toList = (s[0]'h) :: s.data.toList.drop 1 := by
  have h' : 0 < s.data.toList.length := by rw [Array.length_toList]; exact h
  cases e : s.data.toList with
  | nil => rw [e] at h'; simp at h'
  | cons x t =>
    have h2 : s.data.toList.getD 0 0 = x := by rw [e]; rfl
    rw [byte_at s 0 h] at h2
    rw [h2]
    rfl
theorem tail_data (s : ByteArray) : (s.extract 1 s.size).data.toList = s.data.toList.drop 1 := by
  simp [ByteArray.data_extract]
  rw [List.take_of_length_le (by simp)]
theorem not_empty (s : ByteArray) (h : 0 < s.size) : s.toList.isEmpty = false := by
  have h2 : s.data.toList.length = s.size := Array.length_toList
  rw [ByteArray.toList_eq]
  cases e : s.data.toList with
  | nil => rw [e] at h2; simp at h2; omega
  | cons x t => rfl
theorem sizeN_some {t : L} {k m : Nat} (h : sizeN t k = some m) : k ≤ t.length ∧ 55 < m ∧ m ≤ 1048576 := by
  unfold sizeN at h
  by_cases h4 : t.length < k ∨ (t.getD 0 0).toNat = 0
  · rw [if_pos h4] at h; cases h
  · rw [if_neg h4] at h
    by_cases h5 : nb (t.take k) ≤ 55 ∨ 1048576 < nb (t.take k)
    · rw [if_pos h5] at h; cases h
    · rw [if_neg h5] at h
      injection h with h
      omega
def SplitPost (w : World) (s : ByteArray) (e : Ending) (w' : World) : Prop :=
  (∃ (k : Bool) (f t : Nat), splitN s.data.toList = some (k, f, t) ∧ e = .returned (.tuple #[.bool k, .int .i64 f, .int .i64 t, .nilIface]) ∧ w' = w ∧ f ≤ t ∧ t ≤ s.size) ∨
    (splitN s.data.toList = none ∧ ∃ E, e = .returned (.tuple #[.bool false, .int .i64 0, .int .i64 0, E]) ∧ Bad w' E 1 ∧ Below w.heap.size w w')
set_option maxRecDepth 100000 in
set_option maxHeartbeats 4000000 in
theorem split_calls (w : World) (s : ByteArray) (hs : s.size ≤ 1000000000) :
    Calls Tryd.prog 21 #[.string s] w (SplitPost w s) := by
  have HW := Aside0.mk (fun n => wrong_calls w n)
  by_cases hs0 : s.size = 0
  · obtain rfl : s = ⟨#[]⟩ := by
      cases s with
      | mk d => cases d with | mk l => cases l with | nil => rfl | cons x l => simp [ByteArray.size] at hs0
    go_enter Tryd.func21, Tryd.ntmps21
    go_wp2_with (go_at_call 29; refine (HW.out _).mono ?_; rintro e w1 ⟨E, rfl, hB, hb⟩; have B1 := Aside0.mk (And.intro hB hb); clear hB hb HW)
    try simp only [Exit.inBlock, Exit.then]
    refine bodyPost_ret (results4 rfl _ _ _) rfl ?_
    exact .inr ⟨rfl, E, rfl, B1.out⟩
  · have hp : 0 < s.size := by omega
    have hne : s.toList.isEmpty = false := not_empty s hp
    have hcons := data_cons s hp
    have hc8 : (((s[0]'hp).toNat : Nat) : Int) < 256 := by have := (s[0]'hp).toNat_lt; omega
    have hnn : 0 ≤ (((s[0]'hp).toNat : Nat) : Int) := by omega
    obtain ⟨c, hc⟩ : ∃ c : Nat, (s[0]'hp).toNat = c := ⟨_, rfl⟩
    have hcI : (((s[0]'hp).toNat : Nat) : Int) = (c : Int) := by rw [hc]
    have hsz : s.data.toList.length = s.size := Array.length_toList
    have hlt1 : (s.data.toList.drop 1).length = s.size - 1 := by rw [List.length_drop, hsz]
    by_cases h128 : c < 128
    · have hN : splitN s.data.toList = some (false, 0, 1) := by rw [hcons]; unfold splitN; simp only; rw [hc, if_pos h128]
      have HN := Aside0.mk hN
      have h1 : (c : Int) < 128 := by omega
      clear hN hcons hc hsz hlt1 hs0
      go_enter Tryd.func21, Tryd.ntmps21
      go_wp2
      try simp only [Exit.inBlock, Exit.then]
      refine bodyPost_ret (results4 rfl _ _ _) rfl ?_
      exact .inl ⟨false, 0, 1, HN.out, rfl, rfl, by omega, by omega⟩
    · have h1 : ¬ (c : Int) < 128 := by omega
      by_cases h192 : 192 ≤ c
      · have hcB : 192 ≤ (c : Int) := by omega
        have hbase : baseN c = 192 := baseN_192 h192
        have hdec : decide (192 ≤ c) = true := by simpa using h192
        have hNN : splitN s.data.toList = if c - 192 ≤ 55 then finN s.data.toList true 1 (c - 192) else (sizeN (s.data.toList.drop 1) (c - 192 - 55)).bind fun m => finN s.data.toList true (1 + (c - 192 - 55)) m := by
          conv => lhs; rw [hcons]; unfold splitN; simp only; rw [hc, if_neg h128, hbase, hdec, ← hcons]
        obtain ⟨n, hn⟩ : ∃ n, c - 192 = n := ⟨_, rfl⟩
        rw [hn] at hNN
        have hnI : (c : Int) - 192 = (n : Int) := by omega
        by_cases h55 : n ≤ 55
        · have h551 : (n : Int) ≤ 55 := by omega
          have hNF : splitN s.data.toList = finN s.data.toList true 1 n := by rw [hNN, if_pos h55]
          by_cases hA : s.size - 1 < n
          · have hN : splitN s.data.toList = none := by rw [hNF]; unfold finN; rw [if_pos (by first | (rw [hsz]; exact hA) | (rw [HST.out.1]; exact hA))]
            have hA1 : (s.size : Int) - 1 < (n : Int) := by omega
            have HN := Aside0.mk hN
            clear hN hNF hNN hcons hc hsz hlt1 hs0 hbase hdec
            go_enter Tryd.func21, Tryd.ntmps21
            go_wp2_with (go_at_call 29; refine (HW.out _).mono ?_; rintro e w1 ⟨E, rfl, hB, hb⟩; have B1 := Aside0.mk (And.intro hB hb); clear hB hb HW)
            try simp only [Exit.inBlock, Exit.then]
            refine bodyPost_ret (results4 rfl _ _ _) rfl ?_
            exact .inr ⟨HN.out, E, rfl, B1.out⟩
          · have hA1 : ¬ (s.size : Int) - 1 < (n : Int) := by omega
            have hN : splitN s.data.toList = some (true, 1, 1 + n) := by rw [hNF]; unfold finN; rw [if_neg (by first | (rw [hsz]; exact hA) | (rw [HST.out.1]; exact hA)), if_neg (by rintro ⟨h, _⟩; cases h)]
            have HN := Aside0.mk hN
            clear hN hNF hNN hcons hc hsz hlt1 hs0 hbase hdec
            go_enter Tryd.func21, Tryd.ntmps21
            go_wp2
            try simp only [Exit.inBlock, Exit.then]
            refine bodyPost_ret (results4 rfl _ _ _) rfl ?_
            exact .inl ⟨true, 1, 1 + n, HN.out, by go_num, rfl, by omega, by omega⟩
        · have h551 : ¬ (n : Int) ≤ 55 := by omega
          obtain ⟨j, hj⟩ : ∃ j, n - 55 = j := ⟨_, rfl⟩
          rw [hj] at hNN
          have hjI : (n : Int) - 55 = (j : Int) := by omega
          have hj1 : 1 ≤ j ∧ j ≤ 8 := by omega
          have HZ := Aside0.mk (size_calls w (s.extract 1 s.size) j hj1.1 hj1.2)
          rw [tail_data] at HZ
          have HNN := Aside0.mk hNN
          have HST := Aside0.mk (And.intro hsz hlt1)
          have H55 := Aside0.mk h55
          clear hNN hcons hc hsz hlt1 hs0 hbase hdec
          go_enter Tryd.func21, Tryd.ntmps21
          go_wp2_with (go_at_call 30; fail)
          refine (HZ.out).mono ?_
          rintro e w2 (⟨m, hm, rfl, rfl⟩ | ⟨hm, E, rfl, hBd, hBl⟩)
          · obtain ⟨hmj, hm55, hmM⟩ := sizeN_some hm
            rw [HST.out.2] at hmj
            have hNF : splitN s.data.toList = finN s.data.toList true (1 + j) m := by rw [HNN.out, if_neg H55.out, hm]; rfl
            clear hm HNN HZ
            by_cases hA : s.size - (1 + j) < m
            · have hN : splitN s.data.toList = none := by rw [hNF]; unfold finN; rw [if_pos (by first | (rw [hsz]; exact hA) | (rw [HST.out.1]; exact hA))]
              have hA1 : (s.size : Int) - (1 + (j : Int)) < (m : Int) := by omega
              have HN := Aside0.mk hN
              clear hN hNF
              go_wp2_with (go_at_call 29; refine (HW.out _).mono ?_; rintro e w1 ⟨E, rfl, hB, hb⟩; have B1 := Aside0.mk (And.intro hB hb); clear hB hb HW)
              try simp only [Exit.inBlock, Exit.then]
              refine bodyPost_ret (results4 rfl _ _ _) rfl ?_
              exact .inr ⟨HN.out, E, rfl, B1.out⟩
            · have hA1 : ¬ (s.size : Int) - (1 + (j : Int)) < (m : Int) := by omega
              have hN : splitN s.data.toList = some (true, (1 + j), (1 + j) + m) := by rw [hNF]; unfold finN; rw [if_neg (by first | (rw [hsz]; exact hA) | (rw [HST.out.1]; exact hA)), if_neg (by rintro ⟨h, _⟩; cases h)]
              have HN := Aside0.mk hN
              clear hN hNF
              go_wp2
              try simp only [Exit.inBlock, Exit.then]
              refine bodyPost_ret (results4 rfl _ _ _) rfl ?_
              exact .inl ⟨true, (1 + j), (1 + j) + m, HN.out, by go_num, rfl, by omega, by omega⟩
          · have hN : splitN s.data.toList = none := by rw [HNN.out, if_neg H55.out, hm]; rfl
            have HN := Aside0.mk hN
            obtain ⟨u1, v1, rfl⟩ := hBd.iface
            have B1 := Aside0.mk (And.intro hBd hBl)
            clear hN hm hBd hBl HNN HZ
            go_wp2
            try simp only [Exit.inBlock, Exit.then]
            refine bodyPost_ret (results4 rfl _ _ _) rfl ?_
            exact .inr ⟨HN.out, _, rfl, B1.out⟩
      · have hcB : ¬ 192 ≤ (c : Int) := by omega
        have hbase : baseN c = 128 := baseN_128 (by omega)
        have hdec : decide (192 ≤ c) = false := by simpa using h192
        have hNN : splitN s.data.toList = if c - 128 ≤ 55 then finN s.data.toList false 1 (c - 128) else (sizeN (s.data.toList.drop 1) (c - 128 - 55)).bind fun m => finN s.data.toList false (1 + (c - 128 - 55)) m := by
          conv => lhs; rw [hcons]; unfold splitN; simp only; rw [hc, if_neg h128, hbase, hdec, ← hcons]
        obtain ⟨n, hn⟩ : ∃ n, c - 128 = n := ⟨_, rfl⟩
        rw [hn] at hNN
        have hnI : (c : Int) - 128 = (n : Int) := by omega
        by_cases h55 : n ≤ 55
        · have h551 : (n : Int) ≤ 55 := by omega
          have hNF : splitN s.data.toList = finN s.data.toList false 1 n := by rw [hNN, if_pos h55]
          by_cases hA : s.size - 1 < n
          · have hN : splitN s.data.toList = none := by rw [hNF]; unfold finN; rw [if_pos (by first | (rw [hsz]; exact hA) | (rw [HST.out.1]; exact hA))]
            have hA1 : (s.size : Int) - 1 < (n : Int) := by omega
            have HN := Aside0.mk hN
            clear hN hNF hNN hcons hc hsz hlt1 hs0 hbase hdec
            go_enter Tryd.func21, Tryd.ntmps21
            go_wp2_with (go_at_call 29; refine (HW.out _).mono ?_; rintro e w1 ⟨E, rfl, hB, hb⟩; have B1 := Aside0.mk (And.intro hB hb); clear hB hb HW)
            try simp only [Exit.inBlock, Exit.then]
            refine bodyPost_ret (results4 rfl _ _ _) rfl ?_
            exact .inr ⟨HN.out, E, rfl, B1.out⟩
          · have hA1 : ¬ (s.size : Int) - 1 < (n : Int) := by omega
            by_cases hM : n = 1
            · have hfp : 1 < s.size := by omega
              have hM1 : ((n : Nat) : Int) = 1 := by omega
              have hl8 : (((s[1]'hfp).toNat : Nat) : Int) < 256 := by have := (s[1]'hfp).toNat_lt; omega
              by_cases hL : (s[1]'hfp).toNat < 128
              · have hN : splitN s.data.toList = none := by rw [hNF]; unfold finN; rw [if_neg (by first | (rw [hsz]; exact hA) | (rw [HST.out.1]; exact hA)), if_pos ⟨rfl, hM, by rw [byte_at s 1 hfp]; exact hL⟩]
                have hL1 : (((s[1]'hfp).toNat : Nat) : Int) < 128 := by omega
                have HN := Aside0.mk hN
                clear hN hNF hNN hcons hc hsz hlt1 hs0 hbase hdec hM
                go_enter Tryd.func21, Tryd.ntmps21
                go_wp2_with (go_at_call 29; refine (HW.out _).mono ?_; rintro e w1 ⟨E, rfl, hB, hb⟩; have B1 := Aside0.mk (And.intro hB hb); clear hB hb HW)
                try simp only [Exit.inBlock, Exit.then]
                refine bodyPost_ret (results4 rfl _ _ _) rfl ?_
                exact .inr ⟨HN.out, E, rfl, B1.out⟩
              · have hN : splitN s.data.toList = some (false, 1, 1 + n) := by rw [hNF]; unfold finN; rw [if_neg (by first | (rw [hsz]; exact hA) | (rw [HST.out.1]; exact hA)), if_neg (by rintro ⟨_, _, h⟩; rw [byte_at s 1 hfp] at h; exact hL h)]
                have hL1 : ¬ (((s[1]'hfp).toNat : Nat) : Int) < 128 := by omega
                have HN := Aside0.mk hN
                clear hN hNF hNN hcons hc hsz hlt1 hs0 hbase hdec
                go_enter Tryd.func21, Tryd.ntmps21
                go_wp2
                try simp only [Exit.inBlock, Exit.then]
                refine bodyPost_ret (results4 rfl _ _ _) rfl ?_
                exact .inl ⟨false, 1, 1 + n, HN.out, by go_num, rfl, by omega, by omega⟩
            · have hM1 : ¬ ((n : Nat) : Int) = 1 := by omega
              have hN : splitN s.data.toList = some (false, 1, 1 + n) := by rw [hNF]; unfold finN; rw [if_neg (by first | (rw [hsz]; exact hA) | (rw [HST.out.1]; exact hA)), if_neg (by rintro ⟨_, h, _⟩; exact hM h)]
              have HN := Aside0.mk hN
              clear hN hNF hNN hcons hc hsz hlt1 hs0 hbase hdec
              go_enter Tryd.func21, Tryd.ntmps21
              go_wp2
              try simp only [Exit.inBlock, Exit.then]
              refine bodyPost_ret (results4 rfl _ _ _) rfl ?_
              exact .inl ⟨false, 1, 1 + n, HN.out, by go_num, rfl, by omega, by omega⟩
        · have h551 : ¬ (n : Int) ≤ 55 := by omega
          obtain ⟨j, hj⟩ : ∃ j, n - 55 = j := ⟨_, rfl⟩
          rw [hj] at hNN
          have hjI : (n : Int) - 55 = (j : Int) := by omega
          have hj1 : 1 ≤ j ∧ j ≤ 8 := by omega
          have HZ := Aside0.mk (size_calls w (s.extract 1 s.size) j hj1.1 hj1.2)
          rw [tail_data] at HZ
          have HNN := Aside0.mk hNN
          have HST := Aside0.mk (And.intro hsz hlt1)
          have H55 := Aside0.mk h55
          clear hNN hcons hc hsz hlt1 hs0 hbase hdec
          go_enter Tryd.func21, Tryd.ntmps21
          go_wp2_with (go_at_call 30; fail)
          refine (HZ.out).mono ?_
          rintro e w2 (⟨m, hm, rfl, rfl⟩ | ⟨hm, E, rfl, hBd, hBl⟩)
          · obtain ⟨hmj, hm55, hmM⟩ := sizeN_some hm
            rw [HST.out.2] at hmj
            have hNF : splitN s.data.toList = finN s.data.toList false (1 + j) m := by rw [HNN.out, if_neg H55.out, hm]; rfl
            clear hm HNN HZ
            by_cases hA : s.size - (1 + j) < m
            · have hN : splitN s.data.toList = none := by rw [hNF]; unfold finN; rw [if_pos (by first | (rw [hsz]; exact hA) | (rw [HST.out.1]; exact hA))]
              have hA1 : (s.size : Int) - (1 + (j : Int)) < (m : Int) := by omega
              have HN := Aside0.mk hN
              clear hN hNF
              go_wp2_with (go_at_call 29; refine (HW.out _).mono ?_; rintro e w1 ⟨E, rfl, hB, hb⟩; have B1 := Aside0.mk (And.intro hB hb); clear hB hb HW)
              try simp only [Exit.inBlock, Exit.then]
              refine bodyPost_ret (results4 rfl _ _ _) rfl ?_
              exact .inr ⟨HN.out, E, rfl, B1.out⟩
            · have hA1 : ¬ (s.size : Int) - (1 + (j : Int)) < (m : Int) := by omega
              by_cases hM : m = 1
              · omega
              · have hM1 : ¬ ((m : Nat) : Int) = 1 := by omega
                have hN : splitN s.data.toList = some (false, (1 + j), (1 + j) + m) := by rw [hNF]; unfold finN; rw [if_neg (by first | (rw [hsz]; exact hA) | (rw [HST.out.1]; exact hA)), if_neg (by rintro ⟨_, h, _⟩; exact hM h)]
                have HN := Aside0.mk hN
                clear hN hNF
                go_wp2
                try simp only [Exit.inBlock, Exit.then]
                refine bodyPost_ret (results4 rfl _ _ _) rfl ?_
                exact .inl ⟨false, (1 + j), (1 + j) + m, HN.out, by go_num, rfl, by omega, by omega⟩
          · have hN : splitN s.data.toList = none := by rw [HNN.out, if_neg H55.out, hm]; rfl
            have HN := Aside0.mk hN
            obtain ⟨u1, v1, rfl⟩ := hBd.iface
            have B1 := Aside0.mk (And.intro hBd hBl)
            clear hN hm hBd hBl HNN HZ
            go_wp2
            try simp only [Exit.inBlock, Exit.then]
            refine bodyPost_ret (results4 rfl _ _ _) rfl ?_
            exact .inr ⟨HN.out, _, rfl, B1.out⟩
end Go.Proofs.YtibhhikaecpgiaaDoor.R
