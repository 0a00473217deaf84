/- What the functions of package nibble come to, as functions on lists of bytes; and the laws of these. -/
import Derived.Test.YtbnniapnbjmbhaaPAx2
import Derived.Test.YtbnniapnbjmbhaaY
import Derived.Lib.RabinKarpLaws
set_option linter.unusedSimpArgs false
set_option linter.unusedVariables false
namespace Go.Proofs.Ytbnniapnbjmbhaa.NL
open Go.RowKit Go.Proofs.YtbnniapnbjmbhaaW.PrintWords Go.Proofs.YtbnniapnbjmbhaaW.PrintLast Go.Proofs.Ytbnniapnbjmbhaa.PA Go.Proofs.Ytbnniapnbjmbhaa.Y

def path : List UInt8 → List UInt8
  | [] => []
  | c :: t => c / 16 :: c % 16 :: path t
def pairs : List UInt8 → List UInt8
  | a :: b :: t => (a * 16 + b) :: pairs t
  | _ => []
def val (l : List UInt8) : Bool := l.all fun c => decide (c.toNat ≤ 15)
def com : List UInt8 → List UInt8 → Nat
  | a :: s, b :: t => if a = b then com s t + 1 else 0
  | _, _ => 0

theorem path_length (l : List UInt8) : (path l).length = 2 * l.length := by
  induction l with
  | nil => rfl
  | cons c t ih => simp [path, ih]; omega
theorem path_append (l m : List UInt8) : path (l ++ m) = path l ++ path m := by
  induction l with
  | nil => rfl
  | cons c t ih => simp [path, ih]
theorem val_path (l : List UInt8) : val (path l) = true := by
  induction l with
  | nil => rfl
  | cons c t ih =>
    have h := c.toNat_lt
    have : val (path (c :: t)) = (decide ((c / 16).toNat ≤ 15) && (decide ((c % 16).toNat ≤ 15) && val (path t))) := rfl
    rw [this, ih]
    simp
    omega
theorem pairs_path (l : List UInt8) : pairs (path l) = l := by
  induction l with
  | nil => rfl
  | cons c t ih =>
    simp only [path, pairs, ih]
    congr 1
    apply UInt8.toNat_inj.1
    have h := c.toNat_lt
    simp
    omega
theorem pairs_length (l : List UInt8) : (pairs l).length = l.length / 2 := by
  induction l using pairs.induct with
  | case1 a b t ih => simp [pairs, ih]; omega
  | case2 l h =>
    match l, h with
    | [], _ => rfl
    | [a], _ => simp [pairs]
    | a :: b :: t, h => exact absurd rfl (h a b t)
theorem com_le (l m : List UInt8) : com l m ≤ l.length ∧ com l m ≤ m.length := by
  induction l, m using com.induct with
  | case1 s b t ih => simp [com]; omega
  | case2 a s b t h => simp [com, h]
  | case3 l m h => 
    match l, m, h with
    | [], _, _ => simp [com]
    | _ :: _, [], _ => simp [com]
    | a :: s, b :: t, h => exact absurd rfl (h a s b t rfl)
theorem com_comm (l m : List UInt8) : com l m = com m l := by
  induction l generalizing m with
  | nil => cases m <;> rfl
  | cons a s ih =>
    cases m with
    | nil => rfl
    | cons b t => 
      by_cases h : a = b
      · subst h; simp [com, ih]
      · simp [com, h, Ne.symm h]
theorem com_append (l m : List UInt8) : com (l ++ m) l = l.length := by
  induction l with
  | nil => cases m <;> rfl
  | cons a s ih => simp [com, ih]
theorem com_self (l : List UInt8) : com l l = l.length := by simpa using com_append l []
theorem com_take (l m : List UInt8) : l.take (com l m) = m.take (com l m) := by
  induction l generalizing m with
  | nil => cases m <;> rfl
  | cons a s ih =>
    cases m with
    | nil => rfl
    | cons b t =>
      by_cases h : a = b
      · subst h; simp [com, ih t]
      · simp [com, h]
theorem com_next (l m : List UInt8) (h1 : com l m < l.length) (h2 : com l m < m.length) : l[com l m]'h1 ≠ m[com l m]'h2 := by
  induction l generalizing m with
  | nil => simp at h1
  | cons a s ih =>
    cases m with
    | nil => simp at h2
    | cons b t =>
      by_cases h : a = b
      · subst h
        simp only [com, if_true, List.length_cons] at h1 h2 ⊢
        exact ih t (by omega) (by omega)
      · simp [com, h]
theorem less_path (a b : List UInt8) : Op.bytesLess (path a) (path b) = Op.bytesLess a b := by
  induction a generalizing b with
  | nil => cases b <;> rfl
  | cons x a ih =>
    cases b with
    | nil => rfl
    | cons y b =>
      simp only [path, Op.bytesLess, ih]
      have h1 := x.toNat_lt
      have h2 := y.toNat_lt
      rw [Bool.eq_iff_iff]
      by_cases h : Op.bytesLess a b = true
      · simp [h, UInt8.lt_iff_toNat_lt, ← UInt8.toNat_inj]; omega
      · simp [h, UInt8.lt_iff_toNat_lt, ← UInt8.toNat_inj]; omega

/-! ### the walks' functions -/
theorem valid_B (l : List UInt8) : Go.Proofs.Ytbnniapnbjmbhaa.H.valid (B l) = val l := by
  have key : ∀ (f pos : Nat), l.length - pos ≤ f → pos ≤ l.length → (val (l.drop pos) = true → Lib.idxFuncFrom (fun r => decide (15 < r)) true (B l) f pos = -1) ∧ (val (l.drop pos) = false → 0 ≤ Lib.idxFuncFrom (fun r => decide (15 < r)) true (B l) f pos) := by
    intro f
    induction f with
    | zero =>
      intro pos h1 h2
      rw [List.drop_of_length_le (by omega)]
      simp [Lib.idxFuncFrom, val]
    | succ f ih =>
      intro pos h1 h2
      by_cases hp : pos < l.length
      · rw [List.drop_eq_getElem_cons hp]
        have hv : val ((l[pos]'hp) :: l.drop (pos + 1)) = (decide ((l[pos]'hp).toNat ≤ 15) && val (l.drop (pos + 1))) := rfl
        have hx : Lib.idxFuncFrom (fun r => decide (15 < r)) true (B l) (f + 1) pos = (if decide (15 < (Utf8.decode (B l) pos).1) = true then (pos : Int) else Lib.idxFuncFrom (fun r => decide (15 < r)) true (B l) f (pos + (Utf8.decode (B l) pos).2)) := by
          rw [Lib.idxFuncFrom, if_pos (by rw [size_B]; exact hp)]
        have hg : ((B l).get! (pos + 0)).toNat = (l[pos]'hp).toNat := by
          simp [B, ByteArray.get!, hp]
        rw [hv, hx]
        by_cases hc : (l[pos]'hp).toNat ≤ 15
        · have hd : Utf8.decode (B l) pos = ((l[pos]'hp).toNat, 1) := by
            simp only [Utf8.decode, hg]
            rw [if_pos (by omega)]
          rw [hd]
          have := ih (pos + 1) (by omega) (by omega)
          simp only [hc, decide_true, Bool.true_and]
          rw [if_neg (by simp; omega)]
          exact this
        · have hd : 15 < (Utf8.decode (B l) pos).1 := by
            unfold Utf8.decode
            simp only [hg]
            repeat' split
            all_goals (first | (simp [Utf8.runeError]; done) | (rename_i h; simp at h; simp only []; omega) | (simp only []; omega))
          rw [if_pos (by simpa using hd)]
          simp [hc]
      · rw [List.drop_of_length_le (by omega), Lib.idxFuncFrom_end _ _ _ _ _ (by rw [size_B]; exact hp)]
        simp [val]
  have := key l.length 0 (by omega) (by omega)
  rw [List.drop_zero] at this
  unfold Go.Proofs.Ytbnniapnbjmbhaa.H.valid Lib.idxFunc
  rw [size_B]
  cases h : val l with
  | true => rw [this.1 h]; rfl
  | false => rw [decide_eq_true (this.2 h)]; rfl
theorem valid_f (l : List UInt8) : nibble_Valid.f (B l) = some (val l) := by unfold nibble_Valid.f; rw [valid_B]

theorem div16 (c : UInt8) : (c.toNat : Int) / 16 = ((c / 16).toNat : Int) := by simp
theorem mod16 (c : UInt8) : Go.bits .and .u8 (c.toNat : Int) 15 = ((c % 16).toNat : Int) := by
  have h := c.toNat_lt
  rw [u8_and15 _ (by omega) (by omega)]
  simp
theorem path_loop (l : List UInt8) (hl : l.length ≤ 70368744177000) : ∀ (t p : List UInt8) (i : Nat), l.drop i = t → p.length = 2 * i → Ev (fun k => nibble_Path.l0 k (B l) (ns p) (l.length : Int) (i : Int)) (B (p ++ path t)) := by
  intro t
  induction t with
  | nil =>
    intro p i h1 h2
    have := List.drop_eq_nil_iff.1 h1
    refine Ev.step (f := fun _ => some (B (p ++ path []))) (fun k => ?_) (Ev.now _)
    simp only [nibble_Path.l0]
    rw [if_neg (by omega), str_ns]
    simp [path]
  | cons c t ih =>
    intro p i h1 h2
    have hi : i < l.length := by
      rcases Nat.lt_or_ge i l.length with h | h
      · exact h
      · rw [List.drop_of_length_le h] at h1; cases h1
    obtain ⟨c', h3, h4⟩ := drop_cons hi
    rw [h1] at h3
    injection h3 with h3 h5
    subst h3
    refine Ev.step (f := fun k => nibble_Path.l0 k (B l) (ns (p ++ [c / 16, c % 16])) (l.length : Int) ((i + 1 : Nat) : Int)) (fun k => ?_) ?_
    · simp only [nibble_Path.l0]
      rw [if_pos (by omega), if_pos (by omega), if_pos (by rw [size_B]; omega), Option.bind_some, if_pos (by rw [ns_length]; simp; omega), h4, div16, mod16, wrap_id (by omega) (by omega), ns_append]
      rfl
    · have := ih (p ++ [c / 16, c % 16]) (i + 1) h5.symm (by simp; omega)
      simpa [path] using this
theorem path_ev (l : List UInt8) (hl : l.length ≤ 70368744177000) : Ev (fun k => nibble_Path.f k (B l)) (B (path l)) := by
  have := path_loop l hl l [] 0 rfl rfl
  refine Ev.congr (fun k => ?_) this
  unfold nibble_Path.f
  rw [size_B, wrap_id (by omega) (by omega), if_pos (by omega), if_pos (by omega)]
  rfl

theorem or16 : ∀ a b : Fin 16, Go.bits .or .u8 (((a.val : Int) * 16) % 256) (b.val : Int) = ((a.val * 16 + b.val : Nat) : Int) := by decide +kernel
theorem or_pair (a b : UInt8) (ha : a.toNat ≤ 15) (hb : b.toNat ≤ 15) : Go.bits .or .u8 (((a.toNat : Int) * 16) % 256) (b.toNat : Int) = ((a * 16 + b).toNat : Int) := by
  have := or16 ⟨a.toNat, by omega⟩ ⟨b.toNat, by omega⟩
  simp only [] at this
  rw [this]
  simp
  omega
theorem joined_loop (l : List UInt8) (n : Nat) (hn : l.length = 2 * n) (hl : l.length ≤ 9223372036854775800) (hv : val l = true) : ∀ (m : Nat) (d : List UInt8) (i : Nat), i + m = n → d.length = i →
    Ev (fun k => nibble_joined.l0 k (B l) (ns d ++ List.replicate m 0) (n : Int) (i : Int)) (B (d ++ pairs (l.drop (2 * i)))) := by
  intro m
  induction m with
  | zero =>
    intro d i h1 h2
    refine Ev.step (f := fun _ => some (B (d ++ pairs (l.drop (2 * i))))) (fun k => ?_) (Ev.now _)
    simp only [nibble_joined.l0]
    rw [if_neg (by omega), List.drop_of_length_le (by omega)]
    simp [pairs, str_ns]
  | succ m ih =>
    intro d i h1 h2
    obtain ⟨a, ha1, ha2⟩ := drop_cons (l := l) (i := 2 * i) (by omega)
    obtain ⟨b, hb1, hb2⟩ := drop_cons (l := l) (i := 2 * i + 1) (by omega)
    have va : a.toNat ≤ 15 := by
      have : a ∈ l := List.mem_of_mem_drop (i := 2 * i) (by rw [ha1]; simp)
      simpa using List.all_eq_true.1 hv a this
    have vb : b.toNat ≤ 15 := by
      have : b ∈ l := List.mem_of_mem_drop (i := 2 * i + 1) (by rw [hb1]; simp)
      simpa using List.all_eq_true.1 hv b this
    refine Ev.step (f := fun k => nibble_joined.l0 k (B l) (ns (d ++ [a * 16 + b]) ++ List.replicate m 0) (n : Int) ((i + 1 : Nat) : Int)) (fun k => ?_) ?_
    · simp only [nibble_joined.l0]
      have e1 : wrap64 (2 * (i : Int)) = ((2 * i : Nat) : Int) := by rw [wrap_id (by omega) (by omega)]; omega
      have e2 : wrap64 (((2 * i : Nat) : Int) + 1) = ((2 * i + 1 : Nat) : Int) := by rw [wrap_id (by omega) (by omega)]; omega
      rw [if_pos (by omega), e1, e2, if_pos (by omega), if_pos (by rw [size_B]; omega), if_pos (by omega), if_pos (by rw [size_B]; omega), if_pos (by omega), if_pos (by simp [ns_length]; omega), ha2, hb2, or_pair a b va vb, wrap_id (by omega) (by omega)]
      congr 1
      rw [Int.toNat_natCast, List.replicate_succ, List.set_append_right _ _ (by rw [ns_length]; omega), ns_length, h2, Nat.sub_self, List.set_cons_zero, ns_append]
      simp [ns]
    · have := ih (d ++ [a * 16 + b]) (i + 1) (by omega) (by simp; omega)
      have e : pairs (l.drop (2 * i)) = (a * 16 + b) :: pairs (l.drop (2 * (i + 1))) := by
        rw [ha1, hb1]; rfl
      rw [e]
      simpa using this
theorem joined_ev (l : List UInt8) (hl : l.length ≤ 281474976710656) (he : l.length % 2 = 0) (hv : val l = true) : Ev (fun k => nibble_joined.f k (B l)) (B (pairs l)) := by
  obtain ⟨n, hn⟩ : ∃ n, l.length = 2 * n := ⟨l.length / 2, by omega⟩
  have := joined_loop l n hn (by omega) hv n [] 0 (by omega) rfl
  refine Ev.congr (fun k => ?_) this
  unfold nibble_joined.f
  have e : wrap64 (((B l).size : Int) / 2) = (n : Int) := by rw [size_B, wrap_id (by omega) (by omega)]; omega
  rw [e, if_pos (by omega), if_pos (by omega), Option.bind_some, Int.toNat_natCast, List.length_replicate]
  simp [ns]
def key (l : List UInt8) : ByteArray × Bool := if l.length % 2 = 1 then (B [], false) else if val l = true then (B (pairs l), true) else (B [], false)
theorem key_ev (l : List UInt8) (hl : l.length ≤ 281474976710656) : Ev (fun k => nibble_Key.f k (B l)) (key l) := by
  unfold key
  have e : Go.bits .and .i64 ((B l).size : Int) 1 = ((l.length % 2 : Nat) : Int) := by rw [size_B]; exact Go.Proofs.and_one _ (by omega)
  by_cases h : l.length % 2 = 1
  · rw [if_pos h]
    refine Ev.congr (fun k => ?_) (Ev.now _)
    unfold nibble_Key.f
    rw [e, if_pos (by omega)]
  · rw [if_neg h]
    by_cases hv : val l = true
    · rw [if_pos hv]
      refine Ev.congr (f := fun k => (nibble_joined.f k (B l)).bind fun t => some (t, true)) (fun k => ?_) ((joined_ev l hl (by omega) hv).bind (Ev.now _))
      unfold nibble_Key.f
      rw [e, if_neg (by omega), valid_f, Option.bind_some, if_pos hv]
    · rw [if_neg hv]
      refine Ev.congr (fun k => ?_) (Ev.now _)
      unfold nibble_Key.f
      rw [e, if_neg (by omega), valid_f, Option.bind_some, if_neg hv]
theorem com_loop (l m : List UInt8) (hl : l.length ≤ 9223372036854775800) (hm : m.length ≤ 9223372036854775800) : ∀ (f i : Nat), l.length - i ≤ f → i ≤ l.length → i ≤ m.length → Ev (fun k => nibble_Common.l0 k (B l) (B m) (i : Int)) (((i + com (l.drop i) (m.drop i) : Nat)) : Int) := by
  intro f
  induction f with
  | zero =>
    intro i h1 h2 h3
    refine Ev.step (f := fun _ => some _) (fun k => ?_) (Ev.now _)
    simp only [nibble_Common.l0]
    rw [size_B, size_B, if_neg (by unfold mn; split <;> omega), List.drop_of_length_le (by omega : l.length ≤ i)]
    simp [com]
  | succ f ih =>
    intro i h1 h2 h3
    by_cases hi : i < l.length ∧ i < m.length
    · obtain ⟨hi1, hi2⟩ := hi
      obtain ⟨a, ha1, ha2⟩ := drop_cons hi1
      obtain ⟨b, hb1, hb2⟩ := drop_cons hi2
      by_cases hab : a = b
      · refine Ev.step (f := fun k => nibble_Common.l0 k (B l) (B m) ((i + 1 : Nat) : Int)) (fun k => ?_) ?_
        · simp only [nibble_Common.l0]
          rw [size_B, size_B, if_pos (by unfold mn; split <;> omega), if_pos (by omega), if_pos (by omega), if_pos (by omega), ha2, hb2, if_pos (by rw [hab]), wrap_id (by omega) (by omega)]
          rfl
        · have := ih (i + 1) (by omega) (by omega) (by omega)
          rw [ha1, hb1]
          simp only [com, hab, if_true]
          rw [show i + (com (l.drop (i + 1)) (m.drop (i + 1)) + 1) = i + 1 + com (l.drop (i + 1)) (m.drop (i + 1)) by omega]
          exact this
      · refine Ev.step (f := fun _ => some _) (fun k => ?_) (Ev.now _)
        simp only [nibble_Common.l0]
        rw [size_B, size_B, if_pos (by unfold mn; split <;> omega), if_pos (by omega), if_pos (by omega), if_pos (by omega), ha2, hb2, if_neg (by intro h; exact hab (UInt8.toNat_inj.1 (by omega))), ha1, hb1]
        simp [com, hab]
    · refine Ev.step (f := fun _ => some _) (fun k => ?_) (Ev.now _)
      simp only [nibble_Common.l0]
      rw [size_B, size_B, if_neg (by unfold mn; split <;> omega)]
      have : com (l.drop i) (m.drop i) = 0 := by
        rcases Nat.lt_or_ge i l.length with h | h
        · rw [List.drop_of_length_le (by omega : m.length ≤ i)]; cases l.drop i <;> rfl
        · rw [List.drop_of_length_le h]; simp [com]
      rw [this]; rfl
theorem com_ev (l m : List UInt8) (hl : l.length ≤ 9223372036854775800) (hm : m.length ≤ 9223372036854775800) : Ev (fun k => nibble_Common.f k (B l) (B m)) ((com l m : Nat) : Int) := by
  have := com_loop l m hl hm l.length 0 (by omega) (by omega) (by omega)
  simp only [List.drop_zero, Nat.zero_add] at this
  exact this
set_option maxRecDepth 100000 in
theorem works_ok : guillochelaw01_works.f 60 = some true := by decide +kernel
theorem works_ev : Ev guillochelaw01_works.f true := Ev.of (fun k => guillochelaw01_works.mono k) works_ok
end Go.Proofs.Ytbnniapnbjmbhaa.NL
