/- Plain: numbers as bytes, items as bytes, and how an item is told again. No program in sight. -/
namespace Go.Proofs.YtibhhikaecpgiaaDoor.R
set_option linter.unusedVariables false
set_option linter.unusedSimpArgs false
abbrev L := List UInt8
/-- The number that bytes tell, the highest first. -/
def nb (l : L) : Nat := l.foldl (fun n c => 256 * n + c.toNat) 0
/-- A number's bytes, the highest first. -/
def dg : Nat → Nat → L
  | 0, _ => []
  | k + 1, n => if n = 0 then [] else dg k (n / 256) ++ [UInt8.ofNat (n % 256)]
theorem nb_snoc (l : L) (c : UInt8) : nb (l ++ [c]) = 256 * nb l + c.toNat := by simp [nb, List.foldl_append]
theorem nb_dg (k n : Nat) (h : n < 256 ^ k) : nb (dg k n) = n := by
  induction k generalizing n with
  | zero => simp at h; subst h; rfl
  | succ k ih =>
    unfold dg
    by_cases hn : n = 0
    · rw [if_pos hn, hn]; rfl
    · rw [if_neg hn, nb_snoc, ih (n / 256) (by rw [Nat.div_lt_iff_lt_mul (by decide)]; rw [Nat.pow_succ] at h; exact h)]
      have : (UInt8.ofNat (n % 256)).toNat = n % 256 := by simp [UInt8.toNat_ofNat']
      omega
theorem dg_length (k n : Nat) : (dg k n).length ≤ k := by
  induction k generalizing n with
  | zero => simp [dg]
  | succ k ih =>
    unfold dg
    split
    · simp
    · have := ih (n / 256); simp; omega
theorem dg_mono (k n m : Nat) (h : n ≤ m) : (dg k n).length ≤ (dg k m).length := by
  induction k generalizing n m with
  | zero => simp [dg]
  | succ k ih =>
    unfold dg
    by_cases hn : n = 0
    · simp [hn]
    · have hm : ¬ m = 0 := by omega
      rw [if_neg hn, if_neg hm, List.length_append, List.length_append]
      have := ih (n / 256) (m / 256) (Nat.div_le_div_right h)
      simp; omega
/-- No number's bytes begin with a zero. -/
theorem dg_head (k n : Nat) (h : n < 256 ^ k) : (dg k n).head? ≠ some 0 := by
  induction k generalizing n with
  | zero => simp [dg]
  | succ k ih =>
    unfold dg
    by_cases hn : n = 0
    · simp [hn]
    · rw [if_neg hn]
      have h1 : n / 256 < 256 ^ k := by rw [Nat.div_lt_iff_lt_mul (by decide)]; rw [Nat.pow_succ] at h; exact h
      cases he : dg k (n / 256) with
      | nil =>
        have h2 := nb_dg k (n / 256) h1
        rw [he] at h2
        have h3 : n / 256 = 0 := h2.symm
        simp only [List.nil_append, List.head?_cons, ne_eq, Option.some.injEq]
        intro h4
        have h5 := congrArg UInt8.toNat h4
        simp [UInt8.toNat_ofNat'] at h5
        omega
      | cons x t =>
        have := ih (n / 256) h1
        rw [he] at this
        simpa using this
theorem snoc_ind {motive : L → Prop} (nil : motive []) (snoc : ∀ (l : L) (c : UInt8), motive l → motive (l ++ [c])) (l : L) : motive l := by
  have h : ∀ r : L, motive r.reverse := by
    intro r
    induction r with
    | nil => exact nil
    | cons c r ih => rw [List.reverse_cons]; exact snoc _ _ ih
  have := h l.reverse
  rwa [List.reverse_reverse] at this
theorem nb_lt (l : L) : nb l < 256 ^ l.length := by
  induction l using snoc_ind with
  | nil => decide
  | snoc l c ih =>
    rw [nb_snoc, List.length_append, List.length_singleton, Nat.pow_succ]
    have := c.toNat_lt
    omega
theorem nb_pos (c : UInt8) (l : L) (hc : c ≠ 0) : 0 < nb (c :: l) := by
  induction l using snoc_ind with
  | nil =>
    have : c.toNat ≠ 0 := fun h => hc (UInt8.toNat_inj.1 h)
    simp [nb]; omega
  | snoc l d ih => rw [← List.cons_append, nb_snoc]; omega
theorem dg_nb (l : L) (h : l.head? ≠ some 0) (k : Nat) (hk : l.length ≤ k) : dg k (nb l) = l := by
  induction l using snoc_ind generalizing k with
  | nil => cases k <;> simp [dg, nb]
  | snoc l c ih =>
    rw [List.length_append, List.length_singleton] at hk
    cases k with
    | zero => omega
    | succ k =>
      have hc := c.toNat_lt
      have hp : ¬ nb (l ++ [c]) = 0 := by
        cases l with
        | nil =>
          have : c ≠ 0 := by simpa using h
          have := nb_pos c [] this
          simp at this ⊢; omega
        | cons d l =>
          have : d ≠ 0 := by simpa using h
          have := nb_pos d (l ++ [c]) this
          rw [List.cons_append]; omega
      unfold dg
      rw [if_neg hp, nb_snoc, show (256 * nb l + c.toNat) / 256 = nb l by omega, show (256 * nb l + c.toNat) % 256 = c.toNat by omega]
      have hl : l.head? ≠ some 0 := by
        cases l with
        | nil => simp
        | cons d l => simpa using h
      rw [ih hl k (by omega)]
      congr 1
      congr 1
      exact UInt8.toNat_inj.1 (by simp [UInt8.toNat_ofNat'])
/-- A text, and items, with a length ahead. -/
def wrapL (b : L) (base : Nat) : L :=
  if b.length ≤ 55 then UInt8.ofNat (base + b.length) :: b else UInt8.ofNat (base + 55 + (dg 8 b.length).length) :: (dg 8 b.length ++ b)
def textL (b : L) : L := if b.length = 1 ∧ (b.getD 0 0).toNat < 128 then b else wrapL b 128
def listL (b : L) : L := wrapL b 192
def putL : Bool → L → L
  | false, b => textL b
  | true, b => listL b
/-- The first item: whether it is a list, where it begins, and where it ends. -/
def finN (s : L) (list : Bool) (f n : Nat) : Option (Bool × Nat × Nat) :=
  if s.length - f < n then none else if list = false ∧ n = 1 ∧ (s.getD f 0).toNat < 128 then none else some (list, f, f + n)
def sizeN (t : L) (k : Nat) : Option Nat :=
  if t.length < k ∨ (t.getD 0 0).toNat = 0 then none else if nb (t.take k) ≤ 55 ∨ 1048576 < nb (t.take k) then none else some (nb (t.take k))
def baseN (c : Nat) : Nat := if 192 ≤ c then 192 else 128
def splitN (s : L) : Option (Bool × Nat × Nat) :=
  match s with
  | [] => none
  | c :: t =>
    if c.toNat < 128 then some (false, 0, 1)
    else if c.toNat - baseN c.toNat ≤ 55 then finN s (decide (192 ≤ c.toNat)) 1 (c.toNat - baseN c.toNat)
    else (sizeN t (c.toNat - baseN c.toNat - 55)).bind fun m => finN s (decide (192 ≤ c.toNat)) (1 + (c.toNat - baseN c.toNat - 55)) m
/-- The first item's kind, what is in it, and the rest. -/
def splitL (s : L) : Option (Bool × L × L) := (splitN s).map fun (k, f, t) => (k, (s.take t).drop f, s.drop t)
end Go.Proofs.YtibhhikaecpgiaaDoor.R
