/- A path as bytes has one byte more than half its nibbles: for every path, of a leaf or not. -/
import Derived.Test.YtbnniapnbjmbhaaPAx7
import Derived.Test.YtbnniapnbjmbhaaNL
set_option linter.unusedSimpArgs false
set_option linter.unusedVariables false
namespace Go.Proofs.Ytbnniapnbjmbhaa.Pure
open Go.RowKit Go.Proofs.Ytbnniapnbjmbhaa.PA Go.Proofs.YtbnniapnbjmbhaaW.PrintWords Go.Proofs.YtbnniapnbjmbhaaW.PrintLast Go.Proofs.Ytbnniapnbjmbhaa.Y Go.Proofs.Ytbnniapnbjmbhaa.NL

def hd (l : List UInt8) (leaf : Bool) : List UInt8 := if l.length % 2 = 0 then [if leaf then 2 else 0, 0] else [if leaf then 3 else 1]
theorem hd_parity (l : List UInt8) (leaf : Bool) : (hd l leaf ++ l).length % 2 = 0 ∧ (hd l leaf ++ l).length ≤ l.length + 2 ∧ (hd l leaf ++ l).length / 2 = 1 + l.length / 2 := by
  unfold hd
  split <;> simp <;> omega
theorem hd_val (l : List UInt8) (leaf : Bool) (h : val l = true) : val (hd l leaf ++ l) = true := by
  have : val (hd l leaf) = true := by unfold hd val; split <;> cases leaf <;> rfl
  unfold val at *
  rw [List.all_append, this, h]; rfl
theorem put_ev (l : List UInt8) (leaf : Bool) (hl : l.length ≤ 140737488351232) :
    Ev (fun k => nibble_Put.f k (B l) leaf) (if val l = true then (B (pairs (hd l leaf ++ l)), true) else (B [], false)) := by
  have hj : val l = true → Ev (fun k => (nibble_joined.f k (B (hd l leaf ++ l))).bind fun t => some (t, true)) (B (pairs (hd l leaf ++ l)), true) := fun hv =>
    (joined_ev _ (by have := (hd_parity l leaf).2.1; omega) (hd_parity l leaf).1 (hd_val l leaf hv)).bind (Ev.now _)
  by_cases hv : val l = true
  · rw [if_pos hv]
    refine Ev.congr (fun k => ?_) (hj hv)
    unfold nibble_Put.f
    rw [valid_f, Option.bind_some, if_pos hv]
    have e : Go.bits .and .i64 ((B l).size : Int) 1 = ((l.length % 2 : Nat) : Int) := by rw [size_B]; exact Go.Proofs.and_one _ (by omega)
    rw [e]
    have q1 : Go.bits .or .u8 (((0 : Nat) : Int) % 256) 2 = 2 := by decide +kernel
    have q2 : Go.bits .or .u8 (((1 : Nat) : Int) % 256) 2 = 3 := by decide +kernel
    have q3 : Go.bits .and .u8 2 1 = 0 := by decide +kernel
    have q4 : Go.bits .and .u8 3 1 = 1 := by decide +kernel
    have q5 : Go.bits .and .u8 (((0 : Nat) : Int) % 256) 1 = 0 := by decide +kernel
    have q6 : Go.bits .and .u8 (((1 : Nat) : Int) % 256) 1 = 1 := by decide +kernel
    have s1 : strOfNums ([2] ++ [0]) = B [2, 0] := rfl
    have s2 : strOfNums [3] = B [3] := rfl
    have s3 : strOfNums ([((0 : Nat) : Int) % 256] ++ [0]) = B [0, 0] := rfl
    have s4 : strOfNums [((1 : Nat) : Int) % 256] = B [1] := rfl
    unfold hd
    rcases Nat.mod_two_eq_zero_or_one l.length with hp | hp <;> rw [hp] <;> cases leaf
    · simp only [Option.bind_some, q5, if_true, s3, append_B, size_B, Bool.false_eq_true, if_false]
      rw [if_pos (by simp), if_pos (by simp; omega)]
    · simp only [Option.bind_some, q1, q3, if_true, s1, append_B, size_B]
      rw [if_pos (by simp), if_pos (by simp; omega)]
    · simp only [Option.bind_some, q6, s4, append_B, size_B, Bool.false_eq_true, if_false]
      rw [if_neg (by decide), if_pos (by simp; omega), if_neg (by decide)]
    · simp only [Option.bind_some, q2, q4, s2, append_B, size_B, if_true]
      rw [if_neg (by decide), if_pos (by simp; omega), if_neg (by decide)]
  · rw [if_neg hv]
    refine Ev.congr (fun k => ?_) (Ev.now _)
    unfold nibble_Put.f
    rw [valid_f, Option.bind_some, if_neg hv]

theorem NibbleSizes : guillochelaw01_NibbleSizes.Pure := by
  intro a0 a1 h0
  obtain ⟨l, rfl⟩ := isB a0
  rw [size_B] at h0
  apply Ev.rounds
  refine Ev.congr (fun k => by unfold guillochelaw01_NibbleSizes.f; rfl) (works_ev.bind ?_)
  simp only [if_true]
  by_cases hs : ((B l).size : Int) > 200
  · simp only [hs, if_true]; exact Ev.now _
  · simp only [hs, if_false]
    rw [size_B] at hs
    refine (put_ev l a1 h0).bind ?_
    by_cases hv : val l = true
    · simp only [hv, if_true]
      have e : ((B (pairs (hd l a1 ++ l))).size : Int) = wrap64 (1 + wrap64 (((B l).size : Int) / 2)) := by
        rw [size_B, size_B, pairs_length, (hd_parity l a1).2.2, wrap_id (n := ((l.length : Int) / 2)) (by omega) (by omega), wrap_id (by omega) (by omega)]
        omega
      rw [e, beq_self_eq_true]
      exact Ev.now _
    · simp only [hv]
      exact Ev.now _
end Go.Proofs.Ytbnniapnbjmbhaa.Pure
