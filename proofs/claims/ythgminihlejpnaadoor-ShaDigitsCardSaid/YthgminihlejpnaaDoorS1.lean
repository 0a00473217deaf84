/- SHA-256's turning of words: contracts of bits.RotateLeft32 and of sha.right, at every word and every count. -/
import Derived.Test.YthgminihlejpnaaDoorProg
import Derived.Test.YthgminihlejpnaaDoorWMore
import Derived.WalkKit
import Derived.KernelRfl
import Derived.Outline
set_option linter.unusedSimpArgs false
set_option linter.unusedVariables false
namespace Go.Proofs.YthgminihlejpnaaDoor.S
open Go.RowKit Go.Proofs.YthgminihlejpnaaDoorW.PrintWords Go.Proofs.YthgminihlejpnaaDoorW.PrintLast Go.Proofs.YthgminihlejpnaaDoorW.PrintMore

theorem rotl_calls (x k s t : Int) (w : World) (hs : Go.bits .and .u64 (IntKind.u64.wrap k) 31 = s) (ht : IntKind.u64.wrap (32 - s) = t) (h0 : 0 ≤ s) (h1 : 0 ≤ t) :
    Calls Tryd.prog 21 #[.int .u32 x, .int .i64 k] w fun e w' => e = .returned (.int .u32 (Go.bits .or .u32 (shl .u32 x s) (shr .u32 x t))) ∧ w = w' := by
  obtain ⟨j5, hj5⟩ : ∃ j_ : Int, (shl .u32 x s) = j_ := ⟨_, rfl⟩
  have hj5_ : (IntKind.u32.wrap (x * 2 ^ min s.toNat 32)) = j5 := hj5
  have hj5z : s ≤ 32 → (IntKind.u32.wrap (x * 2 ^ s.toNat)) = j5 := shl_small hj5
  obtain ⟨j8, hj8⟩ : ∃ j_ : Int, (shr .u32 x t) = j_ := ⟨_, rfl⟩
  have hj8_ : (x / 2 ^ min t.toNat 32) = j8 := hj8
  have hj8z : t ≤ 32 → (x / 2 ^ t.toNat) = j8 := shr_small hj8
  rw [hj5, hj8]
  have h0b : decide (0 ≤ s) = true := decide_eq_true h0
  have h1b : decide (0 ≤ t) = true := decide_eq_true h1
  replace h0 := eq_true h0
  replace h1 := eq_true h1
  go_enter Tryd.func21, Tryd.ntmps21
  go_wp2
  go_ret
  exact ⟨rfl, rfl⟩

/-- What sha.right comes to at a count n. -/
def rotr (x n : Int) : Int := Go.bits .or .u32 (shl .u32 x (Go.bits .and .u64 (IntKind.u64.wrap (wrap64 (-n))) 31)) (shr .u32 x (IntKind.u64.wrap (32 - Go.bits .and .u64 (IntKind.u64.wrap (wrap64 (-n))) 31)))
theorem right_calls (x n : Int) (w : World) (h0 : 0 ≤ Go.bits .and .u64 (IntKind.u64.wrap (wrap64 (-n))) 31) (h1 : 0 ≤ IntKind.u64.wrap (32 - Go.bits .and .u64 (IntKind.u64.wrap (wrap64 (-n))) 31)) :
    Calls Tryd.prog 19 #[.int .u32 x, .int .i64 n] w fun e w' => e = .returned (.int .u32 (rotr x n)) ∧ w = w' := by
  have hC := fun w => rotl_calls x (wrap64 (-n)) _ _ w rfl rfl h0 h1
  change ∀ w, Calls Tryd.prog 21 #[.int .u32 x, .int .i64 (wrap64 (-n))] w (fun e w' => e = .returned (.int .u32 (rotr x n)) ∧ w = w') at hC
  clear h0 h1
  generalize rotr x n = r at hC ⊢
  go_enter Tryd.func19, Tryd.ntmps19
  go_wp2_with (go_at_call 21; refine (hC _).mono ?_; rintro e w' ⟨rfl, rfl⟩)
  go_ret
  exact ⟨rfl, rfl⟩
theorem turned {f : FuncId} {args : Array Value} {v : Value} {w : World} (h : Calls Tryd.prog f args w fun e w' => e = .returned v ∧ w = w') : Calls Tryd.prog f args w fun e w' => e = .returned v ∧ w' = w := h.mono fun _ _ h => ⟨h.1, h.2.symm⟩
theorem right2 (x : Int) (w : World) : Calls Tryd.prog 19 #[.int .u32 x, .int .i64 2] w fun e w' => e = .returned (.int .u32 (rotr x 2)) ∧ w = w' := right_calls x 2 w (by decide +kernel) (by decide +kernel)
theorem right6 (x : Int) (w : World) : Calls Tryd.prog 19 #[.int .u32 x, .int .i64 6] w fun e w' => e = .returned (.int .u32 (rotr x 6)) ∧ w = w' := right_calls x 6 w (by decide +kernel) (by decide +kernel)
theorem right7 (x : Int) (w : World) : Calls Tryd.prog 19 #[.int .u32 x, .int .i64 7] w fun e w' => e = .returned (.int .u32 (rotr x 7)) ∧ w = w' := right_calls x 7 w (by decide +kernel) (by decide +kernel)
theorem right11 (x : Int) (w : World) : Calls Tryd.prog 19 #[.int .u32 x, .int .i64 11] w fun e w' => e = .returned (.int .u32 (rotr x 11)) ∧ w = w' := right_calls x 11 w (by decide +kernel) (by decide +kernel)
theorem right13 (x : Int) (w : World) : Calls Tryd.prog 19 #[.int .u32 x, .int .i64 13] w fun e w' => e = .returned (.int .u32 (rotr x 13)) ∧ w = w' := right_calls x 13 w (by decide +kernel) (by decide +kernel)
theorem right17 (x : Int) (w : World) : Calls Tryd.prog 19 #[.int .u32 x, .int .i64 17] w fun e w' => e = .returned (.int .u32 (rotr x 17)) ∧ w = w' := right_calls x 17 w (by decide +kernel) (by decide +kernel)
theorem right18 (x : Int) (w : World) : Calls Tryd.prog 19 #[.int .u32 x, .int .i64 18] w fun e w' => e = .returned (.int .u32 (rotr x 18)) ∧ w = w' := right_calls x 18 w (by decide +kernel) (by decide +kernel)
theorem right19 (x : Int) (w : World) : Calls Tryd.prog 19 #[.int .u32 x, .int .i64 19] w fun e w' => e = .returned (.int .u32 (rotr x 19)) ∧ w = w' := right_calls x 19 w (by decide +kernel) (by decide +kernel)
theorem right22 (x : Int) (w : World) : Calls Tryd.prog 19 #[.int .u32 x, .int .i64 22] w fun e w' => e = .returned (.int .u32 (rotr x 22)) ∧ w = w' := right_calls x 22 w (by decide +kernel) (by decide +kernel)
theorem right25 (x : Int) (w : World) : Calls Tryd.prog 19 #[.int .u32 x, .int .i64 25] w fun e w' => e = .returned (.int .u32 (rotr x 25)) ∧ w = w' := right_calls x 25 w (by decide +kernel) (by decide +kernel)
end Go.Proofs.YthgminihlejpnaaDoor.S
