/- What is pushed; whether acts are looked at. -/
import Derived.Test.YtdeagfjfipbniaaF11
set_option linter.unusedSimpArgs false
set_option linter.unusedVariables false
namespace Go.Proofs.Ytdeagfjfipbniaa.F
open Go.RowKit Go.Proofs.YtdeagfjfipbniaaW.PrintWords Go.Proofs.YtdeagfjfipbniaaW.PrintLast Go.Proofs.YtdeagfjfipbniaaW.PrintMore

/-- An act. -/
structure Act4 where
  K : Int
  s : Int
  b : Int
  r : ByteArray
def actV (a : Act4) : Value := .agg #[.int .i64 a.K, .int .i64 a.s, .int .i64 a.b, .string a.r]
def ActsAt (w : World) (A : Option Addr) (l : List Act4) : Prop := ∀ (i : Nat) (a : Act4), l[i]? = some a → ∃ ad, A = some ad ∧ w.cell? (ad.add (i * 4)) = some (.int .i64 a.K) ∧ w.cell? ⟨(ad.add (i * 4)).block, (ad.add (i * 4)).off + 1, none⟩ = some (.int .i64 a.s) ∧
  w.cell? ⟨(ad.add (i * 4)).block, (ad.add (i * 4)).off + 2, none⟩ = some (.int .i64 a.b) ∧ w.cell? ⟨(ad.add (i * 4)).block, (ad.add (i * 4)).off + 3, none⟩ = some (.string a.r)
theorem ActsAt.below {w w' : World} {A : Option Addr} {l : List Act4} (h : ActsAt w A l) (hb : Below w.heap.size w w') : ActsAt w' A l := fun i a hi => by
  obtain ⟨ad, e, h1, h2, h3, h4⟩ := h i a hi
  exact ⟨ad, e, (hb.cell (World.block_lt_of_cell? _ _ h1)).trans h1, (hb.cell (World.block_lt_of_cell? _ _ h2)).trans h2, (hb.cell (World.block_lt_of_cell? _ _ h3)).trans h3, (hb.cell (World.block_lt_of_cell? _ _ h4)).trans h4⟩
theorem ActsAt.belowK {w w' : World} {A : Option Addr} {l : List Act4} {base : Nat} (h : ActsAt w A l) (hA : ∀ ad, A = some ad → l ≠ [] → ad.block < base) (hb : Below base w w') : ActsAt w' A l := fun i a hi => by
  obtain ⟨ad, e, h1, h2, h3, h4⟩ := h i a hi
  have hbk : (ad.add (i * 4)).block = ad.block := by unfold Addr.add; split <;> rfl
  have hlt := hA ad e (by rintro rfl; simp at hi)
  exact ⟨ad, e, (hb.cell (by rw [hbk]; exact hlt)).trans h1, (hb.cell (by show (ad.add (i * 4)).block < base; rw [hbk]; exact hlt)).trans h2, (hb.cell (by show (ad.add (i * 4)).block < base; rw [hbk]; exact hlt)).trans h3, (hb.cell (by show (ad.add (i * 4)).block < base; rw [hbk]; exact hlt)).trans h4⟩
theorem ActsAt.lt {w : World} {A : Option Addr} {l : List Act4} (h : ActsAt w A l) : ∀ ad, A = some ad → l ≠ [] → ad.block < w.heap.size := fun ad e hne => by
  obtain ⟨a, r, rfl⟩ := List.exists_cons_of_ne_nil hne
  obtain ⟨ad', e', h1, _⟩ := h 0 a rfl
  have : ad = ad' := Option.some.inj (e.symm.trans e')
  subst this
  have hbk : (ad.add (0 * 4)).block = ad.block := by unfold Addr.add; split <;> rfl
  have := World.block_lt_of_cell? _ _ h1
  omega
theorem sizeTold : (Try.prog.info? 33).map (·.size) = some 8 := by kernel_rfl
set_option maxRecDepth 100000 in
theorem notice_calls (w : World) (a : Act4) :
    Calls Try.prog 18 #[actV a] w fun e w' => ∃ x : Note, e = .returned (.agg #[.int .i64 x.s, .int .i64 x.e, .int .i64 x.b, .string x.r, .slice x.A x.m x.c]) ∧ Below w.heap.size w w' := by
  unfold actV
  go_enter Try.func18, Try.ntmps18
  go_wp2
  have e1 : (w.alloc (.cells #[.int .i64 a.K, .int .i64 a.s, .int .i64 a.b, .string a.r] 36)).heap.size = w.heap.size + 1 := by simp
  have hg : (((w.alloc (.cells #[.int .i64 a.K, .int .i64 a.s, .int .i64 a.b, .string a.r] 36)).alloc (.cells #[.int .i64 77, .int .i64 0, .int .i64 a.b, .string a.r, .slice (some ⟨w.heap.size + 1 + 1, 0, none⟩) 1 1] 31)).alloc (.cells #[.string ⟨#[107]⟩, .string a.r, .bool false] 66)).heap[w.heap.size + 1]? =
      some (Obj.cells #[.int .i64 77, .int .i64 0, .int .i64 a.b, .string a.r, .slice (some ⟨w.heap.size + 1 + 1, 0, none⟩) 1 1] 31 (0, 0)) := (Below.heap_alloc _ _ _ (by simp)).trans (by rw [← e1]; exact heap_alloc_new _ _)
  refine bodyPost_ret (results_cell_row rfl _ _ (w.heap.size + 1) 31 _ (0, 0) _ rfl hg Try.underlying31 rfl sizeNotice) rfl ?_
  exact ⟨⟨77, 0, a.b, a.r, some ⟨w.heap.size + 1 + 1, 0, none⟩, 1, 1⟩, rfl, (((Below.refl _ w).alloc (Nat.le_refl _) _).alloc (by simp) _).alloc (by simp; omega) _⟩
def FewPost (l : List Act4) (w : World) (e : Ending) (w' : World) : Prop := ∃ b : Bool, e = .returned (.bool b) ∧ (b = true → l.length ≤ 60) ∧ w' = w
set_option maxRecDepth 100000 in
theorem few_calls (w : World) (A : Option Addr) (c : Nat) (l : List Act4) (h : ActsAt w A l) :
    Calls Try.prog 8 #[.slice A l.length c] w (FewPost l w) := by
  have H := Aside0.mk h
  clear h
  go_enter Try.func8, Try.ntmps8
  go_wp2
  go_loopw [3] (fun p wr => ∃ i : Nat, p = .int .i64 i ∧ i ≤ 61 ∧ wr = w) (fun p _ => 61 - (intOf p).toNat)
  case atStart => exact ⟨0, rfl, by omega, rfl⟩
  case round =>
    obtain ⟨i, rfl, hi, rfl⟩ := hrel
    by_cases h1 : i < l.length
    · have h1' : (i : Int) < (l.length : Int) := by omega
      by_cases h2 : i ≤ 60
      · have h2' : (i : Int) ≤ 60 := by omega
        obtain ⟨ad, rfl, c0, c1, c2, c3⟩ := H.out i l[i] (List.getElem?_eq_getElem h1)
        have hb : (i : Int) < 1000 := by omega
        by_cases h3 : (((l[i]).r.size : Nat) : Int) > 50
        · go_wp2
          go_ret
          exact ⟨false, rfl, fun h => absurd h (by decide), rfl⟩
        · go_wp2
          go_roundw
          case rel => exact ⟨i + 1, by simp, by omega, trivial⟩
          case measure => simp [intOf]; omega
      · have h2' : ¬ ((i : Int) ≤ 60) := by omega
        have h4 : ¬ ((l.length : Int) ≤ 60) := by omega
        go_wp2
        go_ret
        exact ⟨false, rfl, fun h => absurd h (by decide), rfl⟩
    · have h1' : ¬ ((i : Int) < (l.length : Int)) := by omega
      go_wp2
      go_ret
      exact ⟨_, rfl, fun h => (by have := of_decide_eq_true h; omega), rfl⟩
end Go.Proofs.Ytdeagfjfipbniaa.F
