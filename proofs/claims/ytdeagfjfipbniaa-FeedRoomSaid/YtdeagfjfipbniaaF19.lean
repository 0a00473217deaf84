/- The acts of a list that came in. -/
import Derived.Test.YtdeagfjfipbniaaF18
import Derived.Deep.Slices
import Derived.Lib.SmallJoins
import Derived.WalkKit
import Derived.ProofKit
import Derived.OpenShut
import Derived.ShutString
import Derived.ChangeOld
import Derived.Below
import Derived.SizedLaws
import Derived.Test.YtdeagfjfipbniaaWSized
set_option linter.unusedSimpArgs false
set_option linter.unusedVariables false
namespace Go.Proofs.Ytdeagfjfipbniaa.F
open Go.ChangeShapes Go.WideShapes Go.ChangeAt Go.RowKit Go.Deep Go.Proofs.YtdeagfjfipbniaaW.PrintWords Go.Proofs.YtdeagfjfipbniaaW.PrintLast Go.Proofs.YtdeagfjfipbniaaW.PrintMore

instance : Inhabited Act4 := ⟨⟨0, 0, 0, ⟨#[]⟩⟩⟩
theorem act_cells : Try.prog.cellsOf 36 = 4 := by kernel_rfl
theorem int_cells : Try.prog.cellsOf 3 = 1 := by kernel_rfl
theorem str_cells : Try.prog.cellsOf 9 = 1 := by kernel_rfl
theorem open_acts {H : Type} {enc : TypeId × Value → H} {W : World} {sp : Nat → Bool} {held : Bool} {a : Option Addr} {len cap : Nat} {d : DataW H} {p : List MemPlace}
    (h : DataW.Trod enc Try.prog W 0 sp held 22 (.slice a len cap) d p) : ∃ l : List Act4, l.length = len ∧ ActsAt W a l ∧ ∀ x ∈ l, wfI x.s := by
  obtain ⟨fuel, hf⟩ := h
  rcases open_slice Try.underlying22 hf with ⟨hcs, _⟩ | ⟨x, ln, cp, m, n, D, Pl, hcs, _, hl, hm, hmm, _, hx⟩
  · simp [Value.cells] at hcs
    obtain ⟨rfl, rfl, rfl⟩ := hcs
    exact ⟨[], rfl, fun i a hi => by simp at hi, fun x hx => by simp at hx⟩
  · simp [Value.cells] at hcs
    obtain ⟨rfl, rfl, rfl⟩ := hcs
    have hlm : len ≤ m := by rw [hmm]; split <;> omega
    have each : ∀ i, i < len → ∃ q : Act4, W.cell? (x.add (i * 4)) = some (.int .i64 q.K) ∧ W.cell? (x.add (i * 4 + 1)) = some (.int .i64 q.s) ∧ W.cell? (x.add (i * 4 + 2)) = some (.int .i64 q.b) ∧ W.cell? (x.add (i * 4 + 3)) = some (.string q.r) ∧ wfI q.s := by
      intro i hi
      obtain ⟨cs', h1, h2⟩ := hx i (by omega)
      rw [act_cells] at h1
      obtain ⟨_, hlen, hcell⟩ := World.cells?_some h1
      obtain ⟨xs, k, hk, hxy, _, hxl, hff⟩ := DataW.trod_struct Try.underlying36 h2
      match cs', hlen with
      | [v0, v1, v2, v3], _ =>
        have g0 : DataW.trod enc Try.prog W 0 sp held k 3 (([v0, v1, v2, v3].drop 0).take (Try.prog.cellsOf 3)) = xs[0]? := hff 0 _ rfl
        have g1 : DataW.trod enc Try.prog W 0 sp held k 3 (([v0, v1, v2, v3].drop 1).take (Try.prog.cellsOf 3)) = xs[1]? := hff 1 _ rfl
        have g2 : DataW.trod enc Try.prog W 0 sp held k 3 (([v0, v1, v2, v3].drop 2).take (Try.prog.cellsOf 3)) = xs[2]? := hff 2 _ rfl
        have g3 : DataW.trod enc Try.prog W 0 sp held k 9 (([v0, v1, v2, v3].drop 3).take (Try.prog.cellsOf 9)) = xs[3]? := hff 3 _ rfl
        rw [int_cells] at g0 g1 g2
        rw [str_cells] at g3
        match xs, hxl with
        | [y0, y1, y2, y3], _ =>
          simp at g0 g1 g2 g3
          obtain ⟨n0, e0, _, _⟩ := DataW.trod_int Try.underlying3 g0
          obtain ⟨n1, e1, _, w1⟩ := DataW.trod_int Try.underlying3 g1
          obtain ⟨n2, e2, _, _⟩ := DataW.trod_int Try.underlying3 g2
          obtain ⟨s3, e3, _, _⟩ := DataW.trod_string Try.underlying9 g3
          simp only [List.cons.injEq, and_true] at e0 e1 e2 e3
          subst e0 e1 e2 e3
          have c0 := hcell 0 (by omega)
          have c1 := hcell 1 (by omega)
          have c2 := hcell 2 (by omega)
          have c3 := hcell 3 (by omega)
          rw [Go.Deep.add_add] at c0 c1 c2 c3
          exact ⟨⟨n0, n1, n2, s3⟩, by simpa using c0, by simpa using c1, by simpa using c2, by simpa using c3, w1⟩
    obtain ⟨f, hf'⟩ := choose_lt each
    refine ⟨(List.range len).map f, by simp, fun i q hi => ?_, fun q hq => ?_⟩
    · have hlt : i < len := by have := (List.getElem?_eq_some_iff.1 hi).1; simpa using this
      have hq : f i = q := by rw [List.getElem?_map, List.getElem?_range hlt] at hi; exact Option.some.inj hi
      subst hq
      obtain ⟨c0, c1, c2, c3, _⟩ := hf' i hlt
      exact ⟨x, rfl, c0, by rw [← add_field _ _ 1 (by omega)]; exact c1, by rw [← add_field _ _ 2 (by omega)]; exact c2, by rw [← add_field _ _ 3 (by omega)]; exact c3⟩
    · obtain ⟨i, hi, rfl⟩ := List.mem_map.1 hq
      exact (hf' i (List.mem_range.1 hi)).2.2.2.2
end Go.Proofs.Ytdeagfjfipbniaa.F
