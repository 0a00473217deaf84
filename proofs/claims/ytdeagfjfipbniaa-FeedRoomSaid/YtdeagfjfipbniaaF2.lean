/- A feed in memory; what it answers of a session. -/
import Derived.Test.YtdeagfjfipbniaaF1
import Derived.WalkKit
set_option linter.unusedSimpArgs false
set_option linter.unusedVariables false
namespace Go.Proofs.Ytdeagfjfipbniaa.F
open Go.RowKit Go.Proofs.YtdeagfjfipbniaaW.PrintWords Go.Proofs.YtdeagfjfipbniaaW.PrintLast Go.Proofs.YtdeagfjfipbniaaW.PrintMore

/-- How a line's pointer reads: as its block's number. -/
def lineRd : Value → Option (DataW Unit × List MemPlace)
  | .pointer (some ⟨b, 0, none⟩) => some (.lit (.int .i64 b), [])
  | .pointer none => some (.nil, [])
  | _ => none
theorem lineRd_at {v : Value} {b : Nat} {ps : List MemPlace} (h : lineRd v = some (.lit (.int .i64 b), ps)) : v = .pointer (some ⟨b, 0, none⟩) := by
  unfold lineRd at h
  split at h
  · rename_i c
    injection h with h
    injection h with h _
    injection h with h
    injection h with _ h
    have : c = b := by omega
    rw [this]
  · injection h with h
    injection h with h _
    cases h
  · cases h
theorem lineRd_nil {v : Value} {ps : List MemPlace} (h : lineRd v = some (.nil, ps)) : v = .pointer none := by
  unfold lineRd at h
  split at h
  · injection h with h
    injection h with h _
    cases h
  · rfl
  · cases h
abbrev wfI (k : Int) : Prop := (Lit.int .i64 k).wf = true
structure LineAt (base : Nat) (w : World) (r : Row) : Prop where
  bb : base ≤ r.b
  wf : wfI r.k
  cell : w.heap[r.b]? = some (Obj.cells #[.bool r.f, r.v] 58 (0, 0))
  row : QRow w base 31 5 r.v r.n r.xs
def Apart (r s : Row) : Prop := r.b ≠ s.b ∧ ∀ k, r.v.ownBlock = some k → s.v.ownBlock ≠ some k
theorem Apart.symm {r s : Row} (h : Apart r s) : Apart s r := ⟨fun e => h.1 e.symm, fun k hk he => h.2 k he hk⟩
structure FeedAt (base : Nat) (w : World) (p : Nat) (room : Int) (mb n : Nat) (G : List Row) : Prop where
  pb : base ≤ p
  mbb : base ≤ mb
  feed : w.heap[p]? = some (Obj.cells #[.int .i64 room, .map (some mb)] 48 (0, 0))
  map : w.ownsMap Try.prog 3 lineRd mb n (datum G)
  rising : Rising G
  lines : ∀ r ∈ G, LineAt base w r
  apart : ∀ r ∈ G, ∀ s ∈ G, r.k ≠ s.k → Apart r s
section
variable {base p mb n : Nat} {w : World} {room : Int} {G : List Row}
theorem keyed : Maps.Keyed Try.prog 3 := Maps.int_keyed Try.underlying3
theorem key_of {k : Int} (h : wfI k) : keyOf Try.prog 3 (.int .i64 k) = some (kl k) := Maps.keyOf_int_mk Try.underlying3 h
theorem zero_line (w : World) : (zeroValue 54).run Try.prog w = .ok (.pointer none) w := Try.zeroValue54 w
theorem FeedAt.look_ok (h : FeedAt base w p room mb n G) {k : Int} (hk : wfI k) :
    (∃ r, look k G = some r ∧ (Instr.lookup 46 (.map (some mb)) (.int .i64 k) true).run Try.prog w = .ok (.tuple #[.pointer (some ⟨r.b, 0, none⟩), .bool true]) w) ∨
    (look k G = none ∧ (Instr.lookup 46 (.map (some mb)) (.int .i64 k) true).run Try.prog w = .ok (.tuple #[.pointer none, .bool false]) w) := by
  obtain ⟨v, ps, hr, hv⟩ := h.map.look_ok keyed Try.underlying46 (zero_line w) (zd := .nil) (zp := []) rfl (key_of hk)
  rw [datum_has] at hr
  rw [datum_at] at hv
  cases hl : look k G with
  | none =>
    rw [hl] at hr hv
    obtain rfl := lineRd_nil hv
    exact .inr ⟨rfl, hr⟩
  | some r =>
    rw [hl] at hr hv
    obtain rfl := lineRd_at hv
    exact .inl ⟨r, rfl, hr⟩
theorem FeedAt.look_one (h : FeedAt base w p room mb n G) {k : Int} {r : Row} (hk : wfI k) (hr : look k G = some r) :
    (Instr.lookup 46 (.map (some mb)) (.int .i64 k) false).run Try.prog w = .ok (.pointer (some ⟨r.b, 0, none⟩)) w := by
  obtain ⟨v, ps, he, hv⟩ := h.map.lookup keyed Try.underlying46 (zero_line w) (zd := .nil) (zp := []) rfl (key_of hk)
  rw [datum_at, hr] at hv
  obtain rfl := lineRd_at hv
  exact he
end
/-- How many wait, of what is looked up. -/
def waits : Option Row → Nat
  | some r => r.n
  | none => 0
def follows : Option Row → Bool
  | some r => r.f
  | none => false
set_option maxRecDepth 100000 in
theorem waiting_calls (base p mb n : Nat) (w : World) (room : Int) (G : List Row) (k : Int) (h : FeedAt base w p room mb n G) (hk : wfI k) :
    Calls Try.prog 11 #[.pointer (some ⟨p, 0, none⟩), .int .i64 k] w fun e w' => e = .returned (.int .i64 (waits (look k G))) ∧ w' = w := by
  have c1 : w.cell? ⟨p, 1, none⟩ = some (.map (some mb)) := blk_cell h.feed 1
  go_enter Try.func11, Try.ntmps11
  rcases h.look_ok hk with ⟨r, hl, hr⟩ | ⟨hl, hr⟩
  · rw [hl]
    have hL := h.lines r (look_some hl).1
    have c2 : w.cell? ⟨r.b, 1, none⟩ = some r.v := blk_cell hL.cell 1
    obtain ⟨A, c, hv, hc⟩ := q_slice hL.row
    rw [hv] at c2
    go_wp2
    go_ret
    exact ⟨rfl, rfl⟩
  · rw [hl]
    go_wp2
    go_ret
    exact ⟨rfl, rfl⟩
set_option maxRecDepth 100000 in
theorem follows_calls (base p mb n : Nat) (w : World) (room : Int) (G : List Row) (k : Int) (h : FeedAt base w p room mb n G) (hk : wfI k) :
    Calls Try.prog 12 #[.pointer (some ⟨p, 0, none⟩), .int .i64 k] w fun e w' => e = .returned (.bool (follows (look k G))) ∧ w' = w := by
  have c1 : w.cell? ⟨p, 1, none⟩ = some (.map (some mb)) := blk_cell h.feed 1
  go_enter Try.func12, Try.ntmps12
  rcases h.look_ok hk with ⟨r, hl, hr⟩ | ⟨hl, hr⟩
  · rw [hl]
    have hL := h.lines r (look_some hl).1
    have c2 : w.cell? ⟨r.b, 0, none⟩ = some (.bool r.f) := blk_cell hL.cell 0
    go_wp2
    go_ret
    exact ⟨rfl, rfl⟩
  · rw [hl]
    go_wp2
    go_ret
    exact ⟨rfl, rfl⟩
end Go.Proofs.Ytdeagfjfipbniaa.F
