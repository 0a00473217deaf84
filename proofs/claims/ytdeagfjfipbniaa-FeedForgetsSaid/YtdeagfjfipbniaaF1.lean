/- A feed as a list of rows, by rising sessions: what its map reads as; looking up, laying in, taking out. -/
import Derived.Test.YtdeagfjfipbniaaProg
import Derived.Test.YtdeagfjfipbniaaWMore
import Derived.Maps.OwnSet
import Derived.Lib.SlKeysI
set_option linter.unusedSimpArgs false
set_option linter.unusedVariables false
namespace Go.Proofs.Ytdeagfjfipbniaa.F
open Go.RowKit Go.Proofs.YtdeagfjfipbniaaW.PrintWords Go.Proofs.YtdeagfjfipbniaaW.PrintLast Go.Proofs.YtdeagfjfipbniaaW.PrintMore

/-- A notice, as it lies in memory. -/
structure Note where
  s : Int
  e : Int
  b : Int
  r : ByteArray
  A : Option Addr
  m : Nat
  c : Nat
def Note.cells (x : Note) : List Value := [.int .i64 x.s, .int .i64 x.e, .int .i64 x.b, .string x.r, .slice x.A x.m x.c]
/-- A session's line: its key, its block, whether it follows, its queue's slice, and the notices in it. -/
structure Row where
  k : Int
  b : Nat
  f : Bool
  v : Value
  q : List Note
/-- How many notices there are; their cells. -/
def Row.n (r : Row) : Nat := r.q.length
def Row.xs (r : Row) : List Value := r.q.flatMap Note.cells
def ent (r : Row) : Lit × DataW Unit := (.int .i64 r.k, .lit (.int .i64 r.b))
def datum (G : List Row) : DataW Unit := .map (G.map ent)
def look (k : Int) (G : List Row) : Option Row := G.find? fun r => decide (r.k = k)
def ins (x : Row) : List Row → List Row
  | [] => [x]
  | y :: r => if x.k < y.k then x :: y :: r else y :: ins x r
def del (k : Int) (G : List Row) : List Row := G.filter fun r => !decide (r.k = k)
def upd (k : Int) (g : Row → Row) (G : List Row) : List Row := G.map fun r => if r.k = k then g r else r
abbrev kl (k : Int) : Lit := .int .i64 k

theorem same_key (a b : Int) : (kl a).sameKey (kl b) = decide (a = b) := by simp [Lit.sameKey]
theorem datum_has (G : List Row) (k : Int) : Maps.has (datum G) (kl k) = (look k G).isSome := by
  unfold datum look
  rw [Maps.has_eq]
  induction G with
  | nil => rfl
  | cons r G ih =>
    simp only [List.map_cons, List.any_cons, List.find?_cons, ent]
    rw [same_key]
    by_cases h : r.k = k
    · simp [h]
    · simp only [h, decide_false, Bool.false_or]
      exact ih
theorem datum_at (G : List Row) (k : Int) (z : DataW Unit) : (datum G).atKey (kl k) z = match look k G with | some r => .lit (.int .i64 r.b) | none => z := by
  unfold datum look DataW.atKey
  simp only
  induction G with
  | nil => rfl
  | cons r G ih =>
    simp only [List.map_cons, List.find?_cons, ent]
    rw [same_key]
    by_cases h : r.k = k
    · simp [h]
    · simp only [h, decide_false]
      exact ih
theorem datum_del (G : List Row) (k : Int) : (datum G).del (kl k) = datum (del k G) := by
  unfold datum del DataW.del
  simp only
  congr 1
  rw [List.filter_map]
  congr 1
  refine List.filter_congr fun r _ => ?_
  simp only [Function.comp, ent, same_key]
theorem look_none {k : Int} {G : List Row} (h : look k G = none) : ∀ r ∈ G, r.k ≠ k := fun r hr => by
  have := List.find?_eq_none.1 h r hr
  simpa using this
theorem look_some {k : Int} {G : List Row} {r : Row} (h : look k G = some r) : r ∈ G ∧ r.k = k := ⟨List.mem_of_find?_eq_some h, by simpa using List.find?_some h⟩
theorem del_absent {k : Int} {G : List Row} (h : look k G = none) : del k G = G := by
  refine List.filter_eq_self.2 fun r hr => ?_
  simp [look_none h r hr]
theorem insert_ent (x : Row) (G : List Row) : DataW.insert (ent x) (G.map ent) = (ins x G).map ent := by
  induction G with
  | nil => rfl
  | cons y r ih =>
    simp only [List.map_cons, DataW.insert, ins, ent, Lit.before]
    by_cases h : x.k < y.k
    · simp [h, ent]
    · simp only [h, decide_false, Bool.false_eq_true, if_false, List.map_cons]
      congr 1
theorem datum_put {G : List Row} (x : Row) (h : look x.k G = none) : (datum G).put (kl x.k) (.lit (.int .i64 x.b)) = datum (ins x G) := by
  unfold datum DataW.put
  simp only
  congr 1
  have hf : (G.map ent).filter (fun p => !p.1.sameKey (kl x.k)) = G.map ent := by
    rw [List.filter_map]
    congr 1
    refine List.filter_eq_self.2 fun r hr => ?_
    simp only [Function.comp, ent, same_key]
    simp [look_none h r hr]
  rw [hf]
  exact insert_ent x G
theorem datum_size (G : List Row) : Maps.size (datum G) = G.length := by simp [datum, Maps.size]
theorem datum_keys (G : List Row) : intKeys (datum G) = G.map (·.k) := by
  unfold datum
  show (G.map ent).map _ = _
  rw [List.map_map]
  rfl
/-! ### rising -/
abbrev Rising (G : List Row) : Prop := G.Pairwise fun r s => r.k < s.k
theorem rising_del {G : List Row} (k : Int) (h : Rising G) : Rising (del k G) := h.filter _
theorem mem_ins {x y : Row} {G : List Row} : y ∈ ins x G ↔ y = x ∨ y ∈ G := by
  induction G with
  | nil => simp [ins]
  | cons z r ih =>
    unfold ins
    split
    · simp
    · simp only [List.mem_cons, ih]
      constructor
      · rintro (h | h | h) <;> simp [h]
      · rintro (h | h | h) <;> simp [h]
theorem rising_ins {x : Row} {G : List Row} (h : Rising G) (hx : look x.k G = none) : Rising (ins x G) := by
  have hne := look_none hx
  clear hx
  induction G with
  | nil => simp [ins]
  | cons y r ih =>
    unfold ins
    obtain ⟨h1, h2⟩ := List.pairwise_cons.1 h
    split
    · rename_i hlt
      refine List.pairwise_cons.2 ⟨fun z hz => ?_, h⟩
      rcases List.mem_cons.1 hz with rfl | hz
      · exact hlt
      · have := h1 z hz
        omega
    · rename_i hlt
      refine List.pairwise_cons.2 ⟨fun z hz => ?_, ih h2 fun s hs => hne s (List.mem_cons_of_mem _ hs)⟩
      have hy := hne y List.mem_cons_self
      rcases mem_ins.1 hz with rfl | hz
      · omega
      · exact h1 z hz
/-- A turn of a row that leaves its key and its block. -/
structure Leaves (g : Row → Row) : Prop where
  k : ∀ r, (g r).k = r.k
  b : ∀ r, (g r).b = r.b
theorem datum_upd {g : Row → Row} (hg : Leaves g) (k : Int) (G : List Row) : datum (upd k g G) = datum G := by
  unfold datum upd
  rw [List.map_map]
  congr 1
  refine List.map_congr_left fun r _ => ?_
  simp only [Function.comp]
  split
  · simp [ent, hg.k, hg.b]
  · rfl
theorem upd_keys {g : Row → Row} (hg : Leaves g) (k : Int) (G : List Row) : (upd k g G).map (·.k) = G.map (·.k) := by
  unfold upd
  rw [List.map_map]
  refine List.map_congr_left fun r _ => ?_
  simp only [Function.comp]
  split
  · exact hg.k r
  · rfl
theorem rising_iff (G : List Row) : Rising G ↔ (G.map (·.k)).Pairwise (· < ·) := by rw [List.pairwise_map]
theorem rising_upd {g : Row → Row} (hg : Leaves g) (k : Int) {G : List Row} (h : Rising G) : Rising (upd k g G) := by
  rw [rising_iff, upd_keys hg, ← rising_iff]
  exact h
theorem look_upd {g : Row → Row} (hg : Leaves g) (k j : Int) (G : List Row) : look j (upd k g G) = if j = k then (look j G).map g else look j G := by
  unfold look upd
  induction G with
  | nil => split <;> rfl
  | cons r G ih =>
    simp only [List.map_cons, List.find?_cons]
    by_cases h1 : r.k = k
    · simp only [h1, if_true, hg.k]
      by_cases h2 : k = j
      · subst h2
        simp [h1]
      · simp only [h2, decide_false]
        rw [ih]
    · simp only [h1, if_false]
      by_cases h2 : r.k = j
      · subst h2
        simp [h1]
      · simp only [h2, decide_false]
        exact ih
theorem look_del (k j : Int) (G : List Row) : look j (del k G) = if j = k then none else look j G := by
  unfold look del
  rw [List.find?_filter]
  induction G with
  | nil => split <;> rfl
  | cons r G ih =>
    simp only [List.find?_cons]
    by_cases h2 : r.k = j
    · subst h2
      by_cases h1 : r.k = k
      · simp only [h1, decide_true, Bool.not_true, Bool.false_and, if_true] at ih ⊢
        exact ih
      · simp [h1]
    · simp only [h2, decide_false, Bool.false_eq_true, and_false]
      exact ih
theorem look_ins {x : Row} (j : Int) {G : List Row} (h : look x.k G = none) : look j (ins x G) = if j = x.k then some x else look j G := by
  have hne := look_none h
  clear h
  unfold look
  induction G with
  | nil =>
    simp only [ins, List.find?_cons, List.find?_nil]
    by_cases h : j = x.k
    · simp [h]
    · have h' : ¬ x.k = j := fun e => h e.symm
      simp [h, h']
  | cons y r ih =>
    have hy := hne y List.mem_cons_self
    have ih := ih fun s hs => hne s (List.mem_cons_of_mem _ hs)
    unfold ins
    split
    · simp only [List.find?_cons]
      by_cases h : j = x.k
      · simp [h]
      · have h' : ¬ x.k = j := fun e => h e.symm
        simp [h, h']
    · simp only [List.find?_cons]
      by_cases h1 : y.k = j
      · have : ¬ j = x.k := fun e => hy (h1.trans e)
        simp [h1, this]
      · simp only [h1, decide_false]
        rw [ih]
/-- In a rising list a row is the one of its key. -/
theorem look_mem {G : List Row} (h : Rising G) {r : Row} (hr : r ∈ G) : look r.k G = some r := by
  induction G with
  | nil => simp at hr
  | cons y s ih =>
    obtain ⟨h1, h2⟩ := List.pairwise_cons.1 h
    unfold look
    rw [List.find?_cons]
    rcases List.mem_cons.1 hr with rfl | hr
    · simp
    · have := h1 r hr
      have hne : ¬ y.k = r.k := by omega
      simp only [hne, decide_false]
      exact ih h2 hr
theorem sorted_keys {G : List Row} (h : Rising G) {ss : List Int} (hp : ss.Perm (G.map (·.k))) : ss.mergeSort (fun x y => decide (x ≤ y)) = G.map (·.k) := by
  have h1 : (ss.mergeSort (fun x y => decide (x ≤ y))).Perm (G.map (·.k)) := (List.mergeSort_perm _ _).trans hp
  have h2 : (ss.mergeSort (fun x y => decide (x ≤ y))).Pairwise (fun a b => decide (a ≤ b) = true) := List.pairwise_mergeSort (fun a b c => by simp; omega) (fun a b => by simp; omega) ss
  refine h1.eq_of_pairwise (le := fun a b => decide (a ≤ b) = true) (fun a b _ _ h1 h2 => by simp at h1 h2; omega) h2 ?_
  exact ((rising_iff G).1 h).imp fun h => by simp; omega
end Go.Proofs.Ytdeagfjfipbniaa.F
