/- The path of any text, the text of any path, whether something is one, and how much two texts have in common, is what the document's reference says: for all texts. -/
import Derived.Test.YtbnniapnbjmbhaaPAx4
import Derived.Test.YtbnniapnbjmbhaaNL
set_option linter.unusedSimpArgs false
set_option linter.unusedVariables false
namespace Go.Proofs.Ytbnniapnbjmbhaa.Pure
open Go.RowKit Go.Proofs.Ytbnniapnbjmbhaa.PA Go.Proofs.YtbnniapnbjmbhaaW.PrintWords Go.Proofs.YtbnniapnbjmbhaaW.PrintLast Go.Proofs.Ytbnniapnbjmbhaa.Y Go.Proofs.Ytbnniapnbjmbhaa.NL

theorem rvalid_loop (l : List UInt8) (hl : l.length ≤ 140737488351232) : ∀ (t : List UInt8) (i : Nat), l.drop i = t → Ev (fun k => guillocheref01_Valid.l0 k (B l) (i : Int)) (val t) := by
  intro t
  induction t with
  | nil =>
    intro i h1
    have := List.drop_eq_nil_iff.1 h1
    refine Ev.step (f := fun _ => some true) (fun k => ?_) (Ev.now _)
    simp only [guillocheref01_Valid.l0]
    rw [size_B, if_neg (by omega)]
  | cons c t ih =>
    intro i h1
    have hi : i < l.length := by
      rcases Nat.lt_or_ge i l.length with h | h
      · exact h
      · rw [List.drop_of_length_le h] at h1; cases h1
    obtain ⟨c', h3, h4⟩ := drop_cons hi
    rw [h1] at h3
    injection h3 with h3 h5
    subst h3
    have hv : val (c :: t) = (decide (c.toNat ≤ 15) && val t) := rfl
    by_cases hc : c.toNat ≤ 15
    · refine Ev.step (f := fun k => guillocheref01_Valid.l0 k (B l) ((i + 1 : Nat) : Int)) (fun k => ?_) ?_
      · simp only [guillocheref01_Valid.l0]
        rw [size_B, if_pos (by omega), if_pos (by omega), h4, if_neg (by omega), wrap_id (by omega) (by omega)]
        rfl
      · have := ih (i + 1) h5.symm
        simpa [hv, hc] using this
    · refine Ev.step (f := fun _ => some false) (fun k => ?_) (by simpa [hv, hc] using Ev.now false)
      simp only [guillocheref01_Valid.l0]
      rw [size_B, if_pos (by omega), if_pos (by omega), h4, if_pos (by omega)]
theorem rvalid_ev (l : List UInt8) (hl : l.length ≤ 140737488351232) : Ev (fun k => guillocheref01_Valid.f k (B l)) (val l) := rvalid_loop l hl l 0 rfl

theorem rpair (a b : UInt8) : strOfNums [((((a.toNat : Int) * 16) % 256) + (b.toNat : Int)) % 256] = B [a * 16 + b] := by
  rw [← str_ns]
  simp [ns]
theorem rkey_loop (l : List UInt8) (n : Nat) (hn : l.length = 2 * n) (hl : l.length ≤ 140737488351232) : ∀ (m : Nat) (d : List UInt8) (j : Nat), j + m = n → d.length = j →
    Ev (fun k => guillocheref01_Key.l0 k (B l) (B d) ((2 * j : Nat) : Int)) (B (d ++ pairs (l.drop (2 * j))), true) := by
  intro m
  induction m with
  | zero =>
    intro d j h1 h2
    refine Ev.step (f := fun _ => some (B (d ++ pairs (l.drop (2 * j))), true)) (fun k => ?_) (Ev.now _)
    simp only [guillocheref01_Key.l0]
    rw [size_B, wrap_id (by omega) (by omega), if_neg (by omega), List.drop_of_length_le (by omega)]
    simp [pairs]
  | succ m ih =>
    intro d j h1 h2
    obtain ⟨a, ha1, ha2⟩ := drop_cons (l := l) (i := 2 * j) (by omega)
    obtain ⟨b, hb1, hb2⟩ := drop_cons (l := l) (i := 2 * j + 1) (by omega)
    refine Ev.step (f := fun k => guillocheref01_Key.l0 k (B l) (B (d ++ [a * 16 + b])) ((2 * (j + 1) : Nat) : Int)) (fun k => ?_) ?_
    · simp only [guillocheref01_Key.l0]
      have e1 : wrap64 (((2 * j : Nat) : Int) + 1) = ((2 * j + 1 : Nat) : Int) := by rw [wrap_id (by omega) (by omega)]; omega
      have e2 : wrap64 (((2 * j : Nat) : Int) + 2) = ((2 * (j + 1) : Nat) : Int) := by rw [wrap_id (by omega) (by omega)]; omega
      rw [e1, e2, size_B, if_pos (by omega), if_pos (by omega), if_pos (by omega), if_pos (by omega), Option.bind_some, ha2, hb2, rpair, if_pos (by rw [size_B, size_B]; simp; omega), append_B]
    · have := ih (d ++ [a * 16 + b]) (j + 1) (by omega) (by simp; omega)
      have e : pairs (l.drop (2 * j)) = (a * 16 + b) :: pairs (l.drop (2 * (j + 1))) := by
        rw [ha1, hb1]; rfl
      rw [e]
      simpa using this
theorem rkey_ev (l : List UInt8) (hl : l.length ≤ 140737488351232) : Ev (fun k => guillocheref01_Key.f k (B l)) (key l) := by
  unfold key
  have e : ((B l).size : Int) % 2 = ((l.length % 2 : Nat) : Int) := by rw [size_B]; omega
  have jt : Ev (fun k => guillocheref01_Key.j0 k (B l) true) (B [], false) := by
    refine Ev.step (f := fun _ => some (B [], false)) (fun k => ?_) (Ev.now _)
    simp only [guillocheref01_Key.j0, if_true]
  by_cases h : l.length % 2 = 1
  · rw [if_pos h]
    refine Ev.congr (fun k => ?_) jt
    unfold guillocheref01_Key.f
    rw [e, if_pos (by omega)]
  · rw [if_neg h]
    refine Ev.congr (f := fun k => (guillocheref01_Valid.f k (B l)).bind fun t => guillocheref01_Key.j0 k (B l) (!t)) (fun k => ?_) ((rvalid_ev l hl).bind ?_)
    · unfold guillocheref01_Key.f
      rw [e, if_neg (by omega)]
    · by_cases hv : val l = true
      · rw [if_pos hv, hv]
        refine Ev.step (f := fun k => guillocheref01_Key.l0 k (B l) (B []) ((2 * 0 : Nat) : Int)) (fun k => ?_) ?_
        · simp only [guillocheref01_Key.j0, Bool.not_true, Bool.false_eq_true, if_false]; rfl
        · obtain ⟨n, hn⟩ : ∃ n, l.length = 2 * n := ⟨l.length / 2, by omega⟩
          simpa using rkey_loop l n hn hl n [] 0 (by omega) rfl
      · rw [if_neg hv, Bool.eq_false_iff.2 hv]
        exact jt
theorem rbyte (c : UInt8) : strOfNums [Int.tdiv (c.toNat : Int) 16 % 256, Int.tmod (c.toNat : Int) 16] = B [c / 16, c % 16] := by
  rw [← str_ns]
  congr 1
  have h := c.toNat_lt
  have e : Int.tmod (c.toNat : Int) 16 = (c.toNat : Int) % 16 := Int.tmod_eq_emod_of_nonneg (by omega)
  simp [ns, e]
  omega
theorem rpath_loop (l : List UInt8) (hl : l.length ≤ 140737488351232) : ∀ (t p : List UInt8) (i : Nat), l.drop i = t → p.length = 2 * i → Ev (fun k => guillocheref01_Path.l0 k (B l) (B p) (i : Int)) (B (p ++ path t)) := by
  intro t
  induction t with
  | nil =>
    intro p i h1 h2
    have := List.drop_eq_nil_iff.1 h1
    refine Ev.step (f := fun _ => some (B (p ++ path []))) (fun k => ?_) (Ev.now _)
    simp only [guillocheref01_Path.l0]
    rw [size_B, if_neg (by omega)]
    simp [path]
  | cons c t ih =>
    intro p i h1 h2
    have hi : i < l.length := by
      rcases Nat.lt_or_ge i l.length with h | h
      · exact h
      · rw [List.drop_of_length_le h] at h1; cases h1
    obtain ⟨c', h3, h4⟩ := drop_cons hi
    rw [h1] at h3
    injection h3 with h3 h5
    subst h3
    refine Ev.step (f := fun k => guillocheref01_Path.l0 k (B l) (B (p ++ [c / 16, c % 16])) ((i + 1 : Nat) : Int)) (fun k => ?_) ?_
    · simp only [guillocheref01_Path.l0]
      rw [size_B, if_pos (by omega), if_pos (by omega), Option.bind_some, h4, rbyte, if_pos (by rw [size_B, size_B]; simp; omega), wrap_id (by omega) (by omega), append_B]
      rfl
    · have := ih (p ++ [c / 16, c % 16]) (i + 1) h5.symm (by simp; omega)
      simpa [path] using this
theorem rpath_ev (l : List UInt8) (hl : l.length ≤ 140737488351232) : Ev (fun k => guillocheref01_Path.f k (B l)) (B (path l)) := by
  have := rpath_loop l hl l [] 0 rfl rfl
  exact this
theorem rcom_ev (l : List UInt8) : ∀ (m : List UInt8), l.length ≤ 140737488351232 → Ev (fun k => guillocheref01_Common.f k (B l) (B m)) ((com l m : Nat) : Int) := by
  induction l with
  | nil =>
    intro m hl
    refine Ev.step (f := fun _ => some _) (fun k => ?_) (Ev.now _)
    simp only [guillocheref01_Common.f, toList_B, if_true]
    simp [com]
  | cons a s ih =>
    intro m hl
    cases m with
    | nil =>
      refine Ev.step (f := fun _ => some _) (fun k => ?_) (Ev.now _)
      simp only [guillocheref01_Common.f, toList_B, if_true]
      simp [com]
    | cons b t =>
      have z1 : bt (B (a :: s)) 0 = (a.toNat : Int) := bt_B (a :: s) 0 (by simp)
      have z2 : bt (B (b :: t)) 0 = (b.toNat : Int) := bt_B (b :: t) 0 (by simp)
      simp only [List.length_cons] at hl
      by_cases hab : a = b
      · refine Ev.step (f := fun k => (guillocheref01_Common.f k (B s) (B t)).bind fun x => some (wrap64 (1 + x))) (fun k => ?_) ?_
        · simp only [guillocheref01_Common.f, toList_B, extract_B, size_B, List.length_cons, z1, z2]
          rw [if_neg (by simp), if_neg (by simp), if_pos (by omega), if_pos (by omega), if_pos (by rw [hab]), if_pos (by omega), if_pos (by omega)]
          simp
        · refine (ih t (by omega)).bind ?_
          have hle := com_le s t
          rw [wrap_id (by omega) (by omega)]
          simp only [com, hab, if_true]
          rw [show (1 : Int) + (com s t : Nat) = ((com s t + 1 : Nat) : Int) by omega]
          exact Ev.now _
      · refine Ev.step (f := fun _ => some _) (fun k => ?_) (Ev.now _)
        have : ¬ (a.toNat : Int) = (b.toNat : Int) := by
          intro h; exact hab (UInt8.toNat_inj.1 (by omega))
        simp only [guillocheref01_Common.f, toList_B, z1, z2, this, size_B, com, hab]
        simp

theorem NibbleIs : guillochelaw01_NibbleIs.Pure := by
  intro a0 a1 h0 h1
  obtain ⟨l, rfl⟩ := isB a0
  obtain ⟨m, rfl⟩ := isB a1
  rw [size_B] at h0 h1
  apply Ev.rounds
  refine Ev.congr (fun k => by unfold guillochelaw01_NibbleIs.f; rfl) (works_ev.bind ?_)
  simp only [if_true, size_B]
  have hj : Ev (fun k => guillochelaw01_NibbleIs.j0 k (B l) (B m) true true) true := by
    refine Ev.step (f := fun _ => some true) (fun k => ?_) (Ev.now _)
    simp only [guillochelaw01_NibbleIs.j0, if_true]
  by_cases hs : (l.length : Int) > 200
  · simp only [hs, if_true]; exact hj
  · simp only [hs, if_false]
    by_cases hs1 : (m.length : Int) > 200
    · simp only [hs1, decide_true]; exact hj
    · simp only [hs1, decide_false]
      refine Ev.step (fun k => by simp only [guillochelaw01_NibbleIs.j0]; rfl) ?_
      simp only [Bool.false_eq_true, if_false, if_true]
      refine (key_ev m (by omega)).bind ((rkey_ev m (by omega)).bind ((path_ev l (by omega)).bind ((rpath_ev l (by omega)).bind ?_)))
      simp only [if_true, beq_self_eq_true, valid_f, Option.bind_some]
      refine (rvalid_ev m (by omega)).bind ?_
      simp only [if_true, beq_self_eq_true]
      refine (com_ev l m (by omega) (by omega)).bind ((rcom_ev l m (by omega)).bind ?_)
      rw [beq_self_eq_true]
      exact Ev.now _
end Go.Proofs.Ytbnniapnbjmbhaa.Pure
