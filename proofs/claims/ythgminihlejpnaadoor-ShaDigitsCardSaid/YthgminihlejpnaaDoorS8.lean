/- The hash of some parts: the contract of sha.Of. -/
import Derived.Test.YthgminihlejpnaaDoorS7
set_option linter.unusedSimpArgs false
set_option linter.unusedVariables false
namespace Go.Proofs.YthgminihlejpnaaDoor.S
open Go.RowKit Go.Proofs.YthgminihlejpnaaDoorW.PrintWords Go.Proofs.YthgminihlejpnaaDoorW.PrintLast Go.Proofs.YthgminihlejpnaaDoorW.PrintMore

/-- What a hash holds that has been told some parts. -/
structure Told where
  h : List Int
  rest : List UInt8
  n : Int
def Told.tell (t : Told) (s : ByteArray) : Told :=
  ⟨(absorb (t.rest.length + s.size) t.h (t.rest ++ s.data.toList)).1, (absorb (t.rest.length + s.size) t.h (t.rest ++ s.data.toList)).2, (t.n + s.size) % 18446744073709551616⟩
def Told.new : Told := ⟨begin_, [], 0⟩
def Told.sum (t : Told) : ByteArray := sumS t.h t.rest t.n
structure Told.Ok (t : Told) : Prop where
  len : t.h.length = 8
  rest : t.rest.length < 64
  n0 : 0 ≤ t.n
  n1 : t.n < 18446744073709551616
theorem absorb_rest (k : Nat) (h : List Int) (l : List UInt8) (hk : l.length ≤ k) : (absorb k h l).2.length < 64 := by
  induction k generalizing h l with
  | zero => simp only [absorb]; omega
  | succ k ih =>
    unfold absorb
    split
    · assumption
    · exact ih _ _ (by rw [List.length_drop]; omega)
theorem Told.Ok.new : Told.new.Ok := ⟨rfl, by decide, by decide, by decide⟩
theorem Told.Ok.tell {t : Told} (h : t.Ok) (s : ByteArray) : (t.tell s).Ok := by
  refine ⟨absorb_length _ _ h.len _, absorb_rest _ _ _ ?_, ?_, ?_⟩
  · rw [List.length_append, Array.length_toList]; exact Nat.le_refl _
  · exact Int.emod_nonneg _ (by decide)
  · exact Int.emod_lt_of_pos _ (by decide)
def tellTo (parts : List ByteArray) : Nat → Told
  | 0 => Told.new
  | i + 1 => (tellTo parts i).tell (rdOf ByteArray.empty parts i)
theorem tellTo_ok (parts : List ByteArray) (i : Nat) : (tellTo parts i).Ok := by
  induction i with
  | zero => exact Told.Ok.new
  | succ i ih => exact ih.tell _
def ofS (parts : List ByteArray) : ByteArray := (tellTo parts parts.length).sum
/-- A hash that has been told t. -/
def Has (W : World) (base g : Nat) (t : Told) (v : Value) : Prop := HashAt W base g t.h v t.rest t.n

theorem write_has {w : World} {base g : Nat} {t : Told} {v : Value} (s : ByteArray) (ho : t.Ok) (H : Has w base g t v) (hG : Glob w) (hbase : gtop ≤ base) (hs : s.size ≤ 1000000000) :
    Calls Tryd.prog 12 #[.pointer (some ⟨g, 0, none⟩), .string s] w fun e w' => e = .returned (.pointer (some ⟨g, 0, none⟩)) ∧ ∃ v', Has w' base g (t.tell s) v' ∧ Turns w w' g v v' :=
  write_calls w w base g t.h v t.rest t.n s H hG hbase ho.n0 ho.n1 (by have := ho.rest; omega)
theorem sum_has {w : World} {base g : Nat} {t : Told} {v : Value} (ho : t.Ok) (H : Has w base g t v) (hG : Glob w) (hbase : gtop ≤ base) :
    Calls Tryd.prog 13 #[.pointer (some ⟨g, 0, none⟩)] w fun e w' => e = .returned (.string t.sum) ∧ Below w.heap.size w w' :=
  sum_calls w base g t.h v t.rest t.n H hG hbase (by have := ho.rest; omega)
theorem new_has (w : World) (hG : Glob w) (base : Nat) (hb : base ≤ w.heap.size) :
    Calls Tryd.prog 11 #[] w fun e w' => e = .returned (.pointer (some ⟨w.heap.size, 0, none⟩)) ∧ ∃ v, Has w' base w.heap.size Told.new v ∧ Below w.heap.size w w' ∧ v.ownBlock = none :=
  (new_calls w hG).mono fun e w' h => ⟨h.1, .slice none 0 0, by rw [h.2]; exact HashAt.new hb, by rw [h.2]; exact below_alloc (Below.refl _ _) _, rfl⟩

set_option maxRecDepth 100000 in
theorem of_calls (w : World) (A : Option Addr) (c : Nat) (parts : List ByteArray) (hR : ReadsOf Value.string ByteArray.empty w A parts.length parts) (hG : Glob w) (hbase : gtop ≤ w.heap.size) (hs : ∀ i : Nat, (rdOf ByteArray.empty parts (i : Int)).size ≤ 1000000000) :
    Calls Tryd.prog 9 #[.slice A parts.length c] w fun e w' => e = .returned (.string (ofS parts)) ∧ Below w.heap.size w w' := by
  have hNW := new_has w hG w.heap.size (Nat.le_refl _)
  have HR := Aside0.mk hR
  have hmax := hR.2.1
  have HNW := Aside0.mk hNW
  generalize hF : ofS parts = F
  have HF := Aside0.mk hF
  have HS := Aside0.mk hs
  clear hNW hR hF hs
  go_enter Tryd.func9, Tryd.ntmps9
  go_wp2_with (go_at_call 11; refine (HNW.out).mono ?_; rintro e w1 ⟨rfl, v1, hE1, hB1, _⟩; have E1 := Aside0.mk hE1; have B1 := Aside0.mk hB1; clear hE1 hB1 HNW)
  go_loopg [9] parts.length (fun gf s9 wx => ∃ (i : Nat) (v : Value), s9 = .int .i64 i ∧ i + gf = parts.length ∧ Aside0 (Has wx w.heap.size w.heap.size (tellTo parts i) v) ∧ Aside0 (Below w.heap.size w wx))
  case atStart => exact ⟨0, v1, rfl, by omega, E1, B1⟩
  case round =>
    clear E1 B1
    obtain ⟨i, v, rfl, hg, E1, B1⟩ := hrel
    have hGr : Glob wr := hG.below B1.out
    by_cases hi : i < parts.length
    · have hii : (i : Int) < (parts.length : Int) := by omega
      obtain ⟨ad, rfl, hcell⟩ := (HR.out.below B1.out).at_ (i : Int) (by omega) hii
      rw [Int.toNat_natCast] at hcell
      have hWR := write_has (rdOf ByteArray.empty parts (i : Int)) (tellTo_ok parts i) E1.out hGr hbase (HS.out i)
      have HT : Aside0 ((tellTo parts i).tell (rdOf ByteArray.empty parts (i : Int)) = tellTo parts (i + 1)) := ⟨rfl⟩
      generalize rdOf ByteArray.empty parts (i : Int) = s at hcell hWR HT
      have HWR := Aside0.mk hWR
      clear hWR hGr
      go_wp2_with (go_at_call 12; refine (HWR.out).mono ?_; rintro e w2 ⟨rfl, v2, hE2, hT2⟩; rw [HT.out] at hE2; have E2 := Aside0.mk hE2; have B2 := Aside0.mk (hT2.below E1.out B1.out); clear hE2 hT2 HWR hcell)
      go_roundg (gk - 1)
      case measure => omega
      case rel => exact ⟨i + 1, v2, by go_num, by omega, E2, B2⟩
    · have hin : i = parts.length := by omega
      have hii : ¬ (i : Int) < (parts.length : Int) := by omega
      have hSM := sum_has (tellTo_ok parts i) E1.out hGr hbase
      have HI : (tellTo parts i).sum = F := by rw [hin]; exact HF.out
      rw [HI] at hSM
      clear HI
      have HSM := Aside0.mk hSM
      clear hSM hGr hin
      go_wp2_with (go_at_call 13; refine (HSM.out).mono ?_; rintro e w2 ⟨rfl, hB2⟩; have B2 := Aside0.mk (B1.out.trans (hB2.mono B1.out.size)); clear hB2 HSM)
      go_ret
      exact ⟨rfl, B2.out⟩
end Go.Proofs.YthgminihlejpnaaDoor.S
