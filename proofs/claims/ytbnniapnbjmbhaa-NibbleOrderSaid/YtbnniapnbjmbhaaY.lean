/- Small facts on bytes: strings as lists of bytes, in the print's own words. -/
import Derived.Test.YtbnniapnbjmbhaaWWords
import Derived.Test.YtbnniapnbjmbhaaWLast
import Derived.Laws.Strings
import Derived.Lib.IndexBytes
import Derived.Lib.SmallJoins
set_option linter.unusedSimpArgs false
set_option linter.unusedVariables false
namespace Go.Proofs.Ytbnniapnbjmbhaa.Y
open Go.RowKit Go.Proofs.YtbnniapnbjmbhaaW.PrintWords Go.Proofs.YtbnniapnbjmbhaaW.PrintLast

abbrev B (l : List UInt8) : ByteArray := ⟨l.toArray⟩
def ns (l : List UInt8) : List Int := l.map fun c => (c.toNat : Int)
theorem ns_nil : ns [] = [] := rfl
theorem ns_cons (c : UInt8) (l : List UInt8) : ns (c :: l) = (c.toNat : Int) :: ns l := rfl
theorem ns_append (l m : List UInt8) : ns (l ++ m) = ns l ++ ns m := by simp [ns]
theorem ns_length (l : List UInt8) : (ns l).length = l.length := by simp [ns]
theorem B_data (s : ByteArray) : B s.data.toList = s := by cases s; simp [B]
theorem size_B (l : List UInt8) : (B l).size = l.length := by simp [B, ByteArray.size]
theorem data_B (l : List UInt8) : (B l).data.toList = l := by simp [B]
theorem toList_B (l : List UInt8) : (B l).toList = l := by rw [ByteArray.toList_eq, data_B]
theorem isB (s : ByteArray) : ∃ l, s = B l := ⟨s.data.toList, (B_data s).symm⟩
theorem B_inj {l m : List UInt8} (h : B l = B m) : l = m := by rw [← data_B l, h, data_B]
theorem append_B (l m : List UInt8) : B l ++ B m = B (l ++ m) := by
  rw [← B_data (B l ++ B m), Go.Joins.data_append, data_B, data_B]
theorem extract_B (l : List UInt8) (i j : Nat) : (B l).extract i j = B ((l.take j).drop i) := by
  rw [← B_data ((B l).extract i j)]
  congr 2
  simp [B, ByteArray.extract, ByteArray.copySlice, List.extract_eq_drop_take']
theorem str_ns (l : List UInt8) : strOfNums (ns l) = B l := by
  unfold strOfNums ns B
  rw [List.map_map]
  congr 2
  conv => rhs; rw [← List.map_id l]
  apply List.map_congr_left
  intro c _
  simp
theorem bt_B (l : List UInt8) (i : Nat) (h : i < l.length) : bt (B l) (i : Int) = ((l[i]'h).toNat : Int) := by
  unfold bt
  rw [dif_pos (by rw [size_B]; simpa using h)]
  simp [B, ByteArray.getElem_eq_getElem_data]
theorem drop_cons {l : List UInt8} {i : Nat} (h : i < l.length) : ∃ c, l.drop i = c :: l.drop (i + 1) ∧ bt (B l) (i : Int) = (c.toNat : Int) :=
  ⟨l[i], by rw [List.drop_eq_getElem_cons h], bt_B l i h⟩
theorem lt256 (c : UInt8) : c.toNat < 256 := c.toNat_lt
theorem wrap_id {n : Int} (h0 : -9223372036854775808 ≤ n) (h1 : n ≤ 9223372036854775807) : wrap64 n = n := by unfold wrap64; omega
end Go.Proofs.Ytbnniapnbjmbhaa.Y
