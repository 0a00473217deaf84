/- The contract of guillochelaw02.works. (Printed by mkL13.py.) -/
import Derived.Test.YtibhhikaecpgiaaDoorL12
import Derived.Test.YtibhhikaecpgiaaDoorL6
set_option linter.unusedSimpArgs false
set_option linter.unusedVariables false
namespace Go.Proofs.YtibhhikaecpgiaaDoor.R
open Go.RowKit Go.Proofs.YtibhhikaecpgiaaDoorW.PrintWords Go.Proofs.YtibhhikaecpgiaaDoorW.PrintLast Go.Proofs.YtibhhikaecpgiaaDoorW.PrintMore

theorem strs_reads {W : World} {e : TypeId} {b : Nat} {A : Array Value} (xs : List L) (h : W.heap[b]? = some (Obj.cells A e (0, 0))) (hA : A.toList = strs xs) (hl : xs.length ≤ 1000000000) : ReadsOf Value.string ByteArray.empty W (some ⟨b, 0, none⟩) xs.length (xs.map B) := by
  refine ⟨by simp, by omega, fun _ => ⟨_, rfl, fun j hj => ?_⟩⟩
  rw [add_at, Nat.zero_add, blk_cell h j, ← Array.getElem?_toList, hA, strs, List.getElem?_map, List.getElem?_eq_getElem hj, List.getD_eq_getElem?_getD, List.getElem?_map, List.getElem?_eq_getElem hj]
  rfl
theorem listn_calls (W : World) (xs : List L) (A : Array Value) (n : Nat) (hn : xs.length = n) (hA : A.toList = strs xs) (hlen : xs.flatten.length ≤ 1000000000) (hl : xs.length ≤ 1000000000) :
    Calls Tryd.prog 12 #[.slice (some ⟨W.heap.size, 0, none⟩) n n] (W.alloc (.cells A 9)) fun e w' => e = .returned (.string (B (listL xs.flatten))) ∧ Below W.heap.size W w' := by
  subst hn
  have hB : Below W.heap.size W (W.alloc (.cells A 9)) := below_alloc (Below.refl _ _) _
  exact (list_calls _ xs _ xs.length (.inr ⟨_, _, rfl⟩) (strs_reads xs (World.alloc_heap_new W _) hA hl) (Nat.le_refl _) hlen hl).mono fun e w' h => ⟨h.1, hB.trans (h.2.mono hB.size)⟩
theorem list0_calls (W : World) : Calls Tryd.prog 12 #[.slice none 0 0] W fun e w' => e = .returned (.string (B (listL []))) ∧ Below W.heap.size W w' :=
  list_calls W [] none 0 (.inl rfl) ⟨rfl, Nat.zero_le _, fun h => absurd h (by decide)⟩ (Nat.le_refl _) (by decide) (by decide)
theorem convn (W : World) (l : List Int) (n : Nat) (hn : l.length = n) (hl : n ≤ 100) (s : ByteArray) (hs : strOfNums l = s) : (convert 41 9 (.slice (some ⟨W.heap.size, 0, none⟩) n n)).run Tryd.prog (W.alloc (.cells (nums .u8 l).toArray 5)) = .ok (.string s) (W.alloc (.cells (nums .u8 l).toArray 5)) := by
  subst hn hs
  exact own_string Tryd.underlying41 Tryd.underlying5 Tryd.underlying9 (own_lit W W.heap.size 5 .u8 l (Nat.le_refl _) (by omega))
theorem items_ab (w : World) : Calls Tryd.prog 9 #[.string ⟨#[97, 192]⟩] w fun e w' => (∃ A c, e = .returned (.tuple #[.slice A 2 c, .int .i64 0])) ∧ Below w.heap.size w w' :=
  (callsIn_wide.1 (Items_in w [97, 192] (by decide))).mono fun e w' h => by
    obtain ⟨h1 | h1, hb⟩ := h
    · obtain ⟨xs, A, c, hxs, he, _⟩ := h1
      obtain rfl : xs = [[97], [192]] := Option.some.inj (hxs.symm.trans (by decide))
      exact ⟨⟨A, c, he⟩, hb⟩
    · exact absurd h1.1 (by decide)
theorem wkDog (W : World) : Calls Tryd.prog 11 #[.string ⟨#[100, 111, 103]⟩] W (fun e w' => e = .returned (.string ⟨#[131, 100, 111, 103]⟩) ∧ Below W.heap.size W w') := text_calls W [100, 111, 103] (by decide)
theorem wkA (W : World) : Calls Tryd.prog 11 #[.string ⟨#[97]⟩] W (fun e w' => e = .returned (.string ⟨#[97]⟩) ∧ Below W.heap.size W w') := text_calls W [97] (by decide)
theorem wkS1 (W : World) : Calls Tryd.prog 13 #[.string ⟨#[131, 100, 111, 103, 122]⟩] W (fun e w' => e = .returned (.tuple #[.bool false, .string ⟨#[100, 111, 103]⟩, .string ⟨#[122]⟩, .int .i64 0]) ∧ Below W.heap.size W w') := Split_calls W [131, 100, 111, 103, 122] (by decide)
theorem wkL0 (W : World) : Calls Tryd.prog 12 #[.slice none 0 0] W (fun e w' => e = .returned (.string ⟨#[192]⟩) ∧ Below W.heap.size W w') := list0_calls W
theorem wkL2 (W : World) : Calls Tryd.prog 12 #[.slice (some ⟨W.heap.size, 0, none⟩) 2 2] (W.alloc (.cells #[.string ⟨#[97]⟩, .string ⟨#[192]⟩] 9)) (fun e w' => e = .returned (.string ⟨#[194, 97, 192]⟩) ∧ Below W.heap.size W w') := listn_calls W [[97], [192]] #[.string ⟨#[97]⟩, .string ⟨#[192]⟩] 2 rfl rfl (by decide) (by decide)
theorem wkL1 (W : World) : Calls Tryd.prog 12 #[.slice (some ⟨W.heap.size, 0, none⟩) 1 1] (W.alloc (.cells #[.string ⟨#[192]⟩] 9)) (fun e w' => e = .returned (.string ⟨#[193, 192]⟩) ∧ Below W.heap.size W w') := listn_calls W [[192]] #[.string ⟨#[192]⟩] 1 rfl rfl (by decide) (by decide)
theorem wkS2 (W : World) : Calls Tryd.prog 13 #[.string ⟨#[194, 97, 192]⟩] W (fun e w' => e = .returned (.tuple #[.bool true, .string ⟨#[97, 192]⟩, .string ⟨#[]⟩, .int .i64 0]) ∧ Below W.heap.size W w') := Split_calls W [194, 97, 192] (by decide)
theorem wkN (W : World) : Calls Tryd.prog 8 #[.int .u64 1024] W (fun e w' => e = .returned (.string ⟨#[130, 4, 0]⟩) ∧ Below W.heap.size W w') := num_calls W 1024 (by decide)
theorem wkG (W : World) : Calls Tryd.prog 7 #[.string ⟨#[130, 4, 0]⟩] W (fun e w' => e = .returned (.tuple #[.int .u64 1024, .int .i64 0]) ∧ Below W.heap.size W w') := GetNum_calls W [130, 4, 0] (by decide)
theorem wkS3 (W : World) : Calls Tryd.prog 13 #[.string ⟨#[129, 5]⟩] W (fun e w' => e = .returned (.tuple #[.bool false, .string ⟨#[]⟩, .string ⟨#[]⟩, .int .i64 2]) ∧ Below W.heap.size W w') := Split_calls W [129, 5] (by decide)
theorem wkC1 (W : World) : Calls Tryd.prog 14 #[.string ⟨#[193, 192]⟩] W (fun e w' => e = .returned (.int .i64 0) ∧ Below W.heap.size W w') := Check_calls W [193, 192] (by decide)
theorem wkC2 (W : World) : Calls Tryd.prog 14 #[.string ⟨#[]⟩] W (fun e w' => e = .returned (.int .i64 2) ∧ Below W.heap.size W w') := Check_calls W [] (by decide)
end Go.Proofs.YtibhhikaecpgiaaDoor.R
