/- A new hash: the contract of sha.New. -/
import Derived.Test.YthgminihlejpnaaDoorS5
set_option linter.unusedSimpArgs false
set_option linter.unusedVariables false
namespace Go.Proofs.YthgminihlejpnaaDoor.S
open Go.RowKit Go.Proofs.YthgminihlejpnaaDoorW.PrintWords Go.Proofs.YthgminihlejpnaaDoorW.PrintLast Go.Proofs.YthgminihlejpnaaDoorW.PrintMore

set_option maxRecDepth 100000 in
theorem new_calls (w : World) (hG : Glob w) :
    Calls Tryd.prog 11 #[] w fun e w' => e = .returned (.pointer (some ⟨w.heap.size, 0, none⟩)) ∧ w' = w.alloc (.cells (u32s begin_ ++ [Value.slice none 0 0, Value.int .u64 0]).toArray 45) := by
  have c0 : w.cell? ⟨0, 0, none⟩ = some (.int .u32 1779033703) := hG.begin_ 0 (by omega)
  have c1 : w.cell? ⟨0, 1, none⟩ = some (.int .u32 3144134277) := hG.begin_ 1 (by omega)
  have c2 : w.cell? ⟨0, 2, none⟩ = some (.int .u32 1013904242) := hG.begin_ 2 (by omega)
  have c3 : w.cell? ⟨0, 3, none⟩ = some (.int .u32 2773480762) := hG.begin_ 3 (by omega)
  have c4 : w.cell? ⟨0, 4, none⟩ = some (.int .u32 1359893119) := hG.begin_ 4 (by omega)
  have c5 : w.cell? ⟨0, 5, none⟩ = some (.int .u32 2600822924) := hG.begin_ 5 (by omega)
  have c6 : w.cell? ⟨0, 6, none⟩ = some (.int .u32 528734635) := hG.begin_ 6 (by omega)
  have c7 : w.cell? ⟨0, 7, none⟩ = some (.int .u32 1541459225) := hG.begin_ 7 (by omega)
  go_enter Tryd.func11, Tryd.ntmps11
  go_wp2
  go_ret
  exact ⟨rfl, rfl⟩
theorem HashAt.new {w : World} {base : Nat} (hb : base ≤ w.heap.size) : HashAt (w.alloc (.cells (u32s begin_ ++ [Value.slice none 0 0, Value.int .u64 0]).toArray 45)) base w.heap.size begin_ (.slice none 0 0) [] 0 :=
  ⟨rfl, blk_new _ _, ⟨rfl, .inl ⟨rfl, none, rfl, fun a ha => by cases ha⟩⟩, hb⟩
end Go.Proofs.YthgminihlejpnaaDoor.S
