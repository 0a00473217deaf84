/-
  DERIVED: THE SHELF's CONTRACTS AT THIS DUMP, IN PLAIN WORDS (tools/lay-plain.mjs out of 'TryShelf.lean', which tools/lay-shelf.mjs wrote): THE SAME DECLARATIONS UNDER THE SAME NAMES: 'import', 'namespace', 'open', 'def', 'theorem' AND NOTHING ELSE: no command of the shelf's: FOR A HAND-IN. Each laying: the table of numbers ('.._ren') and one theorem, a field a fact of the dump's own or the kernel's comparison; each contract: ONE APPLICATION.
-/
import Derived.Ground.SlgmProg
import Derived.Ground.GgzProg
import Derived.Shelf.SlIterI.Nil
import Derived.Shelf.SortM.Plain
import Derived.Shelf.SortM.SortNone
import Derived.Test.YtdeagfjfipbniaaProg
namespace Go.Proofs
open Go.Shelf
def Try.keysA_ren : Go.Shelf.Ren := ⟨fun | 7 => 20 | 10 => 27 | n => n, fun | 23 => 46 | 26 => 3 | 3 => 54 | 28 => 52 | 0 => 0 | 27 => 51 | 33 => 39 | 4 => 4 | n => n, fun | n => n⟩
theorem Try.keysA : Go.Proofs.SlLaysZI.n7 Try.prog Try.keysA_ren := {
  mixed := by kernel_rfl
  f7 := ⟨Try.f20.name, by decide, Try.func20.trans (congrArg some (by kernel_rfl))⟩
  f10 := ⟨Try.f27.name, by decide, Try.func27.trans (congrArg some (by kernel_rfl))⟩
  t0 := Try.underlying0
  a0 := Try.isAgg0
  z0 := Try.sizeOf0
  v0 := Try.zeroValue0
  t4 := Try.underlying4
  a4 := Try.isAgg4
  z4 := Try.sizeOf4
  v4 := Try.zeroValue4
  t23 := Try.underlying46
  a23 := Try.isAgg46
  z23 := Try.sizeOf46
  v23 := Try.zeroValue46
  t26 := Try.underlying3
  a26 := Try.isAgg3
  z26 := Try.sizeOf3
  v26 := Try.zeroValue3
  t27 := Try.underlying51
  a27 := Try.isAgg51
  z27 := Try.sizeOf51
  v27 := Try.zeroValue51
  t28 := Try.underlying52
  a28 := Try.isAgg52
  z28 := Try.sizeOf52
  v28 := Try.zeroValue52
  t33 := Try.underlying39
  a33 := Try.isAgg39
  z33 := Try.sizeOf39
  v33 := Try.zeroValue39 }
def Try.sortedA_ren : Go.Shelf.Ren := ⟨fun | 6 => 19 | 8 => 25 | 9 => 26 | 11 => 29 | 13 => 31 | 12 => 30 | 23 => 41 | 24 => 42 | 14 => 32 | 15 => 33 | 16 => 34 | 17 => 35 | 18 => 36 | 19 => 37 | 20 => 38 | 21 => 39 | 22 => 40 | 25 => 43 | 26 => 44 | 27 => 45 | 28 => 46 | 29 => 47 | 30 => 48 | 31 => 49 | n => n, fun | 26 => 3 | 28 => 52 | 24 => 27 | 0 => 0 | 3 => 3 | 37 => 72 | 48 => 83 | 50 => 85 | 4 => 4 | 40 => 75 | 39 => 74 | 45 => 80 | 5 => 5 | 9 => 9 | 51 => 86 | 55 => 90 | 57 => 92 | 58 => 93 | 33 => 39 | n => n, fun | n => n⟩
theorem Try.sortedA : Go.Proofs.SlLaysZI.n6 Try.prog Try.sortedA_ren := {
  mixed := by kernel_rfl
  f6 := ⟨Try.f19.name, by decide, Try.func19.trans (congrArg some (by kernel_rfl))⟩
  f8 := ⟨Try.f25.name, by decide, Try.func25.trans (congrArg some (by kernel_rfl))⟩
  f11 := ⟨Try.f29.name, by decide, Try.func29.trans (congrArg some (by kernel_rfl))⟩
  t0 := Try.underlying0
  a0 := Try.isAgg0
  z0 := Try.sizeOf0
  v0 := Try.zeroValue0
  t24 := Try.underlying27
  a24 := Try.isAgg27
  z24 := Try.sizeOf27
  v24 := Try.zeroValue27
  t26 := Try.underlying3
  a26 := Try.isAgg3
  z26 := Try.sizeOf3
  v26 := Try.zeroValue3
  t28 := Try.underlying52
  a28 := Try.isAgg52
  z28 := Try.sizeOf52
  v28 := Try.zeroValue52
  i26 := by kernel_rfl }
def Try.laysSlM5_f26_ren : Go.Shelf.Ren := ⟨fun | 5 => 26 | 8 => 31 | 7 => 30 | 19 => 41 | 20 => 42 | 10 => 32 | 11 => 33 | 12 => 34 | 13 => 35 | 14 => 36 | 15 => 37 | 16 => 38 | 17 => 39 | 18 => 40 | 30 => 43 | 31 => 44 | 32 => 45 | 33 => 46 | 34 => 47 | 35 => 48 | 40 => 49 | n => n, fun | 23 => 27 | 25 => 3 | 3 => 3 | 32 => 72 | 22 => 27 | 0 => 0 | 44 => 83 | 46 => 85 | 4 => 4 | 36 => 75 | 35 => 74 | 41 => 80 | 5 => 5 | 9 => 9 | 53 => 86 | 57 => 90 | 63 => 92 | 64 => 93 | n => n, fun | n => n⟩
theorem Try.laysSlM5_f26 : Go.Proofs.SlLaysM.n5 Try.prog Try.laysSlM5_f26_ren := {
  mixed := by kernel_rfl
  f5 := ⟨Try.f26.name, by decide, Try.func26.trans (congrArg some (by kernel_rfl))⟩
  f7 := ⟨Try.f30.name, by decide, Try.func30.trans (congrArg some (by kernel_rfl))⟩
  f8 := Try.func31.trans (congrArg some (by kernel_rfl))
  f10 := ⟨Try.f32.name, by decide, Try.func32.trans (congrArg some (by kernel_rfl))⟩
  f11 := ⟨Try.f33.name, by decide, Try.func33.trans (congrArg some (by kernel_rfl))⟩
  f12 := ⟨Try.f34.name, by decide, Try.func34.trans (congrArg some (by kernel_rfl))⟩
  f13 := ⟨Try.f35.name, by decide, Try.func35.trans (congrArg some (by kernel_rfl))⟩
  f14 := ⟨Try.f36.name, by decide, Try.func36.trans (congrArg some (by kernel_rfl))⟩
  f15 := ⟨Try.f37.name, by decide, Try.func37.trans (congrArg some (by kernel_rfl))⟩
  f16 := ⟨Try.f38.name, by decide, Try.func38.trans (congrArg some (by kernel_rfl))⟩
  f17 := ⟨Try.f39.name, by decide, Try.func39.trans (congrArg some (by kernel_rfl))⟩
  f18 := ⟨Try.f40.name, by decide, Try.func40.trans (congrArg some (by kernel_rfl))⟩
  f19 := Try.func41.trans (congrArg some (by kernel_rfl))
  f20 := Try.func42.trans (congrArg some (by kernel_rfl))
  f30 := ⟨Try.f43.name, by decide, Try.func43.trans (congrArg some (by kernel_rfl))⟩
  f31 := Try.func44.trans (congrArg some (by kernel_rfl))
  f32 := Try.func45.trans (congrArg some (by kernel_rfl))
  f33 := ⟨Try.f46.name, by decide, Try.func46.trans (congrArg some (by kernel_rfl))⟩
  f34 := ⟨Try.f47.name, by decide, Try.func47.trans (congrArg some (by kernel_rfl))⟩
  f35 := ⟨Try.f48.name, by decide, Try.func48.trans (congrArg some (by kernel_rfl))⟩
  f40 := ⟨Try.f49.name, by decide, Try.func49.trans (congrArg some (by kernel_rfl))⟩
  t0 := Try.underlying0
  a0 := Try.isAgg0
  z0 := Try.sizeOf0
  v0 := Try.zeroValue0
  t3 := Try.underlying3
  a3 := Try.isAgg3
  z3 := Try.sizeOf3
  v3 := Try.zeroValue3
  t4 := Try.underlying4
  a4 := Try.isAgg4
  z4 := Try.sizeOf4
  v4 := Try.zeroValue4
  t5 := Try.underlying5
  a5 := Try.isAgg5
  z5 := Try.sizeOf5
  v5 := Try.zeroValue5
  t9 := Try.underlying9
  a9 := Try.isAgg9
  z9 := Try.sizeOf9
  v9 := Try.zeroValue9
  t22 := Try.underlying27
  a22 := Try.isAgg27
  z22 := Try.sizeOf27
  v22 := Try.zeroValue27
  t23 := Try.underlying27
  a23 := Try.isAgg27
  z23 := Try.sizeOf27
  v23 := Try.zeroValue27
  t25 := Try.underlying3
  a25 := Try.isAgg3
  z25 := Try.sizeOf3
  v25 := Try.zeroValue3
  t32 := Try.underlying72
  a32 := Try.isAgg72
  z32 := Try.sizeOf72
  v32 := Try.zeroValue72
  t35 := Try.underlying74
  a35 := Try.isAgg74
  z35 := Try.sizeOf74
  v35 := Try.zeroValue74
  t36 := Try.underlying75
  a36 := Try.isAgg75
  z36 := Try.sizeOf75
  v36 := Try.zeroValue75
  t41 := Try.underlying80
  a41 := Try.isAgg80
  z41 := Try.sizeOf80
  v41 := Try.zeroValue80
  t44 := Try.underlying83
  a44 := Try.isAgg83
  z44 := Try.sizeOf83
  v44 := Try.zeroValue83
  t46 := Try.underlying85
  a46 := Try.isAgg85
  z46 := Try.sizeOf85
  v46 := Try.zeroValue85
  t53 := Try.underlying86
  a53 := Try.isAgg86
  z53 := Try.sizeOf86
  v53 := Try.zeroValue86
  t57 := Try.underlying90
  a57 := Try.isAgg90
  z57 := Try.sizeOf90
  v57 := Try.zeroValue90
  t63 := Try.underlying92
  a63 := Try.isAgg92
  z63 := Try.sizeOf92
  v63 := Try.zeroValue92
  t64 := Try.underlying93
  a64 := Try.isAgg93
  z64 := Try.sizeOf93
  v64 := Try.zeroValue93 }
open Go.Sort Go.RowKit in
theorem Try.slices_Sort_int (blk off cap : Nat) (zs : List Int) (w : World) (hH : Holds (Value.int .i64) w blk off zs.toArray) (hblk : blk < w.heap.size) (hsz : zs.length < 4611686018427387904) :
    Calls Try.prog 26 #[.slice (some ⟨blk, off, none⟩) zs.length cap] w fun e w' =>
      e = .returned (.tuple #[]) ∧ ∃ n os, w' = grow (putRow (Value.int .i64) (Sort.ahead w n) blk off (zs.mergeSort fun x y => decide (x ≤ y)).toArray) os := AnyM.slices_Sort_int Try.laysSlM5_f26 blk off cap zs w hH hblk hsz
open Go.RowKit Go.Sort in
/-- .. and plain. (LAID AT THE INSTANCE 'slices.Sort[[]int,int]': no walk: one application.) -/
theorem Try.slices_Sort_int_none (p : Option Addr) (cap : Nat) (w : World) :
    Calls Try.prog 26 #[.slice p 0 cap] w fun e w' => e = .returned (.tuple #[]) ∧ w' = w := AnyM.slices_Sort_int_none Try.laysSlM5_f26 p cap w
end Go.Proofs
