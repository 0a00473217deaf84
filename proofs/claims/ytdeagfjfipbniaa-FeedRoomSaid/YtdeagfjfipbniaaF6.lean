/- The sessions that there are, by rising numbers. -/
import Derived.Test.YtdeagfjfipbniaaF5
import Derived.Test.YtdeagfjfipbniaaShelf
import Derived.Shelf.AbstractIn
import Derived.RangeFuncNested
import Derived.RangeFuncBound
import Derived.RangeFuncCalls
import Derived.RangeFuncLeaves
import Derived.Shelf.Abstract
import Derived.Shelf.RegionOpen
import Derived.OwnWalkIn
import Derived.TacticsInMore
import Derived.LoopNIn
import Derived.LoopIn
set_option linter.unusedSimpArgs false
set_option linter.unusedVariables false
namespace Go.Proofs.Ytdeagfjfipbniaa.F
open Go.RowKit Go.Maps Go.Sort Go.Shelf Go.Proofs.YtdeagfjfipbniaaW.PrintWords Go.Proofs.YtdeagfjfipbniaaW.PrintLast Go.Proofs.YtdeagfjfipbniaaW.PrintMore
attribute [local go_sem] Oper.semAt_some

theorem sortsA (m : Nat) : AnyZI.SortsIn Try.prog Try.sortedA_ren Fence.wide m :=
  ⟨fun blk off cap ss W hH hblk hsz => callsIn_wide.2 (AnyM.slices_Sort_int Try.laysSlM5_f26 blk off cap ss W hH hblk hsz),
   fun p cap W => callsIn_wide.2 (AnyM.slices_Sort_int_none Try.laysSlM5_f26 p cap W)⟩
def keyCells (G : List Row) : List Value := G.map fun r => .int .i64 r.k
theorem keys_in (m mb : Nat) (W : World) : CallsIn Fence.wide m Try.prog 20 #[.map (some mb)] W fun e w' =>
    e = .returned (.func (.func 27) #[] #[.pointer (some ⟨W.heap.size, 0, none⟩)]) ∧ w' = W.alloc (.cells #[.map (some mb)] 46) :=
  AnyZI.keys_in Try.keysA Fence.wide m trivial rfl (some mb) W
theorem sorted_in (m : Nat) (hm : 4 ≤ m) (base p mb n : Nat) (W : World) (room : Int) (G : List Row) (h : FeedAt base W p room mb n G) (hn : n ≤ 1000000) :
    CallsIn Fence.wide m Try.prog 19 #[.func (.func 27) #[] #[.pointer (some ⟨W.heap.size, 0, none⟩)]] (W.alloc (.cells #[.map (some mb)] 46)) fun e w' =>
      ∃ v, e = .returned v ∧ w'.ownsRow (W.heap.size + 1) 3 1 v G.length (keyCells G) ∧ Below (W.heap.size + 1) (W.alloc (.cells #[.map (some mb)] 46)) w' := by
  have hown := h.map
  have hbl := hown.lt
  have hsz := hown.size_le
  rw [datum_size] at hsz
  have hseq : SeqGives Fence.wide (m - 1 - 1 - 1) Try.prog 27 #[.pointer (some ⟨W.heap.size, 0, none⟩)] encZ (fun ss => ss.Perm (intKeys (datum G))) (Maps.size (datum G)) (W.alloc (.cells #[.map (some mb)] 46)) :=
    AnyZI.keys_gives (ρ := Try.keysA_ren) { Try.keysA with } Fence.wide _ trivial rfl (by omega) W.heap.size mb n (datum G) _ (by simp) (by simp) (map_move hown (Below.heap_alloc _ _ mb hbl))
  have cS := AnyZI.sorted_in Try.sortedA Fence.wide m trivial trivial trivial trivial rfl hm (sortsA _) (enters_of Try.func26 (by kernel_rfl) rfl) 27 #[.pointer (some ⟨W.heap.size, 0, none⟩)] trivial (enters_of Try.func27 (by kernel_rfl) rfl) _ (Maps.size (datum G)) (by rw [datum_size]; simp only [maxLen]; omega) (by rw [datum_size]; omega) _ hseq
  change CallsIn _ _ Try.prog 19 _ _ _ at cS
  refine cS.mono ?_
  rintro e w' ⟨v, ss, rfl, hS, hrow, hnil, hb⟩
  rw [datum_keys] at hS
  have hl : ss.length = G.length := by rw [hS.length_eq, List.length_map]
  rw [sorted_keys h.rising hS, hl, List.map_map, World.size_alloc] at hrow
  rw [World.size_alloc] at hb
  exact ⟨v, rfl, hrow, hb⟩
set_option maxRecDepth 100000 in
theorem sessions_calls (base p mb n : Nat) (w : World) (room : Int) (G : List Row) (h : FeedAt base w p room mb n G) (hn : n ≤ 1000000) :
    Calls Try.prog 10 #[.pointer (some ⟨p, 0, none⟩)] w fun e w' => ∃ v, e = .returned v ∧ w'.ownsRow w.heap.size 3 1 v G.length (keyCells G) ∧ Below w.heap.size w w' := by
  refine (callsIn_wide (n := 6)).1 ?_
  have cK := keys_in 5 mb w
  have cS := sorted_in 5 (by omega) base p mb n w room G h hn
  have c1 : w.cell? ⟨p, 1, none⟩ = some (.map (some mb)) := blk_cell h.feed 1
  have hfK : Fence.wide.fn 20 := trivial
  have hfS : Fence.wide.fn 19 := trivial
  refine callsIn_of_wp Try.func10 rfl trivial ?_ rfl
  simp only [Try.ntmps10, List.size_toArray, List.length_cons, List.length_nil, Nat.reduceAdd, Nat.reduceSub, Array.replicate_succ, Array.replicate_zero, List.push_toArray, List.append_toArray, List.nil_append, List.cons_append]
  gi_wp2_with (first
    | (gi_at_call 20; refine cK.mono ?_; rintro e w' ⟨rfl, rfl⟩)
    | (gi_at_call 19; refine cS.mono ?_; rintro e w' ⟨v, rfl, hrow, hb⟩))
  go_ret
  exact ⟨v, rfl, own_weaken hrow (by omega), ((Below.refl _ w).alloc (Nat.le_refl _) _).trans (hb.mono (by omega))⟩
end Go.Proofs.Ytdeagfjfipbniaa.F
