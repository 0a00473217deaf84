/-
  No cell of these rows narrows 'for every input' (looked for: loops, veiled, ifaces, maps, wideKeys, modest, calm, conditions, laid).
  DERIVED. THE GIVEN ROWS OF THIS SEAT. 3 by the template 'for every input the law returns true; each argument reads behind the call as it read before'; 0 by the template 'total and deterministic' (their statements: YtdeagfjfipbniaaTotals.lean).
  GIVEN WITH THE SEED: the statements are not yours to turn. If you find one false, say at which input.
  Laid BY PROGRAM, IN A SANDBOX (cutbox-rows.mjs): the forced cells as the released guide's own fill.sh prints them over the translation 0f063331d6354729… (all of the seat's roots in one cut). By AI agents, Wed Nov 11 2026. No macro, syntax, notation, axiom, sorry.
-/
import Derived.Test.YtdeagfjfipbniaaChecked
import GoSem.Claim
import GoSem.ClaimJoined
import GoSem.ClaimMapViews
import Derived.JoinedTies
import Derived.KernelRfl
namespace Go.Proofs.Ytdeagfjfipbniaa
/- THE CELL 'sum', in the pinned program and in every row, IS THE sha256 OF THE DUMP (.gsa) THAT YtdeagfjfipbniaaProg.lean LOADS. Nothing in Lean hashes anything: it is a label: what it is worth is what the hold of that sum in a sandbox is worth. -/
noncomputable def Try.pinned : Pinned := { name := "ytdeagfjfipbniaa", sum := "0f063331d6354729e468313127f5635a26da74aeb43ca7e0f1a0339805a323f4", checked := Try.checked }
namespace Rows
def none {H : Type} : Left H := { results := [], args := [] }

/-- 'guillochelaw18.FeedRoom': WHATEVER THE INPUT: true; the input reads as it did. -/
def feedRoomSpec : ChangeSpec := { name := "feedRoom", fn := fun _ => fun
  | [d1, d2] => { results := [.lit (.bool true)], args := [d1, d2] }
  | _ => none }
def feedRoomRow : OpenClaim := { program := "ytdeagfjfipbniaa", sum := "0f063331d6354729e468313127f5635a26da74aeb43ca7e0f1a0339805a323f4", func := "guilloche/guillochelaw18.FeedRoom", spec := "feedRoom", unfollowed := true, recurses := true, apart := false }
def FeedRoomSaid : Prop := feedRoomRow.holds Try.pinned (OpenSpec.ofChange feedRoomSpec)

/-- ITS FALSE NEIGHBOUR: 'it returns false'. Refute it at one input. -/
def feedRoomWrong : ChangeSpec := { name := "feedRoom", fn := fun _ => fun
  | [d1, d2] => { results := [.lit (.bool false)], args := [d1, d2] }
  | _ => none }
def FeedRoomWrongFalsely : Prop := feedRoomRow.holds Try.pinned (OpenSpec.ofChange feedRoomWrong)

/-- 'guillochelaw18.FeedOthers': WHATEVER THE INPUT: true; the input reads as it did. -/
def feedOthersSpec : ChangeSpec := { name := "feedOthers", fn := fun _ => fun
  | [d1, d2, d3, d4] => { results := [.lit (.bool true)], args := [d1, d2, d3, d4] }
  | _ => none }
def feedOthersRow : OpenClaim := { program := "ytdeagfjfipbniaa", sum := "0f063331d6354729e468313127f5635a26da74aeb43ca7e0f1a0339805a323f4", func := "guilloche/guillochelaw18.FeedOthers", spec := "feedOthers", unfollowed := true, recurses := true, apart := false }
def FeedOthersSaid : Prop := feedOthersRow.holds Try.pinned (OpenSpec.ofChange feedOthersSpec)

/-- ITS FALSE NEIGHBOUR: 'it returns false'. Refute it at one input. -/
def feedOthersWrong : ChangeSpec := { name := "feedOthers", fn := fun _ => fun
  | [d1, d2, d3, d4] => { results := [.lit (.bool false)], args := [d1, d2, d3, d4] }
  | _ => none }
def FeedOthersWrongFalsely : Prop := feedOthersRow.holds Try.pinned (OpenSpec.ofChange feedOthersWrong)

/-- 'guillochelaw18.FeedForgets': WHATEVER THE INPUT: true; the input reads as it did. -/
def feedForgetsSpec : ChangeSpec := { name := "feedForgets", fn := fun _ => fun
  | [d1, d2, d3] => { results := [.lit (.bool true)], args := [d1, d2, d3] }
  | _ => none }
def feedForgetsRow : OpenClaim := { program := "ytdeagfjfipbniaa", sum := "0f063331d6354729e468313127f5635a26da74aeb43ca7e0f1a0339805a323f4", func := "guilloche/guillochelaw18.FeedForgets", spec := "feedForgets", unfollowed := true, recurses := true, apart := false }
def FeedForgetsSaid : Prop := feedForgetsRow.holds Try.pinned (OpenSpec.ofChange feedForgetsSpec)

/-- ITS FALSE NEIGHBOUR: 'it returns false'. Refute it at one input. -/
def feedForgetsWrong : ChangeSpec := { name := "feedForgets", fn := fun _ => fun
  | [d1, d2, d3] => { results := [.lit (.bool false)], args := [d1, d2, d3] }
  | _ => none }
def FeedForgetsWrongFalsely : Prop := feedForgetsRow.holds Try.pinned (OpenSpec.ofChange feedForgetsWrong)

/- THE SECOND FORM. 'bulk': how many values and letters a reading holds, each counted each time it is reached (what is shared counts as often as it is met; a slice's spare places count too). A statement '..UptoSaid' is the law's where the arguments, and the package variables that the reading takes, are together of bulk at most 1048576: NARROWER than '..Said'. Prove '..Said' where nothing that the law and all that it calls make is longer than what came in: it says more and counts as full. Else prove '..UptoSaid'. A law counts once. -/
mutual
def uptoBulk {H : Type} : DataW H → Nat
  | .lit (.string bytes) => bytes.length + 1
  | .lit _ => 1
  | .nil => 1
  | .ptr d => uptoBulk d + 1
  | .slice elems spare => uptoBulkAll elems + uptoBulkAll spare + 1
  | .agg parts => uptoBulkAll parts + 1
  | .iface _ d => uptoBulk d + 1
  | .map entries => uptoBulkEntries entries + 1
  | .held _ => 1
def uptoBulkAll {H : Type} : List (DataW H) → Nat
  | [] => 0
  | d :: r => uptoBulk d + uptoBulkAll r
def uptoBulkEntries {H : Type} : List (Lit × DataW H) → Nat
  | [] => 0
  | x :: r => uptoBulkEntry x + uptoBulkEntries r
def uptoBulkEntry {H : Type} : Lit × DataW H → Nat
  | (.string bytes, d) => bytes.length + uptoBulk d + 1
  | (_, d) => uptoBulk d + 1
 end
def uptoSmall : (H : Type) → List (DataW H) → Bool := fun _ ds => decide (uptoBulkAll ds ≤ 1048576)
def OpenSpec.upto (s : _root_.Go.ChangeSpec) : _root_.Go.OpenSpec := { _root_.Go.OpenSpec.ofChange s with cond := some uptoSmall }

/-- 'guillochelaw18.FeedRoom', WHERE WHAT IT READS IS OF BULK AT MOST 1048576: true; the input reads as it did. -/
def feedRoomUptoRow : OpenClaim := { program := "ytdeagfjfipbniaa", sum := "0f063331d6354729e468313127f5635a26da74aeb43ca7e0f1a0339805a323f4", func := "guilloche/guillochelaw18.FeedRoom", spec := "feedRoom", unfollowed := true, recurses := true, apart := false, narrowed := true }
def FeedRoomUptoSaid : Prop := feedRoomUptoRow.holds Try.pinned (OpenSpec.upto feedRoomSpec)

/-- 'guillochelaw18.FeedOthers', WHERE WHAT IT READS IS OF BULK AT MOST 1048576: true; the input reads as it did. -/
def feedOthersUptoRow : OpenClaim := { program := "ytdeagfjfipbniaa", sum := "0f063331d6354729e468313127f5635a26da74aeb43ca7e0f1a0339805a323f4", func := "guilloche/guillochelaw18.FeedOthers", spec := "feedOthers", unfollowed := true, recurses := true, apart := false, narrowed := true }
def FeedOthersUptoSaid : Prop := feedOthersUptoRow.holds Try.pinned (OpenSpec.upto feedOthersSpec)

/-- 'guillochelaw18.FeedForgets', WHERE WHAT IT READS IS OF BULK AT MOST 1048576: true; the input reads as it did. -/
def feedForgetsUptoRow : OpenClaim := { program := "ytdeagfjfipbniaa", sum := "0f063331d6354729e468313127f5635a26da74aeb43ca7e0f1a0339805a323f4", func := "guilloche/guillochelaw18.FeedForgets", spec := "feedForgets", unfollowed := true, recurses := true, apart := false, narrowed := true }
def FeedForgetsUptoSaid : Prop := feedForgetsUptoRow.holds Try.pinned (OpenSpec.upto feedForgetsSpec)

end Rows
end Go.Proofs.Ytdeagfjfipbniaa
