/-
  No cell of these rows narrows 'for every input' (looked for: loops, veiled, ifaces, maps, wideKeys, modest, calm, conditions, laid).
  DERIVED. THE GIVEN ROWS OF THIS SEAT. 6 by the template 'for every input the law returns true; each argument reads behind the call as it read before'; 0 by the template 'total and deterministic' (their statements: YtofgoehkahcajaaTotals.lean).
  GIVEN WITH THE SEED: the statements are not yours to turn. If you find one false, say at which input.
  Laid BY PROGRAM, IN A SANDBOX (cutbox-rows.mjs): the forced cells as the released guide's own fill.sh prints them over the translation e67f5dfdf698e579… (all of the seat's roots in one cut). By AI agents, Wed Nov 11 2026. No macro, syntax, notation, axiom, sorry.
-/
import Derived.Test.YtofgoehkahcajaaChecked
import GoSem.Claim
import GoSem.ClaimJoined
import GoSem.ClaimMapViews
import Derived.JoinedTies
import Derived.KernelRfl
namespace Go.Proofs.Ytofgoehkahcajaa
/- THE CELL 'sum', in the pinned program and in every row, IS THE sha256 OF THE DUMP (.gsa) THAT YtofgoehkahcajaaProg.lean LOADS. Nothing in Lean hashes anything: it is a label: what it is worth is what the hold of that sum in a sandbox is worth. -/
noncomputable def Try.pinned : Pinned := { name := "ytofgoehkahcajaa", sum := "e67f5dfdf698e579bfaf75323f7b75a62805a14d6483a1b487d3d387f8bcdd7c", checked := Try.checked }
namespace Rows
def none {H : Type} : Left H := { results := [], args := [] }

/-- 'bocagelaw07.BtreeAgain': WHATEVER THE INPUT: true; the input reads as it did. -/
def btreeAgainSpec : ChangeSpec := { name := "btreeAgain", fn := fun _ => fun
  | [d1, d2, d3] => { results := [.lit (.bool true)], args := [d1, d2, d3] }
  | _ => none }
def btreeAgainRow : OpenClaim := { program := "ytofgoehkahcajaa", sum := "e67f5dfdf698e579bfaf75323f7b75a62805a14d6483a1b487d3d387f8bcdd7c", func := "bocage/bocagelaw07.BtreeAgain", spec := "btreeAgain", inPlace := ["slices.overlaps[bocage/api.Seg]", "slices.overlaps[int]"], unfollowed := true, recurses := true, apart := false }
def BtreeAgainSaid : Prop := btreeAgainRow.holds Try.pinned (OpenSpec.ofChange btreeAgainSpec)

/-- ITS FALSE NEIGHBOUR: 'it returns false'. Refute it at one input. -/
def btreeAgainWrong : ChangeSpec := { name := "btreeAgain", fn := fun _ => fun
  | [d1, d2, d3] => { results := [.lit (.bool false)], args := [d1, d2, d3] }
  | _ => none }
def BtreeAgainWrongFalsely : Prop := btreeAgainRow.holds Try.pinned (OpenSpec.ofChange btreeAgainWrong)

/-- 'bocagelaw07.BtreeAll': WHATEVER THE INPUT: true; the input reads as it did. -/
def btreeAllSpec : ChangeSpec := { name := "btreeAll", fn := fun _ => fun
  | [d1, d2] => { results := [.lit (.bool true)], args := [d1, d2] }
  | _ => none }
def btreeAllRow : OpenClaim := { program := "ytofgoehkahcajaa", sum := "e67f5dfdf698e579bfaf75323f7b75a62805a14d6483a1b487d3d387f8bcdd7c", func := "bocage/bocagelaw07.BtreeAll", spec := "btreeAll", inPlace := ["slices.overlaps[bocage/api.Seg]", "slices.overlaps[int]"], unfollowed := true, recurses := true, apart := false }
def BtreeAllSaid : Prop := btreeAllRow.holds Try.pinned (OpenSpec.ofChange btreeAllSpec)

/-- ITS FALSE NEIGHBOUR: 'it returns false'. Refute it at one input. -/
def btreeAllWrong : ChangeSpec := { name := "btreeAll", fn := fun _ => fun
  | [d1, d2] => { results := [.lit (.bool false)], args := [d1, d2] }
  | _ => none }
def BtreeAllWrongFalsely : Prop := btreeAllRow.holds Try.pinned (OpenSpec.ofChange btreeAllWrong)

/-- 'bocagelaw07.BtreeNear': WHATEVER THE INPUT: true; the input reads as it did. -/
def btreeNearSpec : ChangeSpec := { name := "btreeNear", fn := fun _ => fun
  | [d1, d2, d3] => { results := [.lit (.bool true)], args := [d1, d2, d3] }
  | _ => none }
def btreeNearRow : OpenClaim := { program := "ytofgoehkahcajaa", sum := "e67f5dfdf698e579bfaf75323f7b75a62805a14d6483a1b487d3d387f8bcdd7c", func := "bocage/bocagelaw07.BtreeNear", spec := "btreeNear", inPlace := ["slices.overlaps[bocage/api.Seg]", "slices.overlaps[int]"], unfollowed := true, recurses := true, apart := false }
def BtreeNearSaid : Prop := btreeNearRow.holds Try.pinned (OpenSpec.ofChange btreeNearSpec)

/-- ITS FALSE NEIGHBOUR: 'it returns false'. Refute it at one input. -/
def btreeNearWrong : ChangeSpec := { name := "btreeNear", fn := fun _ => fun
  | [d1, d2, d3] => { results := [.lit (.bool false)], args := [d1, d2, d3] }
  | _ => none }
def BtreeNearWrongFalsely : Prop := btreeNearRow.holds Try.pinned (OpenSpec.ofChange btreeNearWrong)

/-- 'bocagelaw07.BtreeWalks': WHATEVER THE INPUT: true; the input reads as it did. -/
def btreeWalksSpec : ChangeSpec := { name := "btreeWalks", fn := fun _ => fun
  | [d1, d2, d3] => { results := [.lit (.bool true)], args := [d1, d2, d3] }
  | _ => none }
def btreeWalksRow : OpenClaim := { program := "ytofgoehkahcajaa", sum := "e67f5dfdf698e579bfaf75323f7b75a62805a14d6483a1b487d3d387f8bcdd7c", func := "bocage/bocagelaw07.BtreeWalks", spec := "btreeWalks", inPlace := ["slices.overlaps[bocage/api.Seg]", "slices.overlaps[int]"], unfollowed := true, recurses := true, apart := false }
def BtreeWalksSaid : Prop := btreeWalksRow.holds Try.pinned (OpenSpec.ofChange btreeWalksSpec)

/-- ITS FALSE NEIGHBOUR: 'it returns false'. Refute it at one input. -/
def btreeWalksWrong : ChangeSpec := { name := "btreeWalks", fn := fun _ => fun
  | [d1, d2, d3] => { results := [.lit (.bool false)], args := [d1, d2, d3] }
  | _ => none }
def BtreeWalksWrongFalsely : Prop := btreeWalksRow.holds Try.pinned (OpenSpec.ofChange btreeWalksWrong)

/-- 'bocagelaw07.BtreeLoads': WHATEVER THE INPUT: true; the input reads as it did. -/
def btreeLoadsSpec : ChangeSpec := { name := "btreeLoads", fn := fun _ => fun
  | [d1, d2] => { results := [.lit (.bool true)], args := [d1, d2] }
  | _ => none }
def btreeLoadsRow : OpenClaim := { program := "ytofgoehkahcajaa", sum := "e67f5dfdf698e579bfaf75323f7b75a62805a14d6483a1b487d3d387f8bcdd7c", func := "bocage/bocagelaw07.BtreeLoads", spec := "btreeLoads", inPlace := ["slices.overlaps[bocage/api.Seg]", "slices.overlaps[int]"], unfollowed := true, recurses := true, apart := false }
def BtreeLoadsSaid : Prop := btreeLoadsRow.holds Try.pinned (OpenSpec.ofChange btreeLoadsSpec)

/-- ITS FALSE NEIGHBOUR: 'it returns false'. Refute it at one input. -/
def btreeLoadsWrong : ChangeSpec := { name := "btreeLoads", fn := fun _ => fun
  | [d1, d2] => { results := [.lit (.bool false)], args := [d1, d2] }
  | _ => none }
def BtreeLoadsWrongFalsely : Prop := btreeLoadsRow.holds Try.pinned (OpenSpec.ofChange btreeLoadsWrong)

/-- 'bocagelaw07.BtreeRows': WHATEVER THE INPUT: true; the input reads as it did. -/
def btreeRowsSpec : ChangeSpec := { name := "btreeRows", fn := fun _ => fun
  | [d1, d2, d3] => { results := [.lit (.bool true)], args := [d1, d2, d3] }
  | _ => none }
def btreeRowsRow : OpenClaim := { program := "ytofgoehkahcajaa", sum := "e67f5dfdf698e579bfaf75323f7b75a62805a14d6483a1b487d3d387f8bcdd7c", func := "bocage/bocagelaw07.BtreeRows", spec := "btreeRows", inPlace := ["slices.overlaps[bocage/api.Seg]", "slices.overlaps[int]"], unfollowed := true, recurses := true, apart := false }
def BtreeRowsSaid : Prop := btreeRowsRow.holds Try.pinned (OpenSpec.ofChange btreeRowsSpec)

/-- ITS FALSE NEIGHBOUR: 'it returns false'. Refute it at one input. -/
def btreeRowsWrong : ChangeSpec := { name := "btreeRows", fn := fun _ => fun
  | [d1, d2, d3] => { results := [.lit (.bool false)], args := [d1, d2, d3] }
  | _ => none }
def BtreeRowsWrongFalsely : Prop := btreeRowsRow.holds Try.pinned (OpenSpec.ofChange btreeRowsWrong)

/- THE SECOND FORM. 'bulk': how many values and letters a reading holds, each counted each time it is reached (what is shared counts as often as it is met; a slice's spare places count too). A statement '..UptoSaid' is the law's where the arguments, and the package variables that the reading takes, are together of bulk at most 1048576: NARROWER than '..Said'. Prove '..Said' where nothing that the law and all that it calls make is longer than what came in: it says more and counts as full. Else prove '..UptoSaid'. A law counts once. -/
mutual
def uptoBulk {H : Type} : DataW H → Nat
  | .lit (.string bytes) => bytes.length + 1
  | .lit _ => 1
  | .nil => 1
  | .ptr d => uptoBulk d + 1
  | .slice elems spare => uptoBulkAll elems + uptoBulkAll spare + 1
  | .agg parts => uptoBulkAll parts + 1
  | .iface _ d => uptoBulk d + 1
  | .map entries => uptoBulkEntries entries + 1
  | .held _ => 1
def uptoBulkAll {H : Type} : List (DataW H) → Nat
  | [] => 0
  | d :: r => uptoBulk d + uptoBulkAll r
def uptoBulkEntries {H : Type} : List (Lit × DataW H) → Nat
  | [] => 0
  | x :: r => uptoBulkEntry x + uptoBulkEntries r
def uptoBulkEntry {H : Type} : Lit × DataW H → Nat
  | (.string bytes, d) => bytes.length + uptoBulk d + 1
  | (_, d) => uptoBulk d + 1
 end
def uptoSmall : (H : Type) → List (DataW H) → Bool := fun _ ds => decide (uptoBulkAll ds ≤ 1048576)
def OpenSpec.upto (s : _root_.Go.ChangeSpec) : _root_.Go.OpenSpec := { _root_.Go.OpenSpec.ofChange s with cond := some uptoSmall }

/-- 'bocagelaw07.BtreeAgain', WHERE WHAT IT READS IS OF BULK AT MOST 1048576: true; the input reads as it did. -/
def btreeAgainUptoRow : OpenClaim := { program := "ytofgoehkahcajaa", sum := "e67f5dfdf698e579bfaf75323f7b75a62805a14d6483a1b487d3d387f8bcdd7c", func := "bocage/bocagelaw07.BtreeAgain", spec := "btreeAgain", inPlace := ["slices.overlaps[bocage/api.Seg]", "slices.overlaps[int]"], unfollowed := true, recurses := true, apart := false, narrowed := true }
def BtreeAgainUptoSaid : Prop := btreeAgainUptoRow.holds Try.pinned (OpenSpec.upto btreeAgainSpec)

/-- 'bocagelaw07.BtreeAll', WHERE WHAT IT READS IS OF BULK AT MOST 1048576: true; the input reads as it did. -/
def btreeAllUptoRow : OpenClaim := { program := "ytofgoehkahcajaa", sum := "e67f5dfdf698e579bfaf75323f7b75a62805a14d6483a1b487d3d387f8bcdd7c", func := "bocage/bocagelaw07.BtreeAll", spec := "btreeAll", inPlace := ["slices.overlaps[bocage/api.Seg]", "slices.overlaps[int]"], unfollowed := true, recurses := true, apart := false, narrowed := true }
def BtreeAllUptoSaid : Prop := btreeAllUptoRow.holds Try.pinned (OpenSpec.upto btreeAllSpec)

/-- 'bocagelaw07.BtreeNear', WHERE WHAT IT READS IS OF BULK AT MOST 1048576: true; the input reads as it did. -/
def btreeNearUptoRow : OpenClaim := { program := "ytofgoehkahcajaa", sum := "e67f5dfdf698e579bfaf75323f7b75a62805a14d6483a1b487d3d387f8bcdd7c", func := "bocage/bocagelaw07.BtreeNear", spec := "btreeNear", inPlace := ["slices.overlaps[bocage/api.Seg]", "slices.overlaps[int]"], unfollowed := true, recurses := true, apart := false, narrowed := true }
def BtreeNearUptoSaid : Prop := btreeNearUptoRow.holds Try.pinned (OpenSpec.upto btreeNearSpec)

/-- 'bocagelaw07.BtreeWalks', WHERE WHAT IT READS IS OF BULK AT MOST 1048576: true; the input reads as it did. -/
def btreeWalksUptoRow : OpenClaim := { program := "ytofgoehkahcajaa", sum := "e67f5dfdf698e579bfaf75323f7b75a62805a14d6483a1b487d3d387f8bcdd7c", func := "bocage/bocagelaw07.BtreeWalks", spec := "btreeWalks", inPlace := ["slices.overlaps[bocage/api.Seg]", "slices.overlaps[int]"], unfollowed := true, recurses := true, apart := false, narrowed := true }
def BtreeWalksUptoSaid : Prop := btreeWalksUptoRow.holds Try.pinned (OpenSpec.upto btreeWalksSpec)

/-- 'bocagelaw07.BtreeLoads', WHERE WHAT IT READS IS OF BULK AT MOST 1048576: true; the input reads as it did. -/
def btreeLoadsUptoRow : OpenClaim := { program := "ytofgoehkahcajaa", sum := "e67f5dfdf698e579bfaf75323f7b75a62805a14d6483a1b487d3d387f8bcdd7c", func := "bocage/bocagelaw07.BtreeLoads", spec := "btreeLoads", inPlace := ["slices.overlaps[bocage/api.Seg]", "slices.overlaps[int]"], unfollowed := true, recurses := true, apart := false, narrowed := true }
def BtreeLoadsUptoSaid : Prop := btreeLoadsUptoRow.holds Try.pinned (OpenSpec.upto btreeLoadsSpec)

/-- 'bocagelaw07.BtreeRows', WHERE WHAT IT READS IS OF BULK AT MOST 1048576: true; the input reads as it did. -/
def btreeRowsUptoRow : OpenClaim := { program := "ytofgoehkahcajaa", sum := "e67f5dfdf698e579bfaf75323f7b75a62805a14d6483a1b487d3d387f8bcdd7c", func := "bocage/bocagelaw07.BtreeRows", spec := "btreeRows", inPlace := ["slices.overlaps[bocage/api.Seg]", "slices.overlaps[int]"], unfollowed := true, recurses := true, apart := false, narrowed := true }
def BtreeRowsUptoSaid : Prop := btreeRowsUptoRow.holds Try.pinned (OpenSpec.upto btreeRowsSpec)

end Rows
end Go.Proofs.Ytofgoehkahcajaa
