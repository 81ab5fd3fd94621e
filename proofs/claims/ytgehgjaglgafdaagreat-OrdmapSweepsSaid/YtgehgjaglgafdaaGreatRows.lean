/-
  No cell of these rows narrows 'for every input' (looked for: loops, veiled, ifaces, maps, wideKeys, modest, calm, conditions, laid).
  DERIVED. THE GIVEN ROWS OF THIS SEAT. 7 by the template 'for every input the law returns true; each argument reads behind the call as it read before'; 0 by the template 'total and deterministic' (their statements: YtgehgjaglgafdaaGreatTotals.lean).
  GIVEN WITH THE SEED: the statements are not yours to turn. If you find one false, say at which input.
  Laid BY PROGRAM, IN A SANDBOX (cutbox-rows.mjs): the forced cells as the released guide's own fill.sh prints them over the translation af85561c28c11111… (all of the seat's roots in one cut). By AI agents, Wed Nov 11 2026. No macro, syntax, notation, axiom, sorry.
-/
import Derived.Test.YtgehgjaglgafdaaGreatChecked
import GoSem.Claim
import GoSem.ClaimJoined
import GoSem.ClaimMapViews
import Derived.JoinedTies
import Derived.KernelRfl
namespace Go.Proofs.YtgehgjaglgafdaaGreat
/- THE CELL 'sum', in the pinned program and in every row, IS THE sha256 OF THE DUMP (.gsa) THAT YtgehgjaglgafdaaGreatProg.lean LOADS. Nothing in Lean hashes anything: it is a label: what it is worth is what the hold of that sum in a sandbox is worth. -/
noncomputable def Tryz.pinned : Pinned := { name := "ytgehgjaglgafdaagreat", sum := "af85561c28c11111b5f2ae53e1eff5b27fc43ad31586a586845d48b1d6f2ca6e", checked := Tryz.checked }
namespace Rows
def none {H : Type} : Left H := { results := [], args := [] }

/-- 'bocagelaw08.OrdmapSweeps': WHATEVER THE INPUT: true; the input reads as it did. -/
def ordmapSweepsSpec : ChangeSpec := { name := "ordmapSweeps", fn := fun _ => fun
  | [d1, d2, d3] => { results := [.lit (.bool true)], args := [d1, d2, d3] }
  | _ => none }
def ordmapSweepsRow : OpenClaim := { program := "ytgehgjaglgafdaagreat", sum := "af85561c28c11111b5f2ae53e1eff5b27fc43ad31586a586845d48b1d6f2ca6e", func := "bocage/bocagelaw08.OrdmapSweeps", spec := "ordmapSweeps", unfollowed := true, recurses := true, apart := false }
def OrdmapSweepsSaid : Prop := ordmapSweepsRow.holds Tryz.pinned (OpenSpec.ofChange ordmapSweepsSpec)

/-- ITS FALSE NEIGHBOUR: 'it returns false'. Refute it at one input. -/
def ordmapSweepsWrong : ChangeSpec := { name := "ordmapSweeps", fn := fun _ => fun
  | [d1, d2, d3] => { results := [.lit (.bool false)], args := [d1, d2, d3] }
  | _ => none }
def OrdmapSweepsWrongFalsely : Prop := ordmapSweepsRow.holds Tryz.pinned (OpenSpec.ofChange ordmapSweepsWrong)

/-- 'bocagelaw08.OrdmapBack': WHATEVER THE INPUT: true; the input reads as it did. -/
def ordmapBackSpec : ChangeSpec := { name := "ordmapBack", fn := fun _ => fun
  | [d1, d2] => { results := [.lit (.bool true)], args := [d1, d2] }
  | _ => none }
def ordmapBackRow : OpenClaim := { program := "ytgehgjaglgafdaagreat", sum := "af85561c28c11111b5f2ae53e1eff5b27fc43ad31586a586845d48b1d6f2ca6e", func := "bocage/bocagelaw08.OrdmapBack", spec := "ordmapBack", unfollowed := true, recurses := true, apart := false }
def OrdmapBackSaid : Prop := ordmapBackRow.holds Tryz.pinned (OpenSpec.ofChange ordmapBackSpec)

/-- ITS FALSE NEIGHBOUR: 'it returns false'. Refute it at one input. -/
def ordmapBackWrong : ChangeSpec := { name := "ordmapBack", fn := fun _ => fun
  | [d1, d2] => { results := [.lit (.bool false)], args := [d1, d2] }
  | _ => none }
def OrdmapBackWrongFalsely : Prop := ordmapBackRow.holds Tryz.pinned (OpenSpec.ofChange ordmapBackWrong)

/-- 'bocagelaw08.OrdmapNear': WHATEVER THE INPUT: true; the input reads as it did. -/
def ordmapNearSpec : ChangeSpec := { name := "ordmapNear", fn := fun _ => fun
  | [d1, d2, d3] => { results := [.lit (.bool true)], args := [d1, d2, d3] }
  | _ => none }
def ordmapNearRow : OpenClaim := { program := "ytgehgjaglgafdaagreat", sum := "af85561c28c11111b5f2ae53e1eff5b27fc43ad31586a586845d48b1d6f2ca6e", func := "bocage/bocagelaw08.OrdmapNear", spec := "ordmapNear", unfollowed := true, recurses := true, apart := false }
def OrdmapNearSaid : Prop := ordmapNearRow.holds Tryz.pinned (OpenSpec.ofChange ordmapNearSpec)

/-- ITS FALSE NEIGHBOUR: 'it returns false'. Refute it at one input. -/
def ordmapNearWrong : ChangeSpec := { name := "ordmapNear", fn := fun _ => fun
  | [d1, d2, d3] => { results := [.lit (.bool false)], args := [d1, d2, d3] }
  | _ => none }
def OrdmapNearWrongFalsely : Prop := ordmapNearRow.holds Tryz.pinned (OpenSpec.ofChange ordmapNearWrong)

/-- 'bocagelaw08.OrdmapRanges': WHATEVER THE INPUT: true; the input reads as it did. -/
def ordmapRangesSpec : ChangeSpec := { name := "ordmapRanges", fn := fun _ => fun
  | [d1, d2, d3] => { results := [.lit (.bool true)], args := [d1, d2, d3] }
  | _ => none }
def ordmapRangesRow : OpenClaim := { program := "ytgehgjaglgafdaagreat", sum := "af85561c28c11111b5f2ae53e1eff5b27fc43ad31586a586845d48b1d6f2ca6e", func := "bocage/bocagelaw08.OrdmapRanges", spec := "ordmapRanges", unfollowed := true, recurses := true, apart := false }
def OrdmapRangesSaid : Prop := ordmapRangesRow.holds Tryz.pinned (OpenSpec.ofChange ordmapRangesSpec)

/-- ITS FALSE NEIGHBOUR: 'it returns false'. Refute it at one input. -/
def ordmapRangesWrong : ChangeSpec := { name := "ordmapRanges", fn := fun _ => fun
  | [d1, d2, d3] => { results := [.lit (.bool false)], args := [d1, d2, d3] }
  | _ => none }
def OrdmapRangesWrongFalsely : Prop := ordmapRangesRow.holds Tryz.pinned (OpenSpec.ofChange ordmapRangesWrong)

/-- 'bocagelaw08.OrdmapTwo': WHATEVER THE INPUT: true; the input reads as it did. -/
def ordmapTwoSpec : ChangeSpec := { name := "ordmapTwo", fn := fun _ => fun
  | [d1, d2, d3] => { results := [.lit (.bool true)], args := [d1, d2, d3] }
  | _ => none }
def ordmapTwoRow : OpenClaim := { program := "ytgehgjaglgafdaagreat", sum := "af85561c28c11111b5f2ae53e1eff5b27fc43ad31586a586845d48b1d6f2ca6e", func := "bocage/bocagelaw08.OrdmapTwo", spec := "ordmapTwo", unfollowed := true, recurses := true, apart := false }
def OrdmapTwoSaid : Prop := ordmapTwoRow.holds Tryz.pinned (OpenSpec.ofChange ordmapTwoSpec)

/-- ITS FALSE NEIGHBOUR: 'it returns false'. Refute it at one input. -/
def ordmapTwoWrong : ChangeSpec := { name := "ordmapTwo", fn := fun _ => fun
  | [d1, d2, d3] => { results := [.lit (.bool false)], args := [d1, d2, d3] }
  | _ => none }
def OrdmapTwoWrongFalsely : Prop := ordmapTwoRow.holds Tryz.pinned (OpenSpec.ofChange ordmapTwoWrong)

/-- 'bocagelaw08.OrdmapAll': WHATEVER THE INPUT: true; the input reads as it did. -/
def ordmapAllSpec : ChangeSpec := { name := "ordmapAll", fn := fun _ => fun
  | [d1, d2] => { results := [.lit (.bool true)], args := [d1, d2] }
  | _ => none }
def ordmapAllRow : OpenClaim := { program := "ytgehgjaglgafdaagreat", sum := "af85561c28c11111b5f2ae53e1eff5b27fc43ad31586a586845d48b1d6f2ca6e", func := "bocage/bocagelaw08.OrdmapAll", spec := "ordmapAll", unfollowed := true, recurses := true, apart := false }
def OrdmapAllSaid : Prop := ordmapAllRow.holds Tryz.pinned (OpenSpec.ofChange ordmapAllSpec)

/-- ITS FALSE NEIGHBOUR: 'it returns false'. Refute it at one input. -/
def ordmapAllWrong : ChangeSpec := { name := "ordmapAll", fn := fun _ => fun
  | [d1, d2] => { results := [.lit (.bool false)], args := [d1, d2] }
  | _ => none }
def OrdmapAllWrongFalsely : Prop := ordmapAllRow.holds Tryz.pinned (OpenSpec.ofChange ordmapAllWrong)

/-- 'bocagelaw08.OrdmapTurns': WHATEVER THE INPUT: true; the input reads as it did. -/
def ordmapTurnsSpec : ChangeSpec := { name := "ordmapTurns", fn := fun _ => fun
  | [d1, d2, d3] => { results := [.lit (.bool true)], args := [d1, d2, d3] }
  | _ => none }
def ordmapTurnsRow : OpenClaim := { program := "ytgehgjaglgafdaagreat", sum := "af85561c28c11111b5f2ae53e1eff5b27fc43ad31586a586845d48b1d6f2ca6e", func := "bocage/bocagelaw08.OrdmapTurns", spec := "ordmapTurns", unfollowed := true, recurses := true, apart := false }
def OrdmapTurnsSaid : Prop := ordmapTurnsRow.holds Tryz.pinned (OpenSpec.ofChange ordmapTurnsSpec)

/-- ITS FALSE NEIGHBOUR: 'it returns false'. Refute it at one input. -/
def ordmapTurnsWrong : ChangeSpec := { name := "ordmapTurns", fn := fun _ => fun
  | [d1, d2, d3] => { results := [.lit (.bool false)], args := [d1, d2, d3] }
  | _ => none }
def OrdmapTurnsWrongFalsely : Prop := ordmapTurnsRow.holds Tryz.pinned (OpenSpec.ofChange ordmapTurnsWrong)

/- THE SECOND FORM. 'bulk': how many values and letters a reading holds, each counted each time it is reached (what is shared counts as often as it is met; a slice's spare places count too). A statement '..UptoSaid' is the law's where the arguments, and the package variables that the reading takes, are together of bulk at most 1048576: NARROWER than '..Said'. Prove '..Said' where nothing that the law and all that it calls make is longer than what came in: it says more and counts as full. Else prove '..UptoSaid'. A law counts once. -/
mutual
def uptoBulk {H : Type} : DataW H → Nat
  | .lit (.string bytes) => bytes.length + 1
  | .lit _ => 1
  | .nil => 1
  | .ptr d => uptoBulk d + 1
  | .slice elems spare => uptoBulkAll elems + uptoBulkAll spare + 1
  | .agg parts => uptoBulkAll parts + 1
  | .iface _ d => uptoBulk d + 1
  | .map entries => uptoBulkEntries entries + 1
  | .held _ => 1
def uptoBulkAll {H : Type} : List (DataW H) → Nat
  | [] => 0
  | d :: r => uptoBulk d + uptoBulkAll r
def uptoBulkEntries {H : Type} : List (Lit × DataW H) → Nat
  | [] => 0
  | x :: r => uptoBulkEntry x + uptoBulkEntries r
def uptoBulkEntry {H : Type} : Lit × DataW H → Nat
  | (.string bytes, d) => bytes.length + uptoBulk d + 1
  | (_, d) => uptoBulk d + 1
 end
def uptoSmall : (H : Type) → List (DataW H) → Bool := fun _ ds => decide (uptoBulkAll ds ≤ 1048576)
def OpenSpec.upto (s : _root_.Go.ChangeSpec) : _root_.Go.OpenSpec := { _root_.Go.OpenSpec.ofChange s with cond := some uptoSmall }

/-- 'bocagelaw08.OrdmapSweeps', WHERE WHAT IT READS IS OF BULK AT MOST 1048576: true; the input reads as it did. -/
def ordmapSweepsUptoRow : OpenClaim := { program := "ytgehgjaglgafdaagreat", sum := "af85561c28c11111b5f2ae53e1eff5b27fc43ad31586a586845d48b1d6f2ca6e", func := "bocage/bocagelaw08.OrdmapSweeps", spec := "ordmapSweeps", unfollowed := true, recurses := true, apart := false, narrowed := true }
def OrdmapSweepsUptoSaid : Prop := ordmapSweepsUptoRow.holds Tryz.pinned (OpenSpec.upto ordmapSweepsSpec)

/-- 'bocagelaw08.OrdmapBack', WHERE WHAT IT READS IS OF BULK AT MOST 1048576: true; the input reads as it did. -/
def ordmapBackUptoRow : OpenClaim := { program := "ytgehgjaglgafdaagreat", sum := "af85561c28c11111b5f2ae53e1eff5b27fc43ad31586a586845d48b1d6f2ca6e", func := "bocage/bocagelaw08.OrdmapBack", spec := "ordmapBack", unfollowed := true, recurses := true, apart := false, narrowed := true }
def OrdmapBackUptoSaid : Prop := ordmapBackUptoRow.holds Tryz.pinned (OpenSpec.upto ordmapBackSpec)

/-- 'bocagelaw08.OrdmapNear', WHERE WHAT IT READS IS OF BULK AT MOST 1048576: true; the input reads as it did. -/
def ordmapNearUptoRow : OpenClaim := { program := "ytgehgjaglgafdaagreat", sum := "af85561c28c11111b5f2ae53e1eff5b27fc43ad31586a586845d48b1d6f2ca6e", func := "bocage/bocagelaw08.OrdmapNear", spec := "ordmapNear", unfollowed := true, recurses := true, apart := false, narrowed := true }
def OrdmapNearUptoSaid : Prop := ordmapNearUptoRow.holds Tryz.pinned (OpenSpec.upto ordmapNearSpec)

/-- 'bocagelaw08.OrdmapRanges', WHERE WHAT IT READS IS OF BULK AT MOST 1048576: true; the input reads as it did. -/
def ordmapRangesUptoRow : OpenClaim := { program := "ytgehgjaglgafdaagreat", sum := "af85561c28c11111b5f2ae53e1eff5b27fc43ad31586a586845d48b1d6f2ca6e", func := "bocage/bocagelaw08.OrdmapRanges", spec := "ordmapRanges", unfollowed := true, recurses := true, apart := false, narrowed := true }
def OrdmapRangesUptoSaid : Prop := ordmapRangesUptoRow.holds Tryz.pinned (OpenSpec.upto ordmapRangesSpec)

/-- 'bocagelaw08.OrdmapTwo', WHERE WHAT IT READS IS OF BULK AT MOST 1048576: true; the input reads as it did. -/
def ordmapTwoUptoRow : OpenClaim := { program := "ytgehgjaglgafdaagreat", sum := "af85561c28c11111b5f2ae53e1eff5b27fc43ad31586a586845d48b1d6f2ca6e", func := "bocage/bocagelaw08.OrdmapTwo", spec := "ordmapTwo", unfollowed := true, recurses := true, apart := false, narrowed := true }
def OrdmapTwoUptoSaid : Prop := ordmapTwoUptoRow.holds Tryz.pinned (OpenSpec.upto ordmapTwoSpec)

/-- 'bocagelaw08.OrdmapAll', WHERE WHAT IT READS IS OF BULK AT MOST 1048576: true; the input reads as it did. -/
def ordmapAllUptoRow : OpenClaim := { program := "ytgehgjaglgafdaagreat", sum := "af85561c28c11111b5f2ae53e1eff5b27fc43ad31586a586845d48b1d6f2ca6e", func := "bocage/bocagelaw08.OrdmapAll", spec := "ordmapAll", unfollowed := true, recurses := true, apart := false, narrowed := true }
def OrdmapAllUptoSaid : Prop := ordmapAllUptoRow.holds Tryz.pinned (OpenSpec.upto ordmapAllSpec)

/-- 'bocagelaw08.OrdmapTurns', WHERE WHAT IT READS IS OF BULK AT MOST 1048576: true; the input reads as it did. -/
def ordmapTurnsUptoRow : OpenClaim := { program := "ytgehgjaglgafdaagreat", sum := "af85561c28c11111b5f2ae53e1eff5b27fc43ad31586a586845d48b1d6f2ca6e", func := "bocage/bocagelaw08.OrdmapTurns", spec := "ordmapTurns", unfollowed := true, recurses := true, apart := false, narrowed := true }
def OrdmapTurnsUptoSaid : Prop := ordmapTurnsUptoRow.holds Tryz.pinned (OpenSpec.upto ordmapTurnsSpec)

end Rows
end Go.Proofs.YtgehgjaglgafdaaGreat
