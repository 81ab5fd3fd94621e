/-
  No cell of these rows narrows 'for every input' (looked for: loops, veiled, ifaces, maps, wideKeys, modest, calm, conditions, laid).
  DERIVED. THE GIVEN ROWS OF THIS SEAT. 7 by the template 'for every input the law returns true; each argument reads behind the call as it read before'; 0 by the template 'total and deterministic' (their statements: YtniemignjlanaaaTotals.lean).
  GIVEN WITH THE SEED: the statements are not yours to turn. If you find one false, say at which input.
  Laid BY PROGRAM, IN A SANDBOX (cutbox-rows.mjs): the forced cells as the released guide's own fill.sh prints them over the translation 0a29d369789ae706… (all of the seat's roots in one cut). By AI agents, Wed Nov 11 2026. No macro, syntax, notation, axiom, sorry.
-/
import Derived.Test.YtniemignjlanaaaChecked
import GoSem.Claim
import GoSem.ClaimJoined
import GoSem.ClaimMapViews
import Derived.JoinedTies
import Derived.KernelRfl
namespace Go.Proofs.Ytniemignjlanaaa
/- THE CELL 'sum', in the pinned program and in every row, IS THE sha256 OF THE DUMP (.gsa) THAT YtniemignjlanaaaProg.lean LOADS. Nothing in Lean hashes anything: it is a label: what it is worth is what the hold of that sum in a sandbox is worth. -/
noncomputable def Try.pinned : Pinned := { name := "ytniemignjlanaaa", sum := "0a29d369789ae7065357b4a0f4bae9c5674bd32f76d92feb4bf467ecc3b43e26", checked := Try.checked }
namespace Rows
def none {H : Type} : Left H := { results := [], args := [] }

/-- 'bocagelaw06.RbtreeRows': WHATEVER THE INPUT: true; the input reads as it did. -/
def rbtreeRowsSpec : ChangeSpec := { name := "rbtreeRows", fn := fun _ => fun
  | [d1, d2] => { results := [.lit (.bool true)], args := [d1, d2] }
  | _ => none }
def rbtreeRowsRow : OpenClaim := { program := "ytniemignjlanaaa", sum := "0a29d369789ae7065357b4a0f4bae9c5674bd32f76d92feb4bf467ecc3b43e26", func := "bocage/bocagelaw06.RbtreeRows", spec := "rbtreeRows", unfollowed := true, recurses := true, apart := false }
def RbtreeRowsSaid : Prop := rbtreeRowsRow.holds Try.pinned (OpenSpec.ofChange rbtreeRowsSpec)

/-- ITS FALSE NEIGHBOUR: 'it returns false'. Refute it at one input. -/
def rbtreeRowsWrong : ChangeSpec := { name := "rbtreeRows", fn := fun _ => fun
  | [d1, d2] => { results := [.lit (.bool false)], args := [d1, d2] }
  | _ => none }
def RbtreeRowsWrongFalsely : Prop := rbtreeRowsRow.holds Try.pinned (OpenSpec.ofChange rbtreeRowsWrong)

/-- 'bocagelaw06.RbtreeChecks': WHATEVER THE INPUT: true; the input reads as it did. -/
def rbtreeChecksSpec : ChangeSpec := { name := "rbtreeChecks", fn := fun _ => fun
  | [d1, d2] => { results := [.lit (.bool true)], args := [d1, d2] }
  | _ => none }
def rbtreeChecksRow : OpenClaim := { program := "ytniemignjlanaaa", sum := "0a29d369789ae7065357b4a0f4bae9c5674bd32f76d92feb4bf467ecc3b43e26", func := "bocage/bocagelaw06.RbtreeChecks", spec := "rbtreeChecks", unfollowed := true, recurses := true, apart := false }
def RbtreeChecksSaid : Prop := rbtreeChecksRow.holds Try.pinned (OpenSpec.ofChange rbtreeChecksSpec)

/-- ITS FALSE NEIGHBOUR: 'it returns false'. Refute it at one input. -/
def rbtreeChecksWrong : ChangeSpec := { name := "rbtreeChecks", fn := fun _ => fun
  | [d1, d2] => { results := [.lit (.bool false)], args := [d1, d2] }
  | _ => none }
def RbtreeChecksWrongFalsely : Prop := rbtreeChecksRow.holds Try.pinned (OpenSpec.ofChange rbtreeChecksWrong)

/-- 'bocagelaw06.RbtreeDown': WHATEVER THE INPUT: true; the input reads as it did. -/
def rbtreeDownSpec : ChangeSpec := { name := "rbtreeDown", fn := fun _ => fun
  | [d1, d2, d3] => { results := [.lit (.bool true)], args := [d1, d2, d3] }
  | _ => none }
def rbtreeDownRow : OpenClaim := { program := "ytniemignjlanaaa", sum := "0a29d369789ae7065357b4a0f4bae9c5674bd32f76d92feb4bf467ecc3b43e26", func := "bocage/bocagelaw06.RbtreeDown", spec := "rbtreeDown", unfollowed := true, recurses := true, apart := false }
def RbtreeDownSaid : Prop := rbtreeDownRow.holds Try.pinned (OpenSpec.ofChange rbtreeDownSpec)

/-- ITS FALSE NEIGHBOUR: 'it returns false'. Refute it at one input. -/
def rbtreeDownWrong : ChangeSpec := { name := "rbtreeDown", fn := fun _ => fun
  | [d1, d2, d3] => { results := [.lit (.bool false)], args := [d1, d2, d3] }
  | _ => none }
def RbtreeDownWrongFalsely : Prop := rbtreeDownRow.holds Try.pinned (OpenSpec.ofChange rbtreeDownWrong)

/-- 'bocagelaw06.RbtreeAll': WHATEVER THE INPUT: true; the input reads as it did. -/
def rbtreeAllSpec : ChangeSpec := { name := "rbtreeAll", fn := fun _ => fun
  | [d1, d2] => { results := [.lit (.bool true)], args := [d1, d2] }
  | _ => none }
def rbtreeAllRow : OpenClaim := { program := "ytniemignjlanaaa", sum := "0a29d369789ae7065357b4a0f4bae9c5674bd32f76d92feb4bf467ecc3b43e26", func := "bocage/bocagelaw06.RbtreeAll", spec := "rbtreeAll", unfollowed := true, recurses := true, apart := false }
def RbtreeAllSaid : Prop := rbtreeAllRow.holds Try.pinned (OpenSpec.ofChange rbtreeAllSpec)

/-- ITS FALSE NEIGHBOUR: 'it returns false'. Refute it at one input. -/
def rbtreeAllWrong : ChangeSpec := { name := "rbtreeAll", fn := fun _ => fun
  | [d1, d2] => { results := [.lit (.bool false)], args := [d1, d2] }
  | _ => none }
def RbtreeAllWrongFalsely : Prop := rbtreeAllRow.holds Try.pinned (OpenSpec.ofChange rbtreeAllWrong)

/-- 'bocagelaw06.RbtreeBetween': WHATEVER THE INPUT: true; the input reads as it did. -/
def rbtreeBetweenSpec : ChangeSpec := { name := "rbtreeBetween", fn := fun _ => fun
  | [d1, d2, d3] => { results := [.lit (.bool true)], args := [d1, d2, d3] }
  | _ => none }
def rbtreeBetweenRow : OpenClaim := { program := "ytniemignjlanaaa", sum := "0a29d369789ae7065357b4a0f4bae9c5674bd32f76d92feb4bf467ecc3b43e26", func := "bocage/bocagelaw06.RbtreeBetween", spec := "rbtreeBetween", unfollowed := true, recurses := true, apart := false }
def RbtreeBetweenSaid : Prop := rbtreeBetweenRow.holds Try.pinned (OpenSpec.ofChange rbtreeBetweenSpec)

/-- ITS FALSE NEIGHBOUR: 'it returns false'. Refute it at one input. -/
def rbtreeBetweenWrong : ChangeSpec := { name := "rbtreeBetween", fn := fun _ => fun
  | [d1, d2, d3] => { results := [.lit (.bool false)], args := [d1, d2, d3] }
  | _ => none }
def RbtreeBetweenWrongFalsely : Prop := rbtreeBetweenRow.holds Try.pinned (OpenSpec.ofChange rbtreeBetweenWrong)

/-- 'bocagelaw06.RbtreeNear': WHATEVER THE INPUT: true; the input reads as it did. -/
def rbtreeNearSpec : ChangeSpec := { name := "rbtreeNear", fn := fun _ => fun
  | [d1, d2, d3] => { results := [.lit (.bool true)], args := [d1, d2, d3] }
  | _ => none }
def rbtreeNearRow : OpenClaim := { program := "ytniemignjlanaaa", sum := "0a29d369789ae7065357b4a0f4bae9c5674bd32f76d92feb4bf467ecc3b43e26", func := "bocage/bocagelaw06.RbtreeNear", spec := "rbtreeNear", unfollowed := true, recurses := true, apart := false }
def RbtreeNearSaid : Prop := rbtreeNearRow.holds Try.pinned (OpenSpec.ofChange rbtreeNearSpec)

/-- ITS FALSE NEIGHBOUR: 'it returns false'. Refute it at one input. -/
def rbtreeNearWrong : ChangeSpec := { name := "rbtreeNear", fn := fun _ => fun
  | [d1, d2, d3] => { results := [.lit (.bool false)], args := [d1, d2, d3] }
  | _ => none }
def RbtreeNearWrongFalsely : Prop := rbtreeNearRow.holds Try.pinned (OpenSpec.ofChange rbtreeNearWrong)

/-- 'bocagelaw06.RbtreeCopies': WHATEVER THE INPUT: true; the input reads as it did. -/
def rbtreeCopiesSpec : ChangeSpec := { name := "rbtreeCopies", fn := fun _ => fun
  | [d1, d2, d3] => { results := [.lit (.bool true)], args := [d1, d2, d3] }
  | _ => none }
def rbtreeCopiesRow : OpenClaim := { program := "ytniemignjlanaaa", sum := "0a29d369789ae7065357b4a0f4bae9c5674bd32f76d92feb4bf467ecc3b43e26", func := "bocage/bocagelaw06.RbtreeCopies", spec := "rbtreeCopies", unfollowed := true, recurses := true, apart := false }
def RbtreeCopiesSaid : Prop := rbtreeCopiesRow.holds Try.pinned (OpenSpec.ofChange rbtreeCopiesSpec)

/-- ITS FALSE NEIGHBOUR: 'it returns false'. Refute it at one input. -/
def rbtreeCopiesWrong : ChangeSpec := { name := "rbtreeCopies", fn := fun _ => fun
  | [d1, d2, d3] => { results := [.lit (.bool false)], args := [d1, d2, d3] }
  | _ => none }
def RbtreeCopiesWrongFalsely : Prop := rbtreeCopiesRow.holds Try.pinned (OpenSpec.ofChange rbtreeCopiesWrong)

/- THE SECOND FORM. 'bulk': how many values and letters a reading holds, each counted each time it is reached (what is shared counts as often as it is met; a slice's spare places count too). A statement '..UptoSaid' is the law's where the arguments, and the package variables that the reading takes, are together of bulk at most 1048576: NARROWER than '..Said'. Prove '..Said' where nothing that the law and all that it calls make is longer than what came in: it says more and counts as full. Else prove '..UptoSaid'. A law counts once. -/
mutual
def uptoBulk {H : Type} : DataW H → Nat
  | .lit (.string bytes) => bytes.length + 1
  | .lit _ => 1
  | .nil => 1
  | .ptr d => uptoBulk d + 1
  | .slice elems spare => uptoBulkAll elems + uptoBulkAll spare + 1
  | .agg parts => uptoBulkAll parts + 1
  | .iface _ d => uptoBulk d + 1
  | .map entries => uptoBulkEntries entries + 1
  | .held _ => 1
def uptoBulkAll {H : Type} : List (DataW H) → Nat
  | [] => 0
  | d :: r => uptoBulk d + uptoBulkAll r
def uptoBulkEntries {H : Type} : List (Lit × DataW H) → Nat
  | [] => 0
  | x :: r => uptoBulkEntry x + uptoBulkEntries r
def uptoBulkEntry {H : Type} : Lit × DataW H → Nat
  | (.string bytes, d) => bytes.length + uptoBulk d + 1
  | (_, d) => uptoBulk d + 1
 end
def uptoSmall : (H : Type) → List (DataW H) → Bool := fun _ ds => decide (uptoBulkAll ds ≤ 1048576)
def OpenSpec.upto (s : _root_.Go.ChangeSpec) : _root_.Go.OpenSpec := { _root_.Go.OpenSpec.ofChange s with cond := some uptoSmall }

/-- 'bocagelaw06.RbtreeRows', WHERE WHAT IT READS IS OF BULK AT MOST 1048576: true; the input reads as it did. -/
def rbtreeRowsUptoRow : OpenClaim := { program := "ytniemignjlanaaa", sum := "0a29d369789ae7065357b4a0f4bae9c5674bd32f76d92feb4bf467ecc3b43e26", func := "bocage/bocagelaw06.RbtreeRows", spec := "rbtreeRows", unfollowed := true, recurses := true, apart := false, narrowed := true }
def RbtreeRowsUptoSaid : Prop := rbtreeRowsUptoRow.holds Try.pinned (OpenSpec.upto rbtreeRowsSpec)

/-- 'bocagelaw06.RbtreeChecks', WHERE WHAT IT READS IS OF BULK AT MOST 1048576: true; the input reads as it did. -/
def rbtreeChecksUptoRow : OpenClaim := { program := "ytniemignjlanaaa", sum := "0a29d369789ae7065357b4a0f4bae9c5674bd32f76d92feb4bf467ecc3b43e26", func := "bocage/bocagelaw06.RbtreeChecks", spec := "rbtreeChecks", unfollowed := true, recurses := true, apart := false, narrowed := true }
def RbtreeChecksUptoSaid : Prop := rbtreeChecksUptoRow.holds Try.pinned (OpenSpec.upto rbtreeChecksSpec)

/-- 'bocagelaw06.RbtreeDown', WHERE WHAT IT READS IS OF BULK AT MOST 1048576: true; the input reads as it did. -/
def rbtreeDownUptoRow : OpenClaim := { program := "ytniemignjlanaaa", sum := "0a29d369789ae7065357b4a0f4bae9c5674bd32f76d92feb4bf467ecc3b43e26", func := "bocage/bocagelaw06.RbtreeDown", spec := "rbtreeDown", unfollowed := true, recurses := true, apart := false, narrowed := true }
def RbtreeDownUptoSaid : Prop := rbtreeDownUptoRow.holds Try.pinned (OpenSpec.upto rbtreeDownSpec)

/-- 'bocagelaw06.RbtreeAll', WHERE WHAT IT READS IS OF BULK AT MOST 1048576: true; the input reads as it did. -/
def rbtreeAllUptoRow : OpenClaim := { program := "ytniemignjlanaaa", sum := "0a29d369789ae7065357b4a0f4bae9c5674bd32f76d92feb4bf467ecc3b43e26", func := "bocage/bocagelaw06.RbtreeAll", spec := "rbtreeAll", unfollowed := true, recurses := true, apart := false, narrowed := true }
def RbtreeAllUptoSaid : Prop := rbtreeAllUptoRow.holds Try.pinned (OpenSpec.upto rbtreeAllSpec)

/-- 'bocagelaw06.RbtreeBetween', WHERE WHAT IT READS IS OF BULK AT MOST 1048576: true; the input reads as it did. -/
def rbtreeBetweenUptoRow : OpenClaim := { program := "ytniemignjlanaaa", sum := "0a29d369789ae7065357b4a0f4bae9c5674bd32f76d92feb4bf467ecc3b43e26", func := "bocage/bocagelaw06.RbtreeBetween", spec := "rbtreeBetween", unfollowed := true, recurses := true, apart := false, narrowed := true }
def RbtreeBetweenUptoSaid : Prop := rbtreeBetweenUptoRow.holds Try.pinned (OpenSpec.upto rbtreeBetweenSpec)

/-- 'bocagelaw06.RbtreeNear', WHERE WHAT IT READS IS OF BULK AT MOST 1048576: true; the input reads as it did. -/
def rbtreeNearUptoRow : OpenClaim := { program := "ytniemignjlanaaa", sum := "0a29d369789ae7065357b4a0f4bae9c5674bd32f76d92feb4bf467ecc3b43e26", func := "bocage/bocagelaw06.RbtreeNear", spec := "rbtreeNear", unfollowed := true, recurses := true, apart := false, narrowed := true }
def RbtreeNearUptoSaid : Prop := rbtreeNearUptoRow.holds Try.pinned (OpenSpec.upto rbtreeNearSpec)

/-- 'bocagelaw06.RbtreeCopies', WHERE WHAT IT READS IS OF BULK AT MOST 1048576: true; the input reads as it did. -/
def rbtreeCopiesUptoRow : OpenClaim := { program := "ytniemignjlanaaa", sum := "0a29d369789ae7065357b4a0f4bae9c5674bd32f76d92feb4bf467ecc3b43e26", func := "bocage/bocagelaw06.RbtreeCopies", spec := "rbtreeCopies", unfollowed := true, recurses := true, apart := false, narrowed := true }
def RbtreeCopiesUptoSaid : Prop := rbtreeCopiesUptoRow.holds Try.pinned (OpenSpec.upto rbtreeCopiesSpec)

end Rows
end Go.Proofs.Ytniemignjlanaaa
