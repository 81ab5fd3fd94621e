/-
  No cell of these rows narrows 'for every input' (looked for: loops, veiled, ifaces, maps, wideKeys, modest, calm, conditions, laid).
  DERIVED. THE GIVEN ROWS OF THIS SEAT. 7 by the template 'for every input the law returns true; each argument reads behind the call as it read before'; 0 by the template 'total and deterministic' (their statements: YtmdeoeppobpjbaaTotals.lean).
  GIVEN WITH THE SEED: the statements are not yours to turn. If you find one false, say at which input.
  Laid BY PROGRAM, IN A SANDBOX (cutbox-rows.mjs): the forced cells as the released guide's own fill.sh prints them over the translation 61fa541513e4d8b6… (all of the seat's roots in one cut). By AI agents, Wed Nov 11 2026. No macro, syntax, notation, axiom, sorry.
-/
import Derived.Test.YtmdeoeppobpjbaaChecked
import GoSem.Claim
import GoSem.ClaimJoined
import GoSem.ClaimMapViews
import Derived.JoinedTies
import Derived.KernelRfl
namespace Go.Proofs.Ytmdeoeppobpjbaa
/- THE CELL 'sum', in the pinned program and in every row, IS THE sha256 OF THE DUMP (.gsa) THAT YtmdeoeppobpjbaaProg.lean LOADS. Nothing in Lean hashes anything: it is a label: what it is worth is what the hold of that sum in a sandbox is worth. -/
noncomputable def Try.pinned : Pinned := { name := "ytmdeoeppobpjbaa", sum := "61fa541513e4d8b6da654c08147ba9365f8cf131b8c15a0a5e7e266cdb72b234", checked := Try.checked }
namespace Rows
def none {H : Type} : Left H := { results := [], args := [] }

/-- 'bocagelaw05.ArenaLast': WHATEVER THE INPUT: true; the input reads as it did. -/
def arenaLastSpec : ChangeSpec := { name := "arenaLast", fn := fun _ => fun
  | [d1, d2] => { results := [.lit (.bool true)], args := [d1, d2] }
  | _ => none }
def arenaLastRow : OpenClaim := { program := "ytmdeoeppobpjbaa", sum := "61fa541513e4d8b6da654c08147ba9365f8cf131b8c15a0a5e7e266cdb72b234", func := "bocage/bocagelaw05.ArenaLast", spec := "arenaLast", apart := false }
def ArenaLastSaid : Prop := arenaLastRow.holds Try.pinned (OpenSpec.ofChange arenaLastSpec)

/-- ITS FALSE NEIGHBOUR: 'it returns false'. Refute it at one input. -/
def arenaLastWrong : ChangeSpec := { name := "arenaLast", fn := fun _ => fun
  | [d1, d2] => { results := [.lit (.bool false)], args := [d1, d2] }
  | _ => none }
def ArenaLastWrongFalsely : Prop := arenaLastRow.holds Try.pinned (OpenSpec.ofChange arenaLastWrong)

/-- 'bocagelaw05.ArenaKeeps': WHATEVER THE INPUT: true; the input reads as it did. -/
def arenaKeepsSpec : ChangeSpec := { name := "arenaKeeps", fn := fun _ => fun
  | [d1, d2, d3] => { results := [.lit (.bool true)], args := [d1, d2, d3] }
  | _ => none }
def arenaKeepsRow : OpenClaim := { program := "ytmdeoeppobpjbaa", sum := "61fa541513e4d8b6da654c08147ba9365f8cf131b8c15a0a5e7e266cdb72b234", func := "bocage/bocagelaw05.ArenaKeeps", spec := "arenaKeeps", apart := false }
def ArenaKeepsSaid : Prop := arenaKeepsRow.holds Try.pinned (OpenSpec.ofChange arenaKeepsSpec)

/-- ITS FALSE NEIGHBOUR: 'it returns false'. Refute it at one input. -/
def arenaKeepsWrong : ChangeSpec := { name := "arenaKeeps", fn := fun _ => fun
  | [d1, d2, d3] => { results := [.lit (.bool false)], args := [d1, d2, d3] }
  | _ => none }
def ArenaKeepsWrongFalsely : Prop := arenaKeepsRow.holds Try.pinned (OpenSpec.ofChange arenaKeepsWrong)

/-- 'bocagelaw05.ArenaPlaces': WHATEVER THE INPUT: true; the input reads as it did. -/
def arenaPlacesSpec : ChangeSpec := { name := "arenaPlaces", fn := fun _ => fun
  | [d1, d2] => { results := [.lit (.bool true)], args := [d1, d2] }
  | _ => none }
def arenaPlacesRow : OpenClaim := { program := "ytmdeoeppobpjbaa", sum := "61fa541513e4d8b6da654c08147ba9365f8cf131b8c15a0a5e7e266cdb72b234", func := "bocage/bocagelaw05.ArenaPlaces", spec := "arenaPlaces", apart := false }
def ArenaPlacesSaid : Prop := arenaPlacesRow.holds Try.pinned (OpenSpec.ofChange arenaPlacesSpec)

/-- ITS FALSE NEIGHBOUR: 'it returns false'. Refute it at one input. -/
def arenaPlacesWrong : ChangeSpec := { name := "arenaPlaces", fn := fun _ => fun
  | [d1, d2] => { results := [.lit (.bool false)], args := [d1, d2] }
  | _ => none }
def ArenaPlacesWrongFalsely : Prop := arenaPlacesRow.holds Try.pinned (OpenSpec.ofChange arenaPlacesWrong)

/-- 'bocagelaw05.ArenaStops': WHATEVER THE INPUT: true; the input reads as it did. -/
def arenaStopsSpec : ChangeSpec := { name := "arenaStops", fn := fun _ => fun
  | [d1, d2, d3] => { results := [.lit (.bool true)], args := [d1, d2, d3] }
  | _ => none }
def arenaStopsRow : OpenClaim := { program := "ytmdeoeppobpjbaa", sum := "61fa541513e4d8b6da654c08147ba9365f8cf131b8c15a0a5e7e266cdb72b234", func := "bocage/bocagelaw05.ArenaStops", spec := "arenaStops", unfollowed := true, recurses := true, apart := false }
def ArenaStopsSaid : Prop := arenaStopsRow.holds Try.pinned (OpenSpec.ofChange arenaStopsSpec)

/-- ITS FALSE NEIGHBOUR: 'it returns false'. Refute it at one input. -/
def arenaStopsWrong : ChangeSpec := { name := "arenaStops", fn := fun _ => fun
  | [d1, d2, d3] => { results := [.lit (.bool false)], args := [d1, d2, d3] }
  | _ => none }
def ArenaStopsWrongFalsely : Prop := arenaStopsRow.holds Try.pinned (OpenSpec.ofChange arenaStopsWrong)

/-- 'bocagelaw05.ArenaAll': WHATEVER THE INPUT: true; the input reads as it did. -/
def arenaAllSpec : ChangeSpec := { name := "arenaAll", fn := fun _ => fun
  | [d1, d2] => { results := [.lit (.bool true)], args := [d1, d2] }
  | _ => none }
def arenaAllRow : OpenClaim := { program := "ytmdeoeppobpjbaa", sum := "61fa541513e4d8b6da654c08147ba9365f8cf131b8c15a0a5e7e266cdb72b234", func := "bocage/bocagelaw05.ArenaAll", spec := "arenaAll", unfollowed := true, recurses := true, apart := false }
def ArenaAllSaid : Prop := arenaAllRow.holds Try.pinned (OpenSpec.ofChange arenaAllSpec)

/-- ITS FALSE NEIGHBOUR: 'it returns false'. Refute it at one input. -/
def arenaAllWrong : ChangeSpec := { name := "arenaAll", fn := fun _ => fun
  | [d1, d2] => { results := [.lit (.bool false)], args := [d1, d2] }
  | _ => none }
def ArenaAllWrongFalsely : Prop := arenaAllRow.holds Try.pinned (OpenSpec.ofChange arenaAllWrong)

/-- 'bocagelaw05.ArenaWrites': WHATEVER THE INPUT: true; the input reads as it did. -/
def arenaWritesSpec : ChangeSpec := { name := "arenaWrites", fn := fun _ => fun
  | [d1, d2, d3] => { results := [.lit (.bool true)], args := [d1, d2, d3] }
  | _ => none }
def arenaWritesRow : OpenClaim := { program := "ytmdeoeppobpjbaa", sum := "61fa541513e4d8b6da654c08147ba9365f8cf131b8c15a0a5e7e266cdb72b234", func := "bocage/bocagelaw05.ArenaWrites", spec := "arenaWrites", unfollowed := true, recurses := true, apart := false }
def ArenaWritesSaid : Prop := arenaWritesRow.holds Try.pinned (OpenSpec.ofChange arenaWritesSpec)

/-- ITS FALSE NEIGHBOUR: 'it returns false'. Refute it at one input. -/
def arenaWritesWrong : ChangeSpec := { name := "arenaWrites", fn := fun _ => fun
  | [d1, d2, d3] => { results := [.lit (.bool false)], args := [d1, d2, d3] }
  | _ => none }
def ArenaWritesWrongFalsely : Prop := arenaWritesRow.holds Try.pinned (OpenSpec.ofChange arenaWritesWrong)

/-- 'bocagelaw05.ArenaCopies': WHATEVER THE INPUT: true; the input reads as it did. -/
def arenaCopiesSpec : ChangeSpec := { name := "arenaCopies", fn := fun _ => fun
  | [d1, d2, d3] => { results := [.lit (.bool true)], args := [d1, d2, d3] }
  | _ => none }
def arenaCopiesRow : OpenClaim := { program := "ytmdeoeppobpjbaa", sum := "61fa541513e4d8b6da654c08147ba9365f8cf131b8c15a0a5e7e266cdb72b234", func := "bocage/bocagelaw05.ArenaCopies", spec := "arenaCopies", unfollowed := true, recurses := true, apart := false }
def ArenaCopiesSaid : Prop := arenaCopiesRow.holds Try.pinned (OpenSpec.ofChange arenaCopiesSpec)

/-- ITS FALSE NEIGHBOUR: 'it returns false'. Refute it at one input. -/
def arenaCopiesWrong : ChangeSpec := { name := "arenaCopies", fn := fun _ => fun
  | [d1, d2, d3] => { results := [.lit (.bool false)], args := [d1, d2, d3] }
  | _ => none }
def ArenaCopiesWrongFalsely : Prop := arenaCopiesRow.holds Try.pinned (OpenSpec.ofChange arenaCopiesWrong)

/- THE SECOND FORM. 'bulk': how many values and letters a reading holds, each counted each time it is reached (what is shared counts as often as it is met; a slice's spare places count too). A statement '..UptoSaid' is the law's where the arguments, and the package variables that the reading takes, are together of bulk at most 1048576: NARROWER than '..Said'. Prove '..Said' where nothing that the law and all that it calls make is longer than what came in: it says more and counts as full. Else prove '..UptoSaid'. A law counts once. -/
mutual
def uptoBulk {H : Type} : DataW H → Nat
  | .lit (.string bytes) => bytes.length + 1
  | .lit _ => 1
  | .nil => 1
  | .ptr d => uptoBulk d + 1
  | .slice elems spare => uptoBulkAll elems + uptoBulkAll spare + 1
  | .agg parts => uptoBulkAll parts + 1
  | .iface _ d => uptoBulk d + 1
  | .map entries => uptoBulkEntries entries + 1
  | .held _ => 1
def uptoBulkAll {H : Type} : List (DataW H) → Nat
  | [] => 0
  | d :: r => uptoBulk d + uptoBulkAll r
def uptoBulkEntries {H : Type} : List (Lit × DataW H) → Nat
  | [] => 0
  | x :: r => uptoBulkEntry x + uptoBulkEntries r
def uptoBulkEntry {H : Type} : Lit × DataW H → Nat
  | (.string bytes, d) => bytes.length + uptoBulk d + 1
  | (_, d) => uptoBulk d + 1
 end
def uptoSmall : (H : Type) → List (DataW H) → Bool := fun _ ds => decide (uptoBulkAll ds ≤ 1048576)
def OpenSpec.upto (s : _root_.Go.ChangeSpec) : _root_.Go.OpenSpec := { _root_.Go.OpenSpec.ofChange s with cond := some uptoSmall }

/-- 'bocagelaw05.ArenaLast', WHERE WHAT IT READS IS OF BULK AT MOST 1048576: true; the input reads as it did. -/
def arenaLastUptoRow : OpenClaim := { program := "ytmdeoeppobpjbaa", sum := "61fa541513e4d8b6da654c08147ba9365f8cf131b8c15a0a5e7e266cdb72b234", func := "bocage/bocagelaw05.ArenaLast", spec := "arenaLast", apart := false, narrowed := true }
def ArenaLastUptoSaid : Prop := arenaLastUptoRow.holds Try.pinned (OpenSpec.upto arenaLastSpec)

/-- 'bocagelaw05.ArenaKeeps', WHERE WHAT IT READS IS OF BULK AT MOST 1048576: true; the input reads as it did. -/
def arenaKeepsUptoRow : OpenClaim := { program := "ytmdeoeppobpjbaa", sum := "61fa541513e4d8b6da654c08147ba9365f8cf131b8c15a0a5e7e266cdb72b234", func := "bocage/bocagelaw05.ArenaKeeps", spec := "arenaKeeps", apart := false, narrowed := true }
def ArenaKeepsUptoSaid : Prop := arenaKeepsUptoRow.holds Try.pinned (OpenSpec.upto arenaKeepsSpec)

/-- 'bocagelaw05.ArenaPlaces', WHERE WHAT IT READS IS OF BULK AT MOST 1048576: true; the input reads as it did. -/
def arenaPlacesUptoRow : OpenClaim := { program := "ytmdeoeppobpjbaa", sum := "61fa541513e4d8b6da654c08147ba9365f8cf131b8c15a0a5e7e266cdb72b234", func := "bocage/bocagelaw05.ArenaPlaces", spec := "arenaPlaces", apart := false, narrowed := true }
def ArenaPlacesUptoSaid : Prop := arenaPlacesUptoRow.holds Try.pinned (OpenSpec.upto arenaPlacesSpec)

/-- 'bocagelaw05.ArenaStops', WHERE WHAT IT READS IS OF BULK AT MOST 1048576: true; the input reads as it did. -/
def arenaStopsUptoRow : OpenClaim := { program := "ytmdeoeppobpjbaa", sum := "61fa541513e4d8b6da654c08147ba9365f8cf131b8c15a0a5e7e266cdb72b234", func := "bocage/bocagelaw05.ArenaStops", spec := "arenaStops", unfollowed := true, recurses := true, apart := false, narrowed := true }
def ArenaStopsUptoSaid : Prop := arenaStopsUptoRow.holds Try.pinned (OpenSpec.upto arenaStopsSpec)

/-- 'bocagelaw05.ArenaAll', WHERE WHAT IT READS IS OF BULK AT MOST 1048576: true; the input reads as it did. -/
def arenaAllUptoRow : OpenClaim := { program := "ytmdeoeppobpjbaa", sum := "61fa541513e4d8b6da654c08147ba9365f8cf131b8c15a0a5e7e266cdb72b234", func := "bocage/bocagelaw05.ArenaAll", spec := "arenaAll", unfollowed := true, recurses := true, apart := false, narrowed := true }
def ArenaAllUptoSaid : Prop := arenaAllUptoRow.holds Try.pinned (OpenSpec.upto arenaAllSpec)

/-- 'bocagelaw05.ArenaWrites', WHERE WHAT IT READS IS OF BULK AT MOST 1048576: true; the input reads as it did. -/
def arenaWritesUptoRow : OpenClaim := { program := "ytmdeoeppobpjbaa", sum := "61fa541513e4d8b6da654c08147ba9365f8cf131b8c15a0a5e7e266cdb72b234", func := "bocage/bocagelaw05.ArenaWrites", spec := "arenaWrites", unfollowed := true, recurses := true, apart := false, narrowed := true }
def ArenaWritesUptoSaid : Prop := arenaWritesUptoRow.holds Try.pinned (OpenSpec.upto arenaWritesSpec)

/-- 'bocagelaw05.ArenaCopies', WHERE WHAT IT READS IS OF BULK AT MOST 1048576: true; the input reads as it did. -/
def arenaCopiesUptoRow : OpenClaim := { program := "ytmdeoeppobpjbaa", sum := "61fa541513e4d8b6da654c08147ba9365f8cf131b8c15a0a5e7e266cdb72b234", func := "bocage/bocagelaw05.ArenaCopies", spec := "arenaCopies", unfollowed := true, recurses := true, apart := false, narrowed := true }
def ArenaCopiesUptoSaid : Prop := arenaCopiesUptoRow.holds Try.pinned (OpenSpec.upto arenaCopiesSpec)

end Rows
end Go.Proofs.Ytmdeoeppobpjbaa
