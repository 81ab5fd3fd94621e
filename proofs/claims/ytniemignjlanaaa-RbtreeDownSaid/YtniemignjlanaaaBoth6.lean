import Derived.Test.YtniemignjlanaaaRDo6
import Derived.Test.YtniemignjlanaaaOps6
set_option linter.unusedVariables false
namespace Go.Proofs.Bo
open Go Go.RowKit

/-- A tree of Lt and a row of Lv, both of blocks that were made since w0, apart. -/
def BothP (w0 W : World) (tb : Nat) (room : Int) (v : Value) (Lt Lv : List Sg) : Prop :=
  RB (fun k => w0.heap.size ≤ k ∧ v.ownBlock ≠ some k) W tb room Lt ∧ RowV W v Lv ∧ (∀ k, v.ownBlock = some k → w0.heap.size ≤ k) ∧ Mod (fun _ => False) w0 W

section
variable {w0 W W' : World} {tb : Nat} {room : Int} {v : Value} {Lt Lv L : List Sg}
theorem BothP.mod0 (h : BothP w0 W tb room v Lt Lv) (m : Mod (fun _ => False) W W') : BothP w0 W' tb room v Lt Lv := ⟨h.1.mod0 m, h.2.1.keep m, h.2.2.1, h.2.2.2.trans' m⟩
theorem BothP.fb (h : BothP w0 W tb room v Lt Lv) : FB w0 W tb room Lt := ⟨h.1.mono fun _ hk _ => hk.1, h.2.2.2⟩
theorem BothP.below (h : BothP w0 W tb room v Lt Lv) : Below w0.heap.size w0 W := h.2.2.2.to_below (Nat.le_refl _) fun _ h => h.elim
theorem BothP.start (h : FB w0 W tb room Lt) : BothP w0 W tb room (.slice none 0 0) Lt [] := ⟨h.1.mono fun k hk _ => ⟨hk, by intro e; cases e⟩, RowV.nil _, (by intro k hk; cases hk), h.2⟩
theorem both_do (h : BothP w0 W tb room v L L) (o : Op6) (hf : fit64 o.s.la) : Calls Try.prog 28 #[v, .int .i64 room, .agg (encO6 o).toArray] W fun e W' => ∃ v', e = .returned (.tuple #[v', .bool (do6B o L), .int .i64 (do6E room o L)]) ∧ BothP w0 W' tb room v' L (do6L room o L) ∧ Mod (fun _ => False) W W' := by
  have hb := rb_bound h.1
  refine (doR h.2.1 (rb_row h.1) (by omega) room o hf).mono ?_
  rintro e W1 ⟨v', rfl, R, M, H⟩
  refine ⟨v', rfl, ⟨(h.1.mono fun k hk hlt => ⟨hk.1, fun e => ?_⟩).mod0 M, R, fun k hk => ?_, h.2.2.2.trans' M⟩, M⟩
  · rcases H k hk with e | e
    · exact h.2.2.1 k e
    · exact Nat.le_trans h.2.2.2.size e
  · rcases H k e with e | e
    · exact hk.2 e
    · omega
theorem both_does (h : BothP w0 W tb room v Lt Lv) (o : Op6) (hf : fit64 o.s.la) : Calls Try.prog 20 #[.pointer (some ⟨tb, 0, none⟩), .agg (encO6 o).toArray] W fun e W' => e = .returned (.tuple #[.bool (do6B o Lt), .int .i64 (do6E room o Lt)]) ∧ BothP w0 W' tb room v (do6L room o Lt) Lv := by
  refine (doesZ h.1 o hf).mono ?_
  rintro e W1 ⟨rfl, R, M⟩
  refine ⟨rfl, R.mono fun k hk hlt => ?_, own_mod h.2.1 M fun k hk hX => hX.2 hk, h.2.2.1, h.2.2.2.trans M fun j hj => .inr hj.1⟩
  rcases hk with hk | hk
  · exact hk
  · exact ⟨Nat.le_trans h.2.2.2.size hk, fun e => by have := own_lt h.2.1 e; omega⟩
end
end Go.Proofs.Bo
