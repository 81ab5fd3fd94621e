import Derived.Test.YtmdeoeppobpjbaaStands5
set_option linter.unusedVariables false
namespace Go.Proofs.Bo
open Go Go.RowKit

/-- An arena, and the reference's one in a block: they have the same things. -/
def Both (B tb ab : Nat) (W : World) (room : Int) (l : List (Option Int)) (F : List Int) : Prop :=
  ∃ A c A' c' L, W.heap[tb]? = some (.cells #[.int .i64 room, .int .i64 l.length, .slice A F.length c, .slice A' l.length c'] 48 (0, 0)) ∧ RV W (.slice A F.length c) (.slice A' l.length c') F L ∧ Rel L l ∧
    ArX (fun j => B ≤ j ∧ j ≠ tb ∧ ¬ RF (.slice A F.length c) (.slice A' l.length c') j) W ab room l F ∧ B ≤ tb ∧ tb < W.heap.size

section
variable {B tb ab : Nat} {W W' : World} {room : Int} {l : List (Option Int)} {F : List Int}

theorem RV.ne_R {w : World} {fv Lv : Value} {free L : List Int} {tb : Nat} {cs : Array Value} (h : RV w fv Lv free L) (ht : w.heap[tb]? = some (.cells cs 48 (0, 0))) : ¬ RF fv Lv tb := by
  rintro (e | e)
  · obtain ⟨cs', h'⟩ := own_type h.f e
    rw [ht] at h'; injection h' with h'; injection h' with _ h'; exact absurd h' (by decide)
  · obtain ⟨cs', h'⟩ := own_type h.l e
    rw [ht] at h'; injection h' with h'; injection h' with _ h'; exact absurd h' (by decide)

theorem Both.below (h : Both B tb ab W room l F) (hm : Mod (fun _ => False) W W') : Both B tb ab W' room l F := by
  obtain ⟨A, c, A', c', L, ht, R, hL, hA, hB, hT⟩ := h
  exact ⟨A, c, A', c', L, hm.heap ht fun h => h, R.mod0 hm, hL, hA.mod hm fun _ _ h => h, hB, hm.lt hT⟩

theorem Both.start {w w1 W : World} (hA : ArB B w1 ab room [] []) (hm : Mod (fun _ => False) w1 w) (hW : w.alloc (.cells #[.int .i64 room, .int .i64 0, .slice none 0 0, .slice none 0 0] 48) = W) : Both B w.heap.size ab W room [] [] := by
  subst hW
  have hs := hm.size
  refine ⟨none, 0, none, 0, [], alloc_0 _ _, ⟨World.ownsRow_nil _ _ _ _, World.ownsRow_nil _ _ _ _⟩, ⟨rfl, by simp⟩, ?_, Nat.le_trans hA.1 hs, by simp⟩
  refine (hA.2.mono (Y := fun j => B ≤ j ∧ j < w1.heap.size) fun j h1 h2 => ⟨h1, h2⟩).mod (hm.alloc _) (fun _ _ h => h) |>.mono ?_
  rintro j ⟨h1, h2⟩ _
  exact ⟨h1, by omega, by rintro (e | e) <;> cases e⟩

/-- Behind the reference's call: its state is in the block tb, the arena is as it was. -/
theorem Both.mid {W1 w2 W3 : World} {A A2 A' A2' : Option Addr} {c c2 c' c2' : Nat} {l2 : List (Option Int)} {F2 L2 : List Int} (hT : tb < W.heap.size)
    (hA : ArX (fun j => B ≤ j ∧ j ≠ tb ∧ ¬ RF (.slice A F.length c) (.slice A' l.length c') j) W ab room l F) (m1 : Mod (fun _ => False) W W1) (m2 : Mod (fun _ => False) W1 w2) (m3 : Mod (fun j => j = tb) w2 W3)
    (R2 : RV w2 (.slice A2 F2.length c2) (.slice A2' l2.length c2') F2 L2) (hk : ∀ k, RF (.slice A2 F2.length c2) (.slice A2' l2.length c2') k → RF (.slice A F.length c) (.slice A' l.length c') k ∨ W1.heap.size ≤ k)
    (hn : ¬ RF (.slice A2 F2.length c2) (.slice A2' l2.length c2') tb) :
    ArX (fun j => (B ≤ j ∧ j ≠ tb ∧ ¬ RF (.slice A2 F2.length c2) (.slice A2' l2.length c2') j) ∧ j < W.heap.size) W3 ab room l F ∧ RV W3 (.slice A2 F2.length c2) (.slice A2' l2.length c2') F2 L2 := by
  have h1 := m1.size
  have h2 := m2.size
  refine ⟨((hA.mono (Y := fun j => (B ≤ j ∧ j ≠ tb ∧ ¬ RF (.slice A2 F2.length c2) (.slice A2' l2.length c2') j) ∧ j < W.heap.size) ?_).mod (m1.trans' m2) fun _ _ h => h).mod m3 fun j hj e => hj.1.2.1 e, R2.mod m3 fun j hj e => hn (e ▸ hj)⟩
  rintro j ⟨a1, a2, a3⟩ hlt
  refine ⟨⟨a1, a2, fun h => ?_⟩, hlt⟩
  rcases hk j h with h | h
  · exact a3 h
  · omega

theorem Both.fin {W3 w5 : World} {A2 A2' : Option Addr} {c2 c2' : Nat} {l2 : List (Option Int)} {F2 L2 : List Int} (hB : B ≤ tb) (hT : tb < W3.heap.size) (hBW : W.heap.size ≤ W3.heap.size) (hBW2 : B ≤ W.heap.size)
    (ht : W3.heap[tb]? = some (.cells #[.int .i64 room, .int .i64 l2.length, .slice A2 F2.length c2, .slice A2' l2.length c2'] 48 (0, 0))) (R3 : RV W3 (.slice A2 F2.length c2) (.slice A2' l2.length c2') F2 L2) (hL2 : Rel L2 l2)
    (hA : ArX (fun j => ((B ≤ j ∧ j ≠ tb ∧ ¬ RF (.slice A2 F2.length c2) (.slice A2' l2.length c2') j) ∧ j < W.heap.size) ∨ W3.heap.size ≤ j) w5 ab room l2 F2)
    (m5 : Mod (fun j => (B ≤ j ∧ j ≠ tb ∧ ¬ RF (.slice A2 F2.length c2) (.slice A2' l2.length c2') j) ∧ j < W.heap.size) W3 w5) : Both B tb ab w5 room l2 F2 ∧ Below B W3 w5 := by
  refine ⟨⟨A2, c2, A2', c2', L2, m5.heap ht fun h => h.1.2.1 rfl, R3.mod m5 fun j hj h => h.1.2.2 hj, hL2, hA.mono ?_, hB, m5.lt hT⟩, m5.to_below (Nat.le_trans hBW2 hBW) fun j h => h.1.1⟩
  rintro j (h | h) _
  · exact h.1
  · exact ⟨by omega, by omega, fun hr => by have := R3.lt hr; omega⟩
end
end Go.Proofs.Bo
