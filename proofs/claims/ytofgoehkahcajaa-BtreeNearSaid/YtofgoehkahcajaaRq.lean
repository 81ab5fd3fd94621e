import Derived.Test.YtofgoehkahcajaaBoG
set_option linter.unusedVariables false
set_option linter.unusedSimpArgs false
namespace Go.Proofs.Bo
open Go Go.RowKit

/-- A region that draws its order, whose first operation is forced ahead of all others, which read alone. -/
theorem wp_region_head_quiet {P : Program} {id : Nat} {o0 : Oper} {rest : List Oper} {Q : Exit → Act → World → Prop} {a : Act} {w : World} (hm : P.follows .mixedOrders = true) (hg : o0.guard = none)
    (hr : Region.ready .any (o0 :: rest).toArray (Array.replicate (rest.length + 1) false) = [0])
    (hB : (Region.noSelect (o0 :: rest).toArray && Region.lexFrom .any (o0 :: rest).toArray rest.length 1 ((Array.replicate (rest.length + 1) false).setIfInBounds 0 true)) = true)
    (h : ∀ K : Act → World → Prop, (∀ a1 w1, wpQuiet P (o0 :: rest).toArray (fun w' => ∃ n, w' = w1.drewN n) (fun a' => ∀ w', (∃ n, w' = w1.drewN n) → Q .normal a' w') rest a1 → K a1 w1) → o0.wp P a w.drew K Q) :
    (Code.region id (o0 :: rest).toArray true).wp P Q a w := by
  simp only [Bool.and_eq_true] at hB
  refine wp_region_any hm ?_
  show wpAny P .any (o0 :: rest).toArray Q (rest.length + 1) (Array.replicate (rest.length + 1) false) a w.drew
  refine wpAny_all hr (by simp) ?_
  intro i hi
  simp at hi
  subst hi
  unfold wpOp
  simp only [List.getElem?_toArray, List.getElem?_cons_zero]
  rw [if_pos (by simp [Region.wanted, hg])]
  refine .inl (h _ fun a1 w1 hq => ?_)
  refine wpAny_of_quiet (C := fun w' => ∃ n, w' = w1.drewN n) (Q := fun a' => ∀ w', (∃ n, w' = w1.drewN n) → Q .normal a' w') (fun _ w' hw' h => h w' hw') _ _ _ _ ⟨0, rfl⟩ ?_
  exact wpAnyQ_lex hB.1 rest 1 _ _ (fun j => by simp [Nat.add_comm 1 j]) hB.2 hq
end Go.Proofs.Bo
