import Derived.Test.YtofgoehkahcajaaBoG
set_option linter.unusedVariables false
set_option linter.unusedSimpArgs false
namespace Go.Proofs.Bo
open Go Go.RowKit
section
variable {P : Program}

/-- Operations one by one: free ones (true), or such that come up alone (false); then those from n on, in their order. -/
def fsB (md : Region.Mode) (ops : Array Oper) (n : Nat) : List (Nat × Bool) → Array Bool → Bool
  | [], listed => Region.lexFrom md ops (ops.size - n) n listed
  | (i, true) :: st, listed => (Region.ready md ops listed).contains i && Region.free md ops listed i && fsB md ops n st (listed.setIfInBounds i true)
  | (i, false) :: st, listed => decide (Region.ready md ops listed = [i]) && fsB md ops n st (listed.setIfInBounds i true)
def wpG (P : Program) (l : List Oper) (n : Nat) (Q : Exit → Act → World → Prop) : List (Nat × Bool) → Act → World → Prop
  | [], a, w => wpQuiet P l.toArray (CM w) (fun a2 => ∀ w2, CM w w2 → Q .normal a2 w2) (l.drop n) a
  | (i, true) :: st, a, w => ∃ o v, l.toArray[i]? = some o ∧ Yields P l.toArray o v a ∧ wpG P l n Q st (a.put o.dst v) w
  | (i, false) :: st, a, w => ∃ o, l[i]? = some o ∧ Region.wanted o (yielded l.toArray a.tmps) = true ∧ ∀ K : Act → World → Prop, (∀ a1 w1, wpG P l n Q st a1 w1 → K a1 w1) → o.wp P a w K Q

theorem wpG_free {l : List Oper} {n : Nat} {Q : Exit → Act → World → Prop} {i : Nat} {st : List (Nat × Bool)} {a : Act} {w : World} (o : Oper) (ho : l.toArray[i]? = some o)
    (h : ∀ K' : Act → Prop, (∀ a, wpG P l n Q st a w → K' a) → Region.wanted o (yielded l.toArray a.tmps) = true ∧ ∃ v, (∀ w, (execOp a.eval o).run P w = .ok (.value v) w) ∧ K' (a.put o.dst v)) : wpG P l n Q ((i, true) :: st) a w := by
  obtain ⟨h1, v, h2, h3⟩ := h _ fun _ h => h
  exact ⟨o, v, ho, .inl ⟨h1, h2⟩, h3⟩
theorem wpG_one {l : List Oper} {n : Nat} {Q : Exit → Act → World → Prop} {i : Nat} {st : List (Nat × Bool)} {a : Act} {w : World} (o : Oper) (ho : l[i]? = some o)
    (h : Region.wanted o (yielded l.toArray a.tmps) = true ∧ ∀ K : Act → World → Prop, (∀ a1 w1, wpG P l n Q st a1 w1 → K a1 w1) → o.wp P a w K Q) : wpG P l n Q ((i, false) :: st) a w := ⟨o, ho, h.1, h.2⟩
theorem wpG_rest {l : List Oper} {n : Nat} {Q : Exit → Act → World → Prop} {a : Act} {w : World} (h : wpQuiet P l.toArray (CM w) (fun a2 => ∀ w2, CM w w2 → Q .normal a2 w2) (l.drop n) a) : wpG P l n Q [] a w := h

/-- **A region that draws its order, in stages.** -/
theorem fs_region {id : Nat} {Q : Exit → Act → World → Prop} {a : Act} {w : World} {l : List Oper} (n : Nat) (st : List (Nat × Bool)) (hm : P.follows .mixedOrders = true)
    (hB : (Region.noSelect l.toArray && decide (st.length = n) && decide (n ≤ l.length) && fsB .any l.toArray n st (Array.replicate l.toArray.size false)) = true)
    (h : ∀ Q0 : Exit → Act → World → Prop, (∀ a w, Q .normal a w → Q0 .normal a w) → wpG P l n Q0 st a (w.drewN 1)) :
    (Code.region id l.toArray true).wp P Q a w := by
  refine Code.wp_mono NoP.imp ?_
  have hQ : ∀ c (a : Act) (d : Option Tmp) (v : Value) (w : World), NoP Q (.panic c) (a.put d v) w → NoP Q (.panic c) a w := fun _ _ _ _ _ h => h
  replace h := h (NoP Q) fun _ _ h => h
  generalize NoP Q = Q at h hQ
  simp only [Bool.and_eq_true, decide_eq_true_eq] at hB
  obtain ⟨⟨⟨hsel, hlen⟩, hn⟩, hB⟩ := hB
  have key : ∀ (st : List (Nat × Bool)) (listed : Array Bool) (a : Act) (w : World), fsB .any l.toArray n st listed = true → wpG P l n Q st a w → wpAny P .any l.toArray Q (st.length + (l.toArray.size - n)) listed a w := by
    intro st
    induction st with
    | nil =>
      intro listed a w hb h
      rw [List.length_nil, Nat.zero_add]
      refine wpAny_of_quiet (C := CM w) (Q := fun a' => ∀ w', CM w w' → Q .normal a' w') (fun _ w' hw' h => h w' hw') _ _ _ _ (Mod.refl _ _) ?_
      have hd2 : (l.drop n).length = l.toArray.size - n := by simp
      have := wpAnyQ_lex (P := P) (C := CM w) (md := .any) (ops := l.toArray) hsel (l.drop n) n listed a (fun j => by simp) (by rw [hd2]; exact hb) h
      rw [hd2] at this
      exact this
    | cons x st ih =>
      obtain ⟨i, f⟩ := x
      intro listed a w hb h
      rw [List.length_cons, Nat.add_right_comm]
      cases f with
      | true =>
        simp only [fsB, Bool.and_eq_true] at hb
        obtain ⟨o, v, ho, hy, hK⟩ := h
        have hr : i ∈ Region.ready .any l.toArray listed := by simpa using hb.1.1
        exact wpAny_first ho (Region.noSelect_spec hsel) (fun c a w => hQ c a _ _ w) _ _ _ _ (Region.free_spec ho hb.1.2) hr hy (ih _ _ _ hb.2 hK)
      | false =>
        simp only [fsB, Bool.and_eq_true, decide_eq_true_eq] at hb
        obtain ⟨o, ho, hw, hK⟩ := h
        refine wpAny_all hb.1 (by simp) ?_
        intro j hj
        simp at hj
        subst hj
        unfold wpOp
        simp only [List.getElem?_toArray, ho]
        rw [if_pos hw]
        exact .inl (hK _ fun a1 w1 hq => ih _ _ _ hb.2 hq)
  refine wp_region_any hm ?_
  have := key st _ a _ hB h
  have e : st.length + (l.toArray.size - n) = l.toArray.size := by simp; omega
  rw [e] at this
  exact this
end
end Go.Proofs.Bo
