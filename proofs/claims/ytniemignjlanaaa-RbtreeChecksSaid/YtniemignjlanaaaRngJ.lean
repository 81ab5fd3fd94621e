import Derived.Test.YtniemignjlanaaaRng
set_option linter.unusedVariables false
namespace Go.Proofs.Bo
open Go Go.RowKit Go.Shelf

/-- Between two rounds: blocks of S alone are the loop's own; of them R; all else is as it was when the loop began. -/
def RngI {α : Type} (W1 : World) (S : Nat → Prop) (R : List α → World → Prop) : List α → (Nat → Prop) → World → Prop := fun pre G W =>
  (∀ j, G j ↔ S j) ∧ Mod S W1 W ∧ R pre W
/-- It looks at S alone. -/
def Looks {α : Type} (S : Nat → Prop) (R : List α → World → Prop) : Prop := ∀ pre W W', R pre W → (∀ j, S j → W'.heap[j]? = W.heap[j]?) → R pre W'
theorem RngI.stab {α : Type} {W1 : World} {S : Nat → Prop} {R : List α → World → Prop} (hR : Looks S R) (hS : ∀ j, S j → j < W1.heap.size) : Stab W1.heap.size (RngI W1 S R) := by
  rintro s G W W' T ⟨g1, g2, g3⟩ m t
  exact ⟨g1, g2.trans m fun j h => .inr (t j h).1, hR _ _ _ g3 fun j hj => m.block j (Nat.lt_of_lt_of_le (hS j hj) g2.size) fun h => (t j h).2 ((g1 j).2 hj)⟩
theorem RngI.step {α : Type} {W1 W W' : World} {S : Nat → Prop} {R R' : List α → World → Prop} {pre pre' : List α} {G : Nat → Prop} (h : RngI W1 S R pre G W) (hS : ∀ j, S j → j < W1.heap.size) (m : Mod S W W') (hr : R' pre' W') :
    ∃ G', (∀ k, G' k → (G k ∨ W.heap.size ≤ k) ∧ k < W'.heap.size) ∧ Mod G W W' ∧ RngI W1 S R' pre' G' W' := by
  obtain ⟨g1, g2, g3⟩ := h
  exact ⟨S, fun k hk => ⟨.inl ((g1 k).2 hk), Nat.lt_of_lt_of_le (hS k hk) (Nat.le_trans g2.size m.size)⟩, m.mono fun i hi => .inl ((g1 i).2 hi), fun _ => Iff.rfl, g2.trans' m, hr⟩
theorem RngI.start {α : Type} {W1 : World} {S : Nat → Prop} {R : List α → World → Prop} (hr : R [] W1) : RngI W1 S R [] S W1 := ⟨fun _ => Iff.rfl, Mod.refl _ _, hr⟩

/-- How the body of a round may be left: blocks of S have changed, and new ones. -/
def rndE {α : Type} (S : Nat → Prop) (R : List α → World → Prop) (Ix : Code → List α → World → Prop) (pre : List α) (W : World) : Exit → Act → World → Prop
  | .normal, _, W' => Mod S W W' ∧ R pre W'
  | .ret, _, W' => Mod S W W' ∧ Ix .ret pre W'
  | .exit id, _, W' => Mod S W W' ∧ Ix (.exit id) pre W'
  | .goto t, _, W' => Mod S W W' ∧ Ix (.goto t) pre W'
  | .panic _, _, _ => False
  | .outgrown, _, _ => False

section
variable {P : Program} {α : Type} {W1 W : World} {S : Nat → Prop} {R : List α → World → Prop} {Ix : Code → List α → World → Prop} {pre : List α} {G : Nat → Prop}

theorem rnd_to (g1 : ∀ j, S j → G j ∨ W.heap.size ≤ j) (g2 : Mod S W1 W) (hS : ∀ j, S j → j < W1.heap.size) {e : Exit} {a : Act} {W' : World} (h : rndE S R Ix pre W e a W') :
    roundEnd (RngI W1 S R) (fun c => RngI W1 S (Ix c)) pre G W e a W' := by
  have key : ∀ (R' : List α → World → Prop), Mod S W W' → R' pre W' → ∃ G', (∀ k, G' k → (G k ∨ W.heap.size ≤ k) ∧ k < W'.heap.size) ∧ Mod G W W' ∧ RngI W1 S R' pre G' W' := fun R' m hr =>
    ⟨S, fun k hk => ⟨g1 k hk, Nat.lt_of_lt_of_le (hS k hk) (Nat.le_trans g2.size m.size)⟩, m.mono g1, fun _ => Iff.rfl, g2.trans' m, hr⟩
  cases e <;> first | exact key _ h.1 h.2 | exact h.elim

/-- 'for .. := range g { .. }': no memory is made for the loop's variables. -/
theorem wp_range0 {g : Operand} {ps : Array Tmp} {assign body : Code} {Q : Exit → Act → World → Prop} {a : Act} {w : World}
    {gf : Nat} {lb : Array Value} (hg : a.eval g = .func (.func gf) #[] lb) (eg : ∀ args w, (callFunc gf args).run P w = .ok (.enter gf args) w)
    {encs : α → Array Value} {xs : List α} {H : Nat → Prop} (hit : Iter P gf lb encs xs H w) (hps : ∀ x, (encs x).size = ps.size)
    (S : Nat → Prop) (hS : ∀ k, S k → k < w.heap.size) (hH : ∀ k, H k → ¬ S k) (hHl : ∀ k, H k → k < w.heap.size)
    (R : List α → World → Prop) (Ix : Code → List α → World → Prop) (hR : Looks S R) (hIx : ∀ c, Looks S (Ix c)) (h0 : R [] w)
    (hab : ∃ F : α → Act,
      (∀ (l : Nat) (x : α) (W : World) (K : Act → World → Prop), K (F x) W → assign.wpIn (Fence.wide.inRound l) 0 P (Exit.then K (fun _ _ _ => False)) { tmps := (ps.zip (encs x)).foldl (fun t (p, v) => t.setIfInBounds p v) a.tmps, defers := [] } W) ∧
      (∀ (l : Nat) (pre : List α) (x : α) (rest : List α) (W : World), xs = pre ++ x :: rest → Mod S w W → R pre W → body.wpIn (Fence.wide.inRound l) 0 P (rndE S R Ix (pre ++ [x]) W) (F x) W))
    (hdone : ∀ (W : World), Mod S w W → R xs W → W.heap[w.heap.size]? = some (.deferred (some [])) → Q .normal { a with defers := { target := .collected w.heap.size, args := #[] } :: a.defers } W)
    (hstop : ∀ (c : Code) (pre : List α) (W : World), pre <+: xs → Mod S w W → Ix c pre W → W.heap[w.heap.size]? = some (.deferred (some [])) → c.wp P Q { a with defers := { target := .collected w.heap.size, args := #[] } :: a.defers } W) :
    (Code.rangeFunc g ps assign body).wp P Q a w := by
  obtain ⟨F, h1, h2⟩ := hab
  refine wp_range' hg eg hit (Mod.refl _ _) hps S hS hH hHl (RngI w S R) (fun c => RngI w S (Ix c)) (RngI.stab hR hS) (fun c => RngI.stab (hIx c) hS) (RngI.start h0) ⟨F, h1, ?_⟩ ?_ ?_
  · intro l pre x rest G W hx hi _
    exact wpIn_mono (h2 l pre x rest W hx hi.2.1 hi.2.2) fun e a' W' hq => rnd_to (fun j hj => .inl ((hi.1 j).2 hj)) hi.2.1 hS hq
  · exact fun G W hi _ hk => hdone W hi.2.1 hi.2.2 hk
  · exact fun c pre G W hp hi _ hk => hstop c pre W hp hi.2.1 hi.2.2 hk

/-- Such a loop whose variable lies in a block of the round's own. -/
theorem wp_range1 {g : Operand} {ps : Array Tmp} {assign body : Code} {Q : Exit → Act → World → Prop} {a : Act} {w : World}
    {gf : Nat} {lb : Array Value} (hg : a.eval g = .func (.func gf) #[] lb) (eg : ∀ args w, (callFunc gf args).run P w = .ok (.enter gf args) w)
    {encs : α → Array Value} {xs : List α} {H : Nat → Prop} (hit : Iter P gf lb encs xs H w) (hps : ∀ x, (encs x).size = ps.size)
    (S : Nat → Prop) (hS : ∀ k, S k → k < w.heap.size) (hH : ∀ k, H k → ¬ S k) (hHl : ∀ k, H k → k < w.heap.size)
    (R : List α → World → Prop) (Ix : Code → List α → World → Prop) (hR : Looks S R) (hIx : ∀ c, Looks S (Ix c)) (h0 : R [] w)
    (cells : α → Array Value) (ty : TypeId)
    (hab : ∃ F : Nat → α → Act,
      (∀ (l : Nat) (x : α) (W : World) (K : Act → World → Prop), K (F W.heap.size x) (W.alloc (.cells (cells x) ty)) → assign.wpIn (Fence.wide.inRound l) 0 P (Exit.then K (fun _ _ _ => False)) { tmps := (ps.zip (encs x)).foldl (fun t (p, v) => t.setIfInBounds p v) a.tmps, defers := [] } W) ∧
      (∀ (l : Nat) (pre : List α) (x : α) (rest : List α) (b : Nat) (W : World), xs = pre ++ x :: rest → W.heap[b]? = some (.cells (cells x) ty (0, 0)) → w.heap.size ≤ b → Mod S w W → R pre W → body.wpIn (Fence.wide.inRound l) 0 P (rndE S R Ix (pre ++ [x]) W) (F b x) W))
    (hdone : ∀ (W : World), Mod S w W → R xs W → W.heap[w.heap.size]? = some (.deferred (some [])) → Q .normal { a with defers := { target := .collected w.heap.size, args := #[] } :: a.defers } W)
    (hstop : ∀ (c : Code) (pre : List α) (W : World), pre <+: xs → Mod S w W → Ix c pre W → W.heap[w.heap.size]? = some (.deferred (some [])) → c.wp P Q { a with defers := { target := .collected w.heap.size, args := #[] } :: a.defers } W) :
    (Code.rangeFunc g ps assign body).wp P Q a w := by
  obtain ⟨F, h1, h2⟩ := hab
  refine wp_range hg eg hit (Mod.refl _ _) hps S hS hH hHl (RngI w S R) (fun c => RngI w S (Ix c)) (RngI.stab hR hS) (fun c => RngI.stab (hIx c) hS) (RngI.start h0)
    (fun pre x a1 G W => ∃ b, a1 = F b x ∧ (∀ j, G j ↔ (S j ∨ j = b)) ∧ w.heap.size ≤ b ∧ W.heap[b]? = some (.cells (cells x) ty (0, 0)) ∧ Mod S w W ∧ R pre W) ?_ ?_ ?_ ?_ ?_
  · rintro x a1 s G W W' T ⟨b, g1, g2, g3, g4, g5, g6⟩ m t
    exact ⟨b, g1, g2, g3, m.heap g4 fun h => (t b h).2 ((g2 b).2 (.inr rfl)), g5.trans m fun j h => .inr (t j h).1, hR _ _ _ g6 fun j hj => m.block j (Nat.lt_of_lt_of_le (hS j hj) g5.size) fun h => (t j h).2 ((g2 j).2 (.inl hj))⟩
  · rintro l pre x rest G W K hx ⟨i1, i2, i3⟩ hK
    have hM : Mod (fun _ => False) W (W.alloc (.cells (cells x) ty)) := (Mod.refl _ _).alloc _
    exact h1 l x W K (hK _ (fun j => S j ∨ j = W.heap.size) _ ⟨W.heap.size, rfl, fun _ => Iff.rfl, i2.size, alloc_0 _ _, i2.trans hM (fun _ h => h.elim), hR _ _ _ i3 fun j hj => hM.block j (Nat.lt_of_lt_of_le (hS j hj) i2.size) fun h => h⟩
      (fun k hk => hk.imp (fun h => (i1 k).2 h) (fun h => by omega)) (hM.mono fun _ h => h.elim))
  · rintro l pre x rest a1 G W hx ⟨b, rfl, g2, g3, g4, g5, g6⟩ _
    exact wpIn_mono (h2 l pre x rest b W hx g4 g3 g5 g6) fun e a' W' hq => rnd_to (fun j hj => .inl ((g2 j).2 (.inl hj))) g5 hS hq
  · exact fun G W hi _ hk => hdone W hi.2.1 hi.2.2 hk
  · exact fun c pre G W hp hi _ hk => hstop c pre W hp hi.2.1 hi.2.2 hk
end
end Go.Proofs.Bo
