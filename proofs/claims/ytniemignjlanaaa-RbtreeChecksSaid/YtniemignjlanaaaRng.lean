import Derived.Test.YtniemignjlanaaaBo2
import Derived.RangeFuncNested
import Derived.RangeFuncBound
import Derived.RangeFuncCalls
import Derived.RangeFuncLeaves
import Derived.Shelf.Abstract
import Derived.OwnWalkIn
import Derived.TacticsInMore
import Derived.LoopNIn
import Derived.LoopIn
set_option linter.unusedVariables false
namespace Go.Proofs.Bo
open Go Go.RowKit Go.Shelf

/-- A function that ranges over functions, from its body in the plain walk. -/
theorem calls_of_wp_marks {P : Program} {f : FuncId} {fn : Func} {c : Code} {args : Array Value} {w : World} {R : Ending → World → Prop} (hf : P.funcs[f]? = some fn) (hb : fn.body = some c)
    (h : c.wp P (bodyPostM Fence.wide 0 P fn R) { tmps := args ++ Array.replicate (fn.ntmps - args.size) undef, defers := [] } w) : Calls P f args w R :=
  callsIn_wide.1 (callsIn_of_wp_marks hf hb trivial ((wpIn_wide (n := 0)).2 h))

theorem mod_putObj {S : Nat → Prop} {a w : World} (h : Mod S a w) {l : Nat} (hl : S l ∨ a.heap.size ≤ l) (o : Obj) : Mod S a (w.putObj l o) :=
  h.grown (grownBy_putObj' w l o) (fun k e => by cases e; exact hl)

theorem mod_put1 (W : World) (l : Nat) (o : Obj) : Mod (fun k => k = l) W (W.putObj l o) := mod_putObj (S := fun k => k = l) (Mod.refl _ _) (.inl rfl) o

/-- What stays as it is while blocks of T change, T none of the writer's own (G), and all laid since. -/
def Stab {α : Type} (B : Nat) (J : List α → (Nat → Prop) → World → Prop) : Prop :=
  ∀ s G W W' T, J s G W → Mod T W W' → (∀ k, T k → B ≤ k ∧ ¬ G k) → J s G W'

/-- An iterator over xs: whatever a round does, if it keeps to its own blocks. H: the blocks that the iterator reads. -/
def Iter {α : Type} (P : Program) (g : Nat) (lb : Array Value) (encs : α → Array Value) (xs : List α) (H : Nat → Prop) (w : World) : Prop :=
  ∀ (l : Nat) (J Jx : List α → (Nat → Prop) → World → Prop) (W : World), Mod (fun k => w.heap.size ≤ k) w W → Stab W.heap.size J → Stab W.heap.size Jx →
    (∀ pre x rest G W1, xs = pre ++ x :: rest → J pre G W1 → YieldAt Fence.wide 0 P l (encs x) W1 fun e W' => ∃ G', (∀ k, G' k → (G k ∨ W1.heap.size ≤ k) ∧ k < W'.heap.size) ∧ Mod G W1 W' ∧
      ((e = .returned (.bool true) ∧ J (pre ++ [x]) G' W') ∨ (e = .returned (.bool false) ∧ Jx (pre ++ [x]) G' W'))) →
    ∀ G, J [] G W → (∀ k, H k → ¬ G k) → (∀ k, G k → k < W.heap.size) →
    Calls P g (#[.func (.yield l) #[] #[]] ++ lb) W fun e W' => (∃ v, e = .returned v) ∧ ∃ G', J xs G' W' ∨ ∃ pre, pre <+: xs ∧ Jx pre G' W'

/-- How the body of a round may be left. -/
def roundEnd {α : Type} (I : List α → (Nat → Prop) → World → Prop) (Ix : Code → List α → (Nat → Prop) → World → Prop) (xs : List α) (G : Nat → Prop) (W : World) : Exit → Act → World → Prop
  | .normal, _, W' => ∃ G', (∀ k, G' k → (G k ∨ W.heap.size ≤ k) ∧ k < W'.heap.size) ∧ Mod G W W' ∧ I xs G' W'
  | .ret, _, W' => ∃ G', (∀ k, G' k → (G k ∨ W.heap.size ≤ k) ∧ k < W'.heap.size) ∧ Mod G W W' ∧ Ix .ret xs G' W'
  | .exit id, _, W' => ∃ G', (∀ k, G' k → (G k ∨ W.heap.size ≤ k) ∧ k < W'.heap.size) ∧ Mod G W W' ∧ Ix (.exit id) xs G' W'
  | .goto t, _, W' => ∃ G', (∀ k, G' k → (G k ∨ W.heap.size ≤ k) ∧ k < W'.heap.size) ∧ Mod G W W' ∧ Ix (.goto t) xs G' W'
  | .panic _, _, _ => False
  | .outgrown, _, _ => False

section
variable {P : Program} {α : Type}

theorem Stab.putObj {B : Nat} {J : List α → (Nat → Prop) → World → Prop} (h : Stab B J) {s : List α} {G : Nat → Prop} {W : World} (hJ : J s G W) {l : Nat} (hl : B ≤ l) (hG : ¬ G l) (o : Obj) : J s G (W.putObj l o) :=
  h s G W _ (fun k => k = l) hJ (mod_put1 _ _ _) (fun k hk => by subst hk; exact ⟨hl, hG⟩)

/-- **'for .. := range g { .. }'** -/
theorem wp_range {g : Operand} {ps : Array Tmp} {assign body : Code} {Q : Exit → Act → World → Prop} {a : Act} {w : World}
    {gf : Nat} {lb : Array Value} (hg : a.eval g = .func (.func gf) #[] lb) (eg : ∀ args w, (callFunc gf args).run P w = .ok (.enter gf args) w)
    {encs : α → Array Value} {xs : List α} {H : Nat → Prop} {w0 : World} (hit : Iter P gf lb encs xs H w0) (hw0 : Mod (fun k => w0.heap.size ≤ k) w0 w) (hps : ∀ x, (encs x).size = ps.size)
    (G0 : Nat → Prop) (hG0 : ∀ k, G0 k → k < w.heap.size) (hH : ∀ k, H k → ¬ G0 k) (hHl : ∀ k, H k → k < w.heap.size)
    (I : List α → (Nat → Prop) → World → Prop) (Ix : Code → List α → (Nat → Prop) → World → Prop) (hI : Stab w.heap.size I) (hIx : ∀ c, Stab w.heap.size (Ix c)) (h0 : I [] G0 w)
    (Ax : List α → α → Act → (Nat → Prop) → World → Prop) (hAx : ∀ x a1, Stab w.heap.size (fun pre G W => Ax pre x a1 G W))
    (hassign : ∀ (l : Nat) (pre : List α) (x : α) (rest : List α) (G : Nat → Prop) (W : World) (K : Act → World → Prop), xs = pre ++ x :: rest → I pre G W →
      (∀ a1 G1 W1, Ax pre x a1 G1 W1 → (∀ k, G1 k → G k ∨ W.heap.size ≤ k) → Mod G W W1 → K a1 W1) →
      assign.wpIn (Fence.wide.inRound l) 0 P (Exit.then K (fun _ _ _ => False)) { tmps := (ps.zip (encs x)).foldl (fun t (p, v) => t.setIfInBounds p v) a.tmps, defers := [] } W)
    (hbody : ∀ (l : Nat) (pre : List α) (x : α) (rest : List α) (a1 : Act) (G : Nat → Prop) (W : World), xs = pre ++ x :: rest → Ax pre x a1 G W → (∀ k, G k → k ≠ w.heap.size ∧ k ≠ w.heap.size + 1) →
      body.wpIn (Fence.wide.inRound l) 0 P (roundEnd I Ix (pre ++ [x]) G W) a1 W)
    (hdone : ∀ (G : Nat → Prop) (W : World), I xs G W → (∀ k, G k → k ≠ w.heap.size ∧ k ≠ w.heap.size + 1) → W.heap[w.heap.size]? = some (.deferred (some [])) → Q .normal { a with defers := { target := .collected w.heap.size, args := #[] } :: a.defers } W)
    (hstop : ∀ (c : Code) (pre : List α) (G : Nat → Prop) (W : World), pre <+: xs → Ix c pre G W → (∀ k, G k → k ≠ w.heap.size ∧ k ≠ w.heap.size + 1) → W.heap[w.heap.size]? = some (.deferred (some [])) → c.wp P Q { a with defers := { target := .collected w.heap.size, args := #[] } :: a.defers } W) :
    (Code.rangeFunc g ps assign body).wp P Q a w := by
  refine (wpIn_wide (n := 0)).1 (wpIn_rangeFunc ?_)
  intro fn hfn
  obtain ⟨rec, hrec⟩ : ∃ rec : LoopState → Option Code → Loop, rec = fun st pe => { state := st, pending := pe, fn, tmps := a.tmps, params := ps, assign, body, defers := w.heap.size } := ⟨_, rfl⟩
  obtain ⟨W1, hW1⟩ : ∃ W1, (w.alloc (.deferred (some []))).alloc (.loop (rec .ready none)) = W1 := ⟨_, rfl⟩
  have hL1 : W1.heap[w.heap.size + 1]? = some (.loop (rec .ready none)) := by rw [← hW1]; exact alloc2_1 _ _ _
  have hK1 : W1.heap[w.heap.size]? = some (.deferred (some [])) := by rw [← hW1]; exact alloc2_0 _ _ _
  have hM1 : Mod (fun _ => False) w W1 := by rw [← hW1]; exact ((Mod.refl _ w).alloc _).alloc _
  have hs1 : W1.heap.size = w.heap.size + 2 := by rw [← hW1]; simp
  have hI1 : I [] G0 W1 := hI _ _ _ _ _ h0 hM1 fun _ h => h.elim
  refine ⟨w.heap.size + 1, [{ target := .collected w.heap.size, args := #[] }], W1, { target := .fn (.func gf) lb, args := #[.func (.yield (w.heap.size + 1)) #[] #[]] }, W1, gf,
    #[.func (.yield (w.heap.size + 1)) #[] #[]] ++ lb, W1, ?_, ?_, ?_, ?_, fun h => (by cases h), ?_⟩
  · rw [← hW1, hrec]; exact run_enterLoop_outer _ _ _ _ _
  · simp only [resolve, hg]
    simp [go_sem]
  · intro f' hf'; trivial
  · simp [invoke, go_sem, eg]
  · refine callsIn_wide.2 ?_
    refine (hit (w.heap.size + 1)
      (fun pre Gi W => ∃ G, (∀ k, Gi k ↔ (G k ∨ k = w.heap.size + 1)) ∧ (∀ k, G k → k ≠ w.heap.size ∧ k ≠ w.heap.size + 1) ∧ I pre G W ∧ W.heap[w.heap.size + 1]? = some (.loop (rec .ready none)) ∧ W.heap[w.heap.size]? = some (.deferred (some [])))
      (fun pre Gi W => ∃ G c, (∀ k, Gi k ↔ (G k ∨ k = w.heap.size + 1)) ∧ (∀ k, G k → k ≠ w.heap.size ∧ k ≠ w.heap.size + 1) ∧ Ix c pre G W ∧ W.heap[w.heap.size + 1]? = some (.loop (rec .done (some c))) ∧ W.heap[w.heap.size]? = some (.deferred (some [])))
      W1 (hw0.trans (hM1.mono (T := fun k => w0.heap.size ≤ k) fun k h => h.elim) fun k h => .inl h) ?_ ?_ ?_ (fun k => G0 k ∨ k = w.heap.size + 1) ⟨G0, fun k => Iff.rfl, fun k h => ?_, hI1, hL1, hK1⟩ (fun k hk h => ?_) (fun k h => ?_)).mono ?_
    · rintro s Gi W W' T ⟨G, g1, g2, hi, hl, hk⟩ hm hT
      exact ⟨G, g1, g2, hI _ _ _ _ _ hi hm fun k h => ⟨by have := (hT k h).1; omega, fun h1 => (hT k h).2 ((g1 k).2 (.inl h1))⟩, hm.heap hl fun h => (by have := (hT _ h).1; omega), hm.heap hk fun h => (by have := (hT _ h).1; omega)⟩
    · rintro s Gi W W' T ⟨G, c, g1, g2, hi, hl, hk⟩ hm hT
      exact ⟨G, c, g1, g2, hIx c _ _ _ _ _ hi hm fun k h => ⟨by have := (hT k h).1; omega, fun h1 => (hT k h).2 ((g1 k).2 (.inl h1))⟩, hm.heap hl fun h => (by have := (hT _ h).1; omega), hm.heap hk fun h => (by have := (hT _ h).1; omega)⟩
    · -- ONE ROUND
      rintro pre x rest Gi W hx ⟨G, g1, g2, hi, hl, hk⟩
      have hlt : w.heap.size + 1 < W.heap.size := blkl hl
      have hy := run_yield (P := P) (args := encs x) hl (by rw [hrec]; exact hps x)
      rw [hrec] at hy
      refine ⟨fn, _, assign, body, hy, roundIn_of_wpIn trivial (hassign _ pre x rest G W _ hx hi ?_)⟩
      intro a1 G1 W2 hax hG1 hM2
      have hl2 : W2.heap[w.heap.size + 1]? = some (.loop (rec .ready none)) := hM2.heap hl fun h => (g2 _ h).2 rfl
      have hk2 : W2.heap[w.heap.size]? = some (.deferred (some [])) := hM2.heap hk fun h => (g2 _ h).1 rfl
      have hg1 : ∀ k, G1 k → k ≠ w.heap.size ∧ k ≠ w.heap.size + 1 := fun k h => by
        rcases hG1 k h with h | h
        · exact g2 k h
        · omega
      refine ⟨_, run_beginRound hl2 (by rw [hrec]), ?_⟩
      obtain ⟨W3, hW3⟩ : ∃ W3, W2.putObj (w.heap.size + 1) (.loop { rec .ready none with state := .busy }) = W3 := ⟨_, rfl⟩
      have hM3 : Mod (fun k => k = w.heap.size + 1) W2 W3 := by rw [← hW3]; exact mod_put1 _ _ _
      have hl3 : W3.heap[w.heap.size + 1]? = some (.loop { rec .ready none with state := .busy }) := by rw [← hW3]; exact World.putObj_heap_same (blkl hl2)
      have hk3 : W3.heap[w.heap.size]? = some (.deferred (some [])) := hM3.heap hk2 fun h => by omega
      have hax3 : Ax pre x a1 G1 W3 := hAx x a1 _ _ _ _ _ hax hM3 fun k h => by subst h; exact ⟨by omega, fun h => (hg1 _ h).2 rfl⟩
      rw [hW3]
      refine wpIn_mono (hbody _ pre x rest a1 G1 W3 hx hax3 hg1) ?_
      have fin : ∀ (jump : Option Code) (G' : Nat → Prop) (W4 : World), (∀ k, G' k → (G1 k ∨ W3.heap.size ≤ k) ∧ k < W4.heap.size) → Mod G1 W3 W4 →
          ∃ W5, (Instr.endRound (w.heap.size + 1) jump).run P W4 = .ok (.bool jump.isNone) W5 ∧ W5.heap[w.heap.size + 1]? = some (.loop (rec (if jump.isNone then .ready else .done) jump)) ∧ W5.heap[w.heap.size]? = some (.deferred (some [])) ∧
            Mod (fun k => k = w.heap.size + 1) W4 W5 ∧ (∀ k, (G' k ∨ k = w.heap.size + 1) → (Gi k ∨ W.heap.size ≤ k) ∧ k < W5.heap.size) ∧ Mod Gi W W5 ∧ (∀ k, G' k → k ≠ w.heap.size ∧ k ≠ w.heap.size + 1) := by
        intro jump G' W4 hG' hM4
        have hl4 := hM4.heap hl3 fun h => (hg1 _ h).2 rfl
        have hk4 := hM4.heap hk3 fun h => (hg1 _ h).1 rfl
        have h5 := run_endRound (P := P) jump hl4
        rw [hrec] at h5
        have hM5 : Mod (fun k => k = w.heap.size + 1) W4 (W4.putObj (w.heap.size + 1) (.loop (rec (if jump.isNone then .ready else .done) jump))) := mod_put1 _ _ _
        have z3 : W3.heap.size = W2.heap.size := by rw [← hW3]; simp
        have z2 := hM2.size
        refine ⟨_, by rw [h5, hrec], World.putObj_heap_same (blkl hl4), hM5.heap hk4 fun h => by omega, hM5, fun k h => ?_, ?_, fun k h => ?_⟩
        · rcases h with h | rfl
          · refine ⟨?_, Nat.lt_of_lt_of_le (hG' k h).2 hM5.size⟩
            rcases (hG' k h).1 with h | h
            · rcases hG1 k h with h | h
              · exact .inl ((g1 k).2 (.inl h))
              · exact .inr h
            · exact .inr (by omega)
          · exact ⟨.inl ((g1 _).2 (.inr rfl)), Nat.lt_of_lt_of_le (blkl hl4) hM5.size⟩
        · refine (((hM2.mono (T := Gi) fun k h => .inl ((g1 k).2 (.inl h))).trans hM3 fun k h => .inl ((g1 k).2 (.inr h))).trans hM4 fun k h => ?_).trans hM5 fun k h => .inl ((g1 k).2 (.inr h))
          rcases hG1 k h with h | h
          · exact .inl ((g1 k).2 (.inl h))
          · exact .inr h
        · rcases (hG' k h).1 with h | h
          · exact hg1 k h
          · omega
      rintro e a3 W4 hp
      cases e with
      | normal =>
        obtain ⟨G', hG', hM4, hi4⟩ := hp
        obtain ⟨W5, e5, l5, k5, m5, s5, t5, u5⟩ := fin none G' W4 hG' hM4
        exact ⟨_, W5, e5, fun k => G' k ∨ k = w.heap.size + 1, s5, t5, .inl ⟨rfl, G', fun k => Iff.rfl, u5, hI _ _ _ _ _ hi4 m5 fun k h => by subst h; exact ⟨by omega, fun h => (u5 _ h).2 rfl⟩, l5, k5⟩⟩
      | ret =>
        obtain ⟨G', hG', hM4, hi4⟩ := hp
        obtain ⟨W5, e5, l5, k5, m5, s5, t5, u5⟩ := fin (some .ret) G' W4 hG' hM4
        exact ⟨_, W5, e5, fun k => G' k ∨ k = w.heap.size + 1, s5, t5, .inr ⟨rfl, G', .ret, fun k => Iff.rfl, u5, hIx _ _ _ _ _ _ hi4 m5 fun k h => by subst h; exact ⟨by omega, fun h => (u5 _ h).2 rfl⟩, l5, k5⟩⟩
      | exit id =>
        obtain ⟨G', hG', hM4, hi4⟩ := hp
        obtain ⟨W5, e5, l5, k5, m5, s5, t5, u5⟩ := fin (some (.exit id)) G' W4 hG' hM4
        exact ⟨_, W5, e5, fun k => G' k ∨ k = w.heap.size + 1, s5, t5, .inr ⟨rfl, G', .exit id, fun k => Iff.rfl, u5, hIx _ _ _ _ _ _ hi4 m5 fun k h => by subst h; exact ⟨by omega, fun h => (u5 _ h).2 rfl⟩, l5, k5⟩⟩
      | goto t =>
        obtain ⟨G', hG', hM4, hi4⟩ := hp
        obtain ⟨W5, e5, l5, k5, m5, s5, t5, u5⟩ := fin (some (.goto t)) G' W4 hG' hM4
        exact ⟨_, W5, e5, fun k => G' k ∨ k = w.heap.size + 1, s5, t5, .inr ⟨rfl, G', .goto t, fun k => Iff.rfl, u5, hIx _ _ _ _ _ _ hi4 m5 fun k h => by subst h; exact ⟨by omega, fun h => (u5 _ h).2 rfl⟩, l5, k5⟩⟩
      | panic ch => exact hp.elim
      | outgrown => exact hp.elim
    · have := hG0 k h; omega
    · rcases h with h | rfl
      · exact hH k hk h
      · have := hHl _ hk; omega
    · rcases h with h | rfl
      · have := hG0 k h; omega
      · omega
    · -- BEHIND THE ITERATOR
      rintro e W2 ⟨⟨v, rfl⟩, Gi, (⟨G, g1, g2, hi, hl, hk⟩ | ⟨pre, hpre, G, c, g1, g2, hi, hl, hk⟩)⟩
      · refine ⟨none, _, by have := run_endLoop (P := P) hl (by rw [hrec]; simp); rw [hrec] at this; exact this, hdone G _ (hI.putObj hi (by omega) (fun h => (g2 _ h).2 rfl) _) g2 ((World.putObj_heap_other (by omega)).trans hk)⟩
      · refine ⟨some c, _, by have := run_endLoop (P := P) hl (by rw [hrec]; simp); rw [hrec] at this; exact this, (wpIn_wide (n := 0)).2 (hstop c pre G _ hpre ((hIx c).putObj hi (by omega) (fun h => (g2 _ h).2 rfl) _) g2 ((World.putObj_heap_other (by omega)).trans hk))⟩
end

/-- The same, where the loop's variables are set and no memory is made for them. -/
theorem wp_range' {P : Program} {α : Type} {g : Operand} {ps : Array Tmp} {assign body : Code} {Q : Exit → Act → World → Prop} {a : Act} {w : World}
    {gf : Nat} {lb : Array Value} (hg : a.eval g = .func (.func gf) #[] lb) (eg : ∀ args w, (callFunc gf args).run P w = .ok (.enter gf args) w)
    {encs : α → Array Value} {xs : List α} {H : Nat → Prop} {w0 : World} (hit : Iter P gf lb encs xs H w0) (hw0 : Mod (fun k => w0.heap.size ≤ k) w0 w) (hps : ∀ x, (encs x).size = ps.size)
    (G0 : Nat → Prop) (hG0 : ∀ k, G0 k → k < w.heap.size) (hH : ∀ k, H k → ¬ G0 k) (hHl : ∀ k, H k → k < w.heap.size)
    (I : List α → (Nat → Prop) → World → Prop) (Ix : Code → List α → (Nat → Prop) → World → Prop) (hI : Stab w.heap.size I) (hIx : ∀ c, Stab w.heap.size (Ix c)) (h0 : I [] G0 w)
    (hab : ∃ F : α → Act,
      (∀ (l : Nat) (x : α) (W : World) (K : Act → World → Prop), K (F x) W → assign.wpIn (Fence.wide.inRound l) 0 P (Exit.then K (fun _ _ _ => False)) { tmps := (ps.zip (encs x)).foldl (fun t (p, v) => t.setIfInBounds p v) a.tmps, defers := [] } W) ∧
      (∀ (l : Nat) (pre : List α) (x : α) (rest : List α) (G : Nat → Prop) (W : World), xs = pre ++ x :: rest → I pre G W → (∀ k, G k → k ≠ w.heap.size ∧ k ≠ w.heap.size + 1) →
        body.wpIn (Fence.wide.inRound l) 0 P (roundEnd I Ix (pre ++ [x]) G W) (F x) W))
    (hdone : ∀ (G : Nat → Prop) (W : World), I xs G W → (∀ k, G k → k ≠ w.heap.size ∧ k ≠ w.heap.size + 1) → W.heap[w.heap.size]? = some (.deferred (some [])) → Q .normal { a with defers := { target := .collected w.heap.size, args := #[] } :: a.defers } W)
    (hstop : ∀ (c : Code) (pre : List α) (G : Nat → Prop) (W : World), pre <+: xs → Ix c pre G W → (∀ k, G k → k ≠ w.heap.size ∧ k ≠ w.heap.size + 1) → W.heap[w.heap.size]? = some (.deferred (some [])) → c.wp P Q { a with defers := { target := .collected w.heap.size, args := #[] } :: a.defers } W) :
    (Code.rangeFunc g ps assign body).wp P Q a w := by
  obtain ⟨F, h1, h2⟩ := hab
  refine wp_range hg eg hit hw0 hps G0 hG0 hH hHl I Ix hI hIx h0 (fun pre x a1 G W => a1 = F x ∧ I pre G W) (fun x a1 s G W W' T h m t => ⟨h.1, hI _ _ _ _ _ h.2 m t⟩) ?_ ?_ hdone hstop
  · intro l pre x rest G W K hx hi hK
    exact h1 l x W K (hK _ _ _ ⟨rfl, hi⟩ (fun k h => .inl h) (Mod.refl _ _))
  · rintro l pre x rest a1 G W hx ⟨rfl, hi⟩ hg
    exact h2 l pre x rest G W hx hi hg

/-- The end of such a function: its marks are taken. -/
theorem retM0 {P : Program} {fn : Func} {R : Ending → World → Prop} {a : Act} {W : World} {v : Value} (hr : (results fn a.tmps).run P W = .ok v W) (hd : a.defers = []) (hR : R (.returned v) W) : bodyPostM Fence.wide 0 P fn R .ret a W := by
  show LeavesInM Fence.wide 0 P fn a.tmps R a.defers .returning W
  rw [hd]; exact ⟨v, hr, hR⟩
theorem retM1 {P : Program} {fn : Func} {R : Ending → World → Prop} {a : Act} {W : World} {v : Value} {D : Nat} (hk : W.heap[D]? = some (.deferred (some []))) (hd : a.defers = [{ target := .collected D, args := #[] }])
    (hr : (results fn a.tmps).run P (W.putObj D (.deferred none)) = .ok v (W.putObj D (.deferred none))) (hR : R (.returned v) (W.putObj D (.deferred none))) : bodyPostM Fence.wide 0 P fn R .ret a W := by
  show LeavesInM Fence.wide 0 P fn a.tmps R a.defers .returning W
  rw [hd]
  exact ⟨by simp, .inl ⟨D, _, rfl, run_takeDeferred hk, v, hr, hR⟩⟩
theorem retM2 {P : Program} {fn : Func} {R : Ending → World → Prop} {a : Act} {W : World} {v : Value} {D E : Nat} (hne : E ≠ D) (hk : W.heap[D]? = some (.deferred (some []))) (hk2 : W.heap[E]? = some (.deferred (some [])))
    (hd : a.defers = [{ target := .collected D, args := #[] }, { target := .collected E, args := #[] }])
    (hr : (results fn a.tmps).run P ((W.putObj D (.deferred none)).putObj E (.deferred none)) = .ok v ((W.putObj D (.deferred none)).putObj E (.deferred none))) (hR : R (.returned v) ((W.putObj D (.deferred none)).putObj E (.deferred none))) :
    bodyPostM Fence.wide 0 P fn R .ret a W := by
  show LeavesInM Fence.wide 0 P fn a.tmps R a.defers .returning W
  rw [hd]
  exact ⟨by simp, .inl ⟨D, _, rfl, run_takeDeferred hk, by simp, .inl ⟨E, _, rfl, run_takeDeferred ((World.putObj_heap_other hne).trans hk2), v, hr, hR⟩⟩⟩
end Go.Proofs.Bo
namespace Go.Proofs.Bo
open Go Go.RowKit
theorem below_put {B D : Nat} {w W : World} (h : Below B w W) (hD : B ≤ D) (o : Obj) : Below B w (W.putObj D o) :=
  ⟨h.os, h.tape, h.output, by rw [World.putObj_size]; exact h.size, fun k hk => (World.putObj_heap_other (by omega)).trans (h.block k hk)⟩
end Go.Proofs.Bo
