import Derived.Test.YtofgoehkahcajaaGreatBoG
import Derived.RangeFuncNested
import Derived.RangeFuncBound
import Derived.RangeFuncCalls
import Derived.RangeFuncLeaves
import Derived.Shelf.Abstract
import Derived.OwnWalkIn
import Derived.TacticsInMore
import Derived.LoopNIn
import Derived.LoopIn
import Derived.Maps.OwnIn
set_option linter.unusedVariables false
set_option linter.unusedSimpArgs false
namespace Go.Proofs.Bo
open Go Go.RowKit Go.Shelf

/-- A function that ranges over functions, from its body in the plain walk. -/
theorem calls_of_wp_marks {P : Program} {f : FuncId} {fn : Func} {c : Code} {args : Array Value} {w : World} {R : Ending → World → Prop} (hf : P.funcs[f]? = some fn) (hb : fn.body = some c)
    (h : c.wp P (bodyPostM Fence.wide 0 P fn R) { tmps := args ++ Array.replicate (fn.ntmps - args.size) undef, defers := [] } w) : Calls P f args w R :=
  callsIn_wide.1 (callsIn_of_wp_marks hf hb trivial ((wpIn_wide (n := 0)).2 h))

theorem mod_putObj {S : Nat → Prop} {a w : World} (h : Mod S a w) {l : Nat} (hl : S l ∨ a.heap.size ≤ l) (o : Obj) : Mod S a (w.putObj l o) :=
  h.grown (grownBy_putObj' w l o) (fun k e => by cases e; exact hl)

theorem mod_put1 (W : World) (l : Nat) (o : Obj) : Mod (fun k => k = l) W (W.putObj l o) := mod_putObj (S := fun k => k = l) (Mod.refl _ _) (.inl rfl) o

/-- What stays as it is while blocks of T change, T none of the writer's own (G), and all laid since. -/
def Stab {α : Type} (B : Nat) (J : List α → (Nat → Prop) → World → Prop) : Prop :=
  ∀ s G W W' T, J s G W → Mod T W W' → (∀ k, T k → B ≤ k ∧ ¬ G k) → J s G W'

/-- An iterator over xs: whatever a round does, if it keeps to its own blocks. H: the blocks that the iterator reads. -/
def Iter {α : Type} (P : Program) (g : Nat) (lb : Array Value) (encs : α → Array Value) (xs : List α) (H : Nat → Prop) (w : World) : Prop :=
  ∀ (l : Nat) (J Jx : List α → (Nat → Prop) → World → Prop) (W : World), Mod (fun k => w.heap.size ≤ k) w W → Stab W.heap.size J → Stab W.heap.size Jx →
    (∀ pre x rest G W1, xs = pre ++ x :: rest → J pre G W1 → YieldAt Fence.wide 0 P l (encs x) W1 fun e W' => ∃ G', (∀ k, G' k → (G k ∨ W1.heap.size ≤ k) ∧ k < W'.heap.size) ∧ Mod G W1 W' ∧
      ((e = .returned (.bool true) ∧ J (pre ++ [x]) G' W') ∨ (e = .returned (.bool false) ∧ Jx (pre ++ [x]) G' W'))) →
    ∀ G, J [] G W → (∀ k, H k → ¬ G k) → (∀ k, G k → k < W.heap.size) →
    Calls P g (#[.func (.yield l) #[] #[]] ++ lb) W fun e W' => (∃ v, e = .returned v) ∧ ∃ G', J xs G' W' ∨ ∃ pre, pre <+: xs ∧ Jx pre G' W'

/-- How the body of a round may be left. -/
def roundEnd {α : Type} (I : List α → (Nat → Prop) → World → Prop) (Ix : Code → List α → (Nat → Prop) → World → Prop) (xs : List α) (G : Nat → Prop) (W : World) : Exit → Act → World → Prop
  | .normal, _, W' => ∃ G', (∀ k, G' k → (G k ∨ W.heap.size ≤ k) ∧ k < W'.heap.size) ∧ Mod G W W' ∧ I xs G' W'
  | .ret, _, W' => ∃ G', (∀ k, G' k → (G k ∨ W.heap.size ≤ k) ∧ k < W'.heap.size) ∧ Mod G W W' ∧ Ix .ret xs G' W'
  | .exit id, _, W' => ∃ G', (∀ k, G' k → (G k ∨ W.heap.size ≤ k) ∧ k < W'.heap.size) ∧ Mod G W W' ∧ Ix (.exit id) xs G' W'
  | .goto t, _, W' => ∃ G', (∀ k, G' k → (G k ∨ W.heap.size ≤ k) ∧ k < W'.heap.size) ∧ Mod G W W' ∧ Ix (.goto t) xs G' W'
  | .panic _, _, _ => False
  | .outgrown, _, _ => False

section
variable {P : Program} {α : Type}

theorem Stab.putObj {B : Nat} {J : List α → (Nat → Prop) → World → Prop} (h : Stab B J) {s : List α} {G : Nat → Prop} {W : World} (hJ : J s G W) {l : Nat} (hl : B ≤ l) (hG : ¬ G l) (o : Obj) : J s G (W.putObj l o) :=
  h s G W _ (fun k => k = l) hJ (mod_put1 _ _ _) (fun k hk => by subst hk; exact ⟨hl, hG⟩)

/-- **'for .. := range g { .. }'** -/
theorem wp_range {g : Operand} {ps : Array Tmp} {assign body : Code} {Q : Exit → Act → World → Prop} {a : Act} {w : World}
    {gf : Nat} {lb : Array Value} (hg : a.eval g = .func (.func gf) #[] lb) (eg : ∀ args w, (callFunc gf args).run P w = .ok (.enter gf args) w)
    {encs : α → Array Value} {xs : List α} {H : Nat → Prop} {w0 : World} (hit : Iter P gf lb encs xs H w0) (hw0 : Mod (fun k => w0.heap.size ≤ k) w0 w) (hps : ∀ x, (encs x).size = ps.size)
    (G0 : Nat → Prop) (hG0 : ∀ k, G0 k → k < w.heap.size) (hH : ∀ k, H k → ¬ G0 k) (hHl : ∀ k, H k → k < w.heap.size)
    (I : List α → (Nat → Prop) → World → Prop) (Ix : Code → List α → (Nat → Prop) → World → Prop) (hI : Stab w.heap.size I) (hIx : ∀ c, Stab w.heap.size (Ix c)) (h0 : I [] G0 w)
    (Ax : List α → α → Act → (Nat → Prop) → World → Prop) (hAx : ∀ x a1, Stab w.heap.size (fun pre G W => Ax pre x a1 G W))
    (hassign : ∀ (l : Nat) (pre : List α) (x : α) (rest : List α) (G : Nat → Prop) (W : World) (K : Act → World → Prop), xs = pre ++ x :: rest → I pre G W →
      (∀ a1 G1 W1, Ax pre x a1 G1 W1 → (∀ k, G1 k → G k ∨ W.heap.size ≤ k) → Mod G W W1 → K a1 W1) →
      assign.wpIn (Fence.wide.inRound l) 0 P (Exit.then K (fun _ _ _ => False)) { tmps := (ps.zip (encs x)).foldl (fun t (p, v) => t.setIfInBounds p v) a.tmps, defers := [] } W)
    (hbody : ∀ (l : Nat) (pre : List α) (x : α) (rest : List α) (a1 : Act) (G : Nat → Prop) (W : World), xs = pre ++ x :: rest → Ax pre x a1 G W → (∀ k, G k → k ≠ w.heap.size ∧ k ≠ w.heap.size + 1) →
      body.wpIn (Fence.wide.inRound l) 0 P (roundEnd I Ix (pre ++ [x]) G W) a1 W)
    (hdone : ∀ (G : Nat → Prop) (W : World), I xs G W → (∀ k, G k → k ≠ w.heap.size ∧ k ≠ w.heap.size + 1) → W.heap[w.heap.size]? = some (.deferred (some [])) → Q .normal { a with defers := { target := .collected w.heap.size, args := #[] } :: a.defers } W)
    (hstop : ∀ (c : Code) (pre : List α) (G : Nat → Prop) (W : World), pre <+: xs → Ix c pre G W → (∀ k, G k → k ≠ w.heap.size ∧ k ≠ w.heap.size + 1) → W.heap[w.heap.size]? = some (.deferred (some [])) → c.wp P Q { a with defers := { target := .collected w.heap.size, args := #[] } :: a.defers } W) :
    (Code.rangeFunc g ps assign body).wp P Q a w := by
  refine (wpIn_wide (n := 0)).1 (wpIn_rangeFunc ?_)
  intro fn hfn
  obtain ⟨rec, hrec⟩ : ∃ rec : LoopState → Option Code → Loop, rec = fun st pe => { state := st, pending := pe, fn, tmps := a.tmps, params := ps, assign, body, defers := w.heap.size } := ⟨_, rfl⟩
  obtain ⟨W1, hW1⟩ : ∃ W1, (w.alloc (.deferred (some []))).alloc (.loop (rec .ready none)) = W1 := ⟨_, rfl⟩
  have hL1 : W1.heap[w.heap.size + 1]? = some (.loop (rec .ready none)) := by rw [← hW1]; exact alloc2_1 _ _ _
  have hK1 : W1.heap[w.heap.size]? = some (.deferred (some [])) := by rw [← hW1]; exact alloc2_0 _ _ _
  have hM1 : Mod (fun _ => False) w W1 := by rw [← hW1]; exact ((Mod.refl _ w).alloc _).alloc _
  have hs1 : W1.heap.size = w.heap.size + 2 := by rw [← hW1]; simp
  have hI1 : I [] G0 W1 := hI _ _ _ _ _ h0 hM1 fun _ h => h.elim
  refine ⟨w.heap.size + 1, [{ target := .collected w.heap.size, args := #[] }], W1, { target := .fn (.func gf) lb, args := #[.func (.yield (w.heap.size + 1)) #[] #[]] }, W1, gf,
    #[.func (.yield (w.heap.size + 1)) #[] #[]] ++ lb, W1, ?_, ?_, ?_, ?_, fun h => (by cases h), ?_⟩
  · rw [← hW1, hrec]; exact run_enterLoop_outer _ _ _ _ _
  · simp only [resolve, hg]
    simp [go_sem]
  · intro f' hf'; trivial
  · simp [invoke, go_sem, eg]
  · refine callsIn_wide.2 ?_
    refine (hit (w.heap.size + 1)
      (fun pre Gi W => ∃ G, (∀ k, Gi k ↔ (G k ∨ k = w.heap.size + 1)) ∧ (∀ k, G k → k ≠ w.heap.size ∧ k ≠ w.heap.size + 1) ∧ I pre G W ∧ W.heap[w.heap.size + 1]? = some (.loop (rec .ready none)) ∧ W.heap[w.heap.size]? = some (.deferred (some [])))
      (fun pre Gi W => ∃ G c, (∀ k, Gi k ↔ (G k ∨ k = w.heap.size + 1)) ∧ (∀ k, G k → k ≠ w.heap.size ∧ k ≠ w.heap.size + 1) ∧ Ix c pre G W ∧ W.heap[w.heap.size + 1]? = some (.loop (rec .done (some c))) ∧ W.heap[w.heap.size]? = some (.deferred (some [])))
      W1 (hw0.trans (hM1.mono (T := fun k => w0.heap.size ≤ k) fun k h => h.elim) fun k h => .inl h) ?_ ?_ ?_ (fun k => G0 k ∨ k = w.heap.size + 1) ⟨G0, fun k => Iff.rfl, fun k h => ?_, hI1, hL1, hK1⟩ (fun k hk h => ?_) (fun k h => ?_)).mono ?_
    · rintro s Gi W W' T ⟨G, g1, g2, hi, hl, hk⟩ hm hT
      exact ⟨G, g1, g2, hI _ _ _ _ _ hi hm fun k h => ⟨by have := (hT k h).1; omega, fun h1 => (hT k h).2 ((g1 k).2 (.inl h1))⟩, hm.heap hl fun h => (by have := (hT _ h).1; omega), hm.heap hk fun h => (by have := (hT _ h).1; omega)⟩
    · rintro s Gi W W' T ⟨G, c, g1, g2, hi, hl, hk⟩ hm hT
      exact ⟨G, c, g1, g2, hIx c _ _ _ _ _ hi hm fun k h => ⟨by have := (hT k h).1; omega, fun h1 => (hT k h).2 ((g1 k).2 (.inl h1))⟩, hm.heap hl fun h => (by have := (hT _ h).1; omega), hm.heap hk fun h => (by have := (hT _ h).1; omega)⟩
    · -- ONE ROUND
      rintro pre x rest Gi W hx ⟨G, g1, g2, hi, hl, hk⟩
      have hlt : w.heap.size + 1 < W.heap.size := blkl hl
      have hy := run_yield (P := P) (args := encs x) hl (by rw [hrec]; exact hps x)
      rw [hrec] at hy
      refine ⟨fn, _, assign, body, hy, roundIn_of_wpIn trivial (hassign _ pre x rest G W _ hx hi ?_)⟩
      intro a1 G1 W2 hax hG1 hM2
      have hl2 : W2.heap[w.heap.size + 1]? = some (.loop (rec .ready none)) := hM2.heap hl fun h => (g2 _ h).2 rfl
      have hk2 : W2.heap[w.heap.size]? = some (.deferred (some [])) := hM2.heap hk fun h => (g2 _ h).1 rfl
      have hg1 : ∀ k, G1 k → k ≠ w.heap.size ∧ k ≠ w.heap.size + 1 := fun k h => by
        rcases hG1 k h with h | h
        · exact g2 k h
        · omega
      refine ⟨_, run_beginRound hl2 (by rw [hrec]), ?_⟩
      obtain ⟨W3, hW3⟩ : ∃ W3, W2.putObj (w.heap.size + 1) (.loop { rec .ready none with state := .busy }) = W3 := ⟨_, rfl⟩
      have hM3 : Mod (fun k => k = w.heap.size + 1) W2 W3 := by rw [← hW3]; exact mod_put1 _ _ _
      have hl3 : W3.heap[w.heap.size + 1]? = some (.loop { rec .ready none with state := .busy }) := by rw [← hW3]; exact World.putObj_heap_same (blkl hl2)
      have hk3 : W3.heap[w.heap.size]? = some (.deferred (some [])) := hM3.heap hk2 fun h => by omega
      have hax3 : Ax pre x a1 G1 W3 := hAx x a1 _ _ _ _ _ hax hM3 fun k h => by subst h; exact ⟨by omega, fun h => (hg1 _ h).2 rfl⟩
      rw [hW3]
      refine wpIn_mono (hbody _ pre x rest a1 G1 W3 hx hax3 hg1) ?_
      have fin : ∀ (jump : Option Code) (G' : Nat → Prop) (W4 : World), (∀ k, G' k → (G1 k ∨ W3.heap.size ≤ k) ∧ k < W4.heap.size) → Mod G1 W3 W4 →
          ∃ W5, (Instr.endRound (w.heap.size + 1) jump).run P W4 = .ok (.bool jump.isNone) W5 ∧ W5.heap[w.heap.size + 1]? = some (.loop (rec (if jump.isNone then .ready else .done) jump)) ∧ W5.heap[w.heap.size]? = some (.deferred (some [])) ∧
            Mod (fun k => k = w.heap.size + 1) W4 W5 ∧ (∀ k, (G' k ∨ k = w.heap.size + 1) → (Gi k ∨ W.heap.size ≤ k) ∧ k < W5.heap.size) ∧ Mod Gi W W5 ∧ (∀ k, G' k → k ≠ w.heap.size ∧ k ≠ w.heap.size + 1) := by
        intro jump G' W4 hG' hM4
        have hl4 := hM4.heap hl3 fun h => (hg1 _ h).2 rfl
        have hk4 := hM4.heap hk3 fun h => (hg1 _ h).1 rfl
        have h5 := run_endRound (P := P) jump hl4
        rw [hrec] at h5
        have hM5 : Mod (fun k => k = w.heap.size + 1) W4 (W4.putObj (w.heap.size + 1) (.loop (rec (if jump.isNone then .ready else .done) jump))) := mod_put1 _ _ _
        have z3 : W3.heap.size = W2.heap.size := by rw [← hW3]; simp
        have z2 := hM2.size
        refine ⟨_, by rw [h5, hrec], World.putObj_heap_same (blkl hl4), hM5.heap hk4 fun h => by omega, hM5, fun k h => ?_, ?_, fun k h => ?_⟩
        · rcases h with h | rfl
          · refine ⟨?_, Nat.lt_of_lt_of_le (hG' k h).2 hM5.size⟩
            rcases (hG' k h).1 with h | h
            · rcases hG1 k h with h | h
              · exact .inl ((g1 k).2 (.inl h))
              · exact .inr h
            · exact .inr (by omega)
          · exact ⟨.inl ((g1 _).2 (.inr rfl)), Nat.lt_of_lt_of_le (blkl hl4) hM5.size⟩
        · refine (((hM2.mono (T := Gi) fun k h => .inl ((g1 k).2 (.inl h))).trans hM3 fun k h => .inl ((g1 k).2 (.inr h))).trans hM4 fun k h => ?_).trans hM5 fun k h => .inl ((g1 k).2 (.inr h))
          rcases hG1 k h with h | h
          · exact .inl ((g1 k).2 (.inl h))
          · exact .inr h
        · rcases (hG' k h).1 with h | h
          · exact hg1 k h
          · omega
      rintro e a3 W4 hp
      cases e with
      | normal =>
        obtain ⟨G', hG', hM4, hi4⟩ := hp
        obtain ⟨W5, e5, l5, k5, m5, s5, t5, u5⟩ := fin none G' W4 hG' hM4
        exact ⟨_, W5, e5, fun k => G' k ∨ k = w.heap.size + 1, s5, t5, .inl ⟨rfl, G', fun k => Iff.rfl, u5, hI _ _ _ _ _ hi4 m5 fun k h => by subst h; exact ⟨by omega, fun h => (u5 _ h).2 rfl⟩, l5, k5⟩⟩
      | ret =>
        obtain ⟨G', hG', hM4, hi4⟩ := hp
        obtain ⟨W5, e5, l5, k5, m5, s5, t5, u5⟩ := fin (some .ret) G' W4 hG' hM4
        exact ⟨_, W5, e5, fun k => G' k ∨ k = w.heap.size + 1, s5, t5, .inr ⟨rfl, G', .ret, fun k => Iff.rfl, u5, hIx _ _ _ _ _ _ hi4 m5 fun k h => by subst h; exact ⟨by omega, fun h => (u5 _ h).2 rfl⟩, l5, k5⟩⟩
      | exit id =>
        obtain ⟨G', hG', hM4, hi4⟩ := hp
        obtain ⟨W5, e5, l5, k5, m5, s5, t5, u5⟩ := fin (some (.exit id)) G' W4 hG' hM4
        exact ⟨_, W5, e5, fun k => G' k ∨ k = w.heap.size + 1, s5, t5, .inr ⟨rfl, G', .exit id, fun k => Iff.rfl, u5, hIx _ _ _ _ _ _ hi4 m5 fun k h => by subst h; exact ⟨by omega, fun h => (u5 _ h).2 rfl⟩, l5, k5⟩⟩
      | goto t =>
        obtain ⟨G', hG', hM4, hi4⟩ := hp
        obtain ⟨W5, e5, l5, k5, m5, s5, t5, u5⟩ := fin (some (.goto t)) G' W4 hG' hM4
        exact ⟨_, W5, e5, fun k => G' k ∨ k = w.heap.size + 1, s5, t5, .inr ⟨rfl, G', .goto t, fun k => Iff.rfl, u5, hIx _ _ _ _ _ _ hi4 m5 fun k h => by subst h; exact ⟨by omega, fun h => (u5 _ h).2 rfl⟩, l5, k5⟩⟩
      | panic ch => exact hp.elim
      | outgrown => exact hp.elim
    · have := hG0 k h; omega
    · rcases h with h | rfl
      · exact hH k hk h
      · have := hHl _ hk; omega
    · rcases h with h | rfl
      · have := hG0 k h; omega
      · omega
    · -- BEHIND THE ITERATOR
      rintro e W2 ⟨⟨v, rfl⟩, Gi, (⟨G, g1, g2, hi, hl, hk⟩ | ⟨pre, hpre, G, c, g1, g2, hi, hl, hk⟩)⟩
      · refine ⟨none, _, by have := run_endLoop (P := P) hl (by rw [hrec]; simp); rw [hrec] at this; exact this, hdone G _ (hI.putObj hi (by omega) (fun h => (g2 _ h).2 rfl) _) g2 ((World.putObj_heap_other (by omega)).trans hk)⟩
      · refine ⟨some c, _, by have := run_endLoop (P := P) hl (by rw [hrec]; simp); rw [hrec] at this; exact this, (wpIn_wide (n := 0)).2 (hstop c pre G _ hpre ((hIx c).putObj hi (by omega) (fun h => (g2 _ h).2 rfl) _) g2 ((World.putObj_heap_other (by omega)).trans hk))⟩
end

/-- The same, where the loop's variables are set and no memory is made for them. -/
theorem wp_range' {P : Program} {α : Type} {g : Operand} {ps : Array Tmp} {assign body : Code} {Q : Exit → Act → World → Prop} {a : Act} {w : World}
    {gf : Nat} {lb : Array Value} (hg : a.eval g = .func (.func gf) #[] lb) (eg : ∀ args w, (callFunc gf args).run P w = .ok (.enter gf args) w)
    {encs : α → Array Value} {xs : List α} {H : Nat → Prop} {w0 : World} (hit : Iter P gf lb encs xs H w0) (hw0 : Mod (fun k => w0.heap.size ≤ k) w0 w) (hps : ∀ x, (encs x).size = ps.size)
    (G0 : Nat → Prop) (hG0 : ∀ k, G0 k → k < w.heap.size) (hH : ∀ k, H k → ¬ G0 k) (hHl : ∀ k, H k → k < w.heap.size)
    (I : List α → (Nat → Prop) → World → Prop) (Ix : Code → List α → (Nat → Prop) → World → Prop) (hI : Stab w.heap.size I) (hIx : ∀ c, Stab w.heap.size (Ix c)) (h0 : I [] G0 w)
    (hab : ∃ F : α → Act,
      (∀ (l : Nat) (x : α) (W : World) (K : Act → World → Prop), K (F x) W → assign.wpIn (Fence.wide.inRound l) 0 P (Exit.then K (fun _ _ _ => False)) { tmps := (ps.zip (encs x)).foldl (fun t (p, v) => t.setIfInBounds p v) a.tmps, defers := [] } W) ∧
      (∀ (l : Nat) (pre : List α) (x : α) (rest : List α) (G : Nat → Prop) (W : World), xs = pre ++ x :: rest → I pre G W → (∀ k, G k → k ≠ w.heap.size ∧ k ≠ w.heap.size + 1) →
        body.wpIn (Fence.wide.inRound l) 0 P (roundEnd I Ix (pre ++ [x]) G W) (F x) W))
    (hdone : ∀ (G : Nat → Prop) (W : World), I xs G W → (∀ k, G k → k ≠ w.heap.size ∧ k ≠ w.heap.size + 1) → W.heap[w.heap.size]? = some (.deferred (some [])) → Q .normal { a with defers := { target := .collected w.heap.size, args := #[] } :: a.defers } W)
    (hstop : ∀ (c : Code) (pre : List α) (G : Nat → Prop) (W : World), pre <+: xs → Ix c pre G W → (∀ k, G k → k ≠ w.heap.size ∧ k ≠ w.heap.size + 1) → W.heap[w.heap.size]? = some (.deferred (some [])) → c.wp P Q { a with defers := { target := .collected w.heap.size, args := #[] } :: a.defers } W) :
    (Code.rangeFunc g ps assign body).wp P Q a w := by
  obtain ⟨F, h1, h2⟩ := hab
  refine wp_range hg eg hit hw0 hps G0 hG0 hH hHl I Ix hI hIx h0 (fun pre x a1 G W => a1 = F x ∧ I pre G W) (fun x a1 s G W W' T h m t => ⟨h.1, hI _ _ _ _ _ h.2 m t⟩) ?_ ?_ hdone hstop
  · intro l pre x rest G W K hx hi hK
    exact h1 l x W K (hK _ _ _ ⟨rfl, hi⟩ (fun k h => .inl h) (Mod.refl _ _))
  · rintro l pre x rest a1 G W hx ⟨rfl, hi⟩ hg
    exact h2 l pre x rest G W hx hi hg

/-- The end of such a function: its marks are taken. -/
theorem retM0 {P : Program} {fn : Func} {R : Ending → World → Prop} {a : Act} {W : World} {v : Value} (hr : (results fn a.tmps).run P W = .ok v W) (hd : a.defers = []) (hR : R (.returned v) W) : bodyPostM Fence.wide 0 P fn R .ret a W := by
  show LeavesInM Fence.wide 0 P fn a.tmps R a.defers .returning W
  rw [hd]; exact ⟨v, hr, hR⟩
theorem retM1 {P : Program} {fn : Func} {R : Ending → World → Prop} {a : Act} {W : World} {v : Value} {D : Nat} (hk : W.heap[D]? = some (.deferred (some []))) (hd : a.defers = [{ target := .collected D, args := #[] }])
    (hr : (results fn a.tmps).run P (W.putObj D (.deferred none)) = .ok v (W.putObj D (.deferred none))) (hR : R (.returned v) (W.putObj D (.deferred none))) : bodyPostM Fence.wide 0 P fn R .ret a W := by
  show LeavesInM Fence.wide 0 P fn a.tmps R a.defers .returning W
  rw [hd]
  exact ⟨by simp, .inl ⟨D, _, rfl, run_takeDeferred hk, v, hr, hR⟩⟩
theorem retM2 {P : Program} {fn : Func} {R : Ending → World → Prop} {a : Act} {W : World} {v : Value} {D E : Nat} (hne : E ≠ D) (hk : W.heap[D]? = some (.deferred (some []))) (hk2 : W.heap[E]? = some (.deferred (some [])))
    (hd : a.defers = [{ target := .collected D, args := #[] }, { target := .collected E, args := #[] }])
    (hr : (results fn a.tmps).run P ((W.putObj D (.deferred none)).putObj E (.deferred none)) = .ok v ((W.putObj D (.deferred none)).putObj E (.deferred none))) (hR : R (.returned v) ((W.putObj D (.deferred none)).putObj E (.deferred none))) :
    bodyPostM Fence.wide 0 P fn R .ret a W := by
  show LeavesInM Fence.wide 0 P fn a.tmps R a.defers .returning W
  rw [hd]
  exact ⟨by simp, .inl ⟨D, _, rfl, run_takeDeferred hk, by simp, .inl ⟨E, _, rfl, run_takeDeferred ((World.putObj_heap_other hne).trans hk2), v, hr, hR⟩⟩⟩
end Go.Proofs.Bo
namespace Go.Proofs.Bo
open Go Go.RowKit
theorem below_put {B D : Nat} {w W : World} (h : Below B w W) (hD : B ≤ D) (o : Obj) : Below B w (W.putObj D o) :=
  ⟨h.os, h.tape, h.output, by rw [World.putObj_size]; exact h.size, fun k hk => (World.putObj_heap_other (by omega)).trans (h.block k hk)⟩
end Go.Proofs.Bo
set_option linter.unusedVariables false
set_option linter.unusedSimpArgs false
namespace Go.Proofs.Bo
open Go Go.RowKit Go.Shelf

/-- Between two rounds: blocks of S alone are the loop's own; of them R; all else is as it was when the loop began. -/
def RngI {α : Type} (W1 : World) (S : Nat → Prop) (R : List α → World → Prop) : List α → (Nat → Prop) → World → Prop := fun pre G W =>
  (∀ j, G j ↔ S j) ∧ Mod S W1 W ∧ R pre W
/-- It looks at S alone. -/
def Looks {α : Type} (S : Nat → Prop) (R : List α → World → Prop) : Prop := ∀ pre W W', R pre W → (∀ j, S j → W'.heap[j]? = W.heap[j]?) → R pre W'
theorem RngI.stab {α : Type} {W1 : World} {S : Nat → Prop} {R : List α → World → Prop} (hR : Looks S R) (hS : ∀ j, S j → j < W1.heap.size) : Stab W1.heap.size (RngI W1 S R) := by
  rintro s G W W' T ⟨g1, g2, g3⟩ m t
  exact ⟨g1, g2.trans m fun j h => .inr (t j h).1, hR _ _ _ g3 fun j hj => m.block j (Nat.lt_of_lt_of_le (hS j hj) g2.size) fun h => (t j h).2 ((g1 j).2 hj)⟩
theorem RngI.step {α : Type} {W1 W W' : World} {S : Nat → Prop} {R R' : List α → World → Prop} {pre pre' : List α} {G : Nat → Prop} (h : RngI W1 S R pre G W) (hS : ∀ j, S j → j < W1.heap.size) (m : Mod S W W') (hr : R' pre' W') :
    ∃ G', (∀ k, G' k → (G k ∨ W.heap.size ≤ k) ∧ k < W'.heap.size) ∧ Mod G W W' ∧ RngI W1 S R' pre' G' W' := by
  obtain ⟨g1, g2, g3⟩ := h
  exact ⟨S, fun k hk => ⟨.inl ((g1 k).2 hk), Nat.lt_of_lt_of_le (hS k hk) (Nat.le_trans g2.size m.size)⟩, m.mono fun i hi => .inl ((g1 i).2 hi), fun _ => Iff.rfl, g2.trans' m, hr⟩
theorem RngI.start {α : Type} {W1 : World} {S : Nat → Prop} {R : List α → World → Prop} (hr : R [] W1) : RngI W1 S R [] S W1 := ⟨fun _ => Iff.rfl, Mod.refl _ _, hr⟩

/-- How the body of a round may be left: blocks of S have changed, and new ones. -/
def rndE {α : Type} (S : Nat → Prop) (R : List α → World → Prop) (Ix : Code → List α → World → Prop) (pre : List α) (W : World) : Exit → Act → World → Prop
  | .normal, _, W' => Mod S W W' ∧ R pre W'
  | .ret, _, W' => Mod S W W' ∧ Ix .ret pre W'
  | .exit id, _, W' => Mod S W W' ∧ Ix (.exit id) pre W'
  | .goto t, _, W' => Mod S W W' ∧ Ix (.goto t) pre W'
  | .panic _, _, _ => False
  | .outgrown, _, _ => False

section
variable {P : Program} {α : Type} {W1 W : World} {S : Nat → Prop} {R : List α → World → Prop} {Ix : Code → List α → World → Prop} {pre : List α} {G : Nat → Prop}

theorem rnd_to (g1 : ∀ j, S j → G j ∨ W.heap.size ≤ j) (g2 : Mod S W1 W) (hS : ∀ j, S j → j < W1.heap.size) {e : Exit} {a : Act} {W' : World} (h : rndE S R Ix pre W e a W') :
    roundEnd (RngI W1 S R) (fun c => RngI W1 S (Ix c)) pre G W e a W' := by
  have key : ∀ (R' : List α → World → Prop), Mod S W W' → R' pre W' → ∃ G', (∀ k, G' k → (G k ∨ W.heap.size ≤ k) ∧ k < W'.heap.size) ∧ Mod G W W' ∧ RngI W1 S R' pre G' W' := fun R' m hr =>
    ⟨S, fun k hk => ⟨g1 k hk, Nat.lt_of_lt_of_le (hS k hk) (Nat.le_trans g2.size m.size)⟩, m.mono g1, fun _ => Iff.rfl, g2.trans' m, hr⟩
  cases e <;> first | exact key _ h.1 h.2 | exact h.elim

/-- 'for .. := range g { .. }': no memory is made for the loop's variables. -/
theorem wp_range0 {g : Operand} {ps : Array Tmp} {assign body : Code} {Q : Exit → Act → World → Prop} {a : Act} {w : World}
    {gf : Nat} {lb : Array Value} (hg : a.eval g = .func (.func gf) #[] lb) (eg : ∀ args w, (callFunc gf args).run P w = .ok (.enter gf args) w)
    {encs : α → Array Value} {xs : List α} {H : Nat → Prop} (hit : Iter P gf lb encs xs H w) (hps : ∀ x, (encs x).size = ps.size)
    (S : Nat → Prop) (hS : ∀ k, S k → k < w.heap.size) (hH : ∀ k, H k → ¬ S k) (hHl : ∀ k, H k → k < w.heap.size)
    (R : List α → World → Prop) (Ix : Code → List α → World → Prop) (hR : Looks S R) (hIx : ∀ c, Looks S (Ix c)) (h0 : R [] w)
    (hab : ∃ F : α → Act,
      (∀ (l : Nat) (x : α) (W : World) (K : Act → World → Prop), K (F x) W → assign.wpIn (Fence.wide.inRound l) 0 P (Exit.then K (fun _ _ _ => False)) { tmps := (ps.zip (encs x)).foldl (fun t (p, v) => t.setIfInBounds p v) a.tmps, defers := [] } W) ∧
      (∀ (l : Nat) (pre : List α) (x : α) (rest : List α) (W : World), xs = pre ++ x :: rest → Mod S w W → R pre W → body.wpIn (Fence.wide.inRound l) 0 P (rndE S R Ix (pre ++ [x]) W) (F x) W))
    (hdone : ∀ (W : World), Mod S w W → R xs W → W.heap[w.heap.size]? = some (.deferred (some [])) → Q .normal { a with defers := { target := .collected w.heap.size, args := #[] } :: a.defers } W)
    (hstop : ∀ (c : Code) (pre : List α) (W : World), pre <+: xs → Mod S w W → Ix c pre W → W.heap[w.heap.size]? = some (.deferred (some [])) → c.wp P Q { a with defers := { target := .collected w.heap.size, args := #[] } :: a.defers } W) :
    (Code.rangeFunc g ps assign body).wp P Q a w := by
  obtain ⟨F, h1, h2⟩ := hab
  refine wp_range' hg eg hit (Mod.refl _ _) hps S hS hH hHl (RngI w S R) (fun c => RngI w S (Ix c)) (RngI.stab hR hS) (fun c => RngI.stab (hIx c) hS) (RngI.start h0) ⟨F, h1, ?_⟩ ?_ ?_
  · intro l pre x rest G W hx hi _
    exact wpIn_mono (h2 l pre x rest W hx hi.2.1 hi.2.2) fun e a' W' hq => rnd_to (fun j hj => .inl ((hi.1 j).2 hj)) hi.2.1 hS hq
  · exact fun G W hi _ hk => hdone W hi.2.1 hi.2.2 hk
  · exact fun c pre G W hp hi _ hk => hstop c pre W hp hi.2.1 hi.2.2 hk

/-- Such a loop whose variable lies in a block of the round's own. -/
theorem wp_range1 {g : Operand} {ps : Array Tmp} {assign body : Code} {Q : Exit → Act → World → Prop} {a : Act} {w : World}
    {gf : Nat} {lb : Array Value} (hg : a.eval g = .func (.func gf) #[] lb) (eg : ∀ args w, (callFunc gf args).run P w = .ok (.enter gf args) w)
    {encs : α → Array Value} {xs : List α} {H : Nat → Prop} (hit : Iter P gf lb encs xs H w) (hps : ∀ x, (encs x).size = ps.size)
    (S : Nat → Prop) (hS : ∀ k, S k → k < w.heap.size) (hH : ∀ k, H k → ¬ S k) (hHl : ∀ k, H k → k < w.heap.size)
    (R : List α → World → Prop) (Ix : Code → List α → World → Prop) (hR : Looks S R) (hIx : ∀ c, Looks S (Ix c)) (h0 : R [] w)
    (cells : α → Array Value) (ty : TypeId)
    (hab : ∃ F : Nat → α → Act,
      (∀ (l : Nat) (x : α) (W : World) (K : Act → World → Prop), K (F W.heap.size x) (W.alloc (.cells (cells x) ty)) → assign.wpIn (Fence.wide.inRound l) 0 P (Exit.then K (fun _ _ _ => False)) { tmps := (ps.zip (encs x)).foldl (fun t (p, v) => t.setIfInBounds p v) a.tmps, defers := [] } W) ∧
      (∀ (l : Nat) (pre : List α) (x : α) (rest : List α) (b : Nat) (W : World), xs = pre ++ x :: rest → W.heap[b]? = some (.cells (cells x) ty (0, 0)) → w.heap.size ≤ b → Mod S w W → R pre W → body.wpIn (Fence.wide.inRound l) 0 P (rndE S R Ix (pre ++ [x]) W) (F b x) W))
    (hdone : ∀ (W : World), Mod S w W → R xs W → W.heap[w.heap.size]? = some (.deferred (some [])) → Q .normal { a with defers := { target := .collected w.heap.size, args := #[] } :: a.defers } W)
    (hstop : ∀ (c : Code) (pre : List α) (W : World), pre <+: xs → Mod S w W → Ix c pre W → W.heap[w.heap.size]? = some (.deferred (some [])) → c.wp P Q { a with defers := { target := .collected w.heap.size, args := #[] } :: a.defers } W) :
    (Code.rangeFunc g ps assign body).wp P Q a w := by
  obtain ⟨F, h1, h2⟩ := hab
  refine wp_range hg eg hit (Mod.refl _ _) hps S hS hH hHl (RngI w S R) (fun c => RngI w S (Ix c)) (RngI.stab hR hS) (fun c => RngI.stab (hIx c) hS) (RngI.start h0)
    (fun pre x a1 G W => ∃ b, a1 = F b x ∧ (∀ j, G j ↔ (S j ∨ j = b)) ∧ w.heap.size ≤ b ∧ W.heap[b]? = some (.cells (cells x) ty (0, 0)) ∧ Mod S w W ∧ R pre W) ?_ ?_ ?_ ?_ ?_
  · rintro x a1 s G W W' T ⟨b, g1, g2, g3, g4, g5, g6⟩ m t
    exact ⟨b, g1, g2, g3, m.heap g4 fun h => (t b h).2 ((g2 b).2 (.inr rfl)), g5.trans m fun j h => .inr (t j h).1, hR _ _ _ g6 fun j hj => m.block j (Nat.lt_of_lt_of_le (hS j hj) g5.size) fun h => (t j h).2 ((g2 j).2 (.inl hj))⟩
  · rintro l pre x rest G W K hx ⟨i1, i2, i3⟩ hK
    have hM : Mod (fun _ => False) W (W.alloc (.cells (cells x) ty)) := (Mod.refl _ _).alloc _
    exact h1 l x W K (hK _ (fun j => S j ∨ j = W.heap.size) _ ⟨W.heap.size, rfl, fun _ => Iff.rfl, i2.size, alloc_0 _ _, i2.trans hM (fun _ h => h.elim), hR _ _ _ i3 fun j hj => hM.block j (Nat.lt_of_lt_of_le (hS j hj) i2.size) fun h => h⟩
      (fun k hk => hk.imp (fun h => (i1 k).2 h) (fun h => by omega)) (hM.mono fun _ h => h.elim))
  · rintro l pre x rest a1 G W hx ⟨b, rfl, g2, g3, g4, g5, g6⟩ _
    exact wpIn_mono (h2 l pre x rest b W hx g4 g3 g5 g6) fun e a' W' hq => rnd_to (fun j hj => .inl ((g2 j).2 (.inl hj))) g5 hS hq
  · exact fun G W hi _ hk => hdone W hi.2.1 hi.2.2 hk
  · exact fun c pre G W hp hi _ hk => hstop c pre W hp hi.2.1 hi.2.2 hk
end
end Go.Proofs.Bo
set_option linter.unusedVariables false
set_option linter.unusedSimpArgs false
namespace Go.Proofs.Bo
open Go Go.RowKit Go.Shelf
section
variable {P : Program} {α : Type}

theorem roundEnd_mono {I : List α → (Nat → Prop) → World → Prop} {Ix : Code → List α → (Nat → Prop) → World → Prop} {xs : List α} {G G1 : Nat → Prop} {W : World} (hG : ∀ k, G k → G1 k) {e : Exit} {a : Act} {W' : World} (h : roundEnd I Ix xs G W e a W') : roundEnd I Ix xs G1 W e a W' := by
  have key : ∀ (J : List α → (Nat → Prop) → World → Prop), (∃ G', (∀ k, G' k → (G k ∨ W.heap.size ≤ k) ∧ k < W'.heap.size) ∧ Mod G W W' ∧ J xs G' W') → ∃ G', (∀ k, G' k → (G1 k ∨ W.heap.size ≤ k) ∧ k < W'.heap.size) ∧ Mod G1 W W' ∧ J xs G' W' := fun J ⟨G', h1, h2, h3⟩ =>
    ⟨G', fun k hk => ⟨(h1 k hk).1.imp (hG k) id, (h1 k hk).2⟩, h2.mono fun i hi => .inl (hG i hi), h3⟩
  cases e <;> first | exact key _ h | exact h.elim

/-- A range over a function whose variable lies in a block of the round's own; any invariant. -/
theorem wp_range1G {g : Operand} {ps : Array Tmp} {assign body : Code} {Q : Exit → Act → World → Prop} {a : Act} {w : World}
    {gf : Nat} {lb : Array Value} (hg : a.eval g = .func (.func gf) #[] lb) (eg : ∀ args w, (callFunc gf args).run P w = .ok (.enter gf args) w)
    {encs : α → Array Value} {xs : List α} {H : Nat → Prop} (hit : Iter P gf lb encs xs H w) (hps : ∀ x, (encs x).size = ps.size)
    (G0 : Nat → Prop) (hG0 : ∀ k, G0 k → k < w.heap.size) (hH : ∀ k, H k → ¬ G0 k) (hHl : ∀ k, H k → k < w.heap.size)
    (I : List α → (Nat → Prop) → World → Prop) (Ix : Code → List α → (Nat → Prop) → World → Prop) (hI : Stab w.heap.size I) (hIx : ∀ c, Stab w.heap.size (Ix c)) (hlt : ∀ pre G W, I pre G W → w.heap.size ≤ W.heap.size ∧ ∀ k, G k → k < W.heap.size) (h0 : I [] G0 w)
    (cells : α → Array Value) (ty : TypeId)
    (hab : ∃ F : Nat → α → Act,
      (∀ (l : Nat) (x : α) (W : World) (K : Act → World → Prop), K (F W.heap.size x) (W.alloc (.cells (cells x) ty)) → assign.wpIn (Fence.wide.inRound l) 0 P (Exit.then K (fun _ _ _ => False)) { tmps := (ps.zip (encs x)).foldl (fun t (p, v) => t.setIfInBounds p v) a.tmps, defers := [] } W) ∧
      (∀ (l : Nat) (pre : List α) (x : α) (rest : List α) (b : Nat) (G : Nat → Prop) (W : World), xs = pre ++ x :: rest → W.heap[b]? = some (.cells (cells x) ty (0, 0)) → ¬ G b → w.heap.size ≤ b → I pre G W → (∀ k, G k → k ≠ w.heap.size ∧ k ≠ w.heap.size + 1) → body.wpIn (Fence.wide.inRound l) 0 P (roundEnd I Ix (pre ++ [x]) G W) (F b x) W))
    (hdone : ∀ (G : Nat → Prop) (W : World), I xs G W → (∀ k, G k → k ≠ w.heap.size ∧ k ≠ w.heap.size + 1) → W.heap[w.heap.size]? = some (.deferred (some [])) → Q .normal { a with defers := { target := .collected w.heap.size, args := #[] } :: a.defers } W)
    (hstop : ∀ (c : Code) (pre : List α) (G : Nat → Prop) (W : World), pre <+: xs → Ix c pre G W → (∀ k, G k → k ≠ w.heap.size ∧ k ≠ w.heap.size + 1) → W.heap[w.heap.size]? = some (.deferred (some [])) → c.wp P Q { a with defers := { target := .collected w.heap.size, args := #[] } :: a.defers } W) :
    (Code.rangeFunc g ps assign body).wp P Q a w := by
  obtain ⟨F, h1, h2⟩ := hab
  refine wp_range hg eg hit (Mod.refl _ _) hps G0 hG0 hH hHl I Ix hI hIx h0
    (fun pre x a1 G1 W => ∃ b G, a1 = F b x ∧ (∀ k, G1 k ↔ (G k ∨ k = b)) ∧ ¬ G b ∧ w.heap.size ≤ b ∧ W.heap[b]? = some (.cells (cells x) ty (0, 0)) ∧ I pre G W) ?_ ?_ ?_ hdone hstop
  · rintro x a1 s G1 W W' T ⟨b, G, e, g1, g2, g3, g4, g5⟩ m t
    exact ⟨b, G, e, g1, g2, g3, m.heap g4 fun h => (t b h).2 ((g1 b).2 (.inr rfl)), hI _ _ _ _ _ g5 m fun k hk => ⟨(t k hk).1, fun h => (t k hk).2 ((g1 k).2 (.inl h))⟩⟩
  · rintro l pre x rest G W K hx hi hK
    have hM : Mod (fun _ => False) W (W.alloc (.cells (cells x) ty)) := (Mod.refl _ _).alloc _
    obtain ⟨q1, q2⟩ := hlt _ _ _ hi
    exact h1 l x W K (hK _ (fun j => G j ∨ j = W.heap.size) _ ⟨W.heap.size, G, rfl, fun _ => Iff.rfl, fun h => absurd (q2 _ h) (by omega), q1, alloc_0 _ _, hI _ _ _ _ _ hi hM fun _ h => h.elim⟩
      (fun k hk => hk.imp id fun h => by omega) (hM.mono fun _ h => h.elim))
  · rintro l pre x rest a1 G1 W hx ⟨b, G, rfl, g1, g2, g3, g4, g5⟩ hne
    exact wpIn_mono (h2 l pre x rest b G W hx g4 g2 g3 g5 fun k hk => hne k ((g1 k).2 (.inl hk))) fun e a' W' hq => roundEnd_mono (fun k hk => (g1 k).2 (.inl hk)) hq
end
end Go.Proofs.Bo
set_option linter.unusedVariables false
set_option linter.unusedSimpArgs false
namespace Go.Proofs.Bo
open Go Go.RowKit
section
variable {P : Program} {ops : Array Oper} {rest : List Oper} {o : Oper} {a : Act} {Q : Exit → Act → World → Prop} {F : Fence} {nF : Nat}
/-- 'append(v, x)' behind a fence. -/
theorem app_oneIn {W : World} (news : List Value) (v : Value) (n : Nat) (xs : List Value) (s x : Operand) (t e : TypeId) (z : Value) (size bytes : Nat) (hgd : o.guard = none)
    (ho : o.op = .call { callee := .builtin .append, args := #[s, x], argTypes := #[t, t] })
    (ht : P.underlying t = some (.slice e)) (hinfo : (P.info? e).map (fun i => (i.zero, i.size, i.bytes)) = some (some z, size, bytes)) (hz : z.cells.size = size) (hz0 : 0 < size) (hb0 : 0 < bytes)
    (hs : a.eval s = v) (hx : a.eval x = .slice (some ⟨W.heap.size, 0, none⟩) 1 1)
    (HO : W.ownsRow 0 e size v n xs) (hnl : news.length = size) (h1 : ∀ u ∈ news, u.oneCell' = true) (hl : (n + 1) * bytes ≤ 140737488355328)
    (h : ∀ v1 w1, w1.ownsRow 0 e size v1 (n + 1) (xs ++ news) → W.grownBy w1 v.ownBlock → (∀ k, v1.ownBlock = some k → v.ownBlock = some k ∨ W.heap.size ≤ k) → wpListIn F nF P ops Q rest (a.put o.dst v1) w1) :
    wpListIn F nF P ops Q (o :: rest) a (W.alloc (.cells news.toArray e)) := by
  obtain ⟨i0, hi, hzz⟩ := Option.map_eq_some_iff.1 hinfo
  simp only [Prod.mk.injEq] at hzz
  obtain ⟨hz0', hz1, hz2⟩ := hzz
  have hlen : n + 1 ≤ 140737488355328 := Nat.le_trans (Nat.le_mul_of_pos_right _ hb0) hl
  refine wpListIn_append_own_at (W.alloc (.cells news.toArray e)) hgd s x t ho 0 e i0 z size bytes ht hi hz0' hz1 hz2 hz hz0 v n xs hs (HO.alloc _) ⟨W.heap.size, 0, none⟩ 1 1 news hx (by omega)
    (World.news_of_block (cs := news.toArray) (t := e) (fr := (0, 0)) (heap_alloc_new W _)) h1 (by simp only [maxLen]; omega) hl (by simp) ?_
  intro v1 w1 hown hgr _ hat
  have hg0 : W.grownBy (W.alloc (.cells news.toArray e)) v.ownBlock := World.grownBy_alloc W _ _
  refine h v1 w1 hown (hg0.trans hgr) fun k hk => ?_
  rcases hat with e | e
  · exact .inl (e ▸ hk)
  · rw [e] at hk; cases hk; exact .inr (by simp)
end
end Go.Proofs.Bo
set_option linter.unusedVariables false
set_option linter.unusedSimpArgs false
namespace Go.Proofs.Bo
open Go Go.RowKit
section
variable {n0 : Nat} {P : Program} {ops : Array Oper} {md : Region.Mode} {C : World → Prop}

theorem wpIn_of_quietW {o : Oper} {a : Act} {K : Act → Prop} {K' : Act → World → Prop} {Q' : Exit → Act → World → Prop} {w : World} (hw : C w) (h : ∀ a w', C w' → K a → K' a w')
    (hh : o.quiet P a C K) : o.wpIn Fence.wide n0 P a w K' Q' := by
  obtain ⟨v, h1, h2⟩ := hh
  have h3 := h1 w hw
  unfold Oper.quietAt at h3
  unfold Oper.wpIn
  refine ⟨fun _ _ => trivial, ?_⟩
  rw [show Fence.wide.round = none from rfl, Oper.semAt_none]
  generalize (execOp a.eval o).run P w = r at *
  cases r with
  | ok x w' =>
    cases x <;> simp only [Oper.quietUpon] at h3 <;> simp only [Oper.uponIn]
    case value u =>
      obtain ⟨e1, e2⟩ := h3
      rw [e1, e2]
      exact h _ _ hw h2
    case skip =>
      obtain ⟨e1, e2⟩ := h3
      rw [e1, ← e2]
      exact h _ _ hw h2
    case enter f args =>
      obtain ⟨e1, hc⟩ := h3
      rw [e1]
      refine ⟨fun hd => (by cases hd), callsIn_wide.2 (hc.mono fun e w'' hx => ?_)⟩
      obtain ⟨he, hw''⟩ := hx
      subst he; exact h _ _ hw'' h2
  | halt x w' => simp only [Oper.quietUpon] at h3

theorem wpOpIn_of_qOpW {i : Nat} {a : Act} {K : Act → Prop} {K' : Act → World → Prop} {Q' : Exit → Act → World → Prop} {w : World} (hC : C w) (h : ∀ a w', C w' → K a → K' a w')
    (hh : qOp P ops C i K a) : wpOpIn Fence.wide n0 P ops Q' i K' a w := by
  unfold qOp at hh
  unfold wpOpIn
  split
  · rename_i ho; simp only [ho] at hh; exact h _ _ hC hh
  · rename_i o ho
    simp only [ho] at hh
    split
    · rename_i hw; simp only [hw, if_true] at hh; exact wpIn_of_quietW hC h hh
    · rename_i hw; simp only [hw] at hh; exact ⟨fun _ _ => trivial, h _ _ hC hh⟩

theorem wpAnyIn_of_quietW {Q : Act → Prop} {Q' : Exit → Act → World → Prop} (hQ : ∀ a w, C w → Q a → Q' .normal a w) : ∀ (fuel : Nat) (listed : Array Bool) (a : Act) (w : World), C w →
    wpAnyQ P md ops C Q fuel listed a → wpAnyIn Fence.wide n0 P md ops Q' fuel listed a w
  | 0, _, _, _, hw, h => ⟨h.1, hQ _ _ hw h.2⟩
  | fuel + 1, _, _, _, hw, h => ⟨fun h0 => hQ _ _ hw (h.1 h0), fun i hi => wpOpIn_of_qOpW hw (fun a' w' hw' => wpAnyIn_of_quietW hQ fuel _ a' w' hw') (h.2 i hi)⟩

theorem anyIn_of_headQ {n g : Nat} {L : Array Bool → Act → Prop} {Q : Exit → Act → World → Prop} (hL : ∀ listed a w, C w → L listed a → wpAnyIn Fence.wide n0 P md ops Q g listed a w) :
    ∀ (f : Nat) (listed : Array Bool) (a : Act) (w : World), C w → HeadQ P md ops C n L f listed a → wpAnyIn Fence.wide n0 P md ops Q (f + g) listed a w
  | 0, listed, a, w, hw, h => by rw [Nat.zero_add]; exact hL _ _ _ hw h
  | f + 1, listed, a, w, hw, h => by
    rw [Nat.add_right_comm]
    exact ⟨fun e => absurd e h.1, fun i hi => wpOpIn_of_qOpW hw (fun _ _ hw' hk => anyIn_of_headQ hL f _ _ _ hw' hk) (h.2 i hi).2⟩

/-- cq_mid in the wide fence: its one operation may call a yield function. -/
theorem cq_midIn {id : Nat} {Q : Exit → Act → World → Prop} {a : Act} {w : World} {l : List Oper} (n : Nat) (o : Oper) (hm : P.follows .mixedOrders = true) (hB : midB .any l.toArray n = true) (ho : l[n]? = some o) (hg : o.guard = none)
    (h : wpQuiet P l.toArray (CM w) (fun a' => ∀ w', CM w w' → ∀ K : Act → World → Prop, (∀ a1 w1, wpQuiet P l.toArray (CM w1) (fun a2 => ∀ w2, CM w1 w2 → Q .normal a2 w2) (l.drop (n + 1)) a1 → K a1 w1) → o.wpIn Fence.wide n0 P a' w' K Q) (l.take n) a) :
    (Code.region id l.toArray true).wpIn Fence.wide n0 P Q a w := by
  simp only [midB, Bool.and_eq_true, decide_eq_true_eq] at hB
  obtain ⟨⟨⟨⟨hsel, hn⟩, hs⟩, hc⟩, hlex⟩ := hB
  have hn' : n < l.length := by simpa using hn
  have htl : (l.take n).length = n := by simp; omega
  have inv0 : HeadInv .any l.toArray n (Array.replicate l.toArray.size false) :=
    ⟨by simp, fun j oj _ hl => (by rw [getD_replicate_false] at hl; cases hl), fun t _ ht => getD_in (by simpa using ht) (getD_replicate_false _ _)⟩
  have H := HeadQ.lex2 (P := P) (C := CM w) (md := .any) (n := n) (B := midC .any l.toArray n) (fun listed hb j hj => by
      rw [(midC_spec hb).1] at hj
      have : j = n := by simpa using hj
      omega) hsel hs hc hn (l.take n) 0 _ a (fun j hj => by
    rw [htl] at hj
    simp [hj]) (by simpa using htl) inv0 (by rw [htl]; exact hlex) h
  refine wpIn_region_any hm ?_
  have := anyIn_of_headQ (n0 := n0) (Q := Q) (g := l.toArray.size - n) (fun listed a' w' hw' hL => by
    obtain ⟨hb, hq⟩ := hL
    replace hb := midC_spec hb
    have hd : l.toArray.size - n = (l.drop (n + 1)).length + 1 := by simp; omega
    rw [hd]
    refine wpAnyIn_all hb.1 (by simp) ?_
    intro i hi
    simp at hi
    subst hi
    unfold wpOpIn
    simp only [List.getElem?_toArray, ho]
    rw [if_pos (by simp [Region.wanted, hg])]
    refine hq w' hw' _ fun a1 w1 hq1 => ?_
    refine wpAnyIn_of_quietW (C := CM w1) (Q := fun a' => ∀ w', CM w1 w' → Q .normal a' w') (fun _ w' hw' h => h w' hw') _ _ _ _ (Mod.refl _ _) ?_
    have hd2 : (l.drop (i + 1)).length = l.toArray.size - i - 1 := by simp; omega
    exact wpAnyQ_lex hsel (l.drop (i + 1)) (i + 1) _ _ (fun j => by simp) (by rw [hd2]; exact hb.2) hq1) _ _ _ w.drew ((Mod.refl _ w).drew) H
  have e : (l.take n).length + (l.toArray.size - n) = l.toArray.size := by rw [htl]; simp; omega
  rw [e] at this
  exact this
end
end Go.Proofs.Bo
