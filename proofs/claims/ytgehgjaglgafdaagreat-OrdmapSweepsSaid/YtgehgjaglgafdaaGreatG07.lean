import Derived.Test.YtgehgjaglgafdaaGreatG00
import Derived.RangeFuncNested
import Derived.RangeFuncBound
import Derived.RangeFuncCalls
import Derived.RangeFuncLeaves
import Derived.Shelf.Abstract
import Derived.OwnWalkIn
import Derived.TacticsInMore
import Derived.LoopNIn
import Derived.LoopIn
import Derived.Test.YtgehgjaglgafdaaGreatG01
import Derived.Deep.RegionLaw
import Derived.Test.YtgehgjaglgafdaaGreatProg
set_option linter.unusedVariables false
set_option linter.unusedSimpArgs false
namespace Go.Proofs.Bo
open Go Go.RowKit Go.Shelf
theorem calls_of_wp_marks {P : Program} {f : FuncId} {fn : Func} {c : Code} {args : Array Value} {w : World} {R : Ending → World → Prop} (hf : P.funcs[f]? = some fn) (hb : fn.body = some c)
  (h : c.wp P (bodyPostM Fence.wide 0 P fn R) { tmps := args ++ Array.replicate (fn.ntmps - args.size) undef, defers := [] } w) : Calls P f args w R :=
 callsIn_wide.1 (callsIn_of_wp_marks hf hb trivial ((wpIn_wide (n := 0)).2 h))
theorem mod_putObj {S : Nat → Prop} {a w : World} (h : Mod S a w) {l : Nat} (hl : S l ∨ a.heap.size ≤ l) (o : Obj) : Mod S a (w.putObj l o) :=
 h.grown (grownBy_putObj' w l o) (fun k e => by cases e; exact hl)
theorem mod_put1 (W : World) (l : Nat) (o : Obj) : Mod (fun k => k = l) W (W.putObj l o) := mod_putObj (S := fun k => k = l) (Mod.refl _ _) (.inl rfl) o
def Stab {α : Type} (B : Nat) (J : List α → (Nat → Prop) → World → Prop) : Prop :=
 ∀ s G W W' T, J s G W → Mod T W W' → (∀ k, T k → B ≤ k ∧ ¬ G k) → J s G W'
def Iter {α : Type} (P : Program) (g : Nat) (lb : Array Value) (encs : α → Array Value) (xs : List α) (H : Nat → Prop) (w : World) : Prop :=
 ∀ (l : Nat) (J Jx : List α → (Nat → Prop) → World → Prop) (W : World), Mod (fun k => w.heap.size ≤ k) w W → Stab W.heap.size J → Stab W.heap.size Jx →
  (∀ pre x rest G W1, xs = pre ++ x :: rest → J pre G W1 → YieldAt Fence.wide 0 P l (encs x) W1 fun e W' => ∃ G', (∀ k, G' k → (G k ∨ W1.heap.size ≤ k) ∧ k < W'.heap.size) ∧ Mod G W1 W' ∧
   ((e = .returned (.bool true) ∧ J (pre ++ [x]) G' W') ∨ (e = .returned (.bool false) ∧ Jx (pre ++ [x]) G' W'))) →
  ∀ G, J [] G W → (∀ k, H k → ¬ G k) → (∀ k, G k → k < W.heap.size) →
  Calls P g (#[.func (.yield l) #[] #[]] ++ lb) W fun e W' => (∃ v, e = .returned v) ∧ ∃ G', J xs G' W' ∨ ∃ pre, pre <+: xs ∧ Jx pre G' W'
def roundEnd {α : Type} (I : List α → (Nat → Prop) → World → Prop) (Ix : Code → List α → (Nat → Prop) → World → Prop) (xs : List α) (G : Nat → Prop) (W : World) : Exit → Act → World → Prop
 | .normal, _, W' => ∃ G', (∀ k, G' k → (G k ∨ W.heap.size ≤ k) ∧ k < W'.heap.size) ∧ Mod G W W' ∧ I xs G' W'
 | .ret, _, W' => ∃ G', (∀ k, G' k → (G k ∨ W.heap.size ≤ k) ∧ k < W'.heap.size) ∧ Mod G W W' ∧ Ix .ret xs G' W'
 | .exit id, _, W' => ∃ G', (∀ k, G' k → (G k ∨ W.heap.size ≤ k) ∧ k < W'.heap.size) ∧ Mod G W W' ∧ Ix (.exit id) xs G' W'
 | .goto t, _, W' => ∃ G', (∀ k, G' k → (G k ∨ W.heap.size ≤ k) ∧ k < W'.heap.size) ∧ Mod G W W' ∧ Ix (.goto t) xs G' W'
 | .panic _, _, _ => False
 | .outgrown, _, _ => False
section
variable {P : Program} {α : Type}
theorem Stab.putObj {B : Nat} {J : List α → (Nat → Prop) → World → Prop} (h : Stab B J) {s : List α} {G : Nat → Prop} {W : World} (hJ : J s G W) {l : Nat} (hl : B ≤ l) (hG : ¬ G l) (o : Obj) : J s G (W.putObj l o) :=
 h s G W _ (fun k => k = l) hJ (mod_put1 _ _ _) (fun k hk => by subst hk; exact ⟨hl, hG⟩)
theorem wp_range {g : Operand} {ps : Array Tmp} {assign body : Code} {Q : Exit → Act → World → Prop} {a : Act} {w : World}
  {gf : Nat} {lb : Array Value} (hg : a.eval g = .func (.func gf) #[] lb) (eg : ∀ args w, (callFunc gf args).run P w = .ok (.enter gf args) w)
  {encs : α → Array Value} {xs : List α} {H : Nat → Prop} {w0 : World} (hit : Iter P gf lb encs xs H w0) (hw0 : Mod (fun k => w0.heap.size ≤ k) w0 w) (hps : ∀ x, (encs x).size = ps.size)
  (G0 : Nat → Prop) (hG0 : ∀ k, G0 k → k < w.heap.size) (hH : ∀ k, H k → ¬ G0 k) (hHl : ∀ k, H k → k < w.heap.size)
  (I : List α → (Nat → Prop) → World → Prop) (Ix : Code → List α → (Nat → Prop) → World → Prop) (hI : Stab w.heap.size I) (hIx : ∀ c, Stab w.heap.size (Ix c)) (h0 : I [] G0 w)
  (Ax : List α → α → Act → (Nat → Prop) → World → Prop) (hAx : ∀ x a1, Stab w.heap.size (fun pre G W => Ax pre x a1 G W))
  (hassign : ∀ (l : Nat) (pre : List α) (x : α) (rest : List α) (G : Nat → Prop) (W : World) (K : Act → World → Prop), xs = pre ++ x :: rest → I pre G W →
   (∀ a1 G1 W1, Ax pre x a1 G1 W1 → (∀ k, G1 k → G k ∨ W.heap.size ≤ k) → Mod G W W1 → K a1 W1) →
   assign.wpIn (Fence.wide.inRound l) 0 P (Exit.then K (fun _ _ _ => False)) { tmps := (ps.zip (encs x)).foldl (fun t (p, v) => t.setIfInBounds p v) a.tmps, defers := [] } W)
  (hbody : ∀ (l : Nat) (pre : List α) (x : α) (rest : List α) (a1 : Act) (G : Nat → Prop) (W : World), xs = pre ++ x :: rest → Ax pre x a1 G W → (∀ k, G k → k ≠ w.heap.size ∧ k ≠ w.heap.size + 1) →
   body.wpIn (Fence.wide.inRound l) 0 P (roundEnd I Ix (pre ++ [x]) G W) a1 W)
  (hdone : ∀ (G : Nat → Prop) (W : World), I xs G W → (∀ k, G k → k ≠ w.heap.size ∧ k ≠ w.heap.size + 1) → W.heap[w.heap.size]? = some (.deferred (some [])) → Q .normal { a with defers := { target := .collected w.heap.size, args := #[] } :: a.defers } W)
  (hstop : ∀ (c : Code) (pre : List α) (G : Nat → Prop) (W : World), pre <+: xs → Ix c pre G W → (∀ k, G k → k ≠ w.heap.size ∧ k ≠ w.heap.size + 1) → W.heap[w.heap.size]? = some (.deferred (some [])) → c.wp P Q { a with defers := { target := .collected w.heap.size, args := #[] } :: a.defers } W) :
  (Code.rangeFunc g ps assign body).wp P Q a w := by
 refine (wpIn_wide (n := 0)).1 (wpIn_rangeFunc ?_)
 intro fn hfn
 obtain ⟨rec, hrec⟩ : ∃ rec : LoopState → Option Code → Loop, rec = fun st pe => { state := st, pending := pe, fn, tmps := a.tmps, params := ps, assign, body, defers := w.heap.size } := ⟨_, rfl⟩
 obtain ⟨W1, hW1⟩ : ∃ W1, (w.alloc (.deferred (some []))).alloc (.loop (rec .ready none)) = W1 := ⟨_, rfl⟩
 have hL1 : W1.heap[w.heap.size + 1]? = some (.loop (rec .ready none)) := by rw [← hW1]; exact alloc2_1 _ _ _
 have hK1 : W1.heap[w.heap.size]? = some (.deferred (some [])) := by rw [← hW1]; exact alloc2_0 _ _ _
 have hM1 : Mod (fun _ => False) w W1 := by rw [← hW1]; exact ((Mod.refl _ w).alloc _).alloc _
 have hs1 : W1.heap.size = w.heap.size + 2 := by rw [← hW1]; simp
 have hI1 : I [] G0 W1 := hI _ _ _ _ _ h0 hM1 fun _ h => h.elim
 refine ⟨w.heap.size + 1, [{ target := .collected w.heap.size, args := #[] }], W1, { target := .fn (.func gf) lb, args := #[.func (.yield (w.heap.size + 1)) #[] #[]] }, W1, gf,
  #[.func (.yield (w.heap.size + 1)) #[] #[]] ++ lb, W1, ?_, ?_, ?_, ?_, fun h => (by cases h), ?_⟩
 ·rw [← hW1, hrec]; exact run_enterLoop_outer _ _ _ _ _
 ·simp only [resolve, hg]
  simp [go_sem]
 ·intro f' hf'; trivial
 ·simp [invoke, go_sem, eg]
 ·refine callsIn_wide.2 ?_
  refine (hit (w.heap.size + 1)
   (fun pre Gi W => ∃ G, (∀ k, Gi k ↔ (G k ∨ k = w.heap.size + 1)) ∧ (∀ k, G k → k ≠ w.heap.size ∧ k ≠ w.heap.size + 1) ∧ I pre G W ∧ W.heap[w.heap.size + 1]? = some (.loop (rec .ready none)) ∧ W.heap[w.heap.size]? = some (.deferred (some [])))
   (fun pre Gi W => ∃ G c, (∀ k, Gi k ↔ (G k ∨ k = w.heap.size + 1)) ∧ (∀ k, G k → k ≠ w.heap.size ∧ k ≠ w.heap.size + 1) ∧ Ix c pre G W ∧ W.heap[w.heap.size + 1]? = some (.loop (rec .done (some c))) ∧ W.heap[w.heap.size]? = some (.deferred (some [])))
   W1 (hw0.trans (hM1.mono (T := fun k => w0.heap.size ≤ k) fun k h => h.elim) fun k h => .inl h) ?_ ?_ ?_ (fun k => G0 k ∨ k = w.heap.size + 1) ⟨G0, fun k => Iff.rfl, fun k h => ?_, hI1, hL1, hK1⟩ (fun k hk h => ?_) (fun k h => ?_)).mono ?_
  ·rintro s Gi W W' T ⟨G, g1, g2, hi, hl, hk⟩ hm hT
   exact ⟨G, g1, g2, hI _ _ _ _ _ hi hm fun k h => ⟨by have := (hT k h).1; omega, fun h1 => (hT k h).2 ((g1 k).2 (.inl h1))⟩, hm.heap hl fun h => (by have := (hT _ h).1; omega), hm.heap hk fun h => (by have := (hT _ h).1; omega)⟩
  ·rintro s Gi W W' T ⟨G, c, g1, g2, hi, hl, hk⟩ hm hT
   exact ⟨G, c, g1, g2, hIx c _ _ _ _ _ hi hm fun k h => ⟨by have := (hT k h).1; omega, fun h1 => (hT k h).2 ((g1 k).2 (.inl h1))⟩, hm.heap hl fun h => (by have := (hT _ h).1; omega), hm.heap hk fun h => (by have := (hT _ h).1; omega)⟩
  ·-- ONE ROUND
   rintro pre x rest Gi W hx ⟨G, g1, g2, hi, hl, hk⟩
   have hlt : w.heap.size + 1 < W.heap.size := blkl hl
   have hy := run_yield (P := P) (args := encs x) hl (by rw [hrec]; exact hps x)
   rw [hrec] at hy
   refine ⟨fn, _, assign, body, hy, roundIn_of_wpIn trivial (hassign _ pre x rest G W _ hx hi ?_)⟩
   intro a1 G1 W2 hax hG1 hM2
   have hl2 : W2.heap[w.heap.size + 1]? = some (.loop (rec .ready none)) := hM2.heap hl fun h => (g2 _ h).2 rfl
   have hk2 : W2.heap[w.heap.size]? = some (.deferred (some [])) := hM2.heap hk fun h => (g2 _ h).1 rfl
   have hg1 : ∀ k, G1 k → k ≠ w.heap.size ∧ k ≠ w.heap.size + 1 := fun k h => by
    rcases hG1 k h with h | h
    ·exact g2 k h
    ·omega
   refine ⟨_, run_beginRound hl2 (by rw [hrec]), ?_⟩
   obtain ⟨W3, hW3⟩ : ∃ W3, W2.putObj (w.heap.size + 1) (.loop { rec .ready none with state := .busy }) = W3 := ⟨_, rfl⟩
   have hM3 : Mod (fun k => k = w.heap.size + 1) W2 W3 := by rw [← hW3]; exact mod_put1 _ _ _
   have hl3 : W3.heap[w.heap.size + 1]? = some (.loop { rec .ready none with state := .busy }) := by rw [← hW3]; exact World.putObj_heap_same (blkl hl2)
   have hk3 : W3.heap[w.heap.size]? = some (.deferred (some [])) := hM3.heap hk2 fun h => by omega
   have hax3 : Ax pre x a1 G1 W3 := hAx x a1 _ _ _ _ _ hax hM3 fun k h => by subst h; exact ⟨by omega, fun h => (hg1 _ h).2 rfl⟩
   rw [hW3]
   refine wpIn_mono (hbody _ pre x rest a1 G1 W3 hx hax3 hg1) ?_
   have fin : ∀ (jump : Option Code) (G' : Nat → Prop) (W4 : World), (∀ k, G' k → (G1 k ∨ W3.heap.size ≤ k) ∧ k < W4.heap.size) → Mod G1 W3 W4 →
     ∃ W5, (Instr.endRound (w.heap.size + 1) jump).run P W4 = .ok (.bool jump.isNone) W5 ∧ W5.heap[w.heap.size + 1]? = some (.loop (rec (if jump.isNone then .ready else .done) jump)) ∧ W5.heap[w.heap.size]? = some (.deferred (some [])) ∧
      Mod (fun k => k = w.heap.size + 1) W4 W5 ∧ (∀ k, (G' k ∨ k = w.heap.size + 1) → (Gi k ∨ W.heap.size ≤ k) ∧ k < W5.heap.size) ∧ Mod Gi W W5 ∧ (∀ k, G' k → k ≠ w.heap.size ∧ k ≠ w.heap.size + 1) := by
    intro jump G' W4 hG' hM4
    have hl4 := hM4.heap hl3 fun h => (hg1 _ h).2 rfl
    have hk4 := hM4.heap hk3 fun h => (hg1 _ h).1 rfl
    have h5 := run_endRound (P := P) jump hl4
    rw [hrec] at h5
    have hM5 : Mod (fun k => k = w.heap.size + 1) W4 (W4.putObj (w.heap.size + 1) (.loop (rec (if jump.isNone then .ready else .done) jump))) := mod_put1 _ _ _
    have z3 : W3.heap.size = W2.heap.size := by rw [← hW3]; simp
    have z2 := hM2.size
    refine ⟨_, by rw [h5, hrec], World.putObj_heap_same (blkl hl4), hM5.heap hk4 fun h => by omega, hM5, fun k h => ?_, ?_, fun k h => ?_⟩
    ·rcases h with h | rfl
     ·refine ⟨?_, Nat.lt_of_lt_of_le (hG' k h).2 hM5.size⟩
      rcases (hG' k h).1 with h | h
      ·rcases hG1 k h with h | h
       ·exact .inl ((g1 k).2 (.inl h))
       ·exact .inr h
      ·exact .inr (by omega)
     ·exact ⟨.inl ((g1 _).2 (.inr rfl)), Nat.lt_of_lt_of_le (blkl hl4) hM5.size⟩
    ·refine (((hM2.mono (T := Gi) fun k h => .inl ((g1 k).2 (.inl h))).trans hM3 fun k h => .inl ((g1 k).2 (.inr h))).trans hM4 fun k h => ?_).trans hM5 fun k h => .inl ((g1 k).2 (.inr h))
     rcases hG1 k h with h | h
     ·exact .inl ((g1 k).2 (.inl h))
     ·exact .inr h
    ·rcases (hG' k h).1 with h | h
     ·exact hg1 k h
     ·omega
   rintro e a3 W4 hp
   cases e with
   | normal =>
    obtain ⟨G', hG', hM4, hi4⟩ := hp
    obtain ⟨W5, e5, l5, k5, m5, s5, t5, u5⟩ := fin none G' W4 hG' hM4
    exact ⟨_, W5, e5, fun k => G' k ∨ k = w.heap.size + 1, s5, t5, .inl ⟨rfl, G', fun k => Iff.rfl, u5, hI _ _ _ _ _ hi4 m5 fun k h => by subst h; exact ⟨by omega, fun h => (u5 _ h).2 rfl⟩, l5, k5⟩⟩
   | ret =>
    obtain ⟨G', hG', hM4, hi4⟩ := hp
    obtain ⟨W5, e5, l5, k5, m5, s5, t5, u5⟩ := fin (some .ret) G' W4 hG' hM4
    exact ⟨_, W5, e5, fun k => G' k ∨ k = w.heap.size + 1, s5, t5, .inr ⟨rfl, G', .ret, fun k => Iff.rfl, u5, hIx _ _ _ _ _ _ hi4 m5 fun k h => by subst h; exact ⟨by omega, fun h => (u5 _ h).2 rfl⟩, l5, k5⟩⟩
   | exit id =>
    obtain ⟨G', hG', hM4, hi4⟩ := hp
    obtain ⟨W5, e5, l5, k5, m5, s5, t5, u5⟩ := fin (some (.exit id)) G' W4 hG' hM4
    exact ⟨_, W5, e5, fun k => G' k ∨ k = w.heap.size + 1, s5, t5, .inr ⟨rfl, G', .exit id, fun k => Iff.rfl, u5, hIx _ _ _ _ _ _ hi4 m5 fun k h => by subst h; exact ⟨by omega, fun h => (u5 _ h).2 rfl⟩, l5, k5⟩⟩
   | goto t =>
    obtain ⟨G', hG', hM4, hi4⟩ := hp
    obtain ⟨W5, e5, l5, k5, m5, s5, t5, u5⟩ := fin (some (.goto t)) G' W4 hG' hM4
    exact ⟨_, W5, e5, fun k => G' k ∨ k = w.heap.size + 1, s5, t5, .inr ⟨rfl, G', .goto t, fun k => Iff.rfl, u5, hIx _ _ _ _ _ _ hi4 m5 fun k h => by subst h; exact ⟨by omega, fun h => (u5 _ h).2 rfl⟩, l5, k5⟩⟩
   | panic ch => exact hp.elim
   | outgrown => exact hp.elim
  ·have := hG0 k h; omega
  ·rcases h with h | rfl
   ·exact hH k hk h
   ·have := hHl _ hk; omega
  ·rcases h with h | rfl
   ·have := hG0 k h; omega
   ·omega
  ·-- BEHIND THE ITERATOR
   rintro e W2 ⟨⟨v, rfl⟩, Gi, (⟨G, g1, g2, hi, hl, hk⟩ | ⟨pre, hpre, G, c, g1, g2, hi, hl, hk⟩)⟩
   ·refine ⟨none, _, by have := run_endLoop (P := P) hl (by rw [hrec]; simp); rw [hrec] at this; exact this, hdone G _ (hI.putObj hi (by omega) (fun h => (g2 _ h).2 rfl) _) g2 ((World.putObj_heap_other (by omega)).trans hk)⟩
   ·refine ⟨some c, _, by have := run_endLoop (P := P) hl (by rw [hrec]; simp); rw [hrec] at this; exact this, (wpIn_wide (n := 0)).2 (hstop c pre G _ hpre ((hIx c).putObj hi (by omega) (fun h => (g2 _ h).2 rfl) _) g2 ((World.putObj_heap_other (by omega)).trans hk))⟩
end
theorem wp_range' {P : Program} {α : Type} {g : Operand} {ps : Array Tmp} {assign body : Code} {Q : Exit → Act → World → Prop} {a : Act} {w : World}
  {gf : Nat} {lb : Array Value} (hg : a.eval g = .func (.func gf) #[] lb) (eg : ∀ args w, (callFunc gf args).run P w = .ok (.enter gf args) w)
  {encs : α → Array Value} {xs : List α} {H : Nat → Prop} {w0 : World} (hit : Iter P gf lb encs xs H w0) (hw0 : Mod (fun k => w0.heap.size ≤ k) w0 w) (hps : ∀ x, (encs x).size = ps.size)
  (G0 : Nat → Prop) (hG0 : ∀ k, G0 k → k < w.heap.size) (hH : ∀ k, H k → ¬ G0 k) (hHl : ∀ k, H k → k < w.heap.size)
  (I : List α → (Nat → Prop) → World → Prop) (Ix : Code → List α → (Nat → Prop) → World → Prop) (hI : Stab w.heap.size I) (hIx : ∀ c, Stab w.heap.size (Ix c)) (h0 : I [] G0 w)
  (hab : ∃ F : α → Act,
   (∀ (l : Nat) (x : α) (W : World) (K : Act → World → Prop), K (F x) W → assign.wpIn (Fence.wide.inRound l) 0 P (Exit.then K (fun _ _ _ => False)) { tmps := (ps.zip (encs x)).foldl (fun t (p, v) => t.setIfInBounds p v) a.tmps, defers := [] } W) ∧
   (∀ (l : Nat) (pre : List α) (x : α) (rest : List α) (G : Nat → Prop) (W : World), xs = pre ++ x :: rest → I pre G W → (∀ k, G k → k ≠ w.heap.size ∧ k ≠ w.heap.size + 1) →
    body.wpIn (Fence.wide.inRound l) 0 P (roundEnd I Ix (pre ++ [x]) G W) (F x) W))
  (hdone : ∀ (G : Nat → Prop) (W : World), I xs G W → (∀ k, G k → k ≠ w.heap.size ∧ k ≠ w.heap.size + 1) → W.heap[w.heap.size]? = some (.deferred (some [])) → Q .normal { a with defers := { target := .collected w.heap.size, args := #[] } :: a.defers } W)
  (hstop : ∀ (c : Code) (pre : List α) (G : Nat → Prop) (W : World), pre <+: xs → Ix c pre G W → (∀ k, G k → k ≠ w.heap.size ∧ k ≠ w.heap.size + 1) → W.heap[w.heap.size]? = some (.deferred (some [])) → c.wp P Q { a with defers := { target := .collected w.heap.size, args := #[] } :: a.defers } W) :
  (Code.rangeFunc g ps assign body).wp P Q a w := by
 obtain ⟨F, h1, h2⟩ := hab
 refine wp_range hg eg hit hw0 hps G0 hG0 hH hHl I Ix hI hIx h0 (fun pre x a1 G W => a1 = F x ∧ I pre G W) (fun x a1 s G W W' T h m t => ⟨h.1, hI _ _ _ _ _ h.2 m t⟩) ?_ ?_ hdone hstop
 ·intro l pre x rest G W K hx hi hK
  exact h1 l x W K (hK _ _ _ ⟨rfl, hi⟩ (fun k h => .inl h) (Mod.refl _ _))
 ·rintro l pre x rest a1 G W hx ⟨rfl, hi⟩ hg
  exact h2 l pre x rest G W hx hi hg
theorem retM0 {P : Program} {fn : Func} {R : Ending → World → Prop} {a : Act} {W : World} {v : Value} (hr : (results fn a.tmps).run P W = .ok v W) (hd : a.defers = []) (hR : R (.returned v) W) : bodyPostM Fence.wide 0 P fn R .ret a W := by
 show LeavesInM Fence.wide 0 P fn a.tmps R a.defers .returning W
 rw [hd]; exact ⟨v, hr, hR⟩
theorem retM1 {P : Program} {fn : Func} {R : Ending → World → Prop} {a : Act} {W : World} {v : Value} {D : Nat} (hk : W.heap[D]? = some (.deferred (some []))) (hd : a.defers = [{ target := .collected D, args := #[] }])
  (hr : (results fn a.tmps).run P (W.putObj D (.deferred none)) = .ok v (W.putObj D (.deferred none))) (hR : R (.returned v) (W.putObj D (.deferred none))) : bodyPostM Fence.wide 0 P fn R .ret a W := by
 show LeavesInM Fence.wide 0 P fn a.tmps R a.defers .returning W
 rw [hd]
 exact ⟨by simp, .inl ⟨D, _, rfl, run_takeDeferred hk, v, hr, hR⟩⟩
theorem retM2 {P : Program} {fn : Func} {R : Ending → World → Prop} {a : Act} {W : World} {v : Value} {D E : Nat} (hne : E ≠ D) (hk : W.heap[D]? = some (.deferred (some []))) (hk2 : W.heap[E]? = some (.deferred (some [])))
  (hd : a.defers = [{ target := .collected D, args := #[] }, { target := .collected E, args := #[] }])
  (hr : (results fn a.tmps).run P ((W.putObj D (.deferred none)).putObj E (.deferred none)) = .ok v ((W.putObj D (.deferred none)).putObj E (.deferred none))) (hR : R (.returned v) ((W.putObj D (.deferred none)).putObj E (.deferred none))) :
  bodyPostM Fence.wide 0 P fn R .ret a W := by
 show LeavesInM Fence.wide 0 P fn a.tmps R a.defers .returning W
 rw [hd]
 exact ⟨by simp, .inl ⟨D, _, rfl, run_takeDeferred hk, by simp, .inl ⟨E, _, rfl, run_takeDeferred ((World.putObj_heap_other hne).trans hk2), v, hr, hR⟩⟩⟩
open Go Go.RowKit
theorem below_put {B D : Nat} {w W : World} (h : Below B w W) (hD : B ≤ D) (o : Obj) : Below B w (W.putObj D o) :=
 ⟨h.os, h.tape, h.output, by rw [World.putObj_size]; exact h.size, fun k hk => (World.putObj_heap_other (by omega)).trans (h.block k hk)⟩
open Go Go.RowKit
abbrev ArN (w : World) (ab : Nat) (lv fv : Value) (room : Int) (l : List (Option Nd)) (free : List Int) : Prop := Ar encNd zNd 149 152 3 w ab lv fv room l free
theorem infoPN : (Tryz.prog.info? 152).map (fun i => (i.zero, i.size, i.bytes)) = some (some (.agg #[.int .i64 0, .int .i64 0, .int .i64 0, .int .i64 0, .int .i64 0, .int .i64 0, .int .i64 0, .int .i64 0, .bool false, .bool false]), 10, 80) := by kernel_rfl
theorem infoIn : (Tryz.prog.info? 3).map (fun i => (i.zero, i.size, i.bytes)) = some (some (.int .i64 0), 1, 8) := by kernel_rfl
section
variable {w : World} {ab : Nat} {lv fv : Value} {room : Int} {l : List (Option Nd)} {free : List Int}
set_option maxHeartbeats 400000 in
theorem lenN (h : ArN w ab lv fv room l free) :
  Calls Tryz.prog 177 #[.pointer (some ⟨ab, 0, none⟩)] w fun e w' => e = .returned (.int .i64 ((l.length : Int) - free.length)) ∧ ∃ n, w' = w.drewN n := by
 obtain ⟨A, c, rfl, _, _, _⟩ := own_slice h.row
 obtain ⟨A', c', rfl, _, _, _⟩ := own_slice h.fre
 have h1 := h.c1
 have h2 := h.c2
 obtain ⟨b1, b2⟩ := h.flen
 clear h
 go_enter Tryz.func177, Tryz.ntmps177
 go_wp2
 go_quiet (fail)
 go_wp2
 go_ret
 exact ⟨rfl, _, rfl⟩
set_option maxHeartbeats 400000 in
theorem roomN (h : ArN w ab lv fv room l free) :
  Calls Tryz.prog 180 #[.pointer (some ⟨ab, 0, none⟩)] w fun e w' => e = .returned (.int .i64 room) ∧ w' = w := by
 have h0 := h.c0
 clear h
 go_enter Tryz.func180, Tryz.ntmps180
 go_wp2
 go_ret
 exact ⟨rfl, rfl⟩
set_option maxHeartbeats 400000 in
theorem atN_in {lb n c k : Nat} (h : ArN w ab (.slice (some ⟨lb, 0, none⟩) n c) fv room l free) (p : Option Nd) (hp : l[k]? = some p) :
  Calls Tryz.prog 186 #[.pointer (some ⟨ab, 0, none⟩), .int .i64 k] w fun e w' => e = .returned (.pointer (if p.isSome then some ⟨lb, k * 10, none⟩ else none)) ∧ w' = w := by
 have h1 := h.c1
 obtain ⟨b1, b2⟩ := h.flen
 have hk := (List.getElem?_eq_some_iff.1 hp).1
 have hn : n = l.length := by obtain ⟨_, _, e, _⟩ := own_slice h.row; cases e; rfl
 subst hn
 have hc := (h.cell (i := k) (p := p) hp (j := 9) (u := .bool p.isSome) (by cases p <;> rfl)).1
 simp only [zNd, List.length_cons, List.length_nil, Nat.zero_add, Nat.reduceAdd] at hc
 cases p <;> (
 clear h
 go_enter Tryz.func186, Tryz.ntmps186
 go_wp2
 go_ret
 exact ⟨rfl, rfl⟩)
theorem boxN (w : World) (v : Nd) : ∃ w0, w.alloc (.cells #[.int .i64 v.s.ls, .int .i64 v.s.la, .int .i64 v.s.hs, .int .i64 v.s.ha, .int .i64 v.s.v, .int .i64 v.k0, .int .i64 v.k1, .int .i64 v.p, .bool v.red] 127) = w0 ∧
  w0.heap[w.heap.size]? = some (.cells #[.int .i64 v.s.ls, .int .i64 v.s.la, .int .i64 v.s.hs, .int .i64 v.s.ha, .int .i64 v.s.v, .int .i64 v.k0, .int .i64 v.k1, .int .i64 v.p, .bool v.red] 127 (0, 0)) ∧ Mod (fun _ => False) w w0 ∧ w0.heap.size = w.heap.size + 1 :=
 ⟨_, rfl, alloc_0 _ _, (Mod.refl _ _).alloc _, by simp⟩
set_option maxHeartbeats 400000 in
theorem putN_full (h : ArN w ab lv fv room l free) (v : Nd) (hr : room ≤ (l.length : Int) - free.length) :
  Calls Tryz.prog 178 #[.pointer (some ⟨ab, 0, none⟩), .agg (encNd v).toArray] w fun e w' => e = .returned (.tuple #[.int .i64 0, .int .i64 50]) ∧ Mod (fun _ => False) w w' := by
 obtain ⟨w0, hw0, b0, M0, _⟩ := boxN w v
 have h := h.mod M0 fun _ _ h => h
 have h0 := h.c0
 dsimp only [encNd]
 go_enter Tryz.func178, Tryz.ntmps178
 go_wp2_with fail
 go_quiet ((go_at_call 177; exact Calls.quiet_of (lenN (h.drewN _))))
 go_wp2_with fail
 go_ret2
 exact ⟨rfl, M0.drewN _⟩
set_option maxHeartbeats 1000000 in
theorem putN_new (h : ArN w ab lv fv room l []) (v : Nd) (hr : (l.length : Int) < room) :
  Calls Tryz.prog 178 #[.pointer (some ⟨ab, 0, none⟩), .agg (encNd v).toArray] w fun e w' => e = .returned (.tuple #[.int .i64 l.length, .int .i64 0]) ∧
   ∃ lv', ArN w' ab lv' fv room (l ++ [some v]) [] ∧ Mod (Foot ab lv fv) w w' ∧ (∀ k, Foot ab lv' fv k → Foot ab lv fv k ∨ w.heap.size ≤ k) := by
 obtain ⟨w0, hw0, b0, M0, hs0⟩ := boxN w v
 have h := h.mod M0 fun _ _ h => h
 have h0 := h.c0
 have h1 := h.c1
 have h2 := h.c2
 have hab := h.lt (.inl rfl)
 have f1 := h.fr 1
 obtain ⟨d0, e0⟩ := blkc b0
 obtain ⟨A', c', rfl, _, _, _⟩ := own_slice h.fre
 obtain ⟨b1, b2⟩ := h.flen
 have hr' : ¬ room ≤ (l.length : Int) - ([] : List Int).length := by simp; omega
 have hs0' := hid hs0
 have cA : ∀ (n : Nat) (o : Obj), ((w0.drewN n).alloc o).cell? ⟨ab, 1, none⟩ = some lv := fun n o => (Mod.alloc (Mod.refl (fun _ => False) (w0.drewN n)) o).cell h1 (fun h => h)
 clear hs0
 dsimp only [encNd]
 go_enter Tryz.func178, Tryz.ntmps178
 go_wp2_with fail
 go_quiet ((go_at_call 177; exact Calls.quiet_of (lenN (h.drewN _))))
 go_wp2_with fail
 go_region_law (refine step_app_one [.int .i64 v.s.ls, .int .i64 v.s.la, .int .i64 v.s.hs, .int .i64 v.s.ha, .int .i64 v.s.v, .int .i64 v.k0, .int .i64 v.k1, .int .i64 v.p, .bool v.red, .bool true] lv l.length (l.flatMap (encP encNd zNd)) (.tmp 27) (.tmp 30) 147 152 _ 10 80 rfl rfl Tryz.underlying147 infoPN rfl (by omega) (by omega) (by simp [Act.eval, Act.put]) (by simp [Act.eval, Act.put]) h.row rfl (by simp [Value.oneCell']) (by omega) ?_
                intro v1 w1 hown hgrow hblk
                obtain ⟨k0, k1, k2, k3⟩ := Ar.grow_l (p := some v) (h.drewN (nq + 1)) (by decide) (by decide) (by decide) hown hgrow hblk (h.inv.put_new hr v)
                have c1 : w1.cell? ⟨ab, 1, none⟩ = some lv := by simp [World.cell?, k0]
                have f1 : w1.frozen? ⟨ab, 1, none⟩ = false := by simp [World.frozen?, k0]
                obtain ⟨A1, cc1, rfl, _, _, _⟩ := own_slice hown)
 all_goals go_wp2_with fail
 all_goals go_ret2
 all_goals exact ⟨by simp, _, k1, (M0.mono fun _ h => h.elim).trans' k2.of_drewN, fun k hk => (k3 k hk).imp id fun h => Nat.le_trans M0.size h⟩
set_option maxHeartbeats 2000000 in
theorem putN_old {k : Nat} (h : ArN w ab lv fv room l (free ++ [(k : Int)])) (v : Nd) :
  Calls Tryz.prog 178 #[.pointer (some ⟨ab, 0, none⟩), .agg (encNd v).toArray] w fun e w' => e = .returned (.tuple #[.int .i64 k, .int .i64 0]) ∧
   ∃ fv', ArN w' ab lv fv' room (l.set k (some v)) free ∧ Mod (Foot ab lv fv) w w' ∧ (∀ k, Foot ab lv fv' k → Foot ab lv fv k ∨ w.heap.size ≤ k) := by
 obtain ⟨w0, hw0, b0, M0, hs0⟩ := boxN w v
 have hlt := fun k hk => h.lt (k := k) hk
 have h := h.mod M0 fun _ _ h => h
 have h0 := h.c0
 have h1 := h.c1
 have h2 := h.c2
 have hab := h.lt (.inl rfl)
 have f1 := h.fr 1
 have f2 := h.fr 2
 have hl : l[k]? = some none := by
  obtain ⟨k', e, hk'⟩ := (h.inv.mem k).1 (by simp)
  have : k = k' := by omega
  subst this; exact hk'
 have hkl := (List.getElem?_eq_some_iff.1 hl).1
 obtain ⟨lb, c, rfl, _, _⟩ := h.place (by omega)
 obtain ⟨A', c', rfl, _, _, hA⟩ := own_slice h.fre
 obtain ⟨fb, rfl⟩ := hA (by simp)
 obtain ⟨b1, b2⟩ := h.flen
 have hlr := h.inv.lr
 have n1 : ab ≠ lb := fun e => h.ne_l (by decide) (by rw [e]; rfl)
 have n2 : ab ≠ fb := fun e => h.ne_f (by decide) (by rw [e]; rfl)
 have n3 : lb ≠ fb := fun e => h.ne_lf (k := lb) (by decide) rfl (by rw [e]; rfl)
 have n4 : ab ≠ w.heap.size := fun e => by have := hlt ab (.inl rfl); omega
 have n5 : w.heap.size ≠ ab := Ne.symm n4
 have n6 : lb ≠ w.heap.size := fun e => by have := hlt lb (.inr (.inl rfl)); omega
 have n7 : w.heap.size ≠ lb := Ne.symm n6
 have cf := (own_cell h.fre (j := free.length) (u := .int .i64 k) (by simp)).1
 obtain ⟨d0, g0⟩ := h.cell (i := k) hl (j := 0) (u := .int .i64 0) rfl
 obtain ⟨d1, g1⟩ := h.cell (i := k) hl (j := 1) (u := .int .i64 0) rfl
 obtain ⟨d2, g2⟩ := h.cell (i := k) hl (j := 2) (u := .int .i64 0) rfl
 obtain ⟨d3, g3⟩ := h.cell (i := k) hl (j := 3) (u := .int .i64 0) rfl
 obtain ⟨d4, g4⟩ := h.cell (i := k) hl (j := 4) (u := .int .i64 0) rfl
 obtain ⟨d5, g5⟩ := h.cell (i := k) hl (j := 5) (u := .int .i64 0) rfl
 obtain ⟨d6, g6⟩ := h.cell (i := k) hl (j := 6) (u := .int .i64 0) rfl
 obtain ⟨d7, g7⟩ := h.cell (i := k) hl (j := 7) (u := .int .i64 0) rfl
 obtain ⟨d8, g8⟩ := h.cell (i := k) hl (j := 8) (u := .bool false) rfl
 obtain ⟨d9, g9⟩ := h.cell (i := k) hl (j := 9) (u := .bool false) rfl
 simp only [zNd, List.length_cons, List.length_nil, Nat.zero_add, Nat.add_zero, Nat.reduceAdd] at d0 g0 d1 g1 d2 g2 d3 g3 d4 g4 d5 g5 d6 g6 d7 g7 d8 g8 d9 g9
 obtain ⟨x0, y0⟩ := blkc b0
 have hr' : ¬ room ≤ (l.length : Int) - (free ++ [(k : Int)]).length := by simp; simp at b1; omega
 have hn0 : ¬ ((free ++ [(k : Int)]).length : Int) - 1 < 0 := by simp
 have hs0' := hid hs0
 have hlt' := hid hlt
 clear hs0 hlt
 simp only [List.length_append, List.length_cons, List.length_nil, Nat.zero_add] at *
 dsimp only [encNd]
 go_enter Tryz.func178, Tryz.ntmps178
 go_wp2_with fail
 go_quiet ((go_at_call 177; exact Calls.quiet_of (lenN (h.drewN _))))
 go_wp2_with fail
 go_region
 all_goals go_wp2_with fail
 all_goals go_ret2
 all_goals
  refine ⟨rfl, .slice (some ⟨fb, 0, none⟩) free.length c', ?_⟩
  have Rz := Ar.reuse (nq := nq) (some v) h (by decide) (by decide) (by decide) hl (h.inv.put_old v)
  exact ⟨Rz.1.drewN 1, (M0.mono fun _ h => h.elim).trans' (Rz.2.1.drewN 1), fun j hj => (Rz.2.2 j hj).imp id fun h => Nat.le_trans M0.size h⟩
theorem atN_yes {lb n c k : Nat} {v : Nd} (h : ArN w ab (.slice (some ⟨lb, 0, none⟩) n c) fv room l free) (hp : l[k]? = some (some v)) :
  Calls Tryz.prog 186 #[.pointer (some ⟨ab, 0, none⟩), .int .i64 k] w fun e w' => e = .returned (.pointer (some ⟨lb, k * 10, none⟩)) ∧ w' = w := atN_in h (some v) hp
set_option maxHeartbeats 2000000 in
theorem freeN_yes {k : Nat} {v : Nd} (h : ArN w ab lv fv room l free) (hp : l[k]? = some (some v)) :
  Calls Tryz.prog 174 #[.pointer (some ⟨ab, 0, none⟩), .int .i64 k] w fun e w' => e = .returned (.bool true) ∧ ∃ fv', ArN w' ab lv fv' room (l.set k none) (free ++ [(k : Int)]) ∧ Mod (Foot ab lv fv) w w' ∧ (∀ k, Foot ab lv fv' k → Foot ab lv fv k ∨ w.heap.size ≤ k) := by
 have hkl := (List.getElem?_eq_some_iff.1 hp).1
 obtain ⟨lb, c, rfl, _, _⟩ := h.place (by omega)
 have H := atN_yes h hp
 have h1 := h.c1
 have h2 := h.c2
 have f1 := h.fr 1
 have f2 := h.fr 2
 have n1 : ab ≠ lb := fun e => h.ne_l (by decide) (by rw [e]; rfl)
 obtain ⟨b1, b2⟩ := h.flen
 obtain ⟨d0, g0⟩ := h.cell (i := k) (p := some v) hp (j := 0) (u := .int .i64 v.s.ls) rfl
 obtain ⟨d1, g1⟩ := h.cell (i := k) (p := some v) hp (j := 1) (u := .int .i64 v.s.la) rfl
 obtain ⟨d2, g2⟩ := h.cell (i := k) (p := some v) hp (j := 2) (u := .int .i64 v.s.hs) rfl
 obtain ⟨d3, g3⟩ := h.cell (i := k) (p := some v) hp (j := 3) (u := .int .i64 v.s.ha) rfl
 obtain ⟨d4, g4⟩ := h.cell (i := k) (p := some v) hp (j := 4) (u := .int .i64 v.s.v) rfl
 obtain ⟨d5, g5⟩ := h.cell (i := k) (p := some v) hp (j := 5) (u := .int .i64 v.k0) rfl
 obtain ⟨d6, g6⟩ := h.cell (i := k) (p := some v) hp (j := 6) (u := .int .i64 v.k1) rfl
 obtain ⟨d7, g7⟩ := h.cell (i := k) (p := some v) hp (j := 7) (u := .int .i64 v.p) rfl
 obtain ⟨d8, g8⟩ := h.cell (i := k) (p := some v) hp (j := 8) (u := .bool v.red) rfl
 obtain ⟨d9, g9⟩ := h.cell (i := k) (p := some v) hp (j := 9) (u := .bool true) rfl
 simp only [zNd, List.length_cons, List.length_nil, Nat.zero_add, Nat.add_zero, Nat.reduceAdd] at d0 g0 d1 g1 d2 g2 d3 g3 d4 g4 d5 g5 d6 g6 d7 g7 d8 g8 d9 g9
 go_enter Tryz.func174, Tryz.ntmps174
 have hW := setL_heap lb (encP encNd zNd none) w (k * 10) ab n1
 have hrow := h.put_place hp none
 have hm : Mod (Foot ab (.slice (some ⟨lb, 0, none⟩) l.length c) fv) w (setL w lb (k * 10) (encP encNd zNd none)) := setL_mod lb (.inl (.inr (.inl rfl))) _ _ _ (Mod.refl _ _)
 have hfre : (setL w lb (k * 10) (encP encNd zNd none)).ownsRow 0 3 1 fv free.length (free.map (.int .i64)) := own_keep h.fre fun j e => setL_heap lb _ _ _ _ (by rintro rfl; exact h.ne_lf (k := j) (by decide) rfl e)
 go_wp2_with (first | (go_at_call 186; refine H.mono ?_; rintro e w' ⟨rfl, rfl⟩) | (at_builtin; refine app_one [.int .i64 (k : Int)] fv free.length (free.map (.int .i64)) (.tmp 20) (.tmp 22) 113 3 (.int .i64 0) 1 8 rfl rfl Tryz.underlying113 infoIn rfl (by omega) (by omega) rfl (by simp [Act.eval]) hfre rfl (by simp [Value.oneCell']) (by omega) ?_))
 intro v1 w1 hown hgrow hblk
 obtain ⟨k0, k1, k2, k3⟩ := h.grow_f (by decide) (by decide) (by decide) hp hW hrow hm hown hgrow (by rw [setL_size]; exact hblk)
 have c1 : w1.cell? ⟨ab, 2, none⟩ = some fv := by simp [World.cell?, k0]
 have f1 : w1.frozen? ⟨ab, 2, none⟩ = false := by simp [World.frozen?, k0]
 obtain ⟨A1, cc1, rfl, _, _, _⟩ := own_slice hown
 clear h1 h2 hgrow hblk hfre hrow hW
 go_wp2_with fail
 go_ret
 exact ⟨by simp, _, k1, k2, k3⟩
set_option maxHeartbeats 400000 in
theorem resetN (h : ArN w ab lv fv room l free) :
  Calls Tryz.prog 170 #[.pointer (some ⟨ab, 0, none⟩)] w fun e w' => e = .returned (.tuple #[]) ∧ ArN w' ab (.slice none 0 0) (.slice none 0 0) room [] [] ∧ Mod (Foot ab lv fv) w w' := by
 have h1 := h.c1
 have h2 := h.c2
 have f1 := h.fr 1
 have f2 := h.fr 2
 go_enter Tryz.func170, Tryz.ntmps170
 go_wp2
 go_end0
 have hb := blk_set2 (blk_set1 h.blk (u := .slice none 0 0)) (u := .slice none 0 0)
 exact ⟨rfl, ⟨hb, World.ownsRow_nil _ _ _ _, World.ownsRow_nil _ _ _ _, fun _ => rfl, ⟨h.inv.room0, h.inv.room1, Nat.le_refl _, h.inv.room0, List.nodup_nil, by simp⟩⟩,
  ((Mod.refl _ w).setCell (.inl (.inl rfl)) _).setCell (.inl (.inl rfl)) _⟩
set_option maxHeartbeats 400000 in
theorem newN (room : Int) (hr : 0 ≤ room) (hr2 : room ≤ 65536) (w : World) :
  Calls Tryz.prog 76 #[.int .i64 room] w fun e w' => e = .returned (.tuple #[.pointer (some ⟨w.heap.size, 0, none⟩), .int .i64 0]) ∧ ArN w' w.heap.size (.slice none 0 0) (.slice none 0 0) room [] [] ∧ Below w.heap.size w w' := by
 have hr0 : ¬ room < 0 := by omega
 have hr1 : ¬ 65536 < room := by omega
 go_enter Tryz.func76, Tryz.ntmps76
 go_wp2
 go_ret2
 exact ⟨rfl, ⟨heap_alloc_new _ _, World.ownsRow_nil _ _ _ _, World.ownsRow_nil _ _ _ _, fun _ => rfl, ⟨hr, hr2, Nat.le_refl _, hr, List.nodup_nil, by simp⟩⟩, (Below.refl _ _).alloc (Nat.le_refl _) _⟩
end
open Go Go.RowKit
structure TM (w : World) (tb ab : Nat) (lv fv : Value) (room root : Int) (σ : List (Option Nd)) (free : List Int) : Prop where
 t : w.heap[tb]? = some (.cells #[.pointer (some ⟨ab, 0, none⟩), .int .i64 root] 123 (0, 0))
 a : ArN w ab lv fv room σ free
section
variable {w : World} {tb ab : Nat} {lv fv : Value} {room root : Int} {σ : List (Option Nd)} {free : List Int}
theorem TM.drewN (h : TM w tb ab lv fv room root σ free) (n : Nat) : TM (w.drewN n) tb ab lv fv room root σ free := ⟨h.t, h.a.drewN n⟩
theorem TM.mod {S : Nat → Prop} {w' : World} (h : TM w tb ab lv fv room root σ free) (hm : Mod S w w') (ht : ¬ S tb) (hs : ∀ k, Foot ab lv fv k → ¬ S k) : TM w' tb ab lv fv room root σ free := ⟨hm.heap h.t ht, h.a.mod hm hs⟩
theorem TM.mod0 {w' : World} (h : TM w tb ab lv fv room root σ free) (hm : Mod (fun _ => False) w w') : TM w' tb ab lv fv room root σ free := h.mod hm (fun h => h) fun _ _ h => h
theorem TM.ne (h : TM w tb ab lv fv room root σ free) : ¬ Foot ab lv fv tb := by
 rintro (e | e | e)
 ·subst e
  have := h.t.symm.trans h.a.blk
  injection this with this; injection this with _ this; exact absurd this (by decide)
 ·obtain ⟨cs, hc⟩ := own_type h.a.row e
  have := h.t.symm.trans hc
  injection this with this; injection this with _ this; exact absurd this (by decide)
 ·obtain ⟨cs, hc⟩ := own_type h.a.fre e
  have := h.t.symm.trans hc
  injection this with this; injection this with _ this; exact absurd this (by decide)
theorem atT {lb n c k : Nat} {v : Nd} (h : TM w tb ab (.slice (some ⟨lb, 0, none⟩) n c) fv room root σ free) (hp : σ[k]? = some (some v)) :
  Calls Tryz.prog 169 #[.pointer (some ⟨tb, 0, none⟩), .int .i64 k] w fun e w' => e = .returned (.pointer (some ⟨lb, k * 10, none⟩)) ∧ w' = w := by
 obtain ⟨c0, f0⟩ := blkc h.t
 have H := atN_yes h.a hp
 go_enter Tryz.func169, Tryz.ntmps169
 go_wp2_with (go_at_call 186; refine H.mono ?_; rintro e w' ⟨rfl, rfl⟩)
 go_ret
 exact ⟨rfl, rfl⟩
theorem TM.cell {lb n c k : Nat} {v : Nd} (h : TM w tb ab (.slice (some ⟨lb, 0, none⟩) n c) fv room root σ free) (hp : σ[k]? = some (some v)) {j : Nat} {u : Value} (hu : (encNd v)[j]? = some u) :
  w.cell? ⟨lb, k * 10 + j, none⟩ = some u ∧ w.frozen? ⟨lb, k * 10 + j, none⟩ = false := by
 refine h.a.cell hp (j := j) ?_
 show (encNd v ++ [.bool true])[j]? = some u
 rw [List.getElem?_append_left (List.getElem?_eq_some_iff.1 hu).1]; exact hu
theorem redT_none (w : World) (tb : Nat) : Calls Tryz.prog 165 #[.pointer (some ⟨tb, 0, none⟩), .int .i64 (-1)] w fun e w' => e = .returned (.bool false) ∧ w' = w := by
 go_enter Tryz.func165, Tryz.ntmps165
 go_wp2
 go_ret
 exact ⟨rfl, rfl⟩
theorem redT {k : Nat} {v : Nd} (h : TM w tb ab lv fv room root σ free) (hp : σ[k]? = some (some v)) :
  Calls Tryz.prog 165 #[.pointer (some ⟨tb, 0, none⟩), .int .i64 k] w fun e w' => e = .returned (.bool v.red) ∧ w' = w := by
 obtain ⟨lb, c, rfl, _, _⟩ := h.a.place (by have := (List.getElem?_eq_some_iff.1 hp).1; omega)
 have H := atT h hp
 have c8 := (h.cell hp (j := 8) rfl).1
 have hk : ((k : Int) != -1) = true := by simp
 go_enter Tryz.func165, Tryz.ntmps165
 go_wp2_with (go_at_call 169; refine H.mono ?_; rintro e w' ⟨rfl, rfl⟩)
 go_ret
 exact ⟨rfl, rfl⟩
theorem sideT {k : Nat} {v : Nd} (h : TM w tb ab lv fv room root σ free) (hp : σ[k]? = some (some v)) (i : Int) :
  Calls Tryz.prog 187 #[.pointer (some ⟨tb, 0, none⟩), .int .i64 i, .int .i64 k] w fun e w' => e = .returned (.int .i64 (if v.k0 = i then 0 else 1)) ∧ w' = w := by
 obtain ⟨lb, c, rfl, _, _⟩ := h.a.place (by have := (List.getElem?_eq_some_iff.1 hp).1; omega)
 have H := atT h hp
 have c5 := (h.cell hp (j := 5) rfl).1
 by_cases hi : v.k0 = i
 ·have hb : (v.k0 == i) = true := by simpa using hi
  go_enter Tryz.func187, Tryz.ntmps187
  go_wp2_with (go_at_call 169; refine H.mono ?_; rintro e w' ⟨rfl, rfl⟩)
  go_ret
  exact ⟨by simp [hi], rfl⟩
 ·have hb : (v.k0 == i) = false := by simpa using hi
  go_enter Tryz.func187, Tryz.ntmps187
  go_wp2_with (go_at_call 169; refine H.mono ?_; rintro e w' ⟨rfl, rfl⟩)
  go_ret
  exact ⟨by simp [hi], rfl⟩
set_option maxHeartbeats 400000 in
theorem keyT {k : Nat} {v : Nd} (h : TM w tb ab lv fv room root σ free) (hp : σ[k]? = some (some v)) :
  Calls Tryz.prog 184 #[.pointer (some ⟨tb, 0, none⟩), .int .i64 k] w fun e w' => e = .returned (.agg #[.int .i64 v.s.ls, .int .i64 v.s.la]) ∧ Mod (fun _ => False) w w' := by
 obtain ⟨w0, hw0⟩ : ∃ w0, w.alloc (.cells #[.int .i64 0, .int .i64 0] 34) = w0 := ⟨_, rfl⟩
 have b0 : w0.heap[w.heap.size]? = some (.cells #[.int .i64 0, .int .i64 0] 34 (0, 0)) := by rw [← hw0]; exact alloc_0 _ _
 have M0 : Mod (fun _ => False) w w0 := by rw [← hw0]; exact (Mod.refl _ _).alloc _
 obtain ⟨d0, e0⟩ := blkc b0
 have h := h.mod0 M0
 obtain ⟨lb, c, rfl, _, _⟩ := h.a.place (by have := (List.getElem?_eq_some_iff.1 hp).1; omega)
 have H := atT h hp
 have c0 := (h.cell hp (j := 0) rfl).1
 have c1 := (h.cell hp (j := 1) rfl).1
 simp only [Nat.add_zero] at c0
 clear h
 go_enter Tryz.func184, Tryz.ntmps184
 go_wp2_with (go_at_call 169; refine H.mono ?_; rintro e w' ⟨rfl, hw⟩; subst hw)
 refine ret_row w.heap.size [.int .i64 v.s.ls, .int .i64 v.s.la] rfl rfl (setL_whole (cs := [.int .i64 0, .int .i64 0]) (us := [.int .i64 v.s.ls, .int .i64 v.s.la]) b0 rfl) Tryz.underlying34 rfl (by kernel_rfl) rfl ⟨rfl, ?_⟩
 exact (M0.setCell (.inr (Nat.le_refl _)) _).setCell (.inr (Nat.le_refl _)) _
theorem TM.setF {lb n c k j : Nat} {v v' : Nd} {u : Value} (h : TM w tb ab (.slice (some ⟨lb, 0, none⟩) n c) fv room root σ free) (hp : σ[k]? = some (some v)) (hj : j < 9) (hv : encNd v' = (encNd v).set j u) :
  TM (w.setCell ⟨lb, k * 10 + j, none⟩ u) tb ab (.slice (some ⟨lb, 0, none⟩) n c) fv room root (σ.set k (some v')) free ∧ Mod (fun i => i = lb) w (w.setCell ⟨lb, k * 10 + j, none⟩ u) := by
 have hM : Mod (fun i => i = lb) w (w.setCell ⟨lb, k * 10 + j, none⟩ u) := (Mod.refl (fun i => i = lb) w).setCell (.inl rfl) _
 have hlb : Foot ab (.slice (some ⟨lb, 0, none⟩) n c) fv lb := .inr (.inl rfl)
 have hr := h.a.row
 obtain ⟨_, _, e, _⟩ := own_slice hr
 cases e
 refine ⟨⟨hM.heap h.t fun e => h.ne (e ▸ hlb), ⟨hM.heap h.a.blk fun e => h.a.ne_l (by decide) (by rw [e]; rfl), ?_, own_mod h.a.fre hM fun i e e2 => by subst e2; exact h.a.ne_lf (by decide) (k := i) rfl e, h.a.encl, h.a.inv.set hp v'⟩⟩, hM⟩
 have hlen : (σ.flatMap (encP encNd zNd)).length = σ.length * 10 := flat_length _ 10 (encP_length h.a.encl) σ
 have hk := (List.getElem?_eq_some_iff.1 hp).1
 have := own_set hr (k * 10 + j) (by rw [hlen]; omega) u
 rw [flat_set (encP encNd zNd) 10 (encP_length h.a.encl) σ k j (by omega) u (some v) (some v') hp (by
  show encNd v' ++ [Value.bool true] = (encNd v ++ [Value.bool true]).set j u
  rw [List.set_append_left _ _ (by simp [encNd]; omega), hv])] at this
 simpa using this
theorem TM.setRoot (h : TM w tb ab lv fv room root σ free) (r : Int) : TM (w.setCell ⟨tb, 1, none⟩ (.int .i64 r)) tb ab lv fv room r σ free ∧ Mod (fun i => i = tb) w (w.setCell ⟨tb, 1, none⟩ (.int .i64 r)) := by
 have hM : Mod (fun i => i = tb) w (w.setCell ⟨tb, 1, none⟩ (.int .i64 r)) := (Mod.refl (fun i => i = tb) w).setCell (.inl rfl) _
 have hk := heap_setCell_same w tb 1 #[.pointer (some ⟨ab, 0, none⟩), .int .i64 root] 123 (.int .i64 r) h.t
 exact ⟨⟨by simpa using hk, h.a.mod hM fun k hk e => h.ne (e ▸ hk)⟩, hM⟩
end
end Go.Proofs.Bo
