import Derived.Test.YtgehgjaglgafdaaGreatG01
import Derived.Test.YtgehgjaglgafdaaGreatG07
set_option linter.unusedVariables false
set_option linter.unusedSimpArgs false
namespace Go.Proofs.Bo
open Go Go.RowKit
section
variable {n l0 : Nat} {P : Program} {ops : Array Oper} {md : Region.Mode} {C : World → Prop}
def noDefer (ops : List Oper) : Bool := ops.all fun o => match o.op with | .defer _ => false | _ => true
theorem noDefer_spec {ops : List Oper} (h : noDefer ops = true) {i : Nat} {o : Oper} (ho : ops[i]? = some o) : ∀ c, o.op ≠ .defer c := by
 intro c e
 have := List.all_eq_true.1 h o (List.mem_of_getElem? ho)
 rw [e] at this
 cases this
theorem wpIn_of_quietR {o : Oper} {a : Act} {K : Act → Prop} {K' : Act → World → Prop} {Q' : Exit → Act → World → Prop} {w : World} (hd : ∀ c, o.op ≠ .defer c) (hw : C w) (h : ∀ a w', C w' → K a → K' a w')
  (hh : o.quiet P a C K) : o.wpIn (Fence.wide.inRound l0) n P a w K' Q' := by
 obtain ⟨v, h1, h2⟩ := hh
 have h3 := h1 w hw
 unfold Oper.quietAt at h3
 unfold Oper.wpIn
 refine ⟨fun _ _ => trivial, ?_⟩
 rw [Fence.inRound_round, Oper.semAt_some _ _ _ hd]
 generalize (execOp a.eval o).run P w = r at *
 cases r with
 | ok x w' =>
  cases x <;> simp only [Oper.quietUpon] at h3 <;> simp only [Oper.uponIn]
  case value u =>
   obtain ⟨e1, e2⟩ := h3
   rw [e1, e2]
   exact h _ _ hw h2
  case skip =>
   obtain ⟨e1, e2⟩ := h3
   rw [e1, ← e2]
   exact h _ _ hw h2
  case enter f args =>
   obtain ⟨e1, hc⟩ := h3
   rw [e1]
   refine ⟨fun hd => (by cases hd), (callsIn_wide.2 (hc.mono fun e w'' hx => ?_)).inRound l0⟩
   obtain ⟨he, hw''⟩ := hx
   subst he; exact h _ _ hw'' h2
 | halt x w' => simp only [Oper.quietUpon] at h3
theorem wpOpIn_of_qOpR {i : Nat} {a : Act} {K : Act → Prop} {K' : Act → World → Prop} {Q' : Exit → Act → World → Prop} {w : World} (hd : ∀ (j : Nat) o, ops[j]? = some o → ∀ c, o.op ≠ .defer c) (hC : C w) (h : ∀ a w', C w' → K a → K' a w')
  (hh : qOp P ops C i K a) : wpOpIn (Fence.wide.inRound l0) n P ops Q' i K' a w := by
 unfold qOp at hh
 unfold wpOpIn
 split
 ·rename_i ho; simp only [ho] at hh; exact h _ _ hC hh
 ·rename_i o ho
  simp only [ho] at hh
  split
  ·rename_i hw; simp only [hw, if_true] at hh; exact wpIn_of_quietR (hd _ _ ho) hC h hh
  ·rename_i hw; simp only [hw] at hh; exact ⟨fun _ _ => trivial, h _ _ hC hh⟩
theorem wpAnyIn_of_quietR {Q : Act → Prop} {Q' : Exit → Act → World → Prop} (hd : ∀ (j : Nat) o, ops[j]? = some o → ∀ c, o.op ≠ .defer c) (hQ : ∀ a w, C w → Q a → Q' .normal a w) : ∀ (fuel : Nat) (listed : Array Bool) (a : Act) (w : World), C w →
  wpAnyQ P md ops C Q fuel listed a → wpAnyIn (Fence.wide.inRound l0) n P md ops Q' fuel listed a w
 | 0, _, _, _, hw, h => ⟨h.1, hQ _ _ hw h.2⟩
 | fuel + 1, _, _, _, hw, h => ⟨fun h0 => hQ _ _ hw (h.1 h0), fun i hi => wpOpIn_of_qOpR hd hw (fun a' w' hw' => wpAnyIn_of_quietR hd hQ fuel _ a' w' hw') (h.2 i hi)⟩
end
theorem rq_region {n l0 : Nat} {P : Program} {C : World → Prop} {id : Nat} {Q : Exit → Act → World → Prop} {a : Act} {w : World} {l : List Oper} (hm : P.follows .mixedOrders = true) (hB : (Region.lexB .any l.toArray && noDefer l) = true) (hC : C w.drew)
  (h : wpQuiet P l.toArray C (fun a' => ∀ w', C w' → Q .normal a' w') l a) : (Code.region id l.toArray true).wpIn (Fence.wide.inRound l0) n P Q a w := by
 simp only [Region.lexB, Bool.and_eq_true] at hB
 refine wpIn_region_any hm (wpAnyIn_of_quietR (C := C) (Q := fun a' => ∀ w', C w' → Q .normal a' w') (fun j o ho => noDefer_spec hB.2 (by simpa using ho)) (fun _ w' hw' h => h w' hw') _ _ _ _ hC ?_)
 have := wpAnyQ_lex (C := C) (md := .any) hB.1.1 l 0 (Array.replicate l.toArray.size false) a (by simp) (by simpa using hB.1.2) h
 simpa using this
theorem rq_read {n l0 : Nat} {P : Program} {id : Nat} {Q : Exit → Act → World → Prop} {a : Act} {w : World} {l : List Oper} (hm : P.follows .mixedOrders = true) (hB : (Region.lexB .any l.toArray && noDefer l) = true)
  (h : wpQuiet P l.toArray (fun w' => ∃ n, w' = w.drewN n) (fun a' => ∀ w', (∃ n, w' = w.drewN n) → Q .normal a' w') l a) : (Code.region id l.toArray true).wpIn (Fence.wide.inRound l0) n P Q a w :=
 rq_region (C := fun w' => ∃ n, w' = w.drewN n) hm hB ⟨1, rfl⟩ h
theorem rq_calls {n l0 : Nat} {P : Program} {id : Nat} {Q : Exit → Act → World → Prop} {a : Act} {w : World} {l : List Oper} (hm : P.follows .mixedOrders = true) (hB : (Region.lexB .any l.toArray && noDefer l) = true)
  (h : wpQuiet P l.toArray (CM w) (fun a' => ∀ w', CM w w' → Q .normal a' w') l a) : (Code.region id l.toArray true).wpIn (Fence.wide.inRound l0) n P Q a w :=
 rq_region (C := CM w) hm hB ((Mod.refl _ w).drew) h
end Go.Proofs.Bo
