import Derived.Test.YtgehgjaglgafdaaGreatG01
set_option linter.unusedVariables false
set_option linter.unusedSimpArgs false
namespace Go.Proofs.Bo
open Go Go.RowKit
section
variable {P : Program} {ops : Array Oper} {md : Region.Mode} {D : World → Prop}
def YS (P : Program) (ops : Array Oper) (D : World → Prop) (o : Oper) (v : Value) (a : Act) : Prop :=
 (Region.wanted o (yielded ops a.tmps) = true ∧ ∀ W, D W → o.quietAt P a (fun x => ∃ k, x = W.drewN k) W v) ∨ (Region.wanted o (yielded ops a.tmps) = false ∧ v = undef)
def sOp (P : Program) (ops : Array Oper) (D : World → Prop) (i : Nat) (K : Act → Prop) (a : Act) : Prop := ∃ o v, ops[i]? = some o ∧ YS P ops D o v a ∧ K (a.put o.dst v)
def wpS (P : Program) (ops : Array Oper) (D : World → Prop) (Q : Act → Prop) : List Nat → Act → Prop
 | [], a => Q a
 | i :: is, a => sOp P ops D i (wpS P ops D Q is) a
theorem wpS_nil {Q : Act → Prop} {a : Act} (h : Q a) : wpS P ops D Q [] a := h
theorem wpS_step {Q : Act → Prop} {i : Nat} {is : List Nat} {a : Act} (o : Oper) (ho : ops[i]? = some o)
  (h : ∀ K : Act → Prop, (∀ a, wpS P ops D Q is a → K a) → if Region.wanted o (yielded ops a.tmps) then ∃ v, (∀ W, D W → o.quietAt P a (fun x => ∃ k, x = W.drewN k) W v) ∧ K (a.put o.dst v) else K (a.put o.dst undef)) : wpS P ops D Q (i :: is) a := by
 have h := h _ fun _ h => h
 by_cases hw : Region.wanted o (yielded ops a.tmps) = true
 ·rw [if_pos hw] at h
  obtain ⟨v, h1, h2⟩ := h
  exact ⟨o, v, ho, .inl ⟨hw, h1⟩, h2⟩
 ·rw [if_neg hw] at h
  exact ⟨o, undef, ho, .inr ⟨by simpa using hw, rfl⟩, h⟩
theorem YS.of_same {o : Oper} {v : Value} {a a' : Act} (hy : YS P ops D o v a) (he : execOp a'.eval o = execOp a.eval o) (hw : Region.wanted o (yielded ops a'.tmps) = Region.wanted o (yielded ops a.tmps)) : YS P ops D o v a' := by
 unfold YS Oper.quietAt at *
 rw [he, hw]
 exact hy
theorem sOp_mono {i : Nat} {a : Act} {K K' : Act → Prop} (h : ∀ a, K a → K' a) (hh : sOp P ops D i K a) : sOp P ops D i K' a :=
 let ⟨o, v, h0, h1, h2⟩ := hh
 ⟨o, v, h0, h1, h _ h2⟩
theorem sOp_put {j : Nat} {oi oj : Oper} {v : Value} (hj : ops[j]? = some oj) (hap : oi.apart ops oj = true) (hsi : ∀ cs b, oi.op ≠ .select cs b) (hsj : ∀ cs b, oj.op ≠ .select cs b) {K : Act → Prop} {a : Act}
  (hy : YS P ops D oi v a) (h : sOp P ops D j K (a.put oi.dst v)) : sOp P ops D j (fun a' => YS P ops D oi v a' ∧ K (a'.put oi.dst v)) a := by
 obtain ⟨h1, h2, h3⟩ := Oper.apart_spec hap
 obtain ⟨o, u, ho, hu, hK⟩ := h
 rw [hj] at ho; cases ho
 refine ⟨oj, u, hj, hu.of_same (execOp_put oj hsj a oi.dst v h1).symm (wanted_put oj a oi.dst v h1).symm, hy.of_same (execOp_put oi hsi a oj.dst u h3) (wanted_put oi a oj.dst u h3), ?_⟩
 rw [← Act.put_comm a v u h2]; exact hK
def HeadS (P : Program) (md : Region.Mode) (ops : Array Oper) (D : World → Prop) (hd : Nat → Prop) (L : Array Bool → Act → Prop) : Nat → Array Bool → Act → Prop
 | 0, listed, a => L listed a
 | f + 1, listed, a => (∃ i ∈ Region.ready md ops listed, hd i) ∧ ∀ i ∈ Region.ready md ops listed, hd i → sOp P ops D i (HeadS P md ops D hd L f (listed.setIfInBounds i true)) a
theorem HeadS.pick {hd : Nat → Prop} {i : Nat} {oi : Oper} {v : Value} {L : Array Bool → Act → Prop} (hi : ops[i]? = some oi) (hsel : ∀ (j : Nat) (o : Oper) cs b, ops[j]? = some o → o.op ≠ .select cs b) (hin : hd i) (hL : ∀ listed a, L listed a → ∀ j ∈ Region.ready md ops listed, ¬ hd j) :
  ∀ (f : Nat) (listed : Array Bool) (a : Act), (∀ j oj, ops[j]? = some oj → j ≠ i → listed.getD j true = false → (∀ e ∈ oj.after, Region.binds md e = true → e.on ≠ i) → oi.apart ops oj = true) →
   i ∈ Region.ready md ops listed → YS P ops D oi v a → HeadS P md ops D hd L f (listed.setIfInBounds i true) (a.put oi.dst v) → HeadS P md ops D hd L (f + 1) listed a := by
 intro f
 induction f with
 | zero =>
  intro listed a _ hr hy H
  refine ⟨⟨i, hr, hin⟩, fun j hj hjd => ?_⟩
  by_cases e : j = i
  ·subst e; exact ⟨oi, v, hi, hy, H⟩
  ·exact absurd hjd (hL _ _ H j (ready_mono hj e))
 | succ f ih =>
  intro listed a hfree hr hy H
  refine ⟨⟨i, hr, hin⟩, fun j hj hjd => ?_⟩
  by_cases e : j = i
  ·subst e; exact ⟨oi, v, hi, hy, H⟩
  ·have hun := (mem_ready.1 hr).1
   obtain ⟨hjun, oj, hoj, hall⟩ := mem_ready.1 hj
   have hno : ∀ x ∈ oj.after, Region.binds md x = true → x.on ≠ i := fun x hx hb he => by
    have := hall x hx hb
    rw [he, getD_both hun] at this
    cases this
   have hnext : ∀ k ok, ops[k]? = some ok → k ≠ i → (listed.setIfInBounds j true).getD k true = false → (∀ x ∈ ok.after, Region.binds md x = true → x.on ≠ i) → oi.apart ops ok = true := fun k ok hk hki hu hx =>
    hfree k ok hk hki (by
     by_cases ejk : j = k
     ·subst ejk; exact hjun
     ·rwa [getD_set_ne true ejk] at hu) hx
   have hq := sOp_put hoj (hfree j oj hoj e hjun hno) (fun cs b => hsel i oi cs b hi) (fun cs b => hsel j oj cs b hoj) hy (H.2 j (ready_mono hj e) hjd)
   refine sOp_mono (fun a' h3 => ih _ a' hnext (ready_mono hr (Ne.symm e)) h3.1 ?_) hq
   rw [Array.setIfInBounds_comm _ _ e]
   exact h3.2
def lexI (md : Region.Mode) (ops : Array Oper) (B : Array Bool → Bool) : List Nat → Array Bool → Bool
 | [], listed => B listed
 | k :: is, listed => (Region.ready md ops listed).contains k && Region.free md ops listed k && lexI md ops B is (listed.setIfInBounds k true)
theorem HeadS.lex {hd : Nat → Prop} {Lq : Act → Prop} {B : Array Bool → Bool} (hsel : Region.noSelect ops = true) (hB : ∀ listed, B listed = true → ∀ j ∈ Region.ready md ops listed, ¬ hd j) :
  ∀ (is : List Nat) (listed : Array Bool) (a : Act), (∀ i ∈ is, hd i) → lexI md ops B is listed = true → wpS P ops D Lq is a → HeadS P md ops D hd (fun listed' a' => B listed' = true ∧ Lq a') is.length listed a
 | [], listed, a, _, hb, h => ⟨hb, h⟩
 | k :: is, listed, a, hk, hb, h => by
  simp only [lexI, Bool.and_eq_true] at hb
  have hr : k ∈ Region.ready md ops listed := by simpa using hb.1.1
  obtain ⟨o, v, h0, hy, hK⟩ := h
  exact HeadS.pick h0 (Region.noSelect_spec hsel) (hk k (by simp)) (fun listed' _ hL => hB listed' hL.1) is.length listed a (Region.free_spec h0 hb.1.2) hr hy
   (HeadS.lex hsel hB is _ _ (fun i hi => hk i (by simp [hi])) hb.2 hK)
def AllocAt (P : Program) (ops : Array Oper) (w : World) (obj : Obj) (ptr : Value) (o : Oper) (a : Act) : Prop :=
 Region.wanted o (yielded ops a.tmps) = true ∧ ∀ k, (execOp a.eval o).run P (w.drewN k) = .ok (.value ptr) ((w.alloc obj).drewN k)
theorem AllocAt.of_put {w : World} {obj : Obj} {ptr : Value} {o : Oper} {a : Act} {x : Option Tmp} {v : Value} (hs : ∀ cs b, o.op ≠ .select cs b) (hx : ∀ d, x = some d → d ∉ o.looksAt ops) (h : AllocAt P ops w obj ptr o (a.put x v)) : AllocAt P ops w obj ptr o a := by
 unfold AllocAt at *
 rw [execOp_put o hs a x v hx, wanted_put o a x v hx] at h
 exact h
def AW (w : World) (obj : Obj) (W : World) : Prop := (∃ k, W = w.drewN k) ∨ ∃ k, W = (w.alloc obj).drewN k
theorem drewN_add (w : World) (j k : Nat) : (w.drewN j).drewN k = w.drewN (j + k) := by
 unfold World.drewN
 simp [Nat.add_assoc]
theorem wpOp_of_YS {i : Nat} {o : Oper} {v : Value} {a : Act} {W : World} {K : Act → World → Prop} {Q : Exit → Act → World → Prop} (hi : ops[i]? = some o) (hy : YS P ops D o v a) (hD : D W) (h : ∀ k, K (a.put o.dst v) (W.drewN k)) : wpOp P ops Q i K a W := by
 unfold wpOp
 simp only [hi]
 rcases hy with ⟨hw, hv⟩ | ⟨hw, rfl⟩
 ·rw [if_pos hw]
  refine .inl ?_
  have h3 := hv W hD
  unfold Oper.quietAt at h3
  unfold Oper.wp
  generalize (execOp a.eval o).run P W = r at *
  cases r with
  | ok n w' =>
   cases n <;> simp only [Oper.quietUpon] at h3 <;> simp only [Oper.upon]
   case value u =>
    obtain ⟨e1, e2⟩ := h3
    rw [e1, e2]
    exact h 0
   case skip =>
    obtain ⟨e1, e2⟩ := h3
    rw [e1, ← e2]
    exact h 0
   case enter f args =>
    obtain ⟨e1, hc⟩ := h3
    rw [e1]
    exact hc.mono fun e w'' ⟨he, k, hw''⟩ => by subst he; subst hw''; exact h k
  | halt x w' => simp only [Oper.quietUpon] at h3
 ·rw [if_neg (by simp [hw])]
  exact h 0
def sinkFB (md : Region.Mode) (ops : Array Oper) (n : Nat) (fl : List Nat) : Bool :=
 (List.range n).all fun i => fl.contains i || (List.range (n + 1)).any fun j => decide (i < j) && Region.waitsFor md ops j i
theorem tail_waits3 {n : Nat} {fl : List Nat} {listed : Array Bool} (hs : sinkFB md ops n fl = true) (hc : wchainB md ops n = true) (hn : n < ops.size) (inv : HeadInv md ops n listed) (hfl : ∀ i ∈ fl, listed.getD i true = true) :
  ∀ (d i : Nat), n - i = d → i < n → listed.getD i true = false → ∀ t, n ≤ t → t ∉ Region.ready md ops listed := by
 intro d
 induction d using Nat.strongRecOn with
 | _ d ih =>
  intro i hd hi hun t ht hr
  obtain ⟨_, ot, hot, hall⟩ := mem_ready.1 hr
  have htlt : t < ops.size := (Array.getElem?_eq_some_iff.1 hot).1
  by_cases htn : t = n
  ·subst htn
   have h1 := List.all_eq_true.1 hs i (List.mem_range.2 hi)
   rw [Bool.or_eq_true] at h1
   rcases h1 with h1 | h1
   ·rw [hfl i (by simpa using h1)] at hun; cases hun
   obtain ⟨j, hj, hj2⟩ := List.any_eq_true.1 h1
   simp only [Bool.and_eq_true, decide_eq_true_eq] at hj2
   obtain ⟨oj, hoj, e, he, hb, hon⟩ := Region.waitsFor_spec hj2.2
   have hjle : j ≤ t := by have := List.mem_range.1 hj; omega
   by_cases hjt : j = t
   ·subst hjt
    have : oj = ot := Option.some.inj (hoj.symm.trans hot)
    subst this
    have h2 := hall e he hb
    rw [hon, getD_both hun] at h2
    cases h2
   ·cases hl : listed.getD j false with
    | true =>
     have h2 := inv.closed j oj hoj hl e he hb
     rw [hon, getD_both hun] at h2
     cases h2
    | false =>
     have hjs : j < listed.size := by rw [inv.size]; omega
     exact ih (t - j) (by omega) j rfl (by omega) (getD_in hjs hl) t (Nat.le_refl _) hr
  ·have h1 := List.all_eq_true.1 hc t (List.mem_range.2 htlt)
   simp only [Bool.or_eq_true, decide_eq_true_eq] at h1
   rcases h1 with h1 | h1
   ·omega
   ·obtain ⟨j, hj, hj2⟩ := List.any_eq_true.1 h1
    simp only [Bool.and_eq_true, decide_eq_true_eq] at hj2
    have hjlt := List.mem_range.1 hj
    obtain ⟨o', ho', e, he, hb, hon⟩ := Region.waitsFor_spec hj2.2
    have : o' = ot := Option.some.inj (ho'.symm.trans hot)
    subst this
    have h2 := hall e he hb
    rw [hon, getD_both (inv.tail j hj2.1 (by omega))] at h2
    cases h2
def backB (md : Region.Mode) (ops : Array Oper) : Bool := (List.range ops.size).all fun i => match ops[i]? with
 | some o => o.after.all fun e => !Region.binds md e || decide (e.on < i)
 | none => true
theorem waitsFor_of {j i : Nat} {oj : Oper} (hj : ops[j]? = some oj) {e : Edge} (he : e ∈ oj.after) (hb : Region.binds md e = true) (hon : e.on = i) : Region.waitsFor md ops j i = true := by
 unfold Region.waitsFor
 simp only [hj]
 exact Array.any_eq_true'.2 ⟨e, he, by simp [hb, hon]⟩
theorem ready_ex (hb : backB md ops = true) {listed : Array Bool} (hsz : listed.size = ops.size) : ∀ (p : Nat), p < ops.size → listed.getD p true = false → Region.ready md ops listed ≠ [] := by
 intro p
 induction p using Nat.strongRecOn with
 | _ p ih =>
  intro hp hun
  obtain ⟨o, ho⟩ : ∃ o, ops[p]? = some o := ⟨_, Array.getElem?_eq_getElem hp⟩
  rcases Classical.em (∀ e ∈ o.after, Region.binds md e = true → listed.getD e.on false = true) with hall | hall
  ·exact List.ne_nil_of_mem (mem_ready.2 ⟨hun, o, ho, hall⟩)
  ·simp only [Classical.not_forall] at hall
   obtain ⟨e, he, hbe, hl⟩ := hall
   have hw := waitsFor_of ho he hbe rfl
   have hlt : e.on < p := by
    have h1 := List.all_eq_true.1 hb p (List.mem_range.2 hp)
    simp only [ho] at h1
    have h2 := Array.all_eq_true'.1 h1 e he
    simpa [hbe] using h2
   exact ih e.on hlt (by omega) (getD_in (by omega) (by simpa using hl))
def startL (m p : Nat) (fl : List Nat) : Array Bool := (fl.foldl (fun l i => l.setIfInBounds i true) (Array.replicate m false))
def alB (md : Region.Mode) (ops : Array Oper) (p n : Nat) (fl is : List Nat) : Bool :=
 Region.noSelect ops && decide (n < ops.size) && decide (p < n) && sinkFB md ops n fl && wchainB md ops n && backB md ops && decide (fl.length + is.length + 1 = n) &&
  is.all (fun i => decide (i < n) && decide (i ≠ p)) &&
  (List.range n).all (fun i => decide (i = p) || Region.waitsFor md ops p i || ((ops[i]?).bind fun x => (ops[p]?).map fun y => x.apart ops y).getD false) &&
  lexI md ops (fun listed => Region.seqB md ops (ops.size - n) n listed) is ((startL ops.size p fl).setIfInBounds p true)
def flB (md : Region.Mode) (ops : Array Oper) (n p : Nat) : List Nat → Array Bool → Bool
 | [], listed => (List.range ops.size).all (fun t => decide (t < n) || !listed.getD t false) && !listed.getD p true
 | i :: fl, listed => decide (i < n) && (Region.ready md ops listed).contains i && Region.free md ops listed i && flB md ops n p fl (listed.setIfInBounds i true)
def wpF (P : Program) (ops : Array Oper) (K : Act → Prop) : List Nat → Act → Prop
 | [], a => K a
 | i :: fl, a => ∃ o v, ops[i]? = some o ∧ Yields P ops o v a ∧ wpF P ops K fl (a.put o.dst v)
theorem wpF_step {K : Act → Prop} {i : Nat} {fl : List Nat} {a : Act} (o : Oper) (v : Value) (ho : ops[i]? = some o) (hw : Region.wanted o (yielded ops a.tmps) = true) (hv : ∀ w, (execOp a.eval o).run P w = .ok (.value v) w) (h : wpF P ops K fl (a.put o.dst v)) : wpF P ops K (i :: fl) a :=
 ⟨o, v, ho, .inl ⟨hw, hv⟩, h⟩
theorem al_main {Q : Exit → Act → World → Prop} {w : World} {l : List Oper} (p n : Nat) (fl is : List Nat) (obj : Obj) (ptr : Value) (op : Oper) (hB : alB .any l.toArray p n fl is = true) (hop : l[p]? = some op)
  (inv0 : HeadInv .any l.toArray n (startL l.toArray.size p fl)) (hp0 : (startL l.toArray.size p fl).getD p true = false) (hfl0 : ∀ i ∈ fl, (startL l.toArray.size p fl).getD i true = true) (a : Act)
  (h : wpS P l.toArray (AW w obj) (fun a' => AllocAt P l.toArray w obj ptr op a' ∧ ∀ k, wpList P l.toArray Q (l.drop n) (a'.put op.dst ptr) ((w.alloc obj).drewN k)) is a) :
  wpAny P .any l.toArray Q (is.length + 1 + (l.toArray.size - n)) (startL l.toArray.size p fl) a (w.drewN 1) := by
 simp only [alB, Bool.and_eq_true, decide_eq_true_eq] at hB
 obtain ⟨⟨⟨⟨⟨⟨⟨⟨⟨hsel, hn⟩, hpn⟩, hs⟩, hc⟩, hbk⟩, hlen⟩, his⟩, hap⟩, hlex⟩ := hB
 have hop' : l.toArray[p]? = some op := by simpa using hop
 have hns := Region.noSelect_spec hsel
 have hsp : ∀ cs b, op.op ≠ .select cs b := fun cs b => hns p op cs b hop'
 have apart : ∀ i oi, i < n → i ≠ p → l.toArray[i]? = some oi → Region.waitsFor .any l.toArray p i = false → oi.apart l.toArray op = true := by
  intro i oi hin hip hoi hw
  have := List.all_eq_true.1 hap i (List.mem_range.2 hin)
  simpa [hip, hw, hoi, hop'] using this
 have hun : ∀ {listed : Array Bool} {i : Nat}, p ∈ Region.ready .any l.toArray listed → listed.getD i true = false → Region.waitsFor .any l.toArray p i = false := by
  intro listed i hp hi
  cases hw : Region.waitsFor .any l.toArray p i with
  | false => rfl
  | true =>
   obtain ⟨oj, hoj, e, he, hb, hon⟩ := Region.waitsFor_spec hw
   obtain ⟨_, o', ho', hall⟩ := mem_ready.1 hp
   rw [hoj] at ho'; cases ho'
   have := hall e he hb
   rw [hon, getD_both hi] at this
   cases this
 let hd : Nat → Prop := fun i => i < n ∧ i ≠ p
 let Bf : Array Bool → Bool := fun listed => Region.seqB .any l.toArray (l.toArray.size - n) n listed
 let L : Array Bool → Act → Prop := fun listed' a' => Bf listed' = true ∧ (AllocAt P l.toArray w obj ptr op a' ∧ ∀ k, wpList P l.toArray Q (l.drop n) (a'.put op.dst ptr) ((w.alloc obj).drewN k))
 have H : HeadS P .any l.toArray (AW w obj) hd L is.length ((startL l.toArray.size p fl).setIfInBounds p true) a :=
  HeadS.lex hsel (fun listed hb j hj hjd => by
   have := seqB_ready hb j hj
   have := hjd.1
   omega) is _ _ (fun i hi => by
   have := List.all_eq_true.1 his i hi
   simp only [Bool.and_eq_true, decide_eq_true_eq] at this
   exact this) hlex h
 have back : ∀ (f : Nat) (listed : Array Bool) (a : Act), HeadS P .any l.toArray (AW w obj) hd L f listed a → (∀ i, listed.getD i true = false → Region.waitsFor .any l.toArray p i = false) → AllocAt P l.toArray w obj ptr op a := by
  intro f
  induction f with
  | zero => intro listed a H _; exact H.2.1
  | succ f ih =>
   intro listed a H hp
   obtain ⟨⟨i, hi, hid⟩, hall⟩ := H
   obtain ⟨oi, v, hoi, _, hK⟩ := hall i hi hid
   have hiu := (mem_ready.1 hi).1
   have := ih _ _ hK fun j hj => by
    by_cases e : i = j
    ·subst e; exact hp i hiu
    ·rw [getD_set_ne true e] at hj; exact hp j hj
   obtain ⟨h1, _, _⟩ := Oper.apart_spec (apart i oi hid.1 hid.2 hoi (hp i hiu))
   exact this.of_put hsp h1
 have hdl : (l.drop n).length = l.toArray.size - n := by simp
 have keepF : ∀ {listed : Array Bool} {i : Nat}, (∀ j ∈ fl, listed.getD j true = true) → ∀ j ∈ fl, (listed.setIfInBounds i true).getD j true = true := by
  intro listed i hf j hj
  by_cases e : i = j
  ·subst e
   by_cases hl : i < listed.size
   ·simp [hl]
   ·simp [hl]
  ·rw [getD_set_ne true e]; exact hf j hj
 have hps : ∀ {listed : Array Bool} {i : Nat}, (listed.setIfInBounds i true).getD i true = true := by
  intro listed i
  by_cases hl : i < listed.size
  ·simp [hl]
  ·simp [hl]
 have after : ∀ (f : Nat) (listed : Array Bool) (a : Act) (k : Nat), HeadS P .any l.toArray (AW w obj) hd L f listed a → HeadInv .any l.toArray n listed → listed.getD p true = true → (∀ j ∈ fl, listed.getD j true = true) → (∀ i, listed.getD i true = false → Region.waitsFor .any l.toArray p i = false) →
   wpAny P .any l.toArray Q (f + (l.toArray.size - n)) listed (a.put op.dst ptr) ((w.alloc obj).drewN k) := by
  intro f
  induction f with
  | zero =>
   intro listed a k H inv _ _ _
   rw [Nat.zero_add, ← hdl]
   exact wpAny_of_seq (l.drop n) n _ _ _ (fun j => by simp) (by rw [hdl]; exact H.1) (H.2.2 k)
  | succ f ih =>
   intro listed a k H inv hpl hf hwp
   obtain ⟨⟨i0, hi0, hid0⟩, hall⟩ := H
   rw [Nat.add_right_comm]
   refine ⟨fun e => (by rw [e] at hi0; cases hi0), fun i hi => ?_⟩
   have hin : i < n := Nat.lt_of_not_le fun hle => tail_waits3 hs hc hn inv hf _ i0 rfl hid0.1 (mem_ready.1 hi0).1 i hle hi
   have hip : i ≠ p := fun e => by
    have := (mem_ready.1 hi).1
    rw [e, hpl] at this
    cases this
   have hiu := (mem_ready.1 hi).1
   obtain ⟨oi, v, hoi, hy, hK⟩ := hall i hi ⟨hin, hip⟩
   have hA := apart i oi hin hip hoi (hwp i hiu)
   obtain ⟨h1, h2, h3⟩ := Oper.apart_spec hA
   have hy' : YS P l.toArray (AW w obj) oi v (a.put op.dst ptr) := hy.of_same (execOp_put oi (fun cs b => hns i oi cs b hoi) a op.dst ptr h3) (wanted_put oi a op.dst ptr h3)
   refine wpOp_of_YS hoi hy' (.inr ⟨k, rfl⟩) fun k' => ?_
   rw [drewN_add, ← Act.put_comm a v ptr h2]
   refine ih _ _ _ hK (inv.set hi hin) ?_ (keepF hf) fun j hj => ?_
   ·by_cases e : i = p
    ·exact absurd e hip
    ·rw [getD_set_ne true e]; exact hpl
   ·by_cases e : i = j
    ·subst e; exact hwp i hiu
    ·rw [getD_set_ne true e] at hj; exact hwp j hj
 have main : ∀ (f : Nat) (listed : Array Bool) (a : Act) (k : Nat), HeadS P .any l.toArray (AW w obj) hd L f (listed.setIfInBounds p true) a → HeadInv .any l.toArray n listed → listed.getD p true = false → (∀ j ∈ fl, listed.getD j true = true) →
   wpAny P .any l.toArray Q (f + 1 + (l.toArray.size - n)) listed a (w.drewN k) := by
  intro f
  induction f with
  | zero =>
   intro listed a k H inv hp hf
   have hne := ready_ex hbk inv.size p (Nat.lt_trans hpn hn) hp
   rw [Nat.add_right_comm]
   refine ⟨fun e => absurd e hne, fun i hi => ?_⟩
   have hin : i < n := Nat.lt_of_not_le fun hle => tail_waits3 hs hc hn inv hf _ p rfl hpn hp i hle hi
   have hip : i = p := Classical.byContradiction fun hip => by
    have := seqB_ready H.1 i (ready_mono hi hip)
    omega
   subst hip
   have hw0 : ∀ j, (listed.setIfInBounds i true).getD j true = false → Region.waitsFor .any l.toArray i j = false := fun j hj => by
    by_cases e : i = j
    ·subst e; rw [hps] at hj; cases hj
    ·rw [getD_set_ne true e] at hj; exact hun hi hj
   obtain ⟨hw, hex⟩ := back 0 _ a H hw0
   unfold wpOp
   simp only [hop']
   rw [if_pos hw]
   refine .inl ?_
   unfold Oper.wp
   rw [hex k]
   exact after 0 _ a k H (inv.set hi hin) hps (keepF hf) hw0
  | succ f ih =>
   intro listed a k H inv hp hf
   have hne := ready_ex hbk inv.size p (Nat.lt_trans hpn hn) hp
   rw [show f + 1 + 1 + (l.toArray.size - n) = (f + 1 + (l.toArray.size - n)) + 1 by omega]
   refine ⟨fun e => absurd e hne, fun i hi => ?_⟩
   have hin : i < n := Nat.lt_of_not_le fun hle => tail_waits3 hs hc hn inv hf _ p rfl hpn hp i hle hi
   by_cases hip : i = p
   ·subst hip
    have hw0 : ∀ j, (listed.setIfInBounds i true).getD j true = false → Region.waitsFor .any l.toArray i j = false := fun j hj => by
     by_cases e : i = j
     ·subst e; rw [hps] at hj; cases hj
     ·rw [getD_set_ne true e] at hj; exact hun hi hj
    obtain ⟨hw, hex⟩ := back (f + 1) _ a H hw0
    unfold wpOp
    simp only [hop']
    rw [if_pos hw]
    refine .inl ?_
    unfold Oper.wp
    rw [hex k]
    exact after (f + 1) _ a k H (inv.set hi hin) hps (keepF hf) hw0
   ·obtain ⟨oi, v, hoi, hy, hK⟩ := H.2 i (ready_mono hi hip) ⟨hin, hip⟩
    refine wpOp_of_YS hoi hy (.inl ⟨k, rfl⟩) fun k' => ?_
    rw [drewN_add]
    refine ih _ _ _ ?_ (inv.set hi hin) (by rw [getD_set_ne true hip]; exact hp) (keepF hf)
    rw [Array.setIfInBounds_comm _ _ hip]
    exact hK
 exact main is.length _ a 1 H inv0 hp0 hfl0
def NoP (Q : Exit → Act → World → Prop) : Exit → Act → World → Prop
 | .panic _, _, _ => False
 | e, a, w => Q e a w
theorem NoP.imp {Q : Exit → Act → World → Prop} : ∀ (e : Exit) (a : Act) (w : World), NoP Q e a w → Q e a w := fun e a w h => by
 cases e <;> first | exact h | exact (h : False).elim
theorem al_region {id : Nat} {Q : Exit → Act → World → Prop} {a : Act} {w : World} {l : List Oper} (p n : Nat) (fl is : List Nat) (obj : Obj) (ptr : Value) (op : Oper) (hm : P.follows .mixedOrders = true) (hB : alB .any l.toArray p n fl is = true) (hF : flB .any l.toArray n p fl (Array.replicate l.toArray.size false) = true) (hop : l[p]? = some op)
  (h : ∀ Q0 : Exit → Act → World → Prop, (∀ a w, Q .normal a w → Q0 .normal a w) → wpF P l.toArray (wpS P l.toArray (AW w obj) (fun a' => AllocAt P l.toArray w obj ptr op a' ∧ ∀ k, wpList P l.toArray Q0 (l.drop n) (a'.put op.dst ptr) ((w.alloc obj).drewN k)) is) fl a) : (Code.region id l.toArray true).wp P Q a w := by
 refine Code.wp_mono NoP.imp ?_
 have hQ : ∀ c (a : Act) (d : Option Tmp) (v : Value) (w : World), NoP Q (.panic c) (a.put d v) w → NoP Q (.panic c) a w := fun _ _ _ _ _ h => h
 replace h := h (NoP Q) fun _ _ h => h
 generalize NoP Q = Q at h hQ
 have hB0 := hB
 simp only [alB, Bool.and_eq_true, decide_eq_true_eq] at hB0
 obtain ⟨⟨⟨⟨⟨⟨⟨⟨⟨hsel, hn⟩, hpn⟩, hs⟩, hc⟩, hbk⟩, hlen⟩, his⟩, hap⟩, hlex⟩ := hB0
 have key : ∀ (fl2 fl1 : List Nat) (a : Act), fl = fl1 ++ fl2 → HeadInv .any l.toArray n (startL l.toArray.size p fl1) → (∀ i ∈ fl1, (startL l.toArray.size p fl1).getD i true = true) → flB .any l.toArray n p fl2 (startL l.toArray.size p fl1) = true →
   wpF P l.toArray (wpS P l.toArray (AW w obj) (fun a' => AllocAt P l.toArray w obj ptr op a' ∧ ∀ k, wpList P l.toArray Q (l.drop n) (a'.put op.dst ptr) ((w.alloc obj).drewN k)) is) fl2 a →
   wpAny P .any l.toArray Q (fl2.length + (is.length + 1 + (l.toArray.size - n))) (startL l.toArray.size p fl1) a (w.drewN 1) := by
  intro fl2
  induction fl2 with
  | nil =>
   intro fl1 a e inv hf hb h
   rw [List.append_nil] at e
   subst e
   simp only [flB, Bool.and_eq_true] at hb
   rw [List.length_nil, Nat.zero_add]
   exact al_main p n fl is obj ptr op hB hop inv (by simpa using hb.2) hf a h
  | cons i fl2 ih =>
   intro fl1 a e inv hf hb h
   simp only [flB, Bool.and_eq_true, decide_eq_true_eq] at hb
   obtain ⟨o, v, ho, hy, hK⟩ := h
   have hr : i ∈ Region.ready .any l.toArray (startL l.toArray.size p fl1) := by simpa using hb.1.1.2
   have hst : (startL l.toArray.size p fl1).setIfInBounds i true = startL l.toArray.size p (fl1 ++ [i]) := by simp [startL, List.foldl_append]
   rw [List.length_cons, Nat.add_right_comm]
   refine wpAny_first ho (Region.noSelect_spec hsel) (fun c a w => hQ c a _ _ w) _ _ _ _ (Region.free_spec ho hb.1.2) hr hy ?_
   rw [hst]
   refine ih (fl1 ++ [i]) _ (by rw [e]; simp) (by rw [← hst]; exact inv.set hr hb.1.1.1) (fun j hj => ?_) (by rw [← hst]; exact hb.2) hK
   rw [← hst]
   by_cases e2 : i = j
   ·subst e2
    by_cases hl : i < (startL l.toArray.size p fl1).size
    ·simp [hl]
    ·simp [hl]
   ·rw [getD_set_ne true e2]
    rcases List.mem_append.1 hj with hj | hj
    ·exact hf j hj
    ·simp at hj; exact absurd hj.symm e2
 have inv0 : HeadInv .any l.toArray n (startL l.toArray.size p []) :=
  ⟨by simp [startL], fun j oj _ hl => (by rw [show startL l.toArray.size p [] = Array.replicate l.toArray.size false from rfl, getD_replicate_false] at hl; cases hl), fun t _ ht => getD_in (by simpa [startL] using ht) (getD_replicate_false _ _)⟩
 refine wp_region_any hm ?_
 have := key fl [] a rfl inv0 (by simp) hF h
 have e : fl.length + (is.length + 1 + (l.toArray.size - n)) = l.toArray.size := by omega
 rw [e] at this
 exact this
end
end Go.Proofs.Bo
