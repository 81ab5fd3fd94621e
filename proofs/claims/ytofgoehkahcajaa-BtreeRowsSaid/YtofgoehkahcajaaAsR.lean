import Derived.Test.YtofgoehkahcajaaBoG
import Derived.Test.YtofgoehkahcajaaRoundQ
set_option linter.unusedVariables false
set_option linter.unusedSimpArgs false
namespace Go.Proofs.Bo
open Go Go.RowKit
section
variable {n0 l0 : Nat} {P : Program}

/-! A region that draws its order, by what each operation leaves: no order is gone through. -/
/-- Where an operation lays its value. -/
def dstOf (ops : Array Oper) (i : Nat) : Option Tmp := (ops[i]?).bind (·.dst)
/-- What is asked of the operations: n of them, each with a slot of its own; then one that waits for all. -/
def asB (md : Region.Mode) (ops : Array Oper) (n N : Nat) : Bool :=
  decide (ops.size = n + 1) && Region.sinkB md ops n && wchainB md ops n && backB md ops && (List.range n).all (fun i => match ops[i]? with | some o => (match o.dst with | some d => decide (d < N) && o.guard.isNone | none => false) && (match o.op with | .defer _ => false | _ => true) | none => false) &&
    (List.range n).all (fun i => (List.range n).all fun j => decide (i = j) || decide (dstOf ops i ≠ dstOf ops j))
structure AsInv (md : Region.Mode) (ops : Array Oper) (n N : Nat) (V : Nat → Value → World → Prop) (a0 : Act) (C : World → Prop) (listed : Array Bool) (a : Act) (W : World) : Prop where
  inv : HeadInv md ops n listed
  cls : C W
  size : a.tmps.size = N
  out : ∀ t, (∀ i, i < n → dstOf ops i ≠ some t) → a.tmps.getD t undef = a0.tmps.getD t undef
  val : ∀ i d, i < n → listed.getD i false = true → dstOf ops i = some d → V i (a.tmps.getD d undef) W

theorem as_region {id : Nat} {Q : Exit → Act → World → Prop} {a : Act} {w : World} {l : List Oper} (n N : Nat) (V : Nat → Value → World → Prop) (of : Oper) (hm : P.follows .mixedOrders = true) (hB : asB .any l.toArray n N = true) (hof : l[n]? = some of) (hog : of.guard = none)
    (hN : a.tmps.size = N) (hV : ∀ i v W W', V i v W → CM W W' → V i v W')
    (hstep : ∀ i o, i < n → l[i]? = some o → ∀ a' W, CM w W → (∀ t, ((List.range n).all fun i => decide (dstOf l.toArray i ≠ some t)) = true → a'.tmps.getD t undef = a.tmps.getD t undef) → (∀ j d, j < n → Region.waitsFor .any l.toArray i j = true → dstOf l.toArray j = some d → V j (a'.tmps.getD d undef) W) →
      ∀ K : Act → World → Prop, (∀ v W', CM W W' → V i v W' → K (a'.put o.dst v) W') → o.wpIn (Fence.wide.inRound l0) n0 P a' W K Q)
    (hfin : ∀ a' W, CM w W → (∀ t, ((List.range n).all fun i => decide (dstOf l.toArray i ≠ some t)) = true → a'.tmps.getD t undef = a.tmps.getD t undef) → (∀ j d, j < n → dstOf l.toArray j = some d → V j (a'.tmps.getD d undef) W) → of.wpIn (Fence.wide.inRound l0) n0 P a' W (fun a2 W2 => Q .normal a2 W2) Q) :
    (Code.region id l.toArray true).wpIn (Fence.wide.inRound l0) n0 P Q a w := by
  simp only [asB, Bool.and_eq_true, decide_eq_true_eq] at hB
  obtain ⟨⟨⟨⟨⟨hsz, hs⟩, hc⟩, hbk⟩, hdst⟩, hdis⟩ := hB
  have hn : n < l.toArray.size := by omega
  have hd : ∀ i, i < n → ∃ o d, l.toArray[i]? = some o ∧ o.dst = some d ∧ d < N ∧ o.guard = none := fun i hi => by
    have h1 := List.all_eq_true.1 hdst i (List.mem_range.2 hi)
    cases ho : l.toArray[i]? with
    | none => rw [ho] at h1; simp at h1
    | some o =>
      rw [ho] at h1
      cases hd : o.dst with
      | none => simp [hd] at h1
      | some d =>
        simp only [hd, Bool.and_eq_true, decide_eq_true_eq] at h1
        exact ⟨o, d, rfl, hd, h1.1.1, by simpa using h1.1.2⟩
  have hdd : ∀ i j, i < n → j < n → i ≠ j → dstOf l.toArray i ≠ dstOf l.toArray j := fun i j hi hj e => by
    have h1 := List.all_eq_true.1 (List.all_eq_true.1 hdis i (List.mem_range.2 hi)) j (List.mem_range.2 hj)
    simpa [e] using h1
  have main : ∀ (fuel : Nat) (listed : Array Bool) (a' : Act) (W : World), AsInv .any l.toArray n N V a (CM w) listed a' W → ((List.range n).filter (fun i => !listed.getD i true)).length + 1 = fuel → wpAnyIn (Fence.wide.inRound l0) n0 P .any l.toArray Q fuel listed a' W := by
    intro fuel
    induction fuel with
    | zero => intro listed a' W _ h; omega
    | succ fuel ih =>
      intro listed a' W I hf
      have hnl : listed.getD n true = false := I.inv.tail n (Nat.le_refl _) hn
      refine ⟨fun h0 => absurd h0 (ready_ex hbk I.inv.size n hn hnl), fun i hi => ?_⟩
      obtain ⟨hiu, o, ho, hall⟩ := mem_ready.1 hi
      have hilt : i < l.toArray.size := (Array.getElem?_eq_some_iff.1 ho).1
      have hol : l[i]? = some o := by simpa using ho
      unfold wpOpIn
      simp only [ho]
      by_cases hin : i < n
      · obtain ⟨o', d, ho', hd1, hd2, hg⟩ := hd i hin
        rw [ho] at ho'; cases ho'
        rw [if_pos (by simp [Region.wanted, hg])]
        refine hstep i o hin hol a' W I.cls (fun t ht => I.out t fun i hi => by simpa using List.all_eq_true.1 ht i (List.mem_range.2 hi)) (fun j dj hj hw hdj => I.val j dj hj ?_ hdj) _ fun v W' hM hVv => ih _ _ _ ?_ ?_
        · obtain ⟨oj, hoj, e, he, hb, hon⟩ := Region.waitsFor_spec hw
          rw [ho] at hoj; cases hoj
          have := hall e he hb
          rw [← hon]; exact this
        · have hput : ∀ t, (a'.put o.dst v).tmps.getD t undef = if t = d then v else a'.tmps.getD t undef := fun t => by
            rw [hd1]
            by_cases e : t = d
            · subst e
              have : t < a'.tmps.size := by rw [I.size]; exact hd2
              simp [Act.put, this]
            · simp [Act.put, e, Ne.symm e]
          have hdo : dstOf l.toArray i = some d := by simp [dstOf, hol, hd1]
          refine ⟨I.inv.set hi hin, I.cls.trans' hM, by rw [hd1]; simpa [Act.put] using I.size, fun t ht => ?_, fun j dj hj hl hdj => ?_⟩
          · rw [hput, if_neg (fun e => ht i hin (by rw [hdo, e]))]
            exact I.out t ht
          · rw [hput]
            by_cases e : j = i
            · subst e
              rw [hdo] at hdj; cases hdj
              rw [if_pos rfl]; exact hVv
            · rw [if_neg (fun e2 => hdd j i hj hin e (by rw [hdj, hdo, e2]))]
              refine hV _ _ _ _ (I.val j dj hj ?_ hdj) hM
              rwa [getD_set_ne false (Ne.symm e)] at hl
        · have h1 : ((List.range n).filter (fun k => !(listed.setIfInBounds i true).getD k true)).length + 1 = ((List.range n).filter (fun k => !listed.getD k true)).length := by
            have hil : i < listed.size := by rw [I.inv.size]; exact hilt
            have hset : ∀ k, (listed.setIfInBounds i true).getD k true = if k = i then true else listed.getD k true := fun k => by
              by_cases e : k = i
              · subst e; simp [hil]
              · rw [if_neg e, getD_set_ne true (Ne.symm e)]
            have key : ∀ m, i < m → ((List.range m).filter (fun k => !(listed.setIfInBounds i true).getD k true)).length + 1 = ((List.range m).filter (fun k => !listed.getD k true)).length := by
              intro m
              induction m with
              | zero => intro h; omega
              | succ m ihm =>
                intro h
                rw [List.range_succ, List.filter_append, List.filter_append, List.length_append, List.length_append]
                by_cases e : i = m
                · subst e
                  have h2 : (List.range i).filter (fun k => !(listed.setIfInBounds i true).getD k true) = (List.range i).filter (fun k => !listed.getD k true) := List.filter_congr fun k hk => by
                    have := List.mem_range.1 hk
                    rw [hset k, if_neg (by omega)]
                  rw [h2]
                  have h3 := hset i
                  rw [if_pos rfl] at h3
                  simp only [List.filter_cons, List.filter_nil, h3, hiu]
                  simp
                · have h2 := ihm (by omega)
                  have h3 := hset m
                  rw [if_neg (Ne.symm e)] at h3
                  simp only [List.filter_cons, List.filter_nil, h3]
                  omega
            exact key n hin
          omega
      · have hie : i = n := by omega
        subst hie
        rw [hof] at hol; cases hol
        rw [if_pos (by simp [Region.wanted, hog])]
        have hl : ∀ j, j < i → listed.getD j true = true := fun j hj => by
          cases hjl : listed.getD j true with
          | true => rfl
          | false => exact absurd hi (tail_waits2 hs hc hn I.inv _ j rfl hj hjl i (Nat.le_refl _))
        have hl2 : ∀ j, j < i → listed.getD j false = true := fun j hj => by
          have h1 := hl j hj
          have h2 : j < listed.size := by rw [I.inv.size]; omega
          simpa [h2] using h1
        have hf0 : ((List.range i).filter (fun k => !listed.getD k true)).length = 0 := by
          rw [List.length_eq_zero_iff, List.filter_eq_nil_iff]
          intro k hk
          simp [hl k (List.mem_range.1 hk)]
        obtain rfl : fuel = 0 := by omega
        refine Oper.wpIn_mono (fun a2 W2 hq => ?_) (hfin a' W I.cls (fun t ht => I.out t fun i hi => by simpa using List.all_eq_true.1 ht i (List.mem_range.2 hi)) fun j dj hj hdj => I.val j dj hj (hl2 j hj) hdj)
        refine ⟨?_, hq⟩
        cases hr : Region.ready .any l.toArray (listed.setIfInBounds i true) with
        | nil => rfl
        | cons k ks =>
          have hk : k ∈ Region.ready .any l.toArray (listed.setIfInBounds i true) := by rw [hr]; simp
          obtain ⟨hku, ok, hok, _⟩ := mem_ready.1 hk
          have hklt : k < l.toArray.size := (Array.getElem?_eq_some_iff.1 hok).1
          by_cases e : k = i
          · subst e
            have : k < listed.size := by rw [I.inv.size]; omega
            simp [this] at hku
          · rw [getD_set_ne true (Ne.symm e), hl k (by omega)] at hku; cases hku
  refine wpIn_region_any hm (main _ _ _ _ ⟨⟨by simp, fun j oj _ hl => (by rw [getD_replicate_false] at hl; cases hl), fun t _ ht => getD_in (by simpa using ht) (getD_replicate_false _ _)⟩, (Mod.refl _ w).drew, hN, fun _ _ => rfl, fun i d _ hl _ => (by rw [getD_replicate_false] at hl; cases hl)⟩ ?_)
  rw [List.filter_eq_self.2 fun k hk => ?_]
  · simp only [List.length_range]; exact hsz.symm
  · have := List.mem_range.1 hk
    have h2 : k < l.toArray.size := by omega
    simp at h2
    simp [h2]

/-- An operation that reads, carried out. -/
theorem as_val {o : Oper} {a : Act} {W : World} {K : Act → World → Prop} {Q : Exit → Act → World → Prop} (v : Value) (hd : ∀ c, o.op ≠ .defer c) (h : (execOp a.eval o).run P W = .ok (.value v) W) (hK : K (a.put o.dst v) W) : o.wpIn (Fence.wide.inRound l0) n0 P a W K Q := by
  unfold Oper.wpIn
  refine ⟨fun _ _ => trivial, ?_⟩
  rw [Fence.inRound_round, Oper.semAt_some _ _ _ hd, h]
  exact hK
/-- .. one that calls. -/
theorem as_call {o : Oper} {a : Act} {W : World} {K : Act → World → Prop} {Q : Exit → Act → World → Prop} (f : FuncId) (args : Array Value) (hd : ∀ c, o.op ≠ .defer c) (h : (execOp a.eval o).run P W = .ok (.enter f args) W) (hc : Calls P f args W fun e W' => ∃ v, e = .returned v ∧ K (a.put o.dst v) W') : o.wpIn (Fence.wide.inRound l0) n0 P a W K Q := by
  unfold Oper.wpIn
  refine ⟨fun _ _ => trivial, ?_⟩
  rw [Fence.inRound_round, Oper.semAt_some _ _ _ hd, h]
  refine ⟨fun hd => (by cases hd), (callsIn_wide.2 (hc.mono fun e w'' hx => ?_)).inRound l0⟩
  obtain ⟨v, rfl, hk⟩ := hx
  exact hk
end
end Go.Proofs.Bo
