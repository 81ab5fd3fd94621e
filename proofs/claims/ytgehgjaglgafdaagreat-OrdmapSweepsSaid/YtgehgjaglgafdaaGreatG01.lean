import Derived.Test.YtgehgjaglgafdaaGreatG00
import Derived.Laws.AppendOwnNone
import Derived.Laws.ResultCell
import Derived.StillTail
import Derived.Deep.Quiet
set_option linter.unusedVariables false
set_option linter.unusedSimpArgs false
namespace Go.Proofs.Bo
def least64 : Int := -9223372036854775808
def kx (s a : Int) : Int := if s < 0 ∨ (s = 0 ∧ a = least64) then -18446744073709551616 else if 0 < s then 18446744073709551616 else a
def canS (s a : Int) : Int := if s < 0 ∨ (s = 0 ∧ a = least64) then -1 else if 0 < s then 1 else s
def canA (s a : Int) : Int := if s < 0 ∨ (s = 0 ∧ a = least64) then 0 else if 0 < s then 0 else a
def cmpI (x y : Int) : Int := if x < y then -1 else if y < x then 1 else 0
def orI (x y : Int) : Int := if x ≠ 0 then x else y
def fit64 (a : Int) : Prop := -9223372036854775808 ≤ a ∧ a ≤ 9223372036854775807
theorem can_lex {s a s' a' : Int} (h : fit64 a) (h' : fit64 a') : cmpI (kx s a) (kx s' a') = orI (cmpI (canS s a) (canS s' a')) (cmpI (canA s a) (canA s' a')) := by
 unfold orI
 unfold fit64 at h h'
 unfold cmpI kx canS canA least64
 grind
theorem kx_can (s a : Int) : kx (canS s a) (canA s a) = kx s a := by
 unfold kx canS canA least64; grind
theorem can_fit {s a : Int} (h : fit64 a) : fit64 (canA s a) := by
 unfold fit64 at *; unfold canA least64; grind
theorem kx_inj {s a s' a' : Int} (h : fit64 a) (h' : fit64 a') : kx s a = kx s' a' ↔ canS s a = canS s' a' ∧ canA s a = canA s' a' := by
 unfold fit64 at h h'
 unfold kx canS canA least64
 grind
theorem cmpI_lt {x y : Int} (h : x < y) : cmpI x y = -1 := by unfold cmpI; rw [if_pos h]
theorem cmpI_eq {x y : Int} (h : x = y) : cmpI x y = 0 := by unfold cmpI; rw [if_neg (by omega), if_neg (by omega)]
theorem cmpI_gt {x y : Int} (h : y < x) : cmpI x y = 1 := by unfold cmpI; rw [if_neg (by omega), if_pos h]
theorem cmpI_zero {x y : Int} : cmpI x y = 0 ↔ x = y := by unfold cmpI; grind
theorem cmpI_neg {x y : Int} : cmpI x y < 0 ↔ x < y := by unfold cmpI; grind
theorem cmpI_bd (x y : Int) : -1 ≤ cmpI x y ∧ cmpI x y ≤ 1 := by unfold cmpI; grind
def okKey (s a : Int) : Prop := canS s a = s ∧ canA s a = a ∧ s ≤ 0
theorem okKey_lt {s a : Int} (h : okKey s a) (hf : fit64 a) : kx s a < 18446744073709551616 ∧ (s = -1 ∧ a = 0 ∨ s = 0 ∧ a ≠ least64 ∧ kx s a = a) := by
 unfold okKey canS canA at h; unfold kx least64 at *; unfold fit64 at hf
 grind
open Go Go.RowKit
section
variable {P : Program} {ops : Array Oper} {rest : List Oper} {o : Oper} {a : Act} {Q : Exit → Act → World → Prop}
theorem Mod.of_grown_new {w w' : World} {c : Obj} (h : (w.alloc c).grownBy w' (some w.heap.size)) : Mod (fun _ => False) w w' :=
 ⟨h.os, h.tape, h.output, Nat.le_trans (by simp) h.size, fun k hk _ => (h.block k (by simp; omega) (by intro e; cases e; omega)).trans (Below.heap_alloc _ _ _ hk)⟩
theorem app_copy {W : World} (v : Value) (n : Nat) (xs : List Value) (s x : Operand) (t e : TypeId) (z : Value) (size bytes : Nat) (hgd : o.guard = none)
  (ho : o.op = .call { callee := .builtin .append, args := #[s, x], argTypes := #[t, t] })
  (ht : P.underlying t = some (.slice e)) (hinfo : (P.info? e).map (fun i => (i.zero, i.size, i.bytes)) = some (some z, size, bytes)) (hz : z.cells.size = size) (hz0 : 0 < size) (hb0 : 0 < bytes)
  (hs : a.eval s = .slice (some ⟨W.heap.size, 0, none⟩) 0 0) (hx : a.eval x = v)
  (HO : W.ownsRow 0 e size v n xs) (h1 : ∀ u ∈ xs, u.oneCell' = true) (hl : n * bytes ≤ 140737488355328)
  (h : ∀ v1 w1, w1.ownsRow 0 e size v1 n xs → Mod (fun _ => False) W w1 → (∀ k, v1.ownBlock = some k → W.heap.size ≤ k) → wpList P ops Q rest (a.put o.dst v1) w1) :
  wpList P ops Q (o :: rest) a (W.alloc (.cells #[] e)) := by
 obtain ⟨i0, hi, hzz⟩ := Option.map_eq_some_iff.1 hinfo
 simp only [Prod.mk.injEq] at hzz
 obtain ⟨hz0', hz1, hz2⟩ := hzz
 have hlen : n ≤ 140737488355328 := Nat.le_trans (Nat.le_mul_of_pos_right _ hb0) hl
 have HO0 : (W.alloc (.cells #[] e)).ownsRow 0 e size (.slice (some ⟨W.heap.size, 0, none⟩) 0 0) 0 [] :=
  ⟨by simp, .inr ⟨W.heap.size, 0, #[], rfl, Nat.zero_le _, heap_alloc_new W _, Nat.le_refl _, by simp [maxLen], by simp, by simp⟩⟩
 rcases HO.2 with ⟨hv, hn⟩ | ⟨g, cap, cur, hv, _, hg, h3, h4, h5, h6⟩
 ·subst hv; subst hn
  have hxs : xs = [] := List.eq_nil_of_length_eq_zero (by simpa using HO.1)
  subst hxs
  refine wpList_append_own_none hgd s x t ho 0 e i0 size ht hi _ 0 [] hs HO0 hx ?_
  exact h _ _ HO0 ((Mod.refl _ _).alloc _) (fun k hk => by cases hk; exact Nat.le_refl _)
 ·subst hv
  have HO2 := HO.alloc (.cells #[] e)
  refine wpList_append_own_at (W.alloc (.cells #[] e)) hgd s x t ho 0 e i0 z size bytes ht hi hz0' hz1 hz2 hz hz0 _ 0 [] hs HO0 ⟨g, 0, none⟩ n cap xs hx HO.1 (HO2.cells rfl) h1 (by simp only [maxLen]; omega) (by simpa using hl) (by simp) ?_
  intro v1 w1 hown hgr _ hat
  simp only [Nat.zero_add, List.nil_append] at hown
  refine h v1 w1 hown (Mod.of_grown_new hgr) ?_
  intro k hk
  rcases hat with e | e
  ·rw [e] at hk; cases hk; exact Nat.le_refl _
  ·rw [e] at hk; cases hk; simp
end
theorem ret_row2 {P : Program} {fn : Func} {R : Ending → World → Prop} {a : Act} {W : World} {p q : Tmp} {ty ty' t t' : TypeId} {d d' : TypeDesc} (g g' : Nat) (us us' : List Value) (h : fn.results = #[.cell p ty, .cell q ty'])
  (hp : a.tmps.getD p undef = .pointer (some ⟨g, 0, none⟩)) (hq : a.tmps.getD q undef = .pointer (some ⟨g', 0, none⟩))
  (hg : W.heap[g]? = some (.cells us.toArray t (0, 0))) (hg' : W.heap[g']? = some (.cells us'.toArray t' (0, 0)))
  (hu : P.underlying ty = some d) (hd : (match d with | .struct _ | .array _ _ => true | _ => false) = true) (hi : (P.info? ty).map (·.size) = some us.length)
  (hu' : P.underlying ty' = some d') (hd' : (match d' with | .struct _ | .array _ _ => true | _ => false) = true) (hi' : (P.info? ty').map (·.size) = some us'.length)
  (hdf : a.defers = []) (hR : R (.returned (.tuple #[.agg us.toArray, .agg us'.toArray])) W) : bodyPost P fn R .ret a W := by
 refine bodyPost_ret (v := .tuple #[.agg us.toArray, .agg us'.toArray]) ?_ hdf hR
 have hp' : a.tmps[p]?.getD undef = .pointer (some ⟨g, 0, none⟩) := by simpa using hp
 have hq' : a.tmps[q]?.getD undef = .pointer (some ⟨g', 0, none⟩) := by simpa using hq
 simp [results, h, hp', hq', asAddr, run_loadVar_row W g t ty us.toArray (0, 0) d hg hu hd (by simpa using hi), run_loadVar_row W g' t' ty' us'.toArray (0, 0) d' hg' hu' hd' (by simpa using hi')]
theorem ret_row2_drew {P : Program} {fn : Func} {R : Ending → World → Prop} {a : Act} {W : World} {p q : Tmp} {ty ty' t t' : TypeId} {d d' : TypeDesc} (g g' : Nat) (us us' : List Value) (h : fn.results = #[.cell p ty, .cell q ty'])
  (hp : a.tmps.getD p undef = .pointer (some ⟨g, 0, none⟩)) (hq : a.tmps.getD q undef = .pointer (some ⟨g', 0, none⟩))
  (hg : W.heap[g]? = some (.cells us.toArray t (0, 0))) (hg' : W.heap[g']? = some (.cells us'.toArray t' (0, 0)))
  (hu : P.underlying ty = some d) (hd : (match d with | .struct _ | .array _ _ => true | _ => false) = true) (hi : (P.info? ty).map (·.size) = some us.length)
  (hu' : P.underlying ty' = some d') (hd' : (match d' with | .struct _ | .array _ _ => true | _ => false) = true) (hi' : (P.info? ty').map (·.size) = some us'.length)
  (hdf : a.defers = []) (hR : R (.returned (.tuple #[.agg us.toArray, .agg us'.toArray])) W.drew) : bodyPost P fn R .ret a W.drew :=
 ret_row2 (W := W.drew) g g' us us' h hp hq hg hg' hu hd hi hu' hd' hi' hdf hR
theorem ret_row_tmp {P : Program} {fn : Func} {R : Ending → World → Prop} {a : Act} {W : World} {p q : Tmp} {ty t : TypeId} {d : TypeDesc} (g : Nat) (us : List Value) (h : fn.results = #[.cell p ty, .tmp q])
  (hp : a.tmps.getD p undef = .pointer (some ⟨g, 0, none⟩))
  (hg : W.heap[g]? = some (.cells us.toArray t (0, 0)))
  (hu : P.underlying ty = some d) (hd : (match d with | .struct _ | .array _ _ => true | _ => false) = true) (hi : (P.info? ty).map (·.size) = some us.length)
  (hdf : a.defers = []) (hR : R (.returned (.tuple #[.agg us.toArray, a.tmps.getD q undef])) W) : bodyPost P fn R .ret a W := by
 refine bodyPost_ret (v := .tuple #[.agg us.toArray, a.tmps.getD q undef]) ?_ hdf hR
 have hp' : a.tmps[p]?.getD undef = .pointer (some ⟨g, 0, none⟩) := by simpa using hp
 simp [results, h, hp', asAddr, run_loadVar_row W g t ty us.toArray (0, 0) d hg hu hd (by simpa using hi)]
open Go Go.RowKit
theorem step_app {P : Program} {w : World} {ops : Array Oper} {o : Oper} {a : Act} {K : Act → World → Prop} {Q : Exit → Act → World → Prop} {E : Prop} (news : List Value) (v : Value) (n : Nat) (xs : List Value) (s x : Operand) (t e : TypeId) (z : Value) (size bytes : Nat) (hgd : o.guard = none)
  (ho : o.op = .call { callee := .builtin .append, args := #[s, x], argTypes := #[t, t] })
  (ht : P.underlying t = some (.slice e)) (hinfo : (P.info? e).map (fun i => (i.zero, i.size, i.bytes)) = some (some z, size, bytes)) (hz : z.cells.size = size) (hz0 : 0 < size) (hb0 : 0 < bytes)
  (hs : a.eval s = v) (HO : w.ownsRow 0 e size v n xs) (B : Nat) (hB : w.heap[B]? = some (.cells news.toArray e (0, 0))) (hx : a.eval x = .slice (some ⟨B, 0, none⟩) 1 1)
  (hnl : news.length = size) (h1 : ∀ u ∈ news, u.oneCell' = true) (hl : (n + 1) * bytes ≤ 140737488355328)
  (h : ∀ v1 w1, w1.ownsRow 0 e size v1 (n + 1) (xs ++ news) → w.grownBy w1 v.ownBlock → (∀ k, v1.ownBlock = some k → v.ownBlock = some k ∨ w.heap.size ≤ k) → K (a.put o.dst v1) w1) :
  if Region.wanted o (yielded ops a.tmps) = true then Oper.wp P o a w K Q else E := by
 have hw : Region.wanted o (yielded ops a.tmps) = true := by simp [Region.wanted, hgd]
 rw [if_pos hw]
 obtain ⟨i0, hi, hzz⟩ := Option.map_eq_some_iff.1 hinfo
 simp only [Prod.mk.injEq] at hzz
 obtain ⟨hz0', hz1, hz2⟩ := hzz
 have hlen : n + 1 ≤ 140737488355328 := Nat.le_trans (Nat.le_mul_of_pos_right _ hb0) hl
 obtain ⟨v', w', hr, h2, h3, _, h5⟩ := run_append_own_at (P := P) w 0 t o.type e i0 z size bytes ht hi hz0' hz1 hz2 hz hz0 v n xs HO ⟨B, 0, none⟩ 1 1 news (by omega) (World.news_of_block (cs := news.toArray) (t := e) (fr := (0, 0)) hB) h1 (by simp only [maxLen]; omega) hl (by simp)
 unfold Oper.wp execOp
 simp only [ho, resolve, invoke, builtin, Sem.run_bind, Sem.run_pure, Result.andThen_ok, List.map_toArray, List.map_cons, List.map_nil, hs, hx, hr]
 refine h _ _ h2 h3 fun k hk => ?_
 rcases h5 with h5 | h5
 ·exact .inl (h5 ▸ hk)
 ·rw [h5] at hk; cases hk; exact .inr (Nat.le_refl _)
open Go Go.RowKit
theorem step_app_one {P : Program} {W : World} {ops : Array Oper} {o : Oper} {a : Act} {K : Act → World → Prop} {Q : Exit → Act → World → Prop} {E : Prop} (news : List Value) (v : Value) (n : Nat) (xs : List Value) (s x : Operand) (t e : TypeId) (z : Value) (size bytes : Nat) (hgd : o.guard = none)
  (ho : o.op = .call { callee := .builtin .append, args := #[s, x], argTypes := #[t, t] })
  (ht : P.underlying t = some (.slice e)) (hinfo : (P.info? e).map (fun i => (i.zero, i.size, i.bytes)) = some (some z, size, bytes)) (hz : z.cells.size = size) (hz0 : 0 < size) (hb0 : 0 < bytes)
  (hs : a.eval s = v) (hx : a.eval x = .slice (some ⟨W.heap.size, 0, none⟩) 1 1) (HO : W.ownsRow 0 e size v n xs)
  (hnl : news.length = size) (h1 : ∀ u ∈ news, u.oneCell' = true) (hl : (n + 1) * bytes ≤ 140737488355328)
  (h : ∀ v1 w1, w1.ownsRow 0 e size v1 (n + 1) (xs ++ news) → W.grownBy w1 v.ownBlock → (∀ k, v1.ownBlock = some k → v.ownBlock = some k ∨ W.heap.size ≤ k) → K (a.put o.dst v1) w1) :
  if Region.wanted o (yielded ops a.tmps) = true then Oper.wp P o a (W.alloc (.cells news.toArray e)) K Q else E := by
 refine step_app news v n xs s x t e z size bytes hgd ho ht hinfo hz hz0 hb0 hs (HO.alloc _) W.heap.size (heap_alloc_new W _) hx hnl h1 hl ?_
 intro v1 w1 hown hg hb
 have hg0 : W.grownBy (W.alloc (.cells news.toArray e)) v.ownBlock := World.grownBy_alloc W _ _
 exact h v1 w1 hown (hg0.trans hg) fun k hk => (hb k hk).imp id fun h => Nat.le_trans (by simp) h
open Go Go.RowKit
def RdS {β : Type} (f : β → List Value) (m : Nat) (w : World) (a : Option Addr) (len : Nat) (zs : List β) : Prop :=
 zs.length = len ∧ (∀ b, (f b).length = m) ∧ (0 < len → ∃ b o, a = some ⟨b, o, none⟩ ∧ ∀ i z, zs[i]? = some z → ∀ j u, (f z)[j]? = some u → w.cell? ⟨b, o + i * m + j, none⟩ = some u)
theorem RdS.below {β : Type} {f : β → List Value} {m : Nat} {w w' : World} {a : Option Addr} {len : Nat} {zs : List β} (h : RdS f m w a len zs) (hm : 0 < m) (hb : Below w.heap.size w w') : RdS f m w' a len zs := by
 refine ⟨h.1, h.2.1, fun hl => ?_⟩
 obtain ⟨b, o, e, hc⟩ := h.2.2 hl
 refine ⟨b, o, e, fun i z hz j u hu => ?_⟩
 have := hc i z hz j u hu
 exact (hb.cell (p := ⟨b, o + i * m + j, none⟩) (World.block_lt_of_cell? w _ this)).trans this
open Go Go.RowKit
section
variable {P : Program} {ops : Array Oper} {md : Region.Mode} {C : World → Prop}
def HeadQ (P : Program) (md : Region.Mode) (ops : Array Oper) (C : World → Prop) (n : Nat) (L : Array Bool → Act → Prop) : Nat → Array Bool → Act → Prop
 | 0, listed, a => L listed a
 | f + 1, listed, a => Region.ready md ops listed ≠ [] ∧ ∀ i, i ∈ Region.ready md ops listed → i < n ∧ qOp P ops C i (HeadQ P md ops C n L f (listed.setIfInBounds i true)) a
theorem any_of_headQ {n g : Nat} {L : Array Bool → Act → Prop} {Q : Exit → Act → World → Prop} (hL : ∀ listed a w, C w → L listed a → wpAny P md ops Q g listed a w) :
  ∀ (f : Nat) (listed : Array Bool) (a : Act) (w : World), C w → HeadQ P md ops C n L f listed a → wpAny P md ops Q (f + g) listed a w
 | 0, listed, a, w, hw, h => by rw [Nat.zero_add]; exact hL _ _ _ hw h
 | f + 1, listed, a, w, hw, h => by
  rw [Nat.add_right_comm]
  exact ⟨fun e => absurd e h.1, fun i hi => wpOp_of_qOp hw (fun _ _ hw' hk => any_of_headQ hL f _ _ _ hw' hk) (h.2 i hi).2⟩
theorem HeadQ.pick {n i : Nat} {oi : Oper} {v : Value} {L : Array Bool → Act → Prop} (hi : ops[i]? = some oi) (hsel : ∀ (j : Nat) (o : Oper) cs b, ops[j]? = some o → o.op ≠ .select cs b)
  (hs : Region.sinkB md ops n = true) (hc : Region.chainB md ops n = true) (hn : n < ops.size) (hin : i < n) (hL : ∀ listed a, L listed a → ∀ j ∈ Region.ready md ops listed, n ≤ j) :
  ∀ (f : Nat) (listed : Array Bool) (a : Act), HeadInv md ops n listed →
   (∀ j oj, ops[j]? = some oj → j ≠ i → listed.getD j true = false → (∀ e ∈ oj.after, Region.binds md e = true → e.on ≠ i) → oi.apart ops oj = true) →
   i ∈ Region.ready md ops listed → YieldsIn P ops C oi v a → HeadQ P md ops C n L f (listed.setIfInBounds i true) (a.put oi.dst v) → HeadQ P md ops C n L (f + 1) listed a := by
 intro f
 induction f with
 | zero =>
  intro listed a inv _ hr hy H
  refine ⟨List.ne_nil_of_mem hr, fun j hj => ?_⟩
  have hjn : j < n := Nat.lt_of_not_le fun h => tail_waits hs hc hn inv _ i rfl hin (mem_ready.1 hr).1 j h hj
  by_cases e : j = i
  ·subst e; exact ⟨hjn, hy.qOp hi H⟩
  ·exact absurd (hL _ _ H j (ready_mono hj e)) (by omega)
 | succ f ih =>
  intro listed a inv hfree hr hy H
  refine ⟨List.ne_nil_of_mem hr, fun j hj => ?_⟩
  have hun := (mem_ready.1 hr).1
  have hjn : j < n := Nat.lt_of_not_le fun h => tail_waits hs hc hn inv _ i rfl hin hun j h hj
  refine ⟨hjn, ?_⟩
  by_cases e : j = i
  ·subst e; exact hy.qOp hi H
  ·obtain ⟨hjun, oj, hoj, hall⟩ := mem_ready.1 hj
   have hno : ∀ x ∈ oj.after, Region.binds md x = true → x.on ≠ i := fun x hx hb he => by
    have := hall x hx hb
    rw [he, getD_both hun] at this
    cases this
   have hnext : ∀ k ok, ops[k]? = some ok → k ≠ i → (listed.setIfInBounds j true).getD k true = false → (∀ x ∈ ok.after, Region.binds md x = true → x.on ≠ i) → oi.apart ops ok = true := fun k ok hk hki hu hx =>
    hfree k ok hk hki (by
     by_cases ejk : j = k
     ·subst ejk; exact hjun
     ·rwa [getD_set_ne true ejk] at hu) hx
   have hq := qOp_put hoj (hfree j oj hoj e hjun hno) (fun cs b => hsel i oi cs b hi) (fun cs b => hsel j oj cs b hoj) hy (H.2 j (ready_mono hj e)).2
   refine qOp_mono (fun a' h3 => ih _ a' (inv.set hj hjn) hnext (ready_mono hr (Ne.symm e)) h3.1 ?_) hq
   rw [Array.setIfInBounds_comm _ _ e]
   exact h3.2
theorem HeadQ.lex {n g : Nat} {Lq : Act → Prop} (hsel : Region.noSelect ops = true) (hs : Region.sinkB md ops n = true) (hc : Region.chainB md ops n = true) (hn : n < ops.size) :
  ∀ (l : List Oper) (k : Nat) (listed : Array Bool) (a : Act), (∀ j, j < l.length → l[j]? = ops[k + j]?) → k + l.length = n → HeadInv md ops n listed →
   Region.lexHead md ops g l.length k listed = true → wpQuiet P ops C Lq l a → HeadQ P md ops C n (fun listed' a' => Region.seqB md ops g n listed' = true ∧ Lq a') l.length listed a
 | [], k, listed, a, _, hk, _, hB, h => by
  obtain rfl : k = n := by simpa using hk
  exact ⟨by simpa [Region.lexHead] using hB, h⟩
 | o :: l, k, listed, a, hl, hk, inv, hB, h => by
  simp only [List.length_cons] at hk hl
  have h0 : ops[k]? = some o := by simpa using (hl 0 (by omega)).symm
  simp only [List.length_cons, Region.lexHead, Bool.and_eq_true] at hB
  have hr : k ∈ Region.ready md ops listed := by simpa using hB.1.1
  obtain ⟨v, hy, hK⟩ := yieldsIn_of_qOp (K := wpQuiet P ops C Lq l) h0 (by unfold qOp; simp only [h0]; exact h)
  exact HeadQ.pick h0 (Region.noSelect_spec hsel) hs hc hn (by omega) (fun _ _ hL => seqB_ready hL.1) l.length listed a inv (Region.free_spec h0 hB.1.2) hr hy
   (HeadQ.lex hsel hs hc hn l (k + 1) _ _ (fun j hj => by have := hl (j + 1) (by omega); simpa [Nat.add_assoc, Nat.add_comm 1 j] using this) (by omega) (inv.set hr (by omega)) hB.2 hK)
theorem wp_region_quiet_tail {id : Nat} {Q : Exit → Act → World → Prop} {a : Act} {w : World} {l : List Oper} (n : Nat) (hm : P.follows .mixedOrders = true) (hB : Region.lexTailB .any l.toArray n = true)
  (h : wpQuiet P l.toArray (fun w' => ∃ n, w' = w.drewN n) (fun a' => ∀ w', (∃ n, w' = w.drewN n) → wpList P l.toArray Q (l.drop n) a' w') (l.take n) a) : (Code.region id l.toArray true).wp P Q a w := by
 simp only [Region.lexTailB, Bool.and_eq_true, decide_eq_true_eq] at hB
 obtain ⟨⟨⟨⟨hsel, hn⟩, hs⟩, hc⟩, hlex⟩ := hB
 have hn' : n < l.length := by simpa using hn
 have htl : (l.take n).length = n := by simp; omega
 have inv0 : HeadInv .any l.toArray n (Array.replicate l.toArray.size false) :=
  ⟨by simp, fun j oj _ hl => (by rw [getD_replicate_false] at hl; cases hl), fun t _ ht => getD_in (by simpa using ht) (getD_replicate_false _ _)⟩
 have H := HeadQ.lex (md := .any) (g := l.toArray.size - n) hsel hs hc hn (l.take n) 0 _ a (fun j hj => by
  rw [htl] at hj
  simp [hj]) (by simpa using htl) inv0 (by rw [htl]; exact hlex) h
 refine wp_region_any hm ?_
 have := any_of_headQ (Q := Q) (g := l.toArray.size - n) (fun listed a' w' hw' hL => by
  have hd : (l.drop n).length = l.toArray.size - n := by simp
  rw [← hd]
  exact wpAny_of_seq (l.drop n) n listed a' w' (fun j => by simp) (by rw [hd]; exact hL.1) (hL.2 w' hw')) _ _ _ w.drew ⟨1, rfl⟩ H
 have e : (l.take n).length + (l.toArray.size - n) = l.toArray.size := by rw [htl]; simp; omega
 rw [e] at this
 exact this
def CM (w w' : World) : Prop := Mod (fun _ => False) w w'
theorem cq_region {id : Nat} {Q : Exit → Act → World → Prop} {a : Act} {w : World} {l : List Oper} (hm : P.follows .mixedOrders = true) (hB : Region.lexB .any l.toArray = true)
  (h : wpQuiet P l.toArray (CM w) (fun a' => ∀ w', CM w w' → Q .normal a' w') l a) : (Code.region id l.toArray true).wp P Q a w :=
 wp_region_quiet (C := CM w) hm hB ((Mod.refl _ w).drew) (by simpa using h)
theorem cq_tail {id : Nat} {Q : Exit → Act → World → Prop} {a : Act} {w : World} {l : List Oper} (n : Nat) (hm : P.follows .mixedOrders = true) (hB : Region.lexTailB .any l.toArray n = true)
  (h : wpQuiet P l.toArray (CM w) (fun a' => ∀ w', CM w w' → wpList P l.toArray Q (l.drop n) a' w') (l.take n) a) : (Code.region id l.toArray true).wp P Q a w := by
 simp only [Region.lexTailB, Bool.and_eq_true, decide_eq_true_eq] at hB
 obtain ⟨⟨⟨⟨hsel, hn⟩, hs⟩, hc⟩, hlex⟩ := hB
 have hn' : n < l.length := by simpa using hn
 have htl : (l.take n).length = n := by simp; omega
 have inv0 : HeadInv .any l.toArray n (Array.replicate l.toArray.size false) :=
  ⟨by simp, fun j oj _ hl => (by rw [getD_replicate_false] at hl; cases hl), fun t _ ht => getD_in (by simpa using ht) (getD_replicate_false _ _)⟩
 have H := HeadQ.lex (md := .any) (g := l.toArray.size - n) hsel hs hc hn (l.take n) 0 _ a (fun j hj => by
  rw [htl] at hj
  simp [hj]) (by simpa using htl) inv0 (by rw [htl]; exact hlex) h
 refine wp_region_any hm ?_
 have := any_of_headQ (Q := Q) (g := l.toArray.size - n) (fun listed a' w' hw' hL => by
  have hd : (l.drop n).length = l.toArray.size - n := by simp
  rw [← hd]
  exact wpAny_of_seq (l.drop n) n listed a' w' (fun j => by simp) (by rw [hd]; exact hL.1) (hL.2 w' hw')) _ _ _ w.drew ((Mod.refl _ w).drew) H
 have e : (l.take n).length + (l.toArray.size - n) = l.toArray.size := by rw [htl]; simp; omega
 rw [e] at this
 exact this
end
open Go Go.RowKit
section
variable {P : Program} {ops : Array Oper} {md : Region.Mode} {C : World → Prop}
def wchainB (md : Region.Mode) (ops : Array Oper) (n : Nat) : Bool :=
 (List.range ops.size).all fun t => decide (t ≤ n) || (List.range t).any fun j => decide (n ≤ j) && Region.waitsFor md ops t j
theorem tail_waits2 {n : Nat} {listed : Array Bool} (hs : Region.sinkB md ops n = true) (hc : wchainB md ops n = true) (hn : n < ops.size) (inv : HeadInv md ops n listed) :
  ∀ (d i : Nat), n - i = d → i < n → listed.getD i true = false → ∀ t, n ≤ t → t ∉ Region.ready md ops listed := by
 intro d
 induction d using Nat.strongRecOn with
 | _ d ih =>
  intro i hd hi hun t ht hr
  obtain ⟨_, ot, hot, hall⟩ := mem_ready.1 hr
  have htlt : t < ops.size := (Array.getElem?_eq_some_iff.1 hot).1
  by_cases htn : t = n
  ·subst htn
   have h1 := List.all_eq_true.1 hs i (List.mem_range.2 hi)
   obtain ⟨j, hj, hj2⟩ := List.any_eq_true.1 h1
   simp only [Bool.and_eq_true, decide_eq_true_eq] at hj2
   obtain ⟨oj, hoj, e, he, hb, hon⟩ := Region.waitsFor_spec hj2.2
   have hjle : j ≤ t := by have := List.mem_range.1 hj; omega
   by_cases hjt : j = t
   ·subst hjt
    have : oj = ot := Option.some.inj (hoj.symm.trans hot)
    subst this
    have h2 := hall e he hb
    rw [hon, getD_both hun] at h2
    cases h2
   ·cases hl : listed.getD j false with
    | true =>
     have h2 := inv.closed j oj hoj hl e he hb
     rw [hon, getD_both hun] at h2
     cases h2
    | false =>
     have hjs : j < listed.size := by rw [inv.size]; omega
     exact ih (t - j) (by omega) j rfl (by omega) (getD_in hjs hl) t (Nat.le_refl _) hr
  ·have h1 := List.all_eq_true.1 hc t (List.mem_range.2 htlt)
   simp only [Bool.or_eq_true, decide_eq_true_eq] at h1
   rcases h1 with h1 | h1
   ·omega
   ·obtain ⟨j, hj, hj2⟩ := List.any_eq_true.1 h1
    simp only [Bool.and_eq_true, decide_eq_true_eq] at hj2
    have hjlt := List.mem_range.1 hj
    obtain ⟨o', ho', e, he, hb, hon⟩ := Region.waitsFor_spec hj2.2
    have : o' = ot := Option.some.inj (ho'.symm.trans hot)
    subst this
    have h2 := hall e he hb
    rw [hon, getD_both (inv.tail j hj2.1 (by omega))] at h2
    cases h2
theorem HeadQ.pick2 {n i : Nat} {oi : Oper} {v : Value} {L : Array Bool → Act → Prop} (hi : ops[i]? = some oi) (hsel : ∀ (j : Nat) (o : Oper) cs b, ops[j]? = some o → o.op ≠ .select cs b)
  (hs : Region.sinkB md ops n = true) (hc : wchainB md ops n = true) (hn : n < ops.size) (hin : i < n) (hL : ∀ listed a, L listed a → ∀ j ∈ Region.ready md ops listed, n ≤ j) :
  ∀ (f : Nat) (listed : Array Bool) (a : Act), HeadInv md ops n listed →
   (∀ j oj, ops[j]? = some oj → j ≠ i → listed.getD j true = false → (∀ e ∈ oj.after, Region.binds md e = true → e.on ≠ i) → oi.apart ops oj = true) →
   i ∈ Region.ready md ops listed → YieldsIn P ops C oi v a → HeadQ P md ops C n L f (listed.setIfInBounds i true) (a.put oi.dst v) → HeadQ P md ops C n L (f + 1) listed a := by
 intro f
 induction f with
 | zero =>
  intro listed a inv _ hr hy H
  refine ⟨List.ne_nil_of_mem hr, fun j hj => ?_⟩
  have hjn : j < n := Nat.lt_of_not_le fun h => tail_waits2 hs hc hn inv _ i rfl hin (mem_ready.1 hr).1 j h hj
  by_cases e : j = i
  ·subst e; exact ⟨hjn, hy.qOp hi H⟩
  ·exact absurd (hL _ _ H j (ready_mono hj e)) (by omega)
 | succ f ih =>
  intro listed a inv hfree hr hy H
  refine ⟨List.ne_nil_of_mem hr, fun j hj => ?_⟩
  have hun := (mem_ready.1 hr).1
  have hjn : j < n := Nat.lt_of_not_le fun h => tail_waits2 hs hc hn inv _ i rfl hin hun j h hj
  refine ⟨hjn, ?_⟩
  by_cases e : j = i
  ·subst e; exact hy.qOp hi H
  ·obtain ⟨hjun, oj, hoj, hall⟩ := mem_ready.1 hj
   have hno : ∀ x ∈ oj.after, Region.binds md x = true → x.on ≠ i := fun x hx hb he => by
    have := hall x hx hb
    rw [he, getD_both hun] at this
    cases this
   have hnext : ∀ k ok, ops[k]? = some ok → k ≠ i → (listed.setIfInBounds j true).getD k true = false → (∀ x ∈ ok.after, Region.binds md x = true → x.on ≠ i) → oi.apart ops ok = true := fun k ok hk hki hu hx =>
    hfree k ok hk hki (by
     by_cases ejk : j = k
     ·subst ejk; exact hjun
     ·rwa [getD_set_ne true ejk] at hu) hx
   have hq := qOp_put hoj (hfree j oj hoj e hjun hno) (fun cs b => hsel i oi cs b hi) (fun cs b => hsel j oj cs b hoj) hy (H.2 j (ready_mono hj e)).2
   refine qOp_mono (fun a' h3 => ih _ a' (inv.set hj hjn) hnext (ready_mono hr (Ne.symm e)) h3.1 ?_) hq
   rw [Array.setIfInBounds_comm _ _ e]
   exact h3.2
def lexHeadM (md : Region.Mode) (ops : Array Oper) (B : Array Bool → Bool) : Nat → Nat → Array Bool → Bool
 | 0, _, listed => B listed
 | f + 1, k, listed => (Region.ready md ops listed).contains k && Region.free md ops listed k && lexHeadM md ops B f (k + 1) (listed.setIfInBounds k true)
theorem HeadQ.lex2 {n : Nat} {Lq : Act → Prop} {B : Array Bool → Bool} (hB : ∀ listed, B listed = true → ∀ j ∈ Region.ready md ops listed, n ≤ j) (hsel : Region.noSelect ops = true) (hs : Region.sinkB md ops n = true) (hc : wchainB md ops n = true) (hn : n < ops.size) :
  ∀ (l : List Oper) (k : Nat) (listed : Array Bool) (a : Act), (∀ j, j < l.length → l[j]? = ops[k + j]?) → k + l.length = n → HeadInv md ops n listed →
   lexHeadM md ops B l.length k listed = true → wpQuiet P ops C Lq l a → HeadQ P md ops C n (fun listed' a' => B listed' = true ∧ Lq a') l.length listed a
 | [], k, listed, a, _, hk, _, hb, h => by
  obtain rfl : k = n := by simpa using hk
  exact ⟨by simpa [lexHeadM] using hb, h⟩
 | o :: l, k, listed, a, hl, hk, inv, hb, h => by
  simp only [List.length_cons] at hk hl
  have h0 : ops[k]? = some o := by simpa using (hl 0 (by omega)).symm
  simp only [List.length_cons, lexHeadM, Bool.and_eq_true] at hb
  have hr : k ∈ Region.ready md ops listed := by simpa using hb.1.1
  obtain ⟨v, hy, hK⟩ := yieldsIn_of_qOp (K := wpQuiet P ops C Lq l) h0 (by unfold qOp; simp only [h0]; exact h)
  exact HeadQ.pick2 h0 (Region.noSelect_spec hsel) hs hc hn (by omega) (fun listed' _ hL => hB listed' hL.1) l.length listed a inv (Region.free_spec h0 hb.1.2) hr hy
   (HeadQ.lex2 hB hsel hs hc hn l (k + 1) _ _ (fun j hj => by have := hl (j + 1) (by omega); simpa [Nat.add_assoc, Nat.add_comm 1 j] using this) (by omega) (inv.set hr (by omega)) hb.2 hK)
def midC (md : Region.Mode) (ops : Array Oper) (n : Nat) (listed : Array Bool) : Bool :=
 decide (Region.ready md ops listed = [n]) && Region.lexFrom md ops (ops.size - n - 1) (n + 1) (listed.setIfInBounds n true)
theorem midC_spec {md : Region.Mode} {ops : Array Oper} {n : Nat} {listed : Array Bool} (h : midC md ops n listed = true) : Region.ready md ops listed = [n] ∧ Region.lexFrom md ops (ops.size - n - 1) (n + 1) (listed.setIfInBounds n true) = true := by
 simpa [midC] using h
def midB (md : Region.Mode) (ops : Array Oper) (n : Nat) : Bool :=
 Region.noSelect ops && decide (n < ops.size) && Region.sinkB md ops n && wchainB md ops n &&
  lexHeadM md ops (midC md ops n) n 0 (Array.replicate ops.size false)
theorem cq_mid {id : Nat} {Q : Exit → Act → World → Prop} {a : Act} {w : World} {l : List Oper} (n : Nat) (o : Oper) (hm : P.follows .mixedOrders = true) (hB : midB .any l.toArray n = true) (ho : l[n]? = some o) (hg : o.guard = none)
  (h : wpQuiet P l.toArray (CM w) (fun a' => ∀ w', CM w w' → ∀ K : Act → World → Prop, (∀ a1 w1, wpQuiet P l.toArray (CM w1) (fun a2 => ∀ w2, CM w1 w2 → Q .normal a2 w2) (l.drop (n + 1)) a1 → K a1 w1) → o.wp P a' w' K Q) (l.take n) a) :
  (Code.region id l.toArray true).wp P Q a w := by
 simp only [midB, Bool.and_eq_true, decide_eq_true_eq] at hB
 obtain ⟨⟨⟨⟨hsel, hn⟩, hs⟩, hc⟩, hlex⟩ := hB
 have hn' : n < l.length := by simpa using hn
 have htl : (l.take n).length = n := by simp; omega
 have inv0 : HeadInv .any l.toArray n (Array.replicate l.toArray.size false) :=
  ⟨by simp, fun j oj _ hl => (by rw [getD_replicate_false] at hl; cases hl), fun t _ ht => getD_in (by simpa using ht) (getD_replicate_false _ _)⟩
 have H := HeadQ.lex2 (P := P) (C := CM w) (md := .any) (n := n) (B := midC .any l.toArray n) (fun listed hb j hj => by
   rw [(midC_spec hb).1] at hj
   have : j = n := by simpa using hj
   omega) hsel hs hc hn (l.take n) 0 _ a (fun j hj => by
  rw [htl] at hj
  simp [hj]) (by simpa using htl) inv0 (by rw [htl]; exact hlex) h
 refine wp_region_any hm ?_
 have := any_of_headQ (Q := Q) (g := l.toArray.size - n) (fun listed a' w' hw' hL => by
  obtain ⟨hb, hq⟩ := hL
  replace hb := midC_spec hb
  have hd : l.toArray.size - n = (l.drop (n + 1)).length + 1 := by simp; omega
  rw [hd]
  refine wpAny_all hb.1 (by simp) ?_
  intro i hi
  simp at hi
  subst hi
  unfold wpOp
  simp only [List.getElem?_toArray, ho]
  rw [if_pos (by simp [Region.wanted, hg])]
  refine .inl (hq w' hw' _ fun a1 w1 hq1 => ?_)
  refine wpAny_of_quiet (C := CM w1) (Q := fun a' => ∀ w', CM w1 w' → Q .normal a' w') (fun _ w' hw' h => h w' hw') _ _ _ _ (Mod.refl _ _) ?_
  have hd2 : (l.drop (i + 1)).length = l.toArray.size - i - 1 := by simp; omega
  exact wpAnyQ_lex hsel (l.drop (i + 1)) (i + 1) _ _ (fun j => by simp) (by rw [hd2]; exact hb.2) hq1) _ _ _ w.drew ((Mod.refl _ w).drew) H
 have e : (l.take n).length + (l.toArray.size - n) = l.toArray.size := by rw [htl]; simp; omega
 rw [e] at this
 exact this
end
open Go Go.RowKit
def ky (s : Sg) : Int := kx s.ls s.la
def Srt (l : List Sg) : Prop := l.Pairwise (fun x y => ky x < ky y)
def KeyOK (s : Sg) : Prop := okKey s.ls s.la ∧ fit64 s.la
def Row (l : List Sg) : Prop := Srt l ∧ ∀ s ∈ l, KeyOK s
theorem Srt.app {a b : List Sg} {s : Sg} (h : Srt (a ++ s :: b)) : (∀ x ∈ a, ky x < ky s) ∧ ∀ x ∈ b, ky s < ky x := by
 unfold Srt at h
 rw [List.pairwise_append] at h
 refine ⟨fun x hx => h.2.2 x hx s (by simp), fun x hx => ?_⟩
 have := h.2.1
 rw [List.pairwise_cons] at this
 exact this.1 x hx
def insL (s : Sg) (l : List Sg) : List Sg := l.filter (fun x => ky x < ky s) ++ s :: l.filter (fun x => ky s < ky x)
def delL (k : Int) (l : List Sg) : List Sg := l.filter (fun x => ky x ≠ k)
def hasK (k : Int) (l : List Sg) : Bool := l.any (fun x => ky x = k)
theorem filt_lo {a b : List Sg} {k : Int} (ha : ∀ x ∈ a, ky x < k) (hb : ∀ x ∈ b, k ≤ ky x) : (a ++ b).filter (fun x => ky x < k) = a := by
 rw [List.filter_append, List.filter_eq_self.2 (by simpa using ha), List.filter_eq_nil_iff.2 (by intro x hx; have := hb x hx; simp; omega), List.append_nil]
theorem filt_hi {a b : List Sg} {k : Int} (ha : ∀ x ∈ a, ky x ≤ k) (hb : ∀ x ∈ b, k < ky x) : (a ++ b).filter (fun x => k < ky x) = b := by
 rw [List.filter_append, List.filter_eq_nil_iff.2 (by intro x hx; have := ha x hx; simp; omega), List.filter_eq_self.2 (by simpa using hb), List.nil_append]
theorem ins_new {a b : List Sg} {s : Sg} (ha : ∀ x ∈ a, ky x < ky s) (hb : ∀ x ∈ b, ky s < ky x) : insL s (a ++ b) = a ++ s :: b := by
 unfold insL
 rw [filt_lo ha (fun x h => Int.le_of_lt (hb x h)), filt_hi (fun x h => Int.le_of_lt (ha x h)) hb]
theorem ins_old {a b : List Sg} {s y : Sg} (hy : ky y = ky s) (ha : ∀ x ∈ a, ky x < ky s) (hb : ∀ x ∈ b, ky s < ky x) : insL s (a ++ y :: b) = a ++ s :: b := by
 unfold insL
 rw [filt_lo ha (by intro x hx; rcases List.mem_cons.1 hx with rfl | hx; omega; exact Int.le_of_lt (hb x hx))]
 have : a ++ y :: b = (a ++ [y]) ++ b := by simp
 rw [this, filt_hi (by intro x hx; rcases List.mem_append.1 hx with hx | hx; exact Int.le_of_lt (ha x hx); simp at hx; subst hx; omega) hb]
theorem del_old {a b : List Sg} {y : Sg} {k : Int} (hy : ky y = k) (ha : ∀ x ∈ a, ky x < k) (hb : ∀ x ∈ b, k < ky x) : delL k (a ++ y :: b) = a ++ b := by
 unfold delL
 rw [List.filter_append, List.filter_cons, if_neg (by simpa using hy), List.filter_eq_self.2 (by intro x hx; have := ha x hx; simp; omega), List.filter_eq_self.2 (by intro x hx; have := hb x hx; simp; omega)]
theorem has_old {a b : List Sg} {y : Sg} {k : Int} (hy : ky y = k) : hasK k (a ++ y :: b) = true := by simp [hasK, hy]
theorem has_new {a b : List Sg} {k : Int} (ha : ∀ x ∈ a, ky x < k) (hb : ∀ x ∈ b, k < ky x) : hasK k (a ++ b) = false := by
 rw [hasK, List.any_eq_false]
 intro x hx
 rcases List.mem_append.1 hx with hx | hx
 ·have := ha x hx; simp; omega
 ·have := hb x hx; simp; omega
theorem Row.mid {a b : List Sg} {s : Sg} (h : Row (a ++ b)) (hs : KeyOK s) (ha : ∀ x ∈ a, ky x < ky s) (hb : ∀ x ∈ b, ky s < ky x) : Row (a ++ s :: b) := by
 obtain ⟨h1, h2⟩ := h
 unfold Srt at h1
 rw [List.pairwise_append] at h1
 refine ⟨?_, ?_⟩
 ·unfold Srt
  rw [List.pairwise_append]
  refine ⟨h1.1, List.pairwise_cons.2 ⟨hb, h1.2.1⟩, ?_⟩
  intro x hx y hy
  rcases List.mem_cons.1 hy with rfl | hy
  ·exact ha x hx
  ·exact h1.2.2 x hx y hy
 ·intro x hx
  rcases List.mem_append.1 hx with hx | hx
  ·exact h2 x (by simp [hx])
  ·rcases List.mem_cons.1 hx with rfl | hx
   ·exact hs
   ·exact h2 x (by simp [hx])
theorem Row.out {a b : List Sg} {s : Sg} (h : Row (a ++ s :: b)) : Row (a ++ b) := by
 obtain ⟨h1, h2⟩ := h
 refine ⟨?_, fun x hx => h2 x (by rcases List.mem_append.1 hx with hx | hx <;> simp [hx])⟩
 unfold Srt at *
 exact h1.sublist (List.Sublist.append_left (List.sublist_cons_self _ _) _)
instance (s a : Int) : Decidable (okKey s a) := by unfold okKey; exact inferInstance
def okB (s : Sg) : Bool := decide (okKey s.ls s.la)
def putE (room : Int) (s : Sg) (l : List Sg) : Int := if okB s then (if hasK (ky s) l then 0 else if room ≤ l.length then 50 else 0) else 1
def putL (room : Int) (s : Sg) (l : List Sg) : List Sg := if okB s then (if hasK (ky s) l then insL s l else if room ≤ l.length then l else insL s l) else l
theorem boxC (w : World) (cs ca : Int) : ∃ w0, w.alloc (.cells #[.int .i64 cs, .int .i64 ca] 34) = w0 ∧
  w0.heap[w.heap.size]? = some (.cells #[.int .i64 cs, .int .i64 ca] 34 (0, 0)) ∧ Mod (fun _ => False) w w0 :=
 ⟨_, rfl, alloc_0 _ _, (Mod.refl _ _).alloc _⟩
theorem boxS (w : World) (s : Sg) : ∃ w0, w.alloc (.cells #[.int .i64 s.ls, .int .i64 s.la, .int .i64 s.hs, .int .i64 s.ha, .int .i64 s.v] 38) = w0 ∧
  w0.heap[w.heap.size]? = some (.cells #[.int .i64 s.ls, .int .i64 s.la, .int .i64 s.hs, .int .i64 s.ha, .int .i64 s.v] 38 (0, 0)) ∧ Mod (fun _ => False) w w0 :=
 ⟨_, rfl, alloc_0 _ _, (Mod.refl _ _).alloc _⟩
def zSg : Sg := ⟨0, 0, 0, 0, 0⟩
def oS (o : Option Sg) : Sg := o.getD zSg
def optS (o : Option Sg) : Value := .tuple #[.agg #[.int .i64 (oS o).ls, .int .i64 (oS o).la, .int .i64 (oS o).hs, .int .i64 (oS o).ha, .int .i64 (oS o).v], .bool o.isSome]
theorem boxZ (w : World) : ∃ w0, w.alloc (.cells #[.int .i64 0, .int .i64 0, .int .i64 0, .int .i64 0, .int .i64 0] 38) = w0 ∧
  w0.heap[w.heap.size]? = some (.cells #[.int .i64 0, .int .i64 0, .int .i64 0, .int .i64 0, .int .i64 0] 38 (0, 0)) ∧ Mod (fun _ => False) w w0 :=
 ⟨_, rfl, alloc_0 _ _, (Mod.refl _ _).alloc _⟩
theorem store5 {w W : World} {g : Nat} {a b c d e a' b' c' d' e' : Value} {t : TypeId} (hb : W.heap[g]? = some (.cells #[a, b, c, d, e] t (0, 0))) (hg : w.heap.size ≤ g) (M : Mod (fun _ => False) w W) :
  (fun W' : World => W'.heap[g]? = some (.cells #[a', b', c', d', e'] t (0, 0)) ∧ Mod (fun _ => False) w W') (((((W.setCell ⟨g, 0, none⟩ a').setCell ⟨g, 1, none⟩ b').setCell ⟨g, 2, none⟩ c').setCell ⟨g, 3, none⟩ d').setCell ⟨g, 4, none⟩ e') :=
 ⟨setL_whole (cs := [a, b, c, d, e]) (us := [a', b', c', d', e']) hb rfl, ((((M.setCell (.inr hg) _).setCell (.inr hg) _).setCell (.inr hg) _).setCell (.inr hg) _).setCell (.inr hg) _⟩
def getS (k : Int) (l : List Sg) : Option Sg := l.find? (fun x => ky x = k)
def fitB (d own : Bool) (k x : Int) : Bool := (decide (x = k) && own) || (!d && decide (x < k)) || (d && decide (k < x))
def nearS (d own : Bool) (k : Int) (l : List Sg) : Option Sg := if d then (l.filter (fun x => fitB d own k (ky x))).head? else (l.filter (fun x => fitB d own k (ky x))).getLast?
open Go Go.RowKit
structure Op6 where
 k : Int
 s : Sg
def encO6 (o : Op6) : List Value := [.int .i64 o.k, .int .i64 o.s.ls, .int .i64 o.s.la, .int .i64 o.s.hs, .int .i64 o.s.ha, .int .i64 o.s.v]
def do6L (room : Int) (o : Op6) (l : List Sg) : List Sg := if o.k = 0 then putL room o.s l else if o.k = 1 then delL (ky o.s) l else if o.k = 2 then [] else l
def do6B (o : Op6) (l : List Sg) : Bool := if o.k = 0 then false else if o.k = 1 then hasK (ky o.s) l else false
def do6E (room : Int) (o : Op6) (l : List Sg) : Int := if o.k = 0 then putE room o.s l else 0
theorem boxO (w : World) (o : Op6) : ∃ w0, w.alloc (.cells (encO6 o).toArray 98) = w0 ∧ w0.heap[w.heap.size]? = some (.cells (encO6 o).toArray 98 (0, 0)) ∧ Mod (fun _ => False) w w0 :=
 ⟨_, rfl, alloc_0 _ _, (Mod.refl _ _).alloc _⟩
def segN (n : Int) : Sg := ⟨0, n, 0, 0, n⟩
end Go.Proofs.Bo
