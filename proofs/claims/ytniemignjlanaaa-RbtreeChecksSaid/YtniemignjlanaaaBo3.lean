import Derived.Test.YtniemignjlanaaaBo2
import Derived.Laws.AppendOwnNone
import Derived.Laws.ResultCell
set_option linter.unusedVariables false
namespace Go.Proofs.Bo
open Go Go.RowKit
section
variable {P : Program} {ops : Array Oper} {rest : List Oper} {o : Oper} {a : Act} {Q : Exit → Act → World → Prop}

theorem Mod.of_grown_new {w w' : World} {c : Obj} (h : (w.alloc c).grownBy w' (some w.heap.size)) : Mod (fun _ => False) w w' :=
  ⟨h.os, h.tape, h.output, Nat.le_trans (by simp) h.size, fun k hk _ => (h.block k (by simp; omega) (by intro e; cases e; omega)).trans (Below.heap_alloc _ _ _ hk)⟩

/-- 'append([]T{}, xs...)'. -/
theorem app_copy {W : World} (v : Value) (n : Nat) (xs : List Value) (s x : Operand) (t e : TypeId) (z : Value) (size bytes : Nat) (hgd : o.guard = none)
    (ho : o.op = .call { callee := .builtin .append, args := #[s, x], argTypes := #[t, t] })
    (ht : P.underlying t = some (.slice e)) (hinfo : (P.info? e).map (fun i => (i.zero, i.size, i.bytes)) = some (some z, size, bytes)) (hz : z.cells.size = size) (hz0 : 0 < size) (hb0 : 0 < bytes)
    (hs : a.eval s = .slice (some ⟨W.heap.size, 0, none⟩) 0 0) (hx : a.eval x = v)
    (HO : W.ownsRow 0 e size v n xs) (h1 : ∀ u ∈ xs, u.oneCell' = true) (hl : n * bytes ≤ 140737488355328)
    (h : ∀ v1 w1, w1.ownsRow 0 e size v1 n xs → Mod (fun _ => False) W w1 → (∀ k, v1.ownBlock = some k → W.heap.size ≤ k) → wpList P ops Q rest (a.put o.dst v1) w1) :
    wpList P ops Q (o :: rest) a (W.alloc (.cells #[] e)) := by
  obtain ⟨i0, hi, hzz⟩ := Option.map_eq_some_iff.1 hinfo
  simp only [Prod.mk.injEq] at hzz
  obtain ⟨hz0', hz1, hz2⟩ := hzz
  have hlen : n ≤ 140737488355328 := Nat.le_trans (Nat.le_mul_of_pos_right _ hb0) hl
  have HO0 : (W.alloc (.cells #[] e)).ownsRow 0 e size (.slice (some ⟨W.heap.size, 0, none⟩) 0 0) 0 [] :=
    ⟨by simp, .inr ⟨W.heap.size, 0, #[], rfl, Nat.zero_le _, heap_alloc_new W _, Nat.le_refl _, by simp [maxLen], by simp, by simp⟩⟩
  rcases HO.2 with ⟨hv, hn⟩ | ⟨g, cap, cur, hv, _, hg, h3, h4, h5, h6⟩
  · subst hv; subst hn
    have hxs : xs = [] := List.eq_nil_of_length_eq_zero (by simpa using HO.1)
    subst hxs
    refine wpList_append_own_none hgd s x t ho 0 e i0 size ht hi _ 0 [] hs HO0 hx ?_
    exact h _ _ HO0 ((Mod.refl _ _).alloc _) (fun k hk => by cases hk; exact Nat.le_refl _)
  · subst hv
    have HO2 := HO.alloc (.cells #[] e)
    refine wpList_append_own_at (W.alloc (.cells #[] e)) hgd s x t ho 0 e i0 z size bytes ht hi hz0' hz1 hz2 hz hz0 _ 0 [] hs HO0 ⟨g, 0, none⟩ n cap xs hx HO.1 (HO2.cells rfl) h1 (by simp only [maxLen]; omega) (by simpa using hl) (by simp) ?_
    intro v1 w1 hown hgr _ hat
    simp only [Nat.zero_add, List.nil_append] at hown
    refine h v1 w1 hown (Mod.of_grown_new hgr) ?_
    intro k hk
    rcases hat with e | e
    · rw [e] at hk; cases hk; exact Nat.le_refl _
    · rw [e] at hk; cases hk; simp
end

/-- The end of a function whose two results are structs in memory. -/
theorem ret_row2 {P : Program} {fn : Func} {R : Ending → World → Prop} {a : Act} {W : World} {p q : Tmp} {ty ty' t t' : TypeId} {d d' : TypeDesc} (g g' : Nat) (us us' : List Value) (h : fn.results = #[.cell p ty, .cell q ty'])
    (hp : a.tmps.getD p undef = .pointer (some ⟨g, 0, none⟩)) (hq : a.tmps.getD q undef = .pointer (some ⟨g', 0, none⟩))
    (hg : W.heap[g]? = some (.cells us.toArray t (0, 0))) (hg' : W.heap[g']? = some (.cells us'.toArray t' (0, 0)))
    (hu : P.underlying ty = some d) (hd : (match d with | .struct _ | .array _ _ => true | _ => false) = true) (hi : (P.info? ty).map (·.size) = some us.length)
    (hu' : P.underlying ty' = some d') (hd' : (match d' with | .struct _ | .array _ _ => true | _ => false) = true) (hi' : (P.info? ty').map (·.size) = some us'.length)
    (hdf : a.defers = []) (hR : R (.returned (.tuple #[.agg us.toArray, .agg us'.toArray])) W) : bodyPost P fn R .ret a W := by
  refine bodyPost_ret (v := .tuple #[.agg us.toArray, .agg us'.toArray]) ?_ hdf hR
  have hp' : a.tmps[p]?.getD undef = .pointer (some ⟨g, 0, none⟩) := by simpa using hp
  have hq' : a.tmps[q]?.getD undef = .pointer (some ⟨g', 0, none⟩) := by simpa using hq
  simp [results, h, hp', hq', asAddr, run_loadVar_row W g t ty us.toArray (0, 0) d hg hu hd (by simpa using hi), run_loadVar_row W g' t' ty' us'.toArray (0, 0) d' hg' hu' hd' (by simpa using hi')]
/-- The end of a function whose two results are structs in memory. -/
theorem ret_row2_drew {P : Program} {fn : Func} {R : Ending → World → Prop} {a : Act} {W : World} {p q : Tmp} {ty ty' t t' : TypeId} {d d' : TypeDesc} (g g' : Nat) (us us' : List Value) (h : fn.results = #[.cell p ty, .cell q ty'])
    (hp : a.tmps.getD p undef = .pointer (some ⟨g, 0, none⟩)) (hq : a.tmps.getD q undef = .pointer (some ⟨g', 0, none⟩))
    (hg : W.heap[g]? = some (.cells us.toArray t (0, 0))) (hg' : W.heap[g']? = some (.cells us'.toArray t' (0, 0)))
    (hu : P.underlying ty = some d) (hd : (match d with | .struct _ | .array _ _ => true | _ => false) = true) (hi : (P.info? ty).map (·.size) = some us.length)
    (hu' : P.underlying ty' = some d') (hd' : (match d' with | .struct _ | .array _ _ => true | _ => false) = true) (hi' : (P.info? ty').map (·.size) = some us'.length)
    (hdf : a.defers = []) (hR : R (.returned (.tuple #[.agg us.toArray, .agg us'.toArray])) W.drew) : bodyPost P fn R .ret a W.drew :=
  ret_row2 (W := W.drew) g g' us us' h hp hq hg hg' hu hd hi hu' hd' hi' hdf hR
/-- .. whose first result is a struct in memory. -/
theorem ret_row_tmp {P : Program} {fn : Func} {R : Ending → World → Prop} {a : Act} {W : World} {p q : Tmp} {ty t : TypeId} {d : TypeDesc} (g : Nat) (us : List Value) (h : fn.results = #[.cell p ty, .tmp q])
    (hp : a.tmps.getD p undef = .pointer (some ⟨g, 0, none⟩))
    (hg : W.heap[g]? = some (.cells us.toArray t (0, 0)))
    (hu : P.underlying ty = some d) (hd : (match d with | .struct _ | .array _ _ => true | _ => false) = true) (hi : (P.info? ty).map (·.size) = some us.length)
    (hdf : a.defers = []) (hR : R (.returned (.tuple #[.agg us.toArray, a.tmps.getD q undef])) W) : bodyPost P fn R .ret a W := by
  refine bodyPost_ret (v := .tuple #[.agg us.toArray, a.tmps.getD q undef]) ?_ hdf hR
  have hp' : a.tmps[p]?.getD undef = .pointer (some ⟨g, 0, none⟩) := by simpa using hp
  simp [results, h, hp', asAddr, run_loadVar_row W g t ty us.toArray (0, 0) d hg hu hd (by simpa using hi)]
end Go.Proofs.Bo
namespace Go.Proofs.Bo
open Go Go.RowKit
/-- 'append(v, x)' as one step of a region: x lies in a block that is known. -/
theorem step_app {P : Program} {w : World} {ops : Array Oper} {o : Oper} {a : Act} {K : Act → World → Prop} {Q : Exit → Act → World → Prop} {E : Prop} (news : List Value) (v : Value) (n : Nat) (xs : List Value) (s x : Operand) (t e : TypeId) (z : Value) (size bytes : Nat) (hgd : o.guard = none)
    (ho : o.op = .call { callee := .builtin .append, args := #[s, x], argTypes := #[t, t] })
    (ht : P.underlying t = some (.slice e)) (hinfo : (P.info? e).map (fun i => (i.zero, i.size, i.bytes)) = some (some z, size, bytes)) (hz : z.cells.size = size) (hz0 : 0 < size) (hb0 : 0 < bytes)
    (hs : a.eval s = v) (HO : w.ownsRow 0 e size v n xs) (B : Nat) (hB : w.heap[B]? = some (.cells news.toArray e (0, 0))) (hx : a.eval x = .slice (some ⟨B, 0, none⟩) 1 1)
    (hnl : news.length = size) (h1 : ∀ u ∈ news, u.oneCell' = true) (hl : (n + 1) * bytes ≤ 140737488355328)
    (h : ∀ v1 w1, w1.ownsRow 0 e size v1 (n + 1) (xs ++ news) → w.grownBy w1 v.ownBlock → (∀ k, v1.ownBlock = some k → v.ownBlock = some k ∨ w.heap.size ≤ k) → K (a.put o.dst v1) w1) :
    if Region.wanted o (yielded ops a.tmps) = true then Oper.wp P o a w K Q else E := by
  have hw : Region.wanted o (yielded ops a.tmps) = true := by simp [Region.wanted, hgd]
  rw [if_pos hw]
  obtain ⟨i0, hi, hzz⟩ := Option.map_eq_some_iff.1 hinfo
  simp only [Prod.mk.injEq] at hzz
  obtain ⟨hz0', hz1, hz2⟩ := hzz
  have hlen : n + 1 ≤ 140737488355328 := Nat.le_trans (Nat.le_mul_of_pos_right _ hb0) hl
  obtain ⟨v', w', hr, h2, h3, _, h5⟩ := run_append_own_at (P := P) w 0 t o.type e i0 z size bytes ht hi hz0' hz1 hz2 hz hz0 v n xs HO ⟨B, 0, none⟩ 1 1 news (by omega) (World.news_of_block (cs := news.toArray) (t := e) (fr := (0, 0)) hB) h1 (by simp only [maxLen]; omega) hl (by simp)
  unfold Oper.wp execOp
  simp only [ho, resolve, invoke, builtin, Sem.run_bind, Sem.run_pure, Result.andThen_ok, List.map_toArray, List.map_cons, List.map_nil, hs, hx, hr]
  refine h _ _ h2 h3 fun k hk => ?_
  rcases h5 with h5 | h5
  · exact .inl (h5 ▸ hk)
  · rw [h5] at hk; cases hk; exact .inr (Nat.le_refl _)
end Go.Proofs.Bo
namespace Go.Proofs.Bo
open Go Go.RowKit
theorem step_app_one {P : Program} {W : World} {ops : Array Oper} {o : Oper} {a : Act} {K : Act → World → Prop} {Q : Exit → Act → World → Prop} {E : Prop} (news : List Value) (v : Value) (n : Nat) (xs : List Value) (s x : Operand) (t e : TypeId) (z : Value) (size bytes : Nat) (hgd : o.guard = none)
    (ho : o.op = .call { callee := .builtin .append, args := #[s, x], argTypes := #[t, t] })
    (ht : P.underlying t = some (.slice e)) (hinfo : (P.info? e).map (fun i => (i.zero, i.size, i.bytes)) = some (some z, size, bytes)) (hz : z.cells.size = size) (hz0 : 0 < size) (hb0 : 0 < bytes)
    (hs : a.eval s = v) (hx : a.eval x = .slice (some ⟨W.heap.size, 0, none⟩) 1 1) (HO : W.ownsRow 0 e size v n xs)
    (hnl : news.length = size) (h1 : ∀ u ∈ news, u.oneCell' = true) (hl : (n + 1) * bytes ≤ 140737488355328)
    (h : ∀ v1 w1, w1.ownsRow 0 e size v1 (n + 1) (xs ++ news) → W.grownBy w1 v.ownBlock → (∀ k, v1.ownBlock = some k → v.ownBlock = some k ∨ W.heap.size ≤ k) → K (a.put o.dst v1) w1) :
    if Region.wanted o (yielded ops a.tmps) = true then Oper.wp P o a (W.alloc (.cells news.toArray e)) K Q else E := by
  refine step_app news v n xs s x t e z size bytes hgd ho ht hinfo hz hz0 hb0 hs (HO.alloc _) W.heap.size (heap_alloc_new W _) hx hnl h1 hl ?_
  intro v1 w1 hown hg hb
  have hg0 : W.grownBy (W.alloc (.cells news.toArray e)) v.ownBlock := World.grownBy_alloc W _ _
  exact h v1 w1 hown (hg0.trans hg) fun k hk => (hb k hk).imp id fun h => Nat.le_trans (by simp) h
end Go.Proofs.Bo
