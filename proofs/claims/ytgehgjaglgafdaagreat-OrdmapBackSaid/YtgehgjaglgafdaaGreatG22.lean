import Derived.Test.YtgehgjaglgafdaaGreatG17
import Derived.Test.YtgehgjaglgafdaaGreatG21
import Derived.Test.YtgehgjaglgafdaaGreatG18
import Derived.Test.YtgehgjaglgafdaaGreatG20
import Derived.Test.YtgehgjaglgafdaaGreatG01
import Derived.Laws.CopyOwn
import Derived.Lib.AppendZerosOnto
import Derived.Lib.Overlaps
import Derived.Laws.Externs
import Derived.Deep.RegionLaw
import Derived.Test.YtgehgjaglgafdaaGreatProg
set_option linter.unusedVariables false
set_option linter.unusedSimpArgs false
namespace Go.Proofs.Bo
open Go Go.RowKit
section
variable {w w' : World} {tb ab : Nat} {lv fv : Value} {σ : List (Option Bn)} {free : List Int} {root deg room many : Int} {S : StB} {d : Nat} {L : List Sg}
theorem lenBZ (h : MemB w tb ab lv fv σ free root deg room many S) : Calls Tryz.prog 108 #[.pointer (some ⟨tb, 0, none⟩)] w fun e w' => e = .returned (.int .i64 many) ∧ Mod (fun _ => False) w w' := by
 obtain ⟨c0, f0⟩ := blkc h.t
 go_enter Tryz.func108, Tryz.ntmps108
 go_wp2_with fail
 go_ret
 exact ⟨rfl, Mod.refl _ _⟩
end
open Go Go.RowKit
section
variable {w w' : World} {tb ab : Nat} {lv fv : Value} {σ : List (Option Bn)} {free : List Int} {root deg room many : Int} {S : StB} {d : Nat} {L : List Sg}
theorem newBZ_no (deg room : Int) (h : deg < 2 ∨ 64 < deg ∨ room < 0 ∨ 4096 < room) (w : World) : Calls Tryz.prog 63 #[.int .i64 deg, .int .i64 room] w fun e w' => e = .returned (.tuple #[.pointer none, .int .i64 1]) ∧ w' = w := by
 by_cases h1 : deg < 2
 ·clear h
  go_enter Tryz.func63, Tryz.ntmps63
  go_wp2_with fail
  go_ret2
  exact ⟨rfl, rfl⟩
 by_cases h2 : 64 < deg
 ·clear h
  go_enter Tryz.func63, Tryz.ntmps63
  go_wp2_with fail
  go_ret2
  exact ⟨rfl, rfl⟩
 by_cases h3 : room < 0
 ·clear h
  go_enter Tryz.func63, Tryz.ntmps63
  go_wp2_with fail
  go_ret2
  exact ⟨rfl, rfl⟩
 have h4 : 4096 < room := by omega
 clear h
 go_enter Tryz.func63, Tryz.ntmps63
 go_wp2_with fail
 go_ret2
 exact ⟨rfl, rfl⟩
theorem memB_nil {lv fv : Value} (hl : lv = .slice none 0 0) (hf : fv = .slice none 0 0) (ht : w.heap[tb]? = some (.cells #[.pointer (some ⟨ab, 0, none⟩), .int .i64 (-1), .int .i64 deg, .int .i64 room, .int .i64 many] 111 (0, 0)))
  (ha : ArB w ab lv fv (2 * room + 4) [] []) (hne : tb ≠ ab) : MemB w tb ab lv fv [] [] (-1) deg room many (fun _ => none) := by
 subst hl hf
 refine ⟨ht, ha, fun i _ => rfl, fun i b hb => by simp at hb, fun i j b b' x y k hb => by simp at hb, fun i b x k hb => by simp at hb, ?_⟩
 rintro (h | h | h)
 ·exact hne h
 ·cases h
 ·cases h
theorem footB_nil {k : Nat} (h : FootB tb ab (.slice none 0 0) (.slice none 0 0) [] k) : k = tb ∨ k = ab := by
 rcases h with h | (h | h | h) | ⟨i, b, x, h, _⟩
 ·exact .inl h
 ·exact .inr h
 ·cases h
 ·cases h
 ·simp at h
theorem newBZ (deg room : Int) (h0 : 2 ≤ deg ∧ deg ≤ 64) (h1 : 0 ≤ room ∧ room ≤ 4096) (w : World) : Calls Tryz.prog 63 #[.int .i64 deg, .int .i64 room] w fun e w' => ∃ tb, e = .returned (.tuple #[.pointer (some ⟨tb, 0, none⟩), .int .i64 0]) ∧
  MemB w' tb w.heap.size (.slice none 0 0) (.slice none 0 0) [] [] (-1) deg room 0 (fun _ => none) ∧ w.heap.size ≤ tb ∧ Mod (fun _ => False) w w' := by
 have P := newB (2 * room + 4) (by omega) (by omega) w
 have e1 : IntKind.i64.wrap (2 * room) = 2 * room := by rw [IntKind.wrap_i64]; omega
 have e2 : IntKind.i64.wrap (2 * room + 4) = 2 * room + 4 := by rw [IntKind.wrap_i64]; omega
 have g1 : ¬ deg < 2 := by omega
 have g2 : ¬ 64 < deg := by omega
 have g3 : ¬ room < 0 := by omega
 have g4 : ¬ 4096 < room := by omega
 clear h0 h1
 go_enter Tryz.func63, Tryz.ntmps63
 go_wp2_with fail
 refine P.mono ?_; rintro e w1 ⟨rfl, A1, B1⟩
 clear P
 go_wp2_with fail
 go_ret2
 have hM : Mod (fun _ => False) w1 (w1.alloc (.cells #[.pointer (some ⟨w.heap.size, 0, none⟩), .int .i64 (-1), .int .i64 deg, .int .i64 room, .int .i64 0] 111)) := (Mod.refl _ _).alloc _
 have hz : w.heap.size < w1.heap.size := A1.lt (.inl rfl)
 exact ⟨w1.heap.size, rfl, memB_nil rfl rfl (alloc_0 _ _) (A1.mod hM fun _ _ h => h) (by omega), B1.size, (Mod.of_below B1).trans' hM⟩
theorem roomBZ (h : MemB w tb ab lv fv σ free root deg room many S) : Calls Tryz.prog 111 #[.pointer (some ⟨tb, 0, none⟩)] w fun e w' => e = .returned (.int .i64 room) ∧ Mod (fun _ => False) w w' := by
 obtain ⟨c0, f0⟩ := blkc h.t
 go_enter Tryz.func111, Tryz.ntmps111
 go_wp2_with fail
 go_ret
 exact ⟨rfl, Mod.refl _ _⟩
theorem degBZ (h : MemB w tb ab lv fv σ free root deg room many S) : Calls Tryz.prog 54 #[.pointer (some ⟨tb, 0, none⟩)] w fun e w' => e = .returned (.int .i64 deg) ∧ Mod (fun _ => False) w w' := by
 obtain ⟨c0, f0⟩ := blkc h.t
 go_enter Tryz.func54, Tryz.ntmps54
 go_wp2_with fail
 go_ret
 exact ⟨rfl, Mod.refl _ _⟩
theorem clearBZ (h : MemB w tb ab lv fv σ free root deg room many S) : Calls Tryz.prog 101 #[.pointer (some ⟨tb, 0, none⟩)] w fun e w' => e = .returned (.tuple #[]) ∧
  MemB w' tb ab (.slice none 0 0) (.slice none 0 0) [] [] (-1) deg room 0 (fun _ => none) ∧ Mod (FootB tb ab lv fv σ) w w' := by
 obtain ⟨c0, f0⟩ := blkc h.t
 have P := resetB h.a
 have hne : tb ≠ ab := fun e => h.ta (.inl e)
 have ht := h.t
 have hta := h.ta
 clear h
 go_enter Tryz.func101, Tryz.ntmps101
 go_wp2_with fail
 refine P.mono ?_; rintro e w1 ⟨rfl, A1, M1⟩
 replace ht := M1.heap ht hta
 obtain ⟨q1, q2⟩ := blkc ht
 clear c0 f0 P
 go_wp2_with fail
 go_end0
 have M2 : Mod (fun k => k = tb) w1 ((w1.setCell ⟨tb, 1, none⟩ (.int .i64 (-1))).setCell ⟨tb, 4, none⟩ (.int .i64 0)) := Mod.setCell (S := fun x => x = tb) (p := ⟨tb, 4, none⟩) (Mod.setCell (S := fun x => x = tb) (p := ⟨tb, 1, none⟩) (Mod.refl _ _) (.inl rfl) _) (.inl rfl) _
 refine ⟨rfl, memB_nil rfl rfl ?_ (A1.mod M2 ?_) hne, (M1.mono fun k hk => .inl (.inr (.inl hk))).trans M2 fun k hk => .inl (.inl hk)⟩
 ·simpa using heap_setCell_same _ tb 4 _ 111 (.int .i64 0) (heap_setCell_same w1 tb 1 _ 111 (.int .i64 (-1)) ht)
 ·intro k hk e
  have e : k = tb := e
  rcases hk with h | h | h
  ·omega
  ·cases h
  ·cases h
end
open Go Go.RowKit
theorem flat5_app (x : Sg) (r : List Value) (n : Nat) (v : Value) : (encS x ++ r).set (5 + n) v = encS x ++ r.set n v := by
 rw [List.set_append_right _ _ (by simp [encS])]
 simp [encS]
theorem flat5_set : ∀ (l : List Sg) (t : Nat) (s : Sg), t < l.length → (((((l.flatMap encS).set (t * 5) (.int .i64 s.ls)).set (t * 5 + 1) (.int .i64 s.la)).set (t * 5 + 2) (.int .i64 s.hs)).set (t * 5 + 3) (.int .i64 s.ha)).set (t * 5 + 4) (.int .i64 s.v) = (l.set t s).flatMap encS
 | [], _, _, h => by simp at h
 | x :: l, 0, s, _ => by simp [encS]
 | x :: l, t + 1, s, h => by
  have ih := flat5_set l t s (by simpa using h)
  rw [show (t + 1) * 5 = 5 + t * 5 by omega, List.flatMap_cons, flat5_app, show 5 + t * 5 + 1 = 5 + (t * 5 + 1) by omega, flat5_app, show 5 + t * 5 + 2 = 5 + (t * 5 + 2) by omega, flat5_app, show 5 + t * 5 + 3 = 5 + (t * 5 + 3) by omega, flat5_app, show 5 + t * 5 + 4 = 5 + (t * 5 + 4) by omega, flat5_app, ih]
  simp
section
variable {w w1 : World} {tb ab : Nat} {lv fv : Value} {σ : List (Option Bn)} {free : List Int} {root deg room many : Int} {S : StB}
theorem MemB.inRow {i : Nat} {b : Bn} {x : Bool} (h : MemB w tb ab lv fv σ free root deg room many S) (hb : σ[i]? = some (some b)) (M1 : Mod (fun k => (b.v x).ownBlock = some k) w w1) {l' : List Sg} {ks' : List Nat} (own : NodeB w1 b l' ks') :
  MemB w1 tb ab lv fv σ free root deg room many (S.set i (some (l', ks'))) ∧ Mod (FootB tb ab lv fv σ) w w1 := by
 refine ⟨⟨M1.heap h.t fun e => (h.away i b x tb hb e).1 rfl, h.a.mod M1 fun k hk e => (h.away i b x k hb e).2 hk, ?_, ?_, h.apart, h.away, h.ta⟩, M1.mono fun k hk => .inl (.inr (.inr ⟨i, b, x, hb, hk⟩))⟩
 ·intro j hj
  have e : j ≠ i := fun e => hj b (by rw [e]; exact hb)
  rw [StB.set_ne _ _ e]
  exact h.gone j hj
 ·intro j b' hj
  by_cases e : j = i
  ·subst e
   rw [hb] at hj; cases hj
   exact ⟨l', ks', StB.set_self .., own⟩
  ·obtain ⟨l, ks, q1, q2⟩ := h.node j b' hj
   exact ⟨l, ks, by rw [StB.set_ne _ _ e]; exact q1, q2.keep fun y k e2 => M1.block k (q2.lt e2) fun e3 => e (h.apart j i b' b y x k hj hb e2 e3).1⟩
theorem flat5_len : ∀ l : List Sg, (l.flatMap encS).length = l.length * 5 := by
 intro l; induction l with
 | nil => rfl
 | cons x l ih => rw [List.flatMap_cons, List.length_append, ih]; simp [encS]; omega
theorem NodeB.segF {b : Bn} {l : List Sg} {ks : List Nat} (hn : NodeB w b l ks) {t : Nat} (ht : t < l.length) {g : Nat} (hg : b.la = some ⟨g, 0, none⟩) : ∀ j, j < 5 → (∃ u, w.cell? ⟨g, t * 5 + j, none⟩ = some u) ∧ w.frozen? ⟨g, t * 5 + j, none⟩ = false := by
 intro j hj
 have h := hn.1
 have hv : b.v false = .slice (some ⟨g, 0, none⟩) l.length b.lc := by show Value.slice b.la b.ln b.lc = _; rw [hg, hn.ln]
 rw [hv] at h
 have hl := flat5_len l
 have := own_cell h (j := t * 5 + j) (List.getElem?_eq_getElem (by omega))
 exact ⟨⟨_, this.1⟩, this.2⟩
theorem NodeB.put5 {b : Bn} {l : List Sg} {ks : List Nat} (hn : NodeB w b l ks) {t : Nat} (ht : t < l.length) (s : Sg) {g : Nat} (hg : b.la = some ⟨g, 0, none⟩) :
  NodeB (((((w.setCell ⟨g, t * 5, none⟩ (.int .i64 s.ls)).setCell ⟨g, t * 5 + 1, none⟩ (.int .i64 s.la)).setCell ⟨g, t * 5 + 2, none⟩ (.int .i64 s.hs)).setCell ⟨g, t * 5 + 3, none⟩ (.int .i64 s.ha)).setCell ⟨g, t * 5 + 4, none⟩ (.int .i64 s.v)) b (l.set t s) ks ∧
   Mod (fun k => (b.v false).ownBlock = some k) w (((((w.setCell ⟨g, t * 5, none⟩ (.int .i64 s.ls)).setCell ⟨g, t * 5 + 1, none⟩ (.int .i64 s.la)).setCell ⟨g, t * 5 + 2, none⟩ (.int .i64 s.hs)).setCell ⟨g, t * 5 + 3, none⟩ (.int .i64 s.ha)).setCell ⟨g, t * 5 + 4, none⟩ (.int .i64 s.v)) := by
 have hv : b.v false = .slice (some ⟨g, 0, none⟩) l.length b.lc := by show Value.slice b.la b.ln b.lc = _; rw [hg, hn.ln]
 have hX : ∀ p : Nat, (fun k => (b.v false).ownBlock = some k) g := fun _ => by show (b.v false).ownBlock = some g; rw [hv]; rfl
 have M : Mod (fun k => (b.v false).ownBlock = some k) w (((((w.setCell ⟨g, t * 5, none⟩ (.int .i64 s.ls)).setCell ⟨g, t * 5 + 1, none⟩ (.int .i64 s.la)).setCell ⟨g, t * 5 + 2, none⟩ (.int .i64 s.hs)).setCell ⟨g, t * 5 + 3, none⟩ (.int .i64 s.ha)).setCell ⟨g, t * 5 + 4, none⟩ (.int .i64 s.v)) :=
  (((((Mod.refl _ w).setCell (p := ⟨g, _, none⟩) (.inl (hX 0)) _).setCell (p := ⟨g, _, none⟩) (.inl (hX 0)) _).setCell (p := ⟨g, _, none⟩) (.inl (hX 0)) _).setCell (p := ⟨g, _, none⟩) (.inl (hX 0)) _).setCell (p := ⟨g, _, none⟩) (.inl (hX 0)) _
 refine ⟨⟨?_, own_keep hn.2 fun k e => M.block k (hn.lt (x := true) e) fun e2 => absurd (hn.ne (x := true) (y := false) e e2) (by decide)⟩, M⟩
 have h := hn.1
 have hl : (l.flatMap encS).length = l.length * 5 := by
  have : ∀ l : List Sg, (l.flatMap encS).length = l.length * 5 := by
   intro l; induction l with
   | nil => rfl
   | cons x l ih => rw [List.flatMap_cons, List.length_append, ih]; simp [encS]; omega
  exact this l
 rw [hv] at h ⊢
 have h1 := own_set h (t * 5) (by omega) (.int .i64 s.ls)
 have h2 := own_set h1 (t * 5 + 1) (by simp only [List.length_set]; omega) (.int .i64 s.la)
 have h3 := own_set h2 (t * 5 + 2) (by simp only [List.length_set]; omega) (.int .i64 s.hs)
 have h4 := own_set h3 (t * 5 + 3) (by simp only [List.length_set]; omega) (.int .i64 s.ha)
 have h5 := own_set h4 (t * 5 + 4) (by simp only [List.length_set]; omega) (.int .i64 s.v)
 rw [flat5_set l t s ht] at h5
 simpa using h5
end
open Go Go.RowKit
section
variable {P : Program}
theorem run_copyK (w : World) (dT sT ty elem : TypeId) (size g o dLen dCap : Nat) (a : Addr) (sLen sCap : Nat) (cur : Array Value) (t : TypeId) (cs : List Value)
  (hu : P.underlying dT = some (.slice elem)) (hs : (P.info? elem).map (·.size) = some size)
  (hg : w.heap[g]? = some (.cells cur t (0, 0))) (hn : cs.length = Nat.min sLen dLen * size)
  (hsrc : ∀ j v, cs[j]? = some v → w.cell? (a.add j) = some v) (hfit : o + cs.length ≤ cur.size) (h1 : ∀ v ∈ cs, v.oneCell' = true) :
  (Builtin.copy_ #[dT, sT] ty #[.slice (some ⟨g, o, none⟩) dLen dCap, .slice (some a) sLen sCap]).run P w =
   .ok (goInt (Nat.min sLen dLen)) (w.setRow g (cur.toList.take o ++ cs ++ cur.toList.drop (o + cs.length)).toArray) := by
 have hl := run_loadCells_list (P := P) w a cs hsrc
 have hst := run_storeCells_at P g o t cs 0 cur w hg (by simpa using hfit) h1
 cases hq : P.info? elem with
 | none => simp [hq] at hs
 | some i =>
  have hi : i.size = size := by simpa [hq] using hs
  simp [Builtin.copy_, run_underlying hu, Builtin.lenOf, Builtin.firstCells, sizeOf, typeInfo, hq, hi, ← hn, hl, hst]
theorem run_clear1 (w : World) (t e ty : TypeId) (z : Value) (size g o c : Nat) (cur : Array Value) (tr : TypeId) (ht : P.underlying t = some (.slice e)) (hi : (P.info? e).map (fun i => (i.zero, i.size)) = some (some z, size))
  (hz : z.cells.size = size) (hz0 : 0 < size) (h1 : ∀ u ∈ z.cells.toList, u.oneCell' = true) (hg : w.heap[g]? = some (.cells cur tr (0, 0))) (hfit : o + size ≤ cur.size) :
  (Builtin.clear_ #[t] ty #[.slice (some ⟨g, o, none⟩) 1 c]).run P w = .ok (.tuple #[]) (w.setRow g (cur.toList.take o ++ z.cells.toList ++ cur.toList.drop (o + size)).toArray) := by
 have hzc : (Builtin.zeroCells z.cells 1).toList = z.cells.toList := by
  simp only [Builtin.zeroCells, Nat.one_mul]
  apply List.ext_getElem
  ·simp
  ·intro j h2 h3
   have hj : j < z.cells.size := by simpa using h3
   simp [Nat.mod_eq_of_lt hj, hj]
 have hzl : z.cells.toList.length = size := by simpa using hz
 have hst := run_storeCells_at P g o tr z.cells.toList 0 cur w hg (by rw [hzl]; simpa using hfit) h1
 rw [hzl] at hst
 cases hq : P.info? e with
 | none => simp [hq] at hi
 | some i =>
  simp only [hq, Option.map_some, Option.some.injEq, Prod.mk.injEq] at hi
  simp [Builtin.clear_, run_underlying ht, zeroValue, typeInfo, hq, hi.1, hzc, hst]
theorem wp_builtin_run (w : World) {o : Oper} {a : Act} {K : Act → World → Prop} {Q : Exit → Act → World → Prop} (d s : Operand) (t t' : TypeId)
  (ho : o.op = .call { callee := .builtin .copy, args := #[d, s], argTypes := #[t, t'] }) (v u : Value) (hd : a.eval d = v) (hs : a.eval s = u) {v' : Value} {w' : World}
  (hr : (Builtin.copy_ #[t, t'] o.type #[v, u]).run P w = .ok v' w') (h : K (a.put o.dst v') w') : o.wp P a w K Q := by
 unfold Oper.wp execOp
 simp only [ho, resolve, invoke, builtin, Sem.run_bind, Sem.run_pure, Result.andThen_ok, List.map_toArray, List.map_cons, List.map_nil, hd, hs, hr]
 exact h
theorem step_copy_run {ops : Array Oper} {o : Oper} {a : Act} {w : World} {K : Act → World → Prop} {Q : Exit → Act → World → Prop} {E : Prop}
  (hg : o.guard = none) (d x : Operand) (dT sT : TypeId) (hop : o.op = Op.call { callee := Callee.builtin Builtin.copy, args := #[d, x], argTypes := #[dT, sT] })
  (v u : Value) (hd : a.eval d = v) (hx : a.eval x = u) {v' : Value} {w' : World} (hr : (Builtin.copy_ #[dT, sT] o.type #[v, u]).run P w = .ok v' w') (hK : K (a.put o.dst v') w') :
  if Region.wanted o (yielded ops a.tmps) = true then Oper.wp P o a w K Q else E := by
 have hw : Region.wanted o (yielded ops a.tmps) = true := by simp [Region.wanted, hg]
 rw [if_pos hw]
 exact wp_builtin_run w d x dT sT hop v u hd hx hr hK
theorem step_append_run {ops : Array Oper} {o : Oper} {a : Act} {w : World} {K : Act → World → Prop} {Q : Exit → Act → World → Prop} {E : Prop}
  (hg : o.guard = none) (d x : Operand) (dT sT : TypeId) (hop : o.op = Op.call { callee := Callee.builtin Builtin.append, args := #[d, x], argTypes := #[dT, sT] })
  (v u : Value) (hd : a.eval d = v) (hx : a.eval x = u) {v' : Value} {w' : World} (hr : (Builtin.append_ #[dT, sT] o.type #[v, u]).run P w = .ok v' w') (hK : K (a.put o.dst v') w') :
  if Region.wanted o (yielded ops a.tmps) = true then Oper.wp P o a w K Q else E := by
 have hw : Region.wanted o (yielded ops a.tmps) = true := by simp [Region.wanted, hg]
 rw [if_pos hw]
 exact Lib.wp_append_run w d x dT sT hop v u hd hx _ _ hr hK
theorem list_clear_run (w : World) {ops : Array Oper} {rest : List Oper} {o : Oper} {a : Act} {Q : Exit → Act → World → Prop} (hgd : o.guard = none) (d : Operand) (t : TypeId)
  (ho : o.op = .call { callee := .builtin .clear, args := #[d], argTypes := #[t] }) (v : Value) (hd : a.eval d = v) {v' : Value} {w' : World}
  (hr : (Builtin.clear_ #[t] o.type #[v]).run P w = .ok v' w') (h : wpList P ops Q rest (a.put o.dst v') w') : wpList P ops Q (o :: rest) a w := by
 refine wpList_plain hgd fun _ hK => ?_
 unfold Oper.wp execOp
 simp only [ho, resolve, invoke, builtin, Sem.run_bind, Sem.run_pure, Result.andThen_ok, List.map_toArray, List.map_cons, List.map_nil, hd, hr]
 exact hK _ _ h
theorem mod_setRow (w : World) (g : Nat) (cs : Array Value) : Mod (fun j => j = g) w (w.setRow g cs) :=
 ⟨rfl, rfl, rfl, by simp [World.setRow], fun k _ hk => setRow_other w g k cs hk⟩
theorem own_open {w : World} {e : TypeId} {size g n c : Nat} {xs : List Value} (h : w.ownsRow 0 e size (.slice (some ⟨g, 0, none⟩) n c) n xs) :
  ∃ cur : Array Value, w.heap[g]? = some (.cells cur e (0, 0)) ∧ n ≤ c ∧ c ≤ maxLen ∧ cur.size = c * size ∧ cur.toList.take (n * size) = xs ∧ xs.length = n * size := by
 rcases h.2 with ⟨h1, _⟩ | ⟨g', cap, cur, hv, _, hh, h3, h4, h5, ht⟩
 ·cases h1
 ·cases hv
  exact ⟨cur, hh, h3, h4, h5, ht, h.1⟩
theorem own_shut {w : World} {e : TypeId} {size g n c : Nat} {xs : List Value} (cur : Array Value) (h1 : w.heap[g]? = some (.cells cur e (0, 0))) (h2 : n ≤ c) (h3 : c ≤ maxLen) (h4 : cur.size = c * size) (h5 : cur.toList.take (n * size) = xs) (h6 : xs.length = n * size) :
  w.ownsRow 0 e size (.slice (some ⟨g, 0, none⟩) n c) n xs := ⟨h6, .inr ⟨g, c, cur, rfl, Nat.zero_le _, h1, h2, h3, h4, h5⟩⟩
end
open Go Go.RowKit
theorem infoS7 : (Tryz.prog.info? 38).map (fun i => (i.zero, i.size, i.bytes)) = some (some (.agg #[.int .i64 0, .int .i64 0, .int .i64 0, .int .i64 0, .int .i64 0]), 5, 40) := by kernel_rfl
theorem infoI7 : (Tryz.prog.info? 3).map (fun i => (i.zero, i.size, i.bytes)) = some (some (.int .i64 0), 1, 8) := by kernel_rfl
set_option maxHeartbeats 1000000 in
theorem delSg {w : World} {g n c : Nat} {xs : List Value} (h : w.ownsRow 0 38 5 (.slice (some ⟨g, 0, none⟩) n c) n xs) (h1 : ∀ u ∈ xs, u.oneCell' = true) (k : Nat) (hk : k < n) (hn : n ≤ 65536) :
  Calls Tryz.prog 130 #[.slice (some ⟨g, 0, none⟩) n c, .int .i64 k, .int .i64 ((k : Int) + 1)] w fun e w' => e = .returned (.slice (some ⟨g, 0, none⟩) (n - 1) c) ∧
   w'.ownsRow 0 38 5 (.slice (some ⟨g, 0, none⟩) (n - 1) c) (n - 1) (xs.take (k * 5) ++ xs.drop ((k + 1) * 5)) ∧ Mod (fun j => j = g) w w' := by
 obtain ⟨cur, hg, hnc, hcm, hcs, ht, hxl⟩ := own_open h
 obtain ⟨m, hm⟩ : ∃ m, n = k + 1 + m := ⟨n - (k + 1), by omega⟩
 subst hm
 obtain ⟨news, hnews⟩ : ∃ news, xs.drop ((k + 1) * 5) = news := ⟨_, rfl⟩
 have hnl : news.length = m * 5 := by rw [← hnews, List.length_drop, hxl]; omega
 have hn1 : ∀ u ∈ news, u.oneCell' = true := fun u hu => h1 u (List.mem_of_mem_drop (by rw [hnews]; exact hu))
 have hsrc : ∀ j u, news[j]? = some u → w.drew.cell? ((⟨g, (k + 1) * 5, none⟩ : Addr).add j) = some u := by
  intro j u hu
  have := World.ownsRow.cells h rfl ((k + 1) * 5 + j) u (by rw [← hnews, List.getElem?_drop] at hu; exact hu)
  have e : ∀ (o n : Nat), (⟨g, o, none⟩ : Addr).add n = ⟨g, o + n, none⟩ := by intro o n; unfold Addr.add; split <;> simp_all
  rw [e] at this ⊢
  simpa using this
 obtain ⟨i0, hi0, hzz⟩ := Option.map_eq_some_iff.1 infoS7
 simp only [Prod.mk.injEq] at hzz
 obtain ⟨hz0, hz1, hz2⟩ := hzz
 have hfit : k * i0.size + news.length ≤ cur.size := by rw [hz1, hnl, hcs]; omega
 obtain ⟨c1, hc1⟩ : ∃ c1, (cur.toList.take (k * 5) ++ news ++ cur.toList.drop (k * 5 + news.length)).toArray = c1 := ⟨_, rfl⟩
 have hs1 : c1.size = c * 5 := by rw [← hc1, ← hcs]; simp; rw [hnl]; omega
 have hr1 : ∀ (A : Addr) ty cc, (0 < m → A = ⟨g, (k + 1) * 5, none⟩) → (Builtin.append_ #[28, 28] ty #[.slice (some ⟨g, 0, none⟩) k c, .slice (some A) m cc]).run Tryz.prog w.drew = .ok (.slice (some ⟨g, 0, none⟩) (k + m) c) (w.drew.setRow g c1) := by
  intro A ty cc hA
  have := run_append_room (P := Tryz.prog) w.drew 28 ty 38 i0 Tryz.underlying28 hi0 g k c cur hg A m cc news (by rw [hnl, hz1]) (fun j u hu => by
   by_cases hm0 : 0 < m
   ·rw [hA hm0]; exact hsrc j u hu
   ·have := (List.getElem?_eq_some_iff.1 hu).1; omega) hn1 (by omega) hfit
  rw [hz1, hc1] at this
  exact this
 obtain ⟨w1, hw1⟩ : ∃ w1, w.drew.setRow g c1 = w1 := ⟨_, rfl⟩
 have hg1 : w1.heap[g]? = some (.cells c1 38 (0, 0)) := by rw [← hw1]; exact setRow_heap w.drew g cur c1 38 _ hg
 have M1 : Mod (fun j => j = g) w w1 := by rw [← hw1]; exact (Mod.drew (Mod.refl _ w)).trans' (mod_setRow w.drew g c1)
 obtain ⟨c2, hc2⟩ : ∃ c2, (c1.toList.take ((k + m) * 5) ++ (.agg #[.int .i64 0, .int .i64 0, .int .i64 0, .int .i64 0, .int .i64 0] : Value).cells.toList ++ c1.toList.drop ((k + m) * 5 + 5)).toArray = c2 := ⟨_, rfl⟩
 have hr2 : ∀ o q ty cc, o = (k + m) * 5 → q = 1 → (Builtin.clear_ #[28] ty #[.slice (some ⟨g, o, none⟩) q cc]).run Tryz.prog w1 = .ok (.tuple #[]) (w1.setRow g c2) := by
  intro o q ty cc ho hq
  rw [ho, hq, ← hc2]
  exact run_clear1 w1 28 38 ty (.agg #[.int .i64 0, .int .i64 0, .int .i64 0, .int .i64 0, .int .i64 0]) 5 g ((k + m) * 5) cc c1 38 Tryz.underlying28 (by rw [hi0]; simp [hz0, hz1]) rfl (by omega) (by intro u hu; simp [Value.cells] at hu; rcases hu with rfl | rfl | rfl | rfl | rfl <;> rfl) hg1 (by rw [hs1]; omega)
 have hg2 : (w1.setRow g c2).heap[g]? = some (.cells c2 38 (0, 0)) := setRow_heap w1 g c1 c2 38 _ hg1
 have M2 : Mod (fun j => j = g) w (w1.setRow g c2) := M1.trans' (mod_setRow w1 g c2)
 have hzl : (.agg #[.int .i64 0, .int .i64 0, .int .i64 0, .int .i64 0, .int .i64 0] : Value).cells.toList.length = 5 := rfl
 have hc1l : c1.toList.length = c * 5 := by simpa using hs1
 have hs2 : c2.size = c * 5 := by rw [← hc2, List.size_toArray]; simp only [List.length_append, List.length_take, List.length_drop, hzl, hc1l]; omega
 have hx2 : c2.toList.take ((k + m) * 5) = xs.take (k * 5) ++ news := by
  rw [← hc2]
  rw [List.append_assoc, List.take_append_of_le_length (by simp only [List.length_take, hc1l]; omega), List.take_take, Nat.min_self, ← hc1]
  have e1 : cur.toList.take (k * 5) = xs.take (k * 5) := by have h := congrArg (List.take (k * 5)) ht; rw [List.take_take, Nat.min_eq_left (by omega)] at h; exact h
  rw [e1]
  have hl : (xs.take (k * 5) ++ news).length = (k + m) * 5 := by simp only [List.length_append, List.length_take, hxl, hnl]; omega
  rw [List.take_append_of_le_length (by omega), ← hl, List.take_length]
 have fin : (w1.setRow g c2).ownsRow 0 38 5 (.slice (some ⟨g, 0, none⟩) (k + m) c) (k + m) (xs.take (k * 5) ++ news) :=
  own_shut c2 hg2 (by omega) hcm hs2 hx2 (by simp only [List.length_append, List.length_take, hxl, hnl]; omega)
 rw [hw1] at hr1
 have hmn : k + 1 + m - 1 = k + m := by omega
 rw [hmn, hnews]
 clear h hg ht hxl hnews hn1 hsrc hfit hc1 hc2 hs1 hs2 hx2 hg1 hg2 hw1 hcs hzl M1 hnl hk hc1l
 have hk1 : ((k : Int) == (k : Int) + 1) = false := by simp; omega
 have e1 : ¬ (k : Int) = (k : Int) + 1 := by omega
 have hc64 : (c : Int) ≤ 9223372036854775807 := by simp only [maxLen] at hcm; omega
 have hp1 : (k : Int) ≤ (k : Int) + 1 := by omega
 have hp2 : (0 : Int) ≤ (k : Int) + 1 := by omega
 have hp3 : (k : Int) + 1 ≤ ((k + 1 + m : Nat) : Int) := by omega
 have hmm : k + 1 + m - (k + 1) = m := by omega
 replace fin := hid (And.intro fin M2)
 clear M2
 have ht1 : ((k : Int) + 1).toNat = k + 1 := by omega
 have hq1 : k ≤ c := by omega
 have hq7 : (k : Int) + 1 ≤ (k : Int) + 1 + m := by omega
 have hq2 : k + 1 ≤ k + 1 + m := by omega
 have hq3 : k ≤ k + 1 + m := by omega
 have hq4 : k + m ≤ c := by omega
 have hq5 : (k : Int) + m ≤ c := by omega
 have hq6 : (k : Int) + 1 + m ≤ c := by omega
 by_cases hb : c = k + 1
 ·obtain rfl : m = 0 := by omega
  subst hb
  replace hr1 := fun ty => hr1 ⟨g, 0, none⟩ ty 0 (by omega)
  replace hr2 := fun ty cc => (show (Builtin.clear_ #[28] ty #[.slice (some ⟨g, k * 5, none⟩) 1 cc]).run Tryz.prog w1 = .ok (.tuple #[]) (w1.setRow g c2) from hr2 _ 1 ty cc (by omega) rfl)
  simp only [Nat.add_zero] at *
  go_enter Tryz.func130, Tryz.ntmps130
  go_wp2_with fail
  go_region_law (refine step_append_run rfl (.tmp 22) (.tmp 25) 28 28 rfl (.slice (some ⟨g, 0, none⟩) k (k + 1)) (.slice (some ⟨g, 0, none⟩) 0 0) (by simp [Act.eval, Act.put]) (by simp [Act.eval, Act.put]) (hr1 _) ?_)
  go_wp2_with (at_builtin; refine list_clear_run _ rfl (.tmp 31) 28 rfl (.slice (some ⟨g, k * 5, none⟩) 1 1) rfl (hr2 _ _) ?_)
  go_ret
  exact ⟨rfl, fin.out.1, fin.out.2⟩
 ·have hb2 : ¬ c - (k + 1) = 0 := by omega
  have hb3 : ¬ c = k + 1 := hb
  have hb4 : k + 1 + m - (k + m) = 1 := by omega
  have hb5 : ¬ c = k + m := by omega
  have hb6 : ¬ c - (k + m) = 0 := by omega
  replace hr1 := fun ty cc => (show (Builtin.append_ #[28, 28] ty #[.slice (some ⟨g, 0, none⟩) k c, .slice (some ⟨g, (k + 1) * 5, none⟩) m cc]).run Tryz.prog w.drew = .ok (.slice (some ⟨g, 0, none⟩) (k + m) c) w1 from hr1 _ ty cc (fun _ => rfl))
  replace hr2 := fun ty cc => (show (Builtin.clear_ #[28] ty #[.slice (some ⟨g, (k + m) * 5, none⟩) 1 cc]).run Tryz.prog w1 = .ok (.tuple #[]) (w1.setRow g c2) from hr2 _ 1 ty cc (by omega) rfl)
  go_enter Tryz.func130, Tryz.ntmps130
  go_wp2_with fail
  go_region_law (refine step_append_run rfl (.tmp 22) (.tmp 25) 28 28 rfl (.slice (some ⟨g, 0, none⟩) k c) (.slice (some ⟨g, (k + 1) * 5, none⟩) m (c - (k + 1))) (by simp [Act.eval, Act.put]) (by simp [Act.eval, Act.put]) (hr1 _ _) ?_)
  go_wp2_with (at_builtin; refine list_clear_run _ rfl (.tmp 31) 28 rfl (.slice (some ⟨g, (k + m) * 5, none⟩) 1 (c - (k + m))) rfl (hr2 _ _) ?_)
  go_ret
  exact ⟨rfl, fin.out.1, fin.out.2⟩
set_option maxHeartbeats 1000000 in
theorem delIt {w : World} {g n c : Nat} {xs : List Value} (h : w.ownsRow 0 3 1 (.slice (some ⟨g, 0, none⟩) n c) n xs) (h1 : ∀ u ∈ xs, u.oneCell' = true) (k : Nat) (hk : k < n) (hn : n ≤ 65536) :
  Calls Tryz.prog 140 #[.slice (some ⟨g, 0, none⟩) n c, .int .i64 k, .int .i64 ((k : Int) + 1)] w fun e w' => e = .returned (.slice (some ⟨g, 0, none⟩) (n - 1) c) ∧
   w'.ownsRow 0 3 1 (.slice (some ⟨g, 0, none⟩) (n - 1) c) (n - 1) (xs.take (k * 1) ++ xs.drop ((k + 1) * 1)) ∧ Mod (fun j => j = g) w w' := by
 obtain ⟨cur, hg, hnc, hcm, hcs, ht, hxl⟩ := own_open h
 obtain ⟨m, hm⟩ : ∃ m, n = k + 1 + m := ⟨n - (k + 1), by omega⟩
 subst hm
 obtain ⟨news, hnews⟩ : ∃ news, xs.drop ((k + 1) * 1) = news := ⟨_, rfl⟩
 have hnl : news.length = m * 1 := by rw [← hnews, List.length_drop, hxl]; omega
 have hn1 : ∀ u ∈ news, u.oneCell' = true := fun u hu => h1 u (List.mem_of_mem_drop (by rw [hnews]; exact hu))
 have hsrc : ∀ j u, news[j]? = some u → w.drew.cell? ((⟨g, (k + 1) * 1, none⟩ : Addr).add j) = some u := by
  intro j u hu
  have := World.ownsRow.cells h rfl ((k + 1) * 1 + j) u (by rw [← hnews, List.getElem?_drop] at hu; exact hu)
  have e : ∀ (o n : Nat), (⟨g, o, none⟩ : Addr).add n = ⟨g, o + n, none⟩ := by intro o n; unfold Addr.add; split <;> simp_all
  rw [e] at this ⊢
  simpa using this
 obtain ⟨i0, hi0, hzz⟩ := Option.map_eq_some_iff.1 infoI7
 simp only [Prod.mk.injEq] at hzz
 obtain ⟨hz0, hz1, hz2⟩ := hzz
 have hfit : k * i0.size + news.length ≤ cur.size := by rw [hz1, hnl, hcs]; omega
 obtain ⟨c1, hc1⟩ : ∃ c1, (cur.toList.take (k * 1) ++ news ++ cur.toList.drop (k * 1 + news.length)).toArray = c1 := ⟨_, rfl⟩
 have hs1 : c1.size = c * 1 := by rw [← hc1, ← hcs]; simp; rw [hnl]; omega
 have hr1 : ∀ (A : Addr) ty cc, (0 < m → A = ⟨g, (k + 1) * 1, none⟩) → (Builtin.append_ #[113, 113] ty #[.slice (some ⟨g, 0, none⟩) k c, .slice (some A) m cc]).run Tryz.prog w.drew = .ok (.slice (some ⟨g, 0, none⟩) (k + m) c) (w.drew.setRow g c1) := by
  intro A ty cc hA
  have := run_append_room (P := Tryz.prog) w.drew 113 ty 3 i0 Tryz.underlying113 hi0 g k c cur hg A m cc news (by rw [hnl, hz1]) (fun j u hu => by
   by_cases hm0 : 0 < m
   ·rw [hA hm0]; exact hsrc j u hu
   ·have := (List.getElem?_eq_some_iff.1 hu).1; omega) hn1 (by omega) hfit
  rw [hz1, hc1] at this
  exact this
 obtain ⟨w1, hw1⟩ : ∃ w1, w.drew.setRow g c1 = w1 := ⟨_, rfl⟩
 have hg1 : w1.heap[g]? = some (.cells c1 3 (0, 0)) := by rw [← hw1]; exact setRow_heap w.drew g cur c1 3 _ hg
 have M1 : Mod (fun j => j = g) w w1 := by rw [← hw1]; exact (Mod.drew (Mod.refl _ w)).trans' (mod_setRow w.drew g c1)
 obtain ⟨c2, hc2⟩ : ∃ c2, (c1.toList.take ((k + m) * 1) ++ (.int .i64 0 : Value).cells.toList ++ c1.toList.drop ((k + m) * 1 + 1)).toArray = c2 := ⟨_, rfl⟩
 have hr2 : ∀ o q ty cc, o = (k + m) * 1 → q = 1 → (Builtin.clear_ #[113] ty #[.slice (some ⟨g, o, none⟩) q cc]).run Tryz.prog w1 = .ok (.tuple #[]) (w1.setRow g c2) := by
  intro o q ty cc ho hq
  rw [ho, hq, ← hc2]
  exact run_clear1 w1 113 3 ty (.int .i64 0) 1 g ((k + m) * 1) cc c1 3 Tryz.underlying113 (by rw [hi0]; simp [hz0, hz1]) rfl (by omega) (by intro u hu; simp [Value.cells] at hu; rcases hu with rfl <;> rfl) hg1 (by rw [hs1]; omega)
 have hg2 : (w1.setRow g c2).heap[g]? = some (.cells c2 3 (0, 0)) := setRow_heap w1 g c1 c2 3 _ hg1
 have M2 : Mod (fun j => j = g) w (w1.setRow g c2) := M1.trans' (mod_setRow w1 g c2)
 have hzl : (.int .i64 0 : Value).cells.toList.length = 1 := rfl
 have hc1l : c1.toList.length = c * 1 := by simpa using hs1
 have hs2 : c2.size = c * 1 := by rw [← hc2, List.size_toArray]; simp only [List.length_append, List.length_take, List.length_drop, hzl, hc1l]; omega
 have hx2 : c2.toList.take ((k + m) * 1) = xs.take (k * 1) ++ news := by
  rw [← hc2]
  rw [List.append_assoc, List.take_append_of_le_length (by simp only [List.length_take, hc1l]; omega), List.take_take, Nat.min_self, ← hc1]
  have e1 : cur.toList.take (k * 1) = xs.take (k * 1) := by have h := congrArg (List.take (k * 1)) ht; rw [List.take_take, Nat.min_eq_left (by omega)] at h; exact h
  rw [e1]
  have hl : (xs.take (k * 1) ++ news).length = (k + m) * 1 := by simp only [List.length_append, List.length_take, hxl, hnl]; omega
  rw [List.take_append_of_le_length (by omega), ← hl, List.take_length]
 have fin : (w1.setRow g c2).ownsRow 0 3 1 (.slice (some ⟨g, 0, none⟩) (k + m) c) (k + m) (xs.take (k * 1) ++ news) :=
  own_shut c2 hg2 (by omega) hcm hs2 hx2 (by simp only [List.length_append, List.length_take, hxl, hnl]; omega)
 rw [hw1] at hr1
 have hmn : k + 1 + m - 1 = k + m := by omega
 rw [hmn, hnews]
 clear h hg ht hxl hnews hn1 hsrc hfit hc1 hc2 hs1 hs2 hx2 hg1 hg2 hw1 hcs hzl M1 hnl hk hc1l
 have hk1 : ((k : Int) == (k : Int) + 1) = false := by simp; omega
 have e1 : ¬ (k : Int) = (k : Int) + 1 := by omega
 have hc64 : (c : Int) ≤ 9223372036854775807 := by simp only [maxLen] at hcm; omega
 have hp1 : (k : Int) ≤ (k : Int) + 1 := by omega
 have hp2 : (0 : Int) ≤ (k : Int) + 1 := by omega
 have hp3 : (k : Int) + 1 ≤ ((k + 1 + m : Nat) : Int) := by omega
 have hmm : k + 1 + m - (k + 1) = m := by omega
 replace fin := hid (And.intro fin M2)
 clear M2
 have ht1 : ((k : Int) + 1).toNat = k + 1 := by omega
 have hq1 : k ≤ c := by omega
 have hq7 : (k : Int) + 1 ≤ (k : Int) + 1 + m := by omega
 have hq2 : k + 1 ≤ k + 1 + m := by omega
 have hq3 : k ≤ k + 1 + m := by omega
 have hq4 : k + m ≤ c := by omega
 have hq5 : (k : Int) + m ≤ c := by omega
 have hq6 : (k : Int) + 1 + m ≤ c := by omega
 by_cases hb : c = k + 1
 ·obtain rfl : m = 0 := by omega
  subst hb
  replace hr1 := fun ty => hr1 ⟨g, 0, none⟩ ty 0 (by omega)
  replace hr2 := fun ty cc => (show (Builtin.clear_ #[113] ty #[.slice (some ⟨g, k, none⟩) 1 cc]).run Tryz.prog w1 = .ok (.tuple #[]) (w1.setRow g c2) from hr2 _ 1 ty cc (by omega) rfl)
  simp only [Nat.add_zero] at *
  go_enter Tryz.func140, Tryz.ntmps140
  go_wp2_with fail
  go_region_law (refine step_append_run rfl (.tmp 22) (.tmp 25) 113 113 rfl (.slice (some ⟨g, 0, none⟩) k (k + 1)) (.slice (some ⟨g, 0, none⟩) 0 0) (by simp [Act.eval, Act.put]) (by simp [Act.eval, Act.put]) (hr1 _) ?_)
  go_wp2_with (at_builtin; refine list_clear_run _ rfl (.tmp 31) 113 rfl (.slice (some ⟨g, k, none⟩) 1 1) rfl (hr2 _ _) ?_)
  go_ret
  exact ⟨rfl, fin.out.1, fin.out.2⟩
 ·have hb2 : ¬ c - (k + 1) = 0 := by omega
  have hb3 : ¬ c = k + 1 := hb
  have hb4 : k + 1 + m - (k + m) = 1 := by omega
  have hb5 : ¬ c = k + m := by omega
  have hb6 : ¬ c - (k + m) = 0 := by omega
  replace hr1 := fun ty cc => (show (Builtin.append_ #[113, 113] ty #[.slice (some ⟨g, 0, none⟩) k c, .slice (some ⟨g, k + 1, none⟩) m cc]).run Tryz.prog w.drew = .ok (.slice (some ⟨g, 0, none⟩) (k + m) c) w1 from hr1 _ ty cc (fun _ => by rw [Nat.mul_one]))
  replace hr2 := fun ty cc => (show (Builtin.clear_ #[113] ty #[.slice (some ⟨g, k + m, none⟩) 1 cc]).run Tryz.prog w1 = .ok (.tuple #[]) (w1.setRow g c2) from hr2 _ 1 ty cc (by omega) rfl)
  go_enter Tryz.func140, Tryz.ntmps140
  go_wp2_with fail
  go_region_law (refine step_append_run rfl (.tmp 22) (.tmp 25) 113 113 rfl (.slice (some ⟨g, 0, none⟩) k c) (.slice (some ⟨g, k + 1, none⟩) m (c - (k + 1))) (by simp [Act.eval, Act.put]) (by simp [Act.eval, Act.put]) (hr1 _ _) ?_)
  go_wp2_with (at_builtin; refine list_clear_run _ rfl (.tmp 31) 113 rfl (.slice (some ⟨g, k + m, none⟩) 1 (c - (k + m))) rfl (hr2 _ _) ?_)
  go_ret
  exact ⟨rfl, fin.out.1, fin.out.2⟩
end Go.Proofs.Bo
