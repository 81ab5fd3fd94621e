import Derived.Test.YtmdeoeppobpjbaaRef5
set_option linter.unusedVariables false
namespace Go.Proofs.Bo
open Go Go.RowKit

/-- The four blocks that 'Do' lays ahead. -/
structure Box4 (w w0 : World) (a b c d x y z : Value) : Prop where
  b0 : w0.heap[w.heap.size]? = some (.cells #[a, b, c, d] 48 (0, 0))
  b1 : w0.heap[w.heap.size + 1]? = some (.cells #[x, y, z] 35 (0, 0))
  b2 : w0.heap[w.heap.size + 1 + 1]? = some (.cells #[.int .i64 0, .int .i64 0, .slice none 0 0, .slice none 0 0] 48 (0, 0))
  b3 : w0.heap[w.heap.size + 1 + 1 + 1]? = some (.cells #[.int .i64 0, .int .i64 0, .bool false, .int .i64 0] 37 (0, 0))
  M : Mod (fun _ => False) w w0
  sz : w.heap.size + 4 ≤ w0.heap.size

theorem Box4.ex (w : World) (a b c d x y z : Value) : ∃ w0, (((w.alloc (.cells #[a, b, c, d] 48)).alloc (.cells #[x, y, z] 35)).alloc (.cells #[.int .i64 0, .int .i64 0, .slice none 0 0, .slice none 0 0] 48)).alloc (.cells #[.int .i64 0, .int .i64 0, .bool false, .int .i64 0] 37) = w0 ∧ Box4 w w0 a b c d x y z :=
  ⟨_, rfl, (Below.heap_alloc _ _ _ (by simp; omega)).trans (alloc3_0 _ _ _ _), (Below.heap_alloc _ _ _ (by simp)).trans (alloc3_1 _ _ _ _), (Below.heap_alloc _ _ _ (by simp)).trans (alloc3_2 _ _ _ _), by
    have := heap_alloc_new (((w.alloc (.cells #[a, b, c, d] 48)).alloc (.cells #[x, y, z] 35)).alloc (.cells #[.int .i64 0, .int .i64 0, .slice none 0 0, .slice none 0 0] 48)) (.cells #[.int .i64 0, .int .i64 0, .bool false, .int .i64 0] 37)
    simpa using this, ((((Mod.refl _ _).alloc _).alloc _).alloc _).alloc _, by simp⟩
theorem Box4.mod {w w0 w1 : World} {a b c d x y z : Value} (h : Box4 w w0 a b c d x y z) (m : Mod (fun _ => False) w0 w1) : Box4 w w1 a b c d x y z := ⟨m.heap h.b0 fun h => h, m.heap h.b1 fun h => h, m.heap h.b2 fun h => h, m.heap h.b3 fun h => h, h.M.trans' m, Nat.le_trans h.sz m.size⟩

section
variable {w : World} {fv Lv : Value} {room : Int} {l : List (Option Int)} {free L : List Int}

/-- What the last stores leave. -/
theorem do_fin {w w2 w3 : World} {fv Lv : Value} {free' L' : List Int} (M : Mod (fun _ => False) w w2) {fv' Lv' : Value} (R : RV w2 fv' Lv' free' L') (hk : ∀ k, RF fv' Lv' k → RF fv Lv k ∨ w.heap.size ≤ k) (hn : ∀ k, RF fv' Lv' k → k < w.heap.size ∨ w.heap.size + 4 ≤ k)
    (M2 : Mod (fun k => w.heap.size ≤ k ∧ k < w.heap.size + 4) w2 w3) : RV w3 fv' Lv' free' L' ∧ Mod (fun _ => False) w w3 :=
  ⟨R.mod M2 fun k h => by have := hn k h; omega, M.trans M2 fun k h => .inr h.1⟩

theorem do_end {w w2 w3 : World} {fv Lv fv' Lv' : Value} {n : Int} {room : Int} {L' : List Int} {r : (List (Option Int) × List Int) × Ans} (M : Mod (fun _ => False) w w2) (R : RV w2 fv' Lv' r.1.2 L') (hL : Rel L' r.1.1) (hn : n = r.1.1.length)
    (hk : ∀ k, RF fv' Lv' k → RF fv Lv k ∨ w.heap.size ≤ k) (hb : ∀ k, RF fv' Lv' k → k < w.heap.size ∨ w.heap.size + 4 ≤ k)
    (M2 : Mod (fun k => w.heap.size ≤ k ∧ k < w.heap.size + 4) w2 w3) :
    RefPost w fv Lv room r (.returned (.tuple #[.agg #[.int .i64 room, .int .i64 n, fv', Lv'], .agg (encAns r.2).toArray])) w3 :=
  RefPost.mk' hn (do_fin (fv := fv) (Lv := Lv) M R hk hb M2).1 hL (do_fin (fv := fv) (Lv := Lv) M R hk hb M2).2 hk

set_option maxHeartbeats 1000000 in
theorem do_put (hi : ArInv room l free) (hL : Rel L l) (R : RV w fv Lv free L) (i v : Int) {r : List (Option Int) × List Int × Int × Int} (hr : arPut room l free v = r) :
    Calls Try.prog 19 #[.agg #[.int .i64 room, .int .i64 l.length, fv, Lv], .agg #[.int .i64 0, .int .i64 i, .int .i64 v]] w (RefPost w fv Lv room ((r.1, r.2.1), ⟨r.2.2.1, 0, false, r.2.2.2⟩)) := by
  obtain ⟨w0, hw0, B⟩ := Box4.ex w (.int .i64 room) (.int .i64 l.length) fv Lv (.int .i64 0) (.int .i64 i) (.int .i64 v)
  obtain ⟨c0, f0⟩ := blkc B.b0
  obtain ⟨c1, f1⟩ := blkc B.b1
  obtain ⟨c2, f2⟩ := blkc B.b2
  obtain ⟨c3, f3⟩ := blkc B.b3
  have hlt := fun k (h : RF fv Lv k) => R.lt h
  have P := refPut hi hL (R.mod0 B.M) v hr
  go_enter Try.func19, Try.ntmps19
  go_wp2_with fail
  refine P.mono ?_
  rintro e w1 ⟨A, c, A', c', L', rfl, R', hL', M1, hk⟩
  clear P
  have B1 := B.mod M1
  dsimp only [encAns] at R' hL' hk ⊢
  clear c0 f0 c1 f1 c2 f2 c3 f3 hw0
  obtain ⟨c2, f2⟩ := blkc B1.b2
  obtain ⟨c3, f3⟩ := blkc B1.b3
  go_wp2_with fail
  have hb : ∀ k, RF (.slice A r.2.1.length c) (.slice A' r.1.length c') k → k < w.heap.size ∨ w.heap.size + 4 ≤ k := fun k h => by
    rcases hk k h with h | h
    · exact .inl (hlt k h)
    · have := B.sz; exact .inr (by omega)
  refine ret_row2 (w.heap.size + 1 + 1) (w.heap.size + 1 + 1 + 1) [_, _, _, _] [_, _, _, _] rfl rfl rfl (two4 B1.b2 B1.b3 (by omega)).1 (two4 B1.b2 B1.b3 (by omega)).2 Try.underlying48 rfl (by kernel_rfl) Try.underlying37 rfl (by kernel_rfl) rfl ?_
  refine do_end (r := ((r.1, r.2.1), ⟨r.2.2.1, 0, false, r.2.2.2⟩)) (L' := L') B1.M R' hL' (by simp) (fun k h => (hk k h).imp id fun h => by have := B.sz; omega) hb ?_
  iterate 8 (refine Mod.setCell ?_ (.inl (by constructor <;> simp <;> omega)) _)
  exact Mod.refl _ _

set_option maxHeartbeats 1000000 in
theorem do_reset (hi : ArInv room l free) (hL : Rel L l) (R : RV w fv Lv free L) (i v : Int) :
    Calls Try.prog 19 #[.agg #[.int .i64 room, .int .i64 l.length, fv, Lv], .agg #[.int .i64 4, .int .i64 i, .int .i64 v]] w (RefPost w fv Lv room (([], []), ⟨0, 0, false, 0⟩)) := by
  obtain ⟨w0, hw0, B⟩ := Box4.ex w (.int .i64 room) (.int .i64 l.length) fv Lv (.int .i64 4) (.int .i64 i) (.int .i64 v)
  obtain ⟨c0, f0⟩ := blkc B.b0
  obtain ⟨c1, f1⟩ := blkc B.b1
  obtain ⟨c2, f2⟩ := blkc B.b2
  obtain ⟨c3, f3⟩ := blkc B.b3
  have hlt := fun k (h : RF fv Lv k) => R.lt h
  go_enter Try.func19, Try.ntmps19
  go_wp2_with fail
  refine ret_row2 (w.heap.size + 1 + 1) (w.heap.size + 1 + 1 + 1) [_, _, _, _] [_, _, _, _] rfl rfl rfl (two4 B.b2 B.b3 (by omega)).1 (two4 B.b2 B.b3 (by omega)).2 Try.underlying48 rfl (by kernel_rfl) Try.underlying37 rfl (by kernel_rfl) rfl ?_
  refine do_end (r := (([], []), ⟨0, 0, false, 0⟩)) (L' := []) B.M ⟨World.ownsRow_nil _ _ _ _, World.ownsRow_nil _ _ _ _⟩ ⟨rfl, by simp⟩ (by simp) (fun k h => by rcases h with h | h <;> cases h) (fun k h => by rcases h with h | h <;> cases h) ?_
  iterate 8 (refine Mod.setCell ?_ (.inl (by constructor <;> simp <;> omega)) _)
  exact Mod.refl _ _

set_option maxHeartbeats 1000000 in
theorem do_out (hi : ArInv room l free) (hL : Rel L l) (R : RV w fv Lv free L) (q i v : Int) (hq : q < 0 ∨ 4 < q) :
    Calls Try.prog 19 #[.agg #[.int .i64 room, .int .i64 l.length, fv, Lv], .agg #[.int .i64 q, .int .i64 i, .int .i64 v]] w (RefPost w fv Lv room ((l, free), ⟨0, 0, false, 0⟩)) := by
  obtain ⟨A, c, rfl, hA⟩ := own_slice R.f
  obtain ⟨A', c', rfl, hA'⟩ := own_slice R.l
  obtain ⟨w0, hw0, B⟩ := Box4.ex w (.int .i64 room) (.int .i64 l.length) (.slice A free.length c) (.slice A' L.length c') (.int .i64 q) (.int .i64 i) (.int .i64 v)
  obtain ⟨c0, f0⟩ := blkc B.b0
  obtain ⟨c1, f1⟩ := blkc B.b1
  obtain ⟨c2, f2⟩ := blkc B.b2
  obtain ⟨c3, f3⟩ := blkc B.b3
  have hlt := fun k (h : RF (.slice A free.length c) (.slice A' L.length c') k) => R.lt h
  have q0 : q ≠ 0 := by omega
  have q4 : q ≠ 4 := by omega
  rcases hq with hq | hq
  · go_enter Try.func19, Try.ntmps19
    go_wp2_with fail
    refine ret_row2 (w.heap.size + 1 + 1) (w.heap.size + 1 + 1 + 1) [_, _, _, _] [_, _, _, _] rfl rfl rfl (two4 B.b2 B.b3 (by omega)).1 (two4 B.b2 B.b3 (by omega)).2 Try.underlying48 rfl (by kernel_rfl) Try.underlying37 rfl (by kernel_rfl) rfl ?_
    refine do_end (r := ((l, free), ⟨0, 0, false, 0⟩)) (L' := L) B.M (R.mod0 B.M) hL (by simp) (fun k h => .inl h) (fun k h => .inl (hlt k h)) ?_
    iterate 8 (refine Mod.setCell ?_ (.inl (by constructor <;> simp <;> omega)) _)
    exact Mod.refl _ _
  · have hq0 : ¬ q < 0 := by omega
    go_enter Try.func19, Try.ntmps19
    go_wp2_with fail
    refine ret_row2 (w.heap.size + 1 + 1) (w.heap.size + 1 + 1 + 1) [_, _, _, _] [_, _, _, _] rfl rfl rfl (two4 B.b2 B.b3 (by omega)).1 (two4 B.b2 B.b3 (by omega)).2 Try.underlying48 rfl (by kernel_rfl) Try.underlying37 rfl (by kernel_rfl) rfl ?_
    refine do_end (r := ((l, free), ⟨0, 0, false, 0⟩)) (L' := L) B.M (R.mod0 B.M) hL (by simp) (fun k h => .inl h) (fun k h => .inl (hlt k h)) ?_
    iterate 8 (refine Mod.setCell ?_ (.inl (by constructor <;> simp <;> omega)) _)
    exact Mod.refl _ _

set_option maxHeartbeats 1000000 in
theorem do_no (hi : ArInv room l free) (hL : Rel L l) (R : RV w fv Lv free L) (q i v : Int) (q0 : q ≠ 0) (q4 : q ≠ 4) (hq0 : ¬ q < 0) (hq4 : ¬ 4 < q) (ht : thing l i = none) :
    Calls Try.prog 19 #[.agg #[.int .i64 room, .int .i64 l.length, fv, Lv], .agg #[.int .i64 q, .int .i64 i, .int .i64 v]] w (RefPost w fv Lv room ((l, free), ⟨0, 0, false, 0⟩)) := by
  obtain ⟨A, c, rfl, hA⟩ := own_slice R.f
  obtain ⟨A', c', rfl, hA'⟩ := own_slice R.l
  obtain ⟨w0, hw0, B⟩ := Box4.ex w (.int .i64 room) (.int .i64 l.length) (.slice A free.length c) (.slice A' L.length c') (.int .i64 q) (.int .i64 i) (.int .i64 v)
  obtain ⟨c0, f0⟩ := blkc B.b0
  obtain ⟨c1, f1⟩ := blkc B.b1
  obtain ⟨c2, f2⟩ := blkc B.b2
  obtain ⟨c3, f3⟩ := blkc B.b3
  have hlt := fun k (h : RF (.slice A free.length c) (.slice A' L.length c') k) => R.lt h
  have P := refIs hi (R.mod0 B.M) i
  rw [ht] at P
  go_enter Try.func19, Try.ntmps19
  go_wp2_with fail
  refine P.mono ?_
  rintro e w1 ⟨rfl, M1⟩
  have B1 := B.mod M1
  clear c0 f0 c1 f1 c2 f2 c3 f3 hw0 P
  obtain ⟨c0, f0⟩ := blkc B1.b0
  obtain ⟨c1, f1⟩ := blkc B1.b1
  obtain ⟨c2, f2⟩ := blkc B1.b2
  obtain ⟨c3, f3⟩ := blkc B1.b3
  dsimp only [Option.isSome]
  go_wp2_with fail
  refine ret_row2 (w.heap.size + 1 + 1) (w.heap.size + 1 + 1 + 1) [_, _, _, _] [_, _, _, _] rfl rfl rfl (two4 B1.b2 B1.b3 (by omega)).1 (two4 B1.b2 B1.b3 (by omega)).2 Try.underlying48 rfl (by kernel_rfl) Try.underlying37 rfl (by kernel_rfl) rfl ?_
  refine do_end (r := ((l, free), ⟨0, 0, false, 0⟩)) (L' := L) B1.M (R.mod0 B1.M) hL (by simp) (fun k h => .inl h) (fun k h => .inl (hlt k h)) ?_
  iterate 8 (refine Mod.setCell ?_ (.inl (by constructor <;> simp <;> omega)) _)
  exact Mod.refl _ _

set_option maxHeartbeats 1000000 in
theorem do_get (hi : ArInv room l free) (hL : Rel L l) (R : RV w fv Lv free L) (v : Int) {k : Nat} {u : Int} (hp : l[k]? = some (some u)) :
    Calls Try.prog 19 #[.agg #[.int .i64 room, .int .i64 l.length, fv, Lv], .agg #[.int .i64 1, .int .i64 k, .int .i64 v]] w (RefPost w fv Lv room ((l, free), ⟨0, u, true, 0⟩)) := by
  have RFr := R.f
  have RL := R.l
  obtain ⟨A, c, rfl, hA⟩ := own_slice R.f
  obtain ⟨A', c', rfl, hA'⟩ := own_slice R.l
  have hkl := (List.getElem?_eq_some_iff.1 hp).1
  have hkL : k < L.length := by have := hL.len; omega
  obtain ⟨lb, rfl⟩ := hA'.2.2 (by omega)
  have hLs : L.length ≤ 65536 := by have := hL.len; have := hi.lr; have := hi.room1; omega
  have hFs : free.length ≤ 65536 := by have := hi.fl; have := hi.lr; have := hi.room1; omega
  have hti : (thing l (k : Int)).isSome = true := by unfold thing; simp [hp]
  have hlt := fun k (h : RF (.slice A free.length c) (.slice (some ⟨lb, 0, none⟩) L.length c') k) => R.lt h
  obtain ⟨w0, hw0, B⟩ := Box4.ex w (.int .i64 room) (.int .i64 l.length) (.slice A free.length c) (.slice (some ⟨lb, 0, none⟩) L.length c') (.int .i64 1) (.int .i64 k) (.int .i64 v)
  obtain ⟨c0, f0⟩ := blkc B.b0
  obtain ⟨c1, f1⟩ := blkc B.b1
  obtain ⟨c2, f2⟩ := blkc B.b2
  obtain ⟨c3, f3⟩ := blkc B.b3
  have P := refIs hi (R.mod0 B.M) k
  rw [hti] at P
  go_enter Try.func19, Try.ntmps19
  go_wp2_with fail
  refine P.mono ?_
  rintro e w1 ⟨rfl, M1⟩
  have B1 := B.mod M1
  clear c0 f0 c1 f1 c2 f2 c3 f3 hw0 P
  obtain ⟨c0, f0⟩ := blkc B1.b0
  obtain ⟨c1, f1⟩ := blkc B1.b1
  obtain ⟨c2, f2⟩ := blkc B1.b2
  obtain ⟨c3, f3⟩ := blkc B1.b3
  have cl := (own_cell (own_mod RL B1.M fun _ _ h => h) (j := k) (u := .int .i64 u) (by simp [hL.at_ k u hp])).1
  have nl0 := hlt lb (.inr rfl)
  have nl1 : lb ≠ w.heap.size + 1 + 1 := by omega
  have nl2 : w.heap.size + 1 + 1 ≠ lb := by omega
  have nl3 : lb ≠ w.heap.size + 1 + 1 + 1 := by omega
  have nl4 : w.heap.size + 1 + 1 + 1 ≠ lb := by omega
  go_wp2_with fail
  go_region
  all_goals go_wp2_with fail
  all_goals
    refine ret_row2_drew (w.heap.size + 1 + 1) (w.heap.size + 1 + 1 + 1) [_, _, _, _] [_, _, _, _] rfl rfl rfl (two4 B1.b2 B1.b3 (by omega)).1 (two4 B1.b2 B1.b3 (by omega)).2 Try.underlying48 rfl (by kernel_rfl) Try.underlying37 rfl (by kernel_rfl) rfl ?_
    refine do_end (r := ((l, free), ⟨0, u, true, 0⟩)) (L' := L) B1.M (R.mod0 B1.M) hL (by simp) (fun k h => .inl h) (fun k h => .inl (hlt k h)) ?_
    refine Mod.drew ?_
    iterate 8 (refine Mod.setCell ?_ (.inl (by constructor <;> simp <;> omega)) _)
    exact Mod.refl _ _

set_option maxHeartbeats 1000000 in
theorem do_set (hi : ArInv room l free) (hL : Rel L l) (R : RV w fv Lv free L) (v : Int) {k : Nat} {u : Int} (hp : l[k]? = some (some u)) :
    Calls Try.prog 19 #[.agg #[.int .i64 room, .int .i64 l.length, fv, Lv], .agg #[.int .i64 2, .int .i64 k, .int .i64 v]] w (RefPost w fv Lv room ((l.set k (some v), free), ⟨0, 0, true, 0⟩)) := by
  have RFr := R.f
  have RL := R.l
  obtain ⟨A, c, rfl, hA⟩ := own_slice R.f
  obtain ⟨A', c', rfl, hA'⟩ := own_slice R.l
  have hkl := (List.getElem?_eq_some_iff.1 hp).1
  have hkL : k < L.length := by have := hL.len; omega
  obtain ⟨lb, rfl⟩ := hA'.2.2 (by omega)
  have hLs : L.length ≤ 65536 := by have := hL.len; have := hi.lr; have := hi.room1; omega
  have hFs : free.length ≤ 65536 := by have := hi.fl; have := hi.lr; have := hi.room1; omega
  have hti : (thing l (k : Int)).isSome = true := by unfold thing; simp [hp]
  have hlt := fun k (h : RF (.slice A free.length c) (.slice (some ⟨lb, 0, none⟩) L.length c') k) => R.lt h
  obtain ⟨w0, hw0, B⟩ := Box4.ex w (.int .i64 room) (.int .i64 l.length) (.slice A free.length c) (.slice (some ⟨lb, 0, none⟩) L.length c') (.int .i64 2) (.int .i64 k) (.int .i64 v)
  obtain ⟨c0, f0⟩ := blkc B.b0
  obtain ⟨c1, f1⟩ := blkc B.b1
  obtain ⟨c2, f2⟩ := blkc B.b2
  obtain ⟨c3, f3⟩ := blkc B.b3
  have P := refIs hi (R.mod0 B.M) k
  rw [hti] at P
  go_enter Try.func19, Try.ntmps19
  go_wp2_with fail
  refine P.mono ?_
  rintro e w1 ⟨rfl, M1⟩
  have B1 := B.mod M1
  clear c0 f0 c1 f1 c2 f2 c3 f3 hw0 P
  obtain ⟨c0, f0⟩ := blkc B1.b0
  obtain ⟨c1, f1⟩ := blkc B1.b1
  obtain ⟨c2, f2⟩ := blkc B1.b2
  obtain ⟨c3, f3⟩ := blkc B1.b3
  obtain ⟨cA, fA⟩ := blkc (B1.mod ((Mod.refl _ w1).alloc (.cells #[] 2))).b0
  go_wp2_with (at_builtin; refine app_copy (.slice (some ⟨lb, 0, none⟩) L.length c') L.length (L.map (.int .i64)) (.tmp 55) (.tmp 57) 46 2 (.int .i64 0) 1 8 rfl rfl Try.underlying46 infoL rfl (by omega) (by omega) (by simp [Act.eval]) (by simp [Act.eval]) (own_mod RL B1.M fun _ _ h => h) (by simp [Value.oneCell']) (by omega) ?_)
  intro v1 w2 hown m2 hb1
  have B2 := B1.mod m2
  obtain ⟨A1, cc1, rfl, hA1⟩ := own_slice hown
  obtain ⟨g1, rfl⟩ := hA1.2.2 (by omega)
  have hg1 : w.heap.size + 4 ≤ g1 := by have := hb1 g1 rfl; have := B1.sz; omega
  have n1 : g1 ≠ w.heap.size := by omega
  have n2 : w.heap.size ≠ g1 := by omega
  have n3 : g1 ≠ w.heap.size + 1 := by omega
  have n4 : w.heap.size + 1 ≠ g1 := by omega
  clear c0 f0 c1 f1 c2 f2 c3 f3 cA fA hb1 m2
  obtain ⟨c0, f0⟩ := blkc B2.b0
  obtain ⟨c1, f1⟩ := blkc B2.b1
  obtain ⟨c2, f2⟩ := blkc B2.b2
  obtain ⟨c3, f3⟩ := blkc B2.b3
  obtain ⟨cg, fg⟩ := own_cell hown (j := k) (u := .int .i64 L[k]) (by simp [hkL])
  generalize L[k] = old at cg
  go_wp2_with fail
  have e2 := own_set hown k (by simp; exact hkL) (.int .i64 v)
  have e3 : (List.map (Value.int .i64) L).set k (.int .i64 v) = (L.set k v).map (Value.int .i64) := by simp
  rw [e3] at e2
  have ne1 : w.heap.size + 1 + 1 ≠ g1 := by omega
  have ne2 : w.heap.size + 1 + 1 + 1 ≠ g1 := by omega
  have d1 := (heap_set_ne (w := w2.setCell ⟨g1, k, none⟩ (.int .i64 v)) (p := ⟨w.heap.size, 3, none⟩) (u := .slice (some ⟨g1, 0, none⟩) L.length cc1) (k := w.heap.size + 1 + 1) (by simp; omega)).trans ((heap_set_ne (p := ⟨g1, k, none⟩) ne1).trans B2.b2)
  have d2 := (heap_set_ne (w := w2.setCell ⟨g1, k, none⟩ (.int .i64 v)) (p := ⟨w.heap.size, 3, none⟩) (u := .slice (some ⟨g1, 0, none⟩) L.length cc1) (k := w.heap.size + 1 + 1 + 1) (by simp; omega)).trans ((heap_set_ne (p := ⟨g1, k, none⟩) ne2).trans B2.b3)
  have M2 : Mod (fun _ => False) w (w2.setCell ⟨g1, k, none⟩ (.int .i64 v)) := B2.M.setCell (.inr (by simp only []; omega)) _
  have hb : ∀ k, RF (.slice A free.length c) (.slice (some ⟨g1, 0, none⟩) L.length cc1) k → k < w.heap.size ∨ w.heap.size + 4 ≤ k := fun k h => by
    rcases h with h | h
    · exact .inl (hlt k (.inl h))
    · cases h; exact .inr hg1
  refine ret_row2 (w.heap.size + 1 + 1) (w.heap.size + 1 + 1 + 1) [_, _, _, _] [_, _, _, _] rfl rfl rfl (two4 d1 d2 (by omega)).1 (two4 d1 d2 (by omega)).2 Try.underlying48 rfl (by kernel_rfl) Try.underlying37 rfl (by kernel_rfl) rfl ?_
  refine do_end (r := ((l.set k (some v), free), ⟨0, 0, true, 0⟩)) (L' := L.set k v) M2 ⟨own_mod RFr M2 fun _ _ h => h, by rw [List.length_set]; exact e2⟩ (hL.set k v) (by simp) (fun k h => by rcases h with h | h; exact .inl (.inl h); cases h; exact .inr (Nat.le_trans (Nat.le_add_right _ 4) hg1)) hb ?_
  iterate 9 (refine Mod.setCell ?_ (.inl (by constructor <;> simp <;> omega)) _)
  exact Mod.refl _ _

set_option maxHeartbeats 1000000 in
theorem do_free (hi : ArInv room l free) (hL : Rel L l) (R : RV w fv Lv free L) (v : Int) {k : Nat} {u : Int} (hp : l[k]? = some (some u)) :
    Calls Try.prog 19 #[.agg #[.int .i64 room, .int .i64 l.length, fv, Lv], .agg #[.int .i64 3, .int .i64 k, .int .i64 v]] w (RefPost w fv Lv room ((l.set k none, free ++ [(k : Int)]), ⟨0, 0, true, 0⟩)) := by
  have RFr := R.f
  have RL := R.l
  obtain ⟨A, c, rfl, hA⟩ := own_slice R.f
  obtain ⟨A', c', rfl, hA'⟩ := own_slice R.l
  have hkl := (List.getElem?_eq_some_iff.1 hp).1
  have hkL : k < L.length := by have := hL.len; omega
  obtain ⟨lb, rfl⟩ := hA'.2.2 (by omega)
  have hLs : L.length ≤ 65536 := by have := hL.len; have := hi.lr; have := hi.room1; omega
  have hFs : free.length ≤ 65536 := by have := hi.fl; have := hi.lr; have := hi.room1; omega
  have hti : (thing l (k : Int)).isSome = true := by unfold thing; simp [hp]
  have hlt := fun k (h : RF (.slice A free.length c) (.slice (some ⟨lb, 0, none⟩) L.length c') k) => R.lt h
  obtain ⟨w0, hw0, B⟩ := Box4.ex w (.int .i64 room) (.int .i64 l.length) (.slice A free.length c) (.slice (some ⟨lb, 0, none⟩) L.length c') (.int .i64 3) (.int .i64 k) (.int .i64 v)
  obtain ⟨c0, f0⟩ := blkc B.b0
  obtain ⟨c1, f1⟩ := blkc B.b1
  obtain ⟨c2, f2⟩ := blkc B.b2
  obtain ⟨c3, f3⟩ := blkc B.b3
  have P := refIs hi (R.mod0 B.M) k
  rw [hti] at P
  go_enter Try.func19, Try.ntmps19
  go_wp2_with fail
  refine P.mono ?_
  rintro e w1 ⟨rfl, M1⟩
  have B1 := B.mod M1
  clear c0 f0 c1 f1 c2 f2 c3 f3 hw0 P
  obtain ⟨c0, f0⟩ := blkc B1.b0
  obtain ⟨c1, f1⟩ := blkc B1.b1
  obtain ⟨c2, f2⟩ := blkc B1.b2
  obtain ⟨c3, f3⟩ := blkc B1.b3
  obtain ⟨cA, fA⟩ := blkc (B1.mod ((Mod.refl _ w1).alloc (.cells #[] 3))).b0
  go_wp2_with (at_builtin; refine app_copy (.slice A free.length c) free.length (free.map (.int .i64)) (.tmp 69) (.tmp 71) 22 3 (.int .i64 0) 1 8 rfl rfl Try.underlying22 infoI rfl (by omega) (by omega) (by simp [Act.eval]) (by simp [Act.eval]) (own_mod RFr B1.M fun _ _ h => h) (by simp [Value.oneCell']) (by omega) ?_)
  intro v1 w2 hown m2 hb1
  have B2 := B1.mod m2
  obtain ⟨A1, cc1, rfl, hA1⟩ := own_slice hown
  have hb2 : ∀ j, (Value.slice A1 free.length cc1).ownBlock = some j → w.heap.size + 4 ≤ j := fun j e => by have := hb1 j e; have := B1.sz; omega
  clear c0 f0 c1 f1 c2 f2 c3 f3 cA fA hb1 m2
  obtain ⟨c0, f0⟩ := blkc B2.b0
  obtain ⟨c1, f1⟩ := blkc B2.b1
  go_wp2_with (at_builtin; refine app_one [.int .i64 (k : Int)] (.slice A1 free.length cc1) free.length (free.map (.int .i64)) (.tmp 73) (.tmp 76) 22 3 (.int .i64 0) 1 8 rfl rfl Try.underlying22 infoI rfl (by omega) (by omega) (by simp [Act.eval]) (by simp [Act.eval]) hown rfl (by simp [Value.oneCell']) (by omega) ?_)
  intro v2 w3 hown2 hg2 hb3
  have hn2 : ∀ j, v2.ownBlock = some j → w.heap.size + 4 ≤ j := fun j e => by
    rcases hb3 j e with h | h
    · exact hb2 j h
    · have := B2.sz; omega
  have m3 : Mod (fun j => w.heap.size + 4 ≤ j) w2 w3 := (Mod.refl _ _).grown hg2 fun j e => .inl (hb2 j e)
  have B3 : Box4 w w3 (.int .i64 room) (.int .i64 l.length) (.slice A free.length c) (.slice (some ⟨lb, 0, none⟩) L.length c') (.int .i64 3) (.int .i64 k) (.int .i64 v) := ⟨m3.heap B2.b0 (by omega), m3.heap B2.b1 (by omega), m3.heap B2.b2 (by omega), m3.heap B2.b3 (by omega), B2.M.trans m3 (fun j h => .inr (by omega)), Nat.le_trans B2.sz m3.size⟩
  obtain ⟨A2, cc2, rfl, hA2⟩ := own_slice hown2
  clear c0 f0 c1 f1 hown hg2 hb3 B2 m3
  obtain ⟨c0, f0⟩ := blkc B3.b0
  obtain ⟨c1, f1⟩ := blkc B3.b1
  obtain ⟨c2, f2⟩ := blkc B3.b2
  obtain ⟨c3, f3⟩ := blkc B3.b3
  go_wp2_with fail
  have d1 := (heap_set_ne (w := w3) (p := ⟨w.heap.size, 2, none⟩) (u := .slice A2 (free.length + 1) cc2) (k := w.heap.size + 1 + 1) (by simp; omega)).trans B3.b2
  have d2 := (heap_set_ne (w := w3) (p := ⟨w.heap.size, 2, none⟩) (u := .slice A2 (free.length + 1) cc2) (k := w.heap.size + 1 + 1 + 1) (by simp; omega)).trans B3.b3
  have hb : ∀ k, RF (.slice A2 (free.length + 1) cc2) (.slice (some ⟨lb, 0, none⟩) L.length c') k → k < w.heap.size ∨ w.heap.size + 4 ≤ k := fun k h => by
    rcases h with h | h
    · exact .inr (hn2 k h)
    · exact .inl (hlt k (.inr h))
  refine ret_row2 (w.heap.size + 1 + 1) (w.heap.size + 1 + 1 + 1) [_, _, _, _] [_, _, _, _] rfl rfl rfl (two4 d1 d2 (by omega)).1 (two4 d1 d2 (by omega)).2 Try.underlying48 rfl (by kernel_rfl) Try.underlying37 rfl (by kernel_rfl) rfl ?_
  refine do_end (r := ((l.set k none, free ++ [(k : Int)]), ⟨0, 0, true, 0⟩)) (L' := L) B3.M ⟨by simpa using hown2, own_mod RL B3.M fun _ _ h => h⟩ (hL.del k) (by simp) (fun k h => by rcases h with h | h; have := hn2 k h; exact .inr (by omega); exact .inl (.inr h)) hb ?_
  iterate 9 (refine Mod.setCell ?_ (.inl (by constructor <;> simp <;> omega)) _)
  exact Mod.refl _ _

/-- A call of a script, on the reference's arena. -/
theorem refDo (hi : ArInv room l free) (hL : Rel L l) (R : RV w fv Lv free L) (o : Op5) {r : (List (Option Int) × List Int) × Ans} (hr : arDo room l free o = r) :
    Calls Try.prog 19 #[.agg #[.int .i64 room, .int .i64 l.length, fv, Lv], .agg (encOp o).toArray] w (RefPost w fv Lv room r) := by
  obtain ⟨q, i, v⟩ := o
  subst hr
  by_cases h0 : q = 0
  · subst h0; exact do_put hi hL R i v rfl
  by_cases h4 : q = 4
  · subst h4; exact do_reset hi hL R i v
  unfold arDo
  simp only [h0, h4, if_false]
  by_cases hq : q < 0 ∨ 4 < q
  · have h1 : q ≠ 1 := by omega
    have h2 : q ≠ 2 := by omega
    have h3 : q ≠ 3 := by omega
    cases ht : thing l i with
    | none => exact do_out hi hL R q i v hq
    | some u => simp only [h1, h2, h3, if_false]; exact do_out hi hL R q i v hq
  cases ht : thing l i with
  | none => exact do_no hi hL R q i v h0 h4 (by omega) (by omega) ht
  | some u =>
    obtain ⟨k, rfl, hk⟩ := thing_some ht
    simp only []
    by_cases h1 : q = 1
    · subst h1; exact do_get hi hL R v hk
    by_cases h2 : q = 2
    · subst h2; exact do_set hi hL R v hk
    obtain rfl : q = 3 := by omega
    exact do_free hi hL R v hk
end
end Go.Proofs.Bo
