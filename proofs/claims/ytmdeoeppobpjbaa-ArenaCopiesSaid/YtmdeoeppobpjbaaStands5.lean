import Derived.Test.YtmdeoeppobpjbaaRefDo
import Derived.Test.YtmdeoeppobpjbaaEachI
import Derived.Test.YtmdeoeppobpjbaaQTail
import Derived.Test.YtmdeoeppobpjbaaL5Stops
import Derived.Deep.QuietTactic
import Derived.BigQuiet
set_option linter.unusedVariables false
namespace Go.Proofs.Bo
open Go Go.RowKit

theorem items_spec {α : Type} : ∀ (l : List (Option α)) (b : Nat) (x : Nat × α), x ∈ items b l → b ≤ x.1 ∧ l[x.1 - b]? = some (some x.2)
  | [], _, _, h => by simp [items] at h
  | none :: l, b, x, h => by
    obtain ⟨h1, h2⟩ := items_spec l (b + 1) x h
    refine ⟨by omega, ?_⟩
    rw [show x.1 - b = (x.1 - (b + 1)) + 1 by omega]; simpa using h2
  | some v :: l, b, x, h => by
    simp only [items, List.mem_cons] at h
    rcases h with rfl | h
    · simp
    · obtain ⟨h1, h2⟩ := items_spec l (b + 1) x h
      refine ⟨by omega, ?_⟩
      rw [show x.1 - b = (x.1 - (b + 1)) + 1 by omega]; simpa using h2
theorem items_sorted {α : Type} : ∀ (l : List (Option α)) (b : Nat), (items b l).Pairwise fun x y => x.1 < y.1
  | [], _ => .nil
  | none :: l, b => items_sorted l (b + 1)
  | some v :: l, b => .cons (fun y hy => by have := (items_spec l (b + 1) y hy).1; simp only []; omega) (items_sorted l (b + 1))

def lastOf (pre : List (Nat × Int)) : Int := match pre.getLast? with | none => -1 | some x => x.1
theorem lastOf_push (pre : List (Nat × Int)) (x : Nat × Int) : lastOf (pre ++ [x]) = x.1 := by simp [lastOf]
theorem items_next {l : List (Option Int)} {pre rest : List (Nat × Int)} {x : Nat × Int} (h : items 0 l = pre ++ x :: rest) : lastOf pre < x.1 ∧ l[x.1]? = some (some x.2) := by
  have hs := items_sorted l 0
  rw [h, List.pairwise_append] at hs
  refine ⟨?_, by have := items_spec l 0 x (by rw [h]; simp); simpa using this.2⟩
  unfold lastOf
  split
  · omega
  · rename_i y hy
    have := hs.2.2 y (List.mem_of_getLast? hy) x (by simp)
    omega

/-- Between two rounds of 'stands'. -/
def StI (nb tb : Nat) (W1 : World) : List (Nat × Int) → (Nat → Prop) → World → Prop := fun pre G W =>
  (∀ j, G j ↔ (j = nb ∨ j = tb)) ∧ W.heap[nb]? = some (.cells #[.int .i64 pre.length] 3 (0, 0)) ∧ W.heap[tb]? = some (.cells #[.int .i64 (lastOf pre)] 3 (0, 0)) ∧
    (∀ j, j < W1.heap.size → j ≠ nb → j ≠ tb → W.heap[j]? = W1.heap[j]?) ∧ Mod (fun j => j = nb ∨ j = tb) W1 W
theorem StI.stab {nb tb : Nat} {W1 : World} : Stab W1.heap.size (StI nb tb W1) := by
  rintro s G W W' T ⟨g1, g2, g3, g4, g5⟩ m t
  exact ⟨g1, m.heap g2 (fun h => (t _ h).2 ((g1 _).2 (.inl rfl))), m.heap g3 (fun h => (t _ h).2 ((g1 _).2 (.inr rfl))), fun j hj h1 h2 => (m.block j (Nat.lt_of_lt_of_le hj g5.size) (fun h => by have := (t _ h).1; omega)).trans (g4 j hj h1 h2), g5.trans m fun j h => .inr (t _ h).1⟩

theorem StI.step {a : Act} {nb tb : Nat} {W1 W W2 : World} {pre : List (Nat × Int)} {G : Nat → Prop} {x : Nat × Int} (hne : nb ≠ tb) (h1 : nb < W1.heap.size) (h2 : tb < W1.heap.size) (h : StI nb tb W1 pre G W) (m : Mod (fun _ => False) W W2) :
    roundEnd (StI nb tb W1) (fun _ _ _ _ => False) (pre ++ [x]) G W .normal a ((W2.setCell ⟨tb, 0, none⟩ (.int .i64 x.1)).setCell ⟨nb, 0, none⟩ (.int .i64 ((pre.length : Int) + 1))) := by
  obtain ⟨g1, g2, g3, g4, g5⟩ := h
  have z2 := g5.size
  have z3 := m.size
  have n2 := m.heap g2 fun h => h
  have n3 := m.heap g3 fun h => h
  have M : Mod (fun j => j = nb ∨ j = tb) W ((W2.setCell ⟨tb, 0, none⟩ (.int .i64 x.1)).setCell ⟨nb, 0, none⟩ (.int .i64 ((pre.length : Int) + 1))) := ((m.mono fun _ h => h.elim).setCell (.inl (.inr rfl)) _).setCell (.inl (.inl rfl)) _
  refine ⟨G, fun k hk => ⟨.inl hk, ?_⟩, M.mono fun k h => .inl ((g1 k).2 h), g1, ?_, ?_, fun j hj e1 e2 => ?_, g5.trans M fun j h => .inl h⟩
  · have : ∀ u v, ((W2.setCell ⟨tb, 0, none⟩ u).setCell ⟨nb, 0, none⟩ v).heap.size = W2.heap.size := fun u v => by simp
    rw [this]
    rcases (g1 k).1 hk with rfl | rfl <;> omega
  · have := one_setCell (w := W2.setCell ⟨tb, 0, none⟩ (.int .i64 x.1)) (b := nb) (u := .int .i64 ((pre.length : Int) + 1)) ((heap_set_ne (p := ⟨tb, 0, none⟩) hne).trans n2)
    rw [this]; simp
  · rw [lastOf_push]
    exact (heap_set_ne (p := ⟨nb, 0, none⟩) (Ne.symm hne)).trans (one_setCell n3)
  · exact (heap_set_ne (p := ⟨nb, 0, none⟩) e1).trans ((heap_set_ne (p := ⟨tb, 0, none⟩) e2).trans ((m.block j (by omega) fun h => h).trans (g4 j hj e1 e2)))

/-- The end of a function whose one result is a bool in memory. -/
theorem res_bool {P : Program} {fn : Func} {tmps : Array Value} {W : World} {p : Tmp} {ty : TypeId} (g : Nat) (v : Value) (h : fn.results = #[.cell p ty]) (hp : tmps.getD p undef = .pointer (some ⟨g, 0, none⟩))
    (hg : W.cell? ⟨g, 0, none⟩ = some v) (hu : P.underlying ty = some .bool) : (results fn tmps).run P W = .ok v W := by
  have hp' : tmps[p]?.getD undef = .pointer (some ⟨g, 0, none⟩) := by simpa using hp
  have hl : (Sem.load .plain ⟨g, 0, none⟩ Sem.pure).run P W = .ok v W := by
    have := run_load (P := P) (w := W) ⟨g, 0, none⟩ .plain
    rw [hg] at this
    exact this
  simp [results, h, hp', asAddr, loadVar, isAgg, run_underlying hu, load, hl, go_sem]

section
variable {w : World} {ab : Nat} {lv av fv Lv : Value} {room : Int} {l : List (Option Int)} {free L : List Int}

attribute [local go_sem] Oper.semAt_some

/-- The blocks that 'stands' lays ahead. -/
structure BoxS (w W4 : World) (a b c d : Value) : Prop where
  b0 : W4.heap[w.heap.size]? = some (.cells #[a, b, c, d] 48 (0, 0))
  b1 : W4.heap[w.heap.size + 1]? = some (.cells #[.bool false] 4 (0, 0))
  b2 : W4.heap[w.heap.size + 1 + 1]? = some (.cells #[.int .i64 0] 3 (0, 0))
  b3 : W4.heap[w.heap.size + 1 + 1 + 1]? = some (.cells #[.int .i64 (-1)] 3 (0, 0))
  M : Mod (fun _ => False) w W4
  sz : W4.heap.size = w.heap.size + 4
theorem BoxS.ex (w : World) (a b c d : Value) : ∃ W4, (((w.alloc (.cells #[a, b, c, d] 48)).alloc (.cells #[.bool false] 4)).alloc (.cells #[.int .i64 0] 3)).alloc (.cells #[.int .i64 (-1)] 3) = W4 ∧ BoxS w W4 a b c d :=
  ⟨_, rfl, (Below.heap_alloc _ _ _ (by simp; omega)).trans (alloc3_0 _ _ _ _), (Below.heap_alloc _ _ _ (by simp)).trans (alloc3_1 _ _ _ _), (Below.heap_alloc _ _ _ (by simp)).trans (alloc3_2 _ _ _ _), by
    have := heap_alloc_new (((w.alloc (.cells #[a, b, c, d] 48)).alloc (.cells #[.bool false] 4)).alloc (.cells #[.int .i64 0] 3)) (.cells #[.int .i64 (-1)] 3)
    simpa using this, ((((Mod.refl _ _).alloc _).alloc _).alloc _).alloc _, by simp⟩

set_option maxHeartbeats 2000000 in
theorem stands5 (A0 : ArI w ab lv av room l free) (hL : Rel L l) (R : RV w fv Lv free L) :
    Calls Try.prog 20 #[.pointer (some ⟨ab, 0, none⟩), .agg #[.int .i64 room, .int .i64 l.length, fv, Lv]] w fun e w' => e = .returned (.bool true) ∧ Mod (fun _ => False) w w' := by
  have hi := A0.inv
  obtain ⟨A, c, rfl, hA⟩ := own_slice R.f
  obtain ⟨A', c', rfl, hA'⟩ := own_slice R.l
  obtain ⟨W4, hW4, B⟩ := BoxS.ex w (.int .i64 room) (.int .i64 l.length) (.slice A free.length c) (.slice A' L.length c')
  have hF : ∀ j, Foot ab lv av j → j < w.heap.size := fun j hj => A0.lt hj
  have hR : ∀ j, RF (.slice A free.length c) (.slice A' L.length c') j → j < w.heap.size := fun j hj => R.lt hj
  refine calls_of_wp_marks Try.func20 rfl ?_
  simp only [Try.ntmps20, List.size_toArray, List.length_cons, List.length_nil, Nat.reduceAdd, Nat.reduceSub, Array.replicate_succ, Array.replicate_zero, List.push_toArray, List.append_toArray, List.nil_append, List.cons_append]
  go_wp2_with fail
  refine (eachI _ _).mono ?_
  rintro e W1 ⟨rfl, hW1⟩
  have m1 : Mod (fun _ => False) W4 W1 := by rw [hW1]; exact (Mod.refl _ _).alloc _
  have hsz1 : W1.heap.size = w.heap.size + 5 := by rw [hW1]; simp [B.sz]
  have hcl : W1.heap[w.heap.size + 4]? = some (.cells #[.pointer (some ⟨ab, 0, none⟩)] 23 (0, 0)) := by rw [hW1, ← B.sz]; exact alloc_0 _ _
  have b0 := m1.heap B.b0 fun h => h
  have b1 := m1.heap B.b1 fun h => h
  have b2 := m1.heap B.b2 fun h => h
  have b3 := m1.heap B.b3 fun h => h
  have M1 : Mod (fun _ => False) w W1 := B.M.trans' m1
  have A5 : ArI W1 ab lv av room l free := A0.mod M1 fun _ _ h => h
  have hBs := B.sz
  clear hW1 hW4 m1 A0
  rw [hBs]
  clear B hBs
  go_wp2_with fail
  refine wp_range' (gf := 26) (lb := #[.pointer (some ⟨w.heap.size + 4, 0, none⟩)]) rfl (enters_of Try.func26 (by kernel_rfl) rfl) (eachI_iter A5 hcl) (Mod.refl _ _) (fun _ => rfl)
    (fun j => j = w.heap.size + 1 + 1 ∨ j = w.heap.size + 1 + 1 + 1) (fun j hj => by omega) (fun j hj h => by rcases hj with hj | hj; omega; have := hF j hj; omega) (fun j hj => by rcases hj with rfl | hj; omega; have := hF j hj; omega)
    (StI (w.heap.size + 1 + 1) (w.heap.size + 1 + 1 + 1) W1) (fun c pre G W => False)
    StI.stab (fun c s G W W' T h m t => h.elim) ⟨fun _ => Iff.rfl, b2, b3, fun _ _ _ _ => rfl, Mod.refl _ _⟩ ?body ?done ?stop
  case stop => exact fun c pre G W _ h => h.elim
  case body =>
    apply Exists.intro
    constructor
    · intro yl x W K hK
      gi_wp2_with fail
      simp [encIV]
      exact hK
    · intro yl pre x rest G W hx hI hg
      obtain ⟨g1, g2, g3, g4, g5⟩ := hI
      obtain ⟨hx1, hx2⟩ := items_next hx
      obtain ⟨dn, en⟩ := blkc g2
      obtain ⟨dt, et⟩ := blkc g3
      have B0 := (g4 w.heap.size (by omega) (by omega) (by omega)).trans b0
      obtain ⟨d0, e0⟩ := blkc B0
      have RW : RV W (.slice A free.length c) (.slice A' L.length c') free L := (R.mod0 M1).mod g5 fun j hj h => by have := hR j hj; omega
      have P := refIs hi RW x.1
      have hle : decide ((x.1 : Int) ≤ lastOf pre) = false := by simp; omega
      have hti : (thing l (x.1 : Int)).isSome = true := by unfold thing; simp [hx2]
      rw [hti] at P
      have hLx := hL.at_ _ _ hx2
      have hxl := (List.getElem?_eq_some_iff.1 hLx).1
      obtain ⟨lb, rfl⟩ := hA'.2.2 (by omega)
      have hpl : pre.length < 65536 := by have := congrArg List.length hx; have := A5.inv.count; have := A5.flen; simp at *; omega
      have hLs : L.length ≤ 65536 := by have := hL.len; have := hi.lr; have := hi.room1; omega
      have hx' := hid hx
      have hx1' := hid hx1
      have hx2' := hid hx2
      clear hx hx1 hx2
      gi_wp2_with fail
      refine ⟨trivial, rfl, (callsIn_wide.2 (P.mono ?_)).inRound yl⟩
      rintro e W2 ⟨rfl, m2⟩
      clear P dn en dt et d0 e0 hle
      have n2 := m2.heap g2 fun h => h
      have n3 := m2.heap g3 fun h => h
      obtain ⟨dn, en⟩ := blkc n2
      obtain ⟨dt, et⟩ := blkc n3
      obtain ⟨d0, e0⟩ := blkc (m2.heap B0 fun h => h)
      have cl := (own_cell (own_mod RW.l m2 fun _ _ h => h) (j := x.1) (u := .int .i64 x.2) (by simp [hLx])).1
      gi_wp2_with fail
      exact StI.step (x := x) (by omega) (by omega) (by omega) ⟨g1, g2, g3, g4, g5⟩ m2
  case done =>
    intro G W hI hg hk
    obtain ⟨g1, g2, g3, g4, g5⟩ := hI
    obtain ⟨dn, en⟩ := blkc g2
    obtain ⟨d0, e0⟩ := blkc ((g4 w.heap.size (by omega) (by omega) (by omega)).trans b0)
    obtain ⟨d1, e1⟩ := blkc ((g4 (w.heap.size + 1) (by omega) (by omega) (by omega)).trans b1)
    have A6 : ArI W ab lv av room l free := A5.mod g5 fun j hj h => by have := hF j hj; omega
    have LN := fun n => lenI (A6.drewN n)
    have RM := fun n => roomI (A6.drewN n)
    have hcn := hid A5.inv.count
    have hb1 : (((items 0 l).length : Int) == (l.length : Int) - free.length) = true := by have := A5.inv.count; simp; omega
    have hb2 : ((l.length : Int) - free.length == ((items 0 l).length : Int)) = true := by have := A5.inv.count; simp; omega
    have hfl := A5.flen
    clear A5 hcl b0 b2 b3 g3 hF hR
    go_wp2_with fail
    refine wp_region_quiet_tail 21 (by kernel_rfl) (by kernel_rfl) ?_
    simp only [List.take_succ_cons, List.take_zero, List.drop_succ_cons, List.drop_zero]
    repeat (any_goals (first | go_big_quiet_step ((first | (go_at_call 14; exact Calls.quiet_of (LN _)) | (go_at_call 28; exact Calls.quiet_of_same (RM _)))) | quiet_step ((first | (go_at_call 14; exact Calls.quiet_of (LN _)) | (go_at_call 28; exact Calls.quiet_of_same (RM _))))))
    refine wpQuiet_nil ?_
    rintro W6 ⟨nq, rfl⟩
    go_wp2_with fail
    have hF1 : Mod (fun _ => False) w ((W.drewN nq).setCell ⟨w.heap.size + 1, 0, none⟩ (.bool true)) := ((M1.trans g5 fun j h => .inr (by omega)).drewN nq).setCell (.inr (by simp only []; omega)) _
    have hkk : ((W.drewN nq).setCell ⟨w.heap.size + 1, 0, none⟩ (.bool true)).heap[W1.heap.size]? = some (.deferred (some [])) := (heap_set_ne (p := ⟨w.heap.size + 1, 0, none⟩) (by simp only []; omega)).trans hk
    have hres : ((W.drewN nq).setCell ⟨w.heap.size + 1, 0, none⟩ (.bool true)).heap[w.heap.size + 1]? = some (.cells #[.bool true] 4 (0, 0)) := one_setCell ((g4 (w.heap.size + 1) (by omega) (by omega) (by omega)).trans b1)
    refine retM1 (D := W1.heap.size) (v := .bool true) hkk rfl (res_bool (w.heap.size + 1) _ rfl rfl ?_ Try.underlying4) ⟨rfl, hF1.trans (mod_put1 _ _ _) fun j h => by subst h; exact .inr (by omega)⟩
    have := (World.putObj_heap_other (o := .deferred none) (w := (W.drewN nq).setCell ⟨w.heap.size + 1, 0, none⟩ (.bool true)) (r := W1.heap.size) (k := w.heap.size + 1) (by omega)).trans hres
    exact (blkc this).1 0
end
end Go.Proofs.Bo
