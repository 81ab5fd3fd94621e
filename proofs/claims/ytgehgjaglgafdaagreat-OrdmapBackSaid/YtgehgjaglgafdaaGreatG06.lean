import Derived.Test.YtgehgjaglgafdaaGreatG05
set_option linter.unusedVariables false
set_option linter.unusedSimpArgs false
namespace Go.Proofs.Bo
open Go Go.RowKit
def encRC (c : Cu) : List Value := [.bool c.on, .int .i64 c.s, .int .i64 c.a]
theorem find_get {k : Int} {l : List Sg} : (findI k l = -1 ∧ getS k l = none) ∨ ∃ (i : Nat) (s : Sg), findI k l = i ∧ l[i]? = some s ∧ getS k l = some s := by
 induction l with
 | nil => exact .inl ⟨rfl, rfl⟩
 | cons x l ih =>
  by_cases hx : ky x = k
  ·exact .inr ⟨0, x, by simp [findI, hx], rfl, by simp [getS, hx]⟩
  ·rcases ih with ⟨h1, h2⟩ | ⟨i, s, h1, h2, h3⟩
   ·exact .inl ⟨by simp [findI, hx, h1], by unfold getS at h2 ⊢; simp [hx, h2]⟩
   ·exact .inr ⟨i + 1, s, by simp [findI, hx, h1]; omega, by simpa using h2, by unfold getS at h3 ⊢; simp [hx, h3]⟩
theorem standR (o : Option Sg) (w : World) : Calls Tryz.prog 56 #[.agg (encS (oS o)).toArray, .bool o.isSome] w fun e w' => e = .returned (.tuple #[.agg (encRC (standC o)).toArray, .agg (ansL zSg o.isSome 0).toArray]) ∧ Mod (fun _ => False) w w' := by
 obtain ⟨w0, hw0, b0, M0⟩ := boxS w (oS o)
 obtain ⟨d0, e0⟩ := blkc b0
 have hw0z := blkl b0
 cases o with
 | none =>
  simp only [encS, oS, zSg, Option.getD_none, Option.isSome_none, encRC, standC, ansL] at *
  go_enter Tryz.func56, Tryz.ntmps56
  go_wp2_with fail
  exact ret_row2 w0.heap.size (w0.heap.size + 1) [.bool false, .int .i64 0, .int .i64 0] [.int .i64 0, .int .i64 0, .int .i64 0, .int .i64 0, .int .i64 0, .bool false, .int .i64 0] rfl rfl rfl (alloc2_0 _ _ _) (alloc2_1 _ _ _) Tryz.underlying71 rfl (by kernel_rfl) Tryz.underlying61 rfl (by kernel_rfl) rfl ⟨rfl, (M0.alloc _).alloc _⟩
 | some s =>
  obtain ⟨ls, la, hs, ha, sv⟩ := s
  simp only [encS, oS, zSg, Option.getD_some, Option.isSome_some, encRC, standC, ansL] at *
  go_enter Tryz.func56, Tryz.ntmps56
  go_wp2_with fail
  exact ret_row2 w0.heap.size (w0.heap.size + 1) [.bool true, .int .i64 ls, .int .i64 la] [.int .i64 0, .int .i64 0, .int .i64 0, .int .i64 0, .int .i64 0, .bool true, .int .i64 0] rfl rfl rfl (alloc2_0 _ _ _) (alloc2_1 _ _ _) Tryz.underlying71 rfl (by kernel_rfl) Tryz.underlying61 rfl (by kernel_rfl) rfl ⟨rfl, (M0.alloc _).alloc _⟩
def zRC : List Value := [.bool false, .int .i64 0, .int .i64 0]
def zAns : List Value := [.int .i64 0, .int .i64 0, .int .i64 0, .int .i64 0, .int .i64 0, .bool false, .int .i64 0]
structure D8 (w : World) (c : Cu) (o : Op8) (W : World) : Prop where
 b0 : W.heap[w.heap.size]? = some (.cells (encRC c).toArray 71 (0, 0))
 b1 : W.heap[w.heap.size + 1]? = some (.cells (encO8 o).toArray 59 (0, 0))
 b2 : W.heap[w.heap.size + 2]? = some (.cells zRC.toArray 71 (0, 0))
 b3 : W.heap[w.heap.size + 3]? = some (.cells zAns.toArray 61 (0, 0))
 M : Mod (fun _ => False) w W
theorem D8.mod {w W W' : World} {c : Cu} {o : Op8} (h : D8 w c o W) (m : Mod (fun _ => False) W W') : D8 w c o W' := ⟨m.heap h.b0 fun h => h, m.heap h.b1 fun h => h, m.heap h.b2 fun h => h, m.heap h.b3 fun h => h, h.M.trans' m⟩
theorem boxD8 (w : World) (c : Cu) (o : Op8) : ∃ w0, (((w.alloc (.cells (encRC c).toArray 71)).alloc (.cells (encO8 o).toArray 59)).alloc (.cells zRC.toArray 71)).alloc (.cells zAns.toArray 61) = w0 ∧ D8 w c o w0 ∧ w0.heap.size = w.heap.size + 4 := by
 refine ⟨_, rfl, ⟨((Mod.refl (fun _ => False) _).alloc _).heap (alloc3_0 _ _ _ _) fun h => h, ((Mod.refl (fun _ => False) _).alloc _).heap (alloc3_1 _ _ _ _) fun h => h, ((Mod.refl (fun _ => False) _).alloc _).heap (alloc3_2 _ _ _ _) fun h => h, ?_, ((((Mod.refl _ _).alloc _).alloc _).alloc _).alloc _⟩, by simp⟩
 have := alloc_0 (((w.alloc (.cells (encRC c).toArray 71)).alloc (.cells (encO8 o).toArray 59)).alloc (.cells zRC.toArray 71)) (.cells zAns.toArray 61)
 simpa using this
theorem ret_tcc {P : Program} {fn : Func} {R : Ending → World → Prop} {a : Act} {W : World} {p q r : Tmp} {ty ty' t t' : TypeId} {d d' : TypeDesc} (g g' : Nat) (us us' : List Value) (h : fn.results = #[.tmp r, .cell p ty, .cell q ty'])
  (hp : a.tmps.getD p undef = .pointer (some ⟨g, 0, none⟩)) (hq : a.tmps.getD q undef = .pointer (some ⟨g', 0, none⟩))
  (hg : W.heap[g]? = some (.cells us.toArray t (0, 0))) (hg' : W.heap[g']? = some (.cells us'.toArray t' (0, 0)))
  (hu : P.underlying ty = some d) (hd : (match d with | .struct _ | .array _ _ => true | _ => false) = true) (hi : (P.info? ty).map (·.size) = some us.length)
  (hu' : P.underlying ty' = some d') (hd' : (match d' with | .struct _ | .array _ _ => true | _ => false) = true) (hi' : (P.info? ty').map (·.size) = some us'.length)
  (hdf : a.defers = []) (hR : R (.returned (.tuple #[a.tmps.getD r undef, .agg us.toArray, .agg us'.toArray])) W) : bodyPost P fn R .ret a W := by
 refine bodyPost_ret (v := .tuple #[a.tmps.getD r undef, .agg us.toArray, .agg us'.toArray]) ?_ hdf hR
 have hp' : a.tmps[p]?.getD undef = .pointer (some ⟨g, 0, none⟩) := by simpa using hp
 have hq' : a.tmps[q]?.getD undef = .pointer (some ⟨g', 0, none⟩) := by simpa using hq
 simp [results, h, hp', hq', asAddr, run_loadVar_row W g t ty us.toArray (0, 0) d hg hu hd (by simpa using hi), run_loadVar_row W g' t' ty' us'.toArray (0, 0) d' hg' hu' hd' (by simpa using hi')]
theorem do8_end {w w0 w1 W : World} {v v' : Value} {L : List Sg} {c : Cu} {o : Op8} (D1 : D8 w c o w1) (R1 : RowV w1 v' L) (H : Hence w0 v v') (hv : ∀ k, v.ownBlock = some k → k < w.heap.size) (hz0 : w.heap.size + 4 ≤ w0.heap.size) (rc an : List Value) (h3 : rc.length = 3) (h7 : an.length = 7)
  (hW : W = (setL (setL w1 (w.heap.size + 1 + 1) 0 rc) (w.heap.size + 1 + 1 + 1) 0 an).drew ∨ W = (setL (setL w1 (w.heap.size + 1 + 1 + 1) 0 an) (w.heap.size + 1 + 1) 0 rc).drew) :
  W.heap[w.heap.size + 1 + 1]? = some (.cells rc.toArray 71 (0, 0)) ∧ W.heap[w.heap.size + 1 + 1 + 1]? = some (.cells an.toArray 61 (0, 0)) ∧ RowV W v' L ∧ Mod (fun _ => False) w W ∧ Hence w v v' := by
 have hne : ∀ k, v'.ownBlock = some k → ¬ (k = w.heap.size + 1 + 1 ∨ k = w.heap.size + 1 + 1 + 1) := fun k hk => by
  rcases H k hk with e | e
  ·have := hv k e; omega
  ·omega
 have hh : Hence w v v' := fun k hk => by
  rcases H k hk with e | e
  ·exact .inl e
  ·exact .inr (by omega)
 rcases hW with rfl | rfl
 ·have M : Mod (fun k => k = w.heap.size + 1 + 1 ∨ k = w.heap.size + 1 + 1 + 1) w1 (setL (setL w1 (w.heap.size + 1 + 1) 0 rc) (w.heap.size + 1 + 1 + 1) 0 an).drew := (setL_mod _ (.inl (.inr rfl)) _ _ _ (setL_mod _ (.inl (.inl rfl)) _ _ _ (Mod.refl _ _))).drew
  refine ⟨?_, setL_whole (cs := zAns) ((setL_heap _ _ _ _ _ (by omega)).trans D1.b3) (by rw [h7]; rfl), own_mod R1 M hne, (setL_mod _ (.inr (by omega)) _ _ _ (setL_mod _ (.inr (by omega)) _ _ _ D1.M)).drew, hh⟩
  exact (setL_heap _ _ _ _ _ (by omega)).trans (setL_whole (cs := zRC) D1.b2 (by rw [h3]; rfl))
 ·have M : Mod (fun k => k = w.heap.size + 1 + 1 ∨ k = w.heap.size + 1 + 1 + 1) w1 (setL (setL w1 (w.heap.size + 1 + 1 + 1) 0 an) (w.heap.size + 1 + 1) 0 rc).drew := (setL_mod _ (.inl (.inl rfl)) _ _ _ (setL_mod _ (.inl (.inr rfl)) _ _ _ (Mod.refl _ _))).drew
  refine ⟨setL_whole (cs := zRC) ((setL_heap _ _ _ _ _ (by omega)).trans D1.b2) (by rw [h3]; rfl), ?_, own_mod R1 M hne, (setL_mod _ (.inr (by omega)) _ _ _ (setL_mod _ (.inr (by omega)) _ _ _ D1.M)).drew, hh⟩
  exact (setL_heap _ _ _ _ _ (by omega)).trans (setL_whole (cs := zAns) D1.b3 (by rw [h7]; rfl))
theorem do8_ret {w w0 w1 W : World} {v v' : Value} {L : List Sg} {c : Cu} {o : Op8} {fn : Func} {a : Act} {RR : Ending → World → Prop} (D1 : D8 w c o w1) (R1 : RowV w1 v' L) (H : Hence w0 v v') (hv : ∀ k, v.ownBlock = some k → k < w.heap.size) (hz0 : w.heap.size + 4 ≤ w0.heap.size) (rc an : List Value) (h3 : rc.length = 3) (h7 : an.length = 7)
  (hf : fn.results = #[.tmp 8, .cell 9 71, .cell 10 61]) (t9 : a.tmps.getD 9 undef = .pointer (some ⟨w.heap.size + 1 + 1, 0, none⟩)) (t10 : a.tmps.getD 10 undef = .pointer (some ⟨w.heap.size + 1 + 1 + 1, 0, none⟩)) (t8 : a.tmps.getD 8 undef = v') (hdf : a.defers = [])
  (hW : W = (setL (setL w1 (w.heap.size + 1 + 1) 0 rc) (w.heap.size + 1 + 1 + 1) 0 an).drew ∨ W = (setL (setL w1 (w.heap.size + 1 + 1 + 1) 0 an) (w.heap.size + 1 + 1) 0 rc).drew)
  (hR : RowV W v' L → Mod (fun _ => False) w W → Hence w v v' → RR (.returned (.tuple #[v', .agg rc.toArray, .agg an.toArray])) W) : bodyPost Tryz.prog fn RR .ret a W := by
 obtain ⟨e1, e2, e3, e4, e5⟩ := do8_end D1 R1 H hv hz0 rc an h3 h7 hW
 refine ret_tcc _ _ rc an hf t9 t10 e1 e2 Tryz.underlying71 rfl (by rw [h3]; kernel_rfl) Tryz.underlying61 rfl (by rw [h7]; kernel_rfl) hdf ?_
 rw [t8]
 exact hR e3 e4 e5
def Do8P (w : World) (v : Value) (l : List Sg) (c : Cu) (room : Int) (o : Op8) (e : Ending) (w' : World) : Prop :=
 ∃ v', e = .returned (.tuple #[v', .agg (encRC (do8C o l c)).toArray, .agg (ans8 room o l c).toArray]) ∧ RowV w' v' (do8L room o l) ∧ Mod (fun _ => False) w w' ∧ Hence w v v'
section
variable {w : World} {v : Value} {l : List Sg}
set_option maxHeartbeats 1000000 in
theorem do8R012 (h : RowV w v l) (hr : Row l) (hlen : l.length ≤ 65536) (c : Cu) (room : Int) (o : Op8) (hf : fit64 o.s.la) (hk : o.k = 0 ∨ o.k = 1 ∨ o.k = 2) :
  Calls Tryz.prog 41 #[v, .agg (encRC c).toArray, .int .i64 room, .agg (encO8 o).toArray] w fun e w' => Do8P w v l c room o e w' := by
 obtain ⟨w0, hw0, D0, hz0⟩ := boxD8 w c o
 obtain ⟨c0, f0⟩ := blkc D0.b0
 obtain ⟨c1, f1⟩ := blkc D0.b1
 have hv : ∀ k, v.ownBlock = some k → k < w.heap.size := fun k hk => own_lt h hk
 have h' := h.keep D0.M
 have P1 := doR h' hr hlen room o.six hf
 obtain ⟨v1, v2, v3, e1, e2, e3⟩ : ∃ v1 v2 v3, do8C o l c = v1 ∧ ans8 room o l c = v2 ∧ do8L room o l = v3 := ⟨_, _, _, rfl, rfl, rfl⟩
 have g1 : v1 = c := by subst e1; unfold do8C; rcases hk with hk | hk | hk <;> simp [hk]
 have g2 : v2 = ansL zSg (do6B o.six l) (do6E room o.six l) := by
  subst e2; unfold ans8 do8S do8B do8E oS; rcases hk with hk | hk | hk <;> simp [hk]
 unfold Do8P
 rw [e1, e2, e3]
 subst g1 g2 e3
 clear e1 e2
 obtain ⟨k, n, ls, la, hs, ha, sv⟩ := o
 dsimp only at hk
 simp only [encO8, encRC, zRC, zAns, Op8.six, encO6, do8L, ansL, zSg] at *
 replace D0 := hid D0
 replace hz0 := hid hz0
 replace hv := hid hv
 clear h h' hr hlen hf
 rcases hk with rfl | rfl | rfl
 all_goals
  go_enter Tryz.func41, Tryz.ntmps41
  go_wp2_with fail
  refine P1.mono ?_
  rintro e w1 ⟨v', rfl, R1, M1, H1⟩
  have D1 := D0.out.mod M1
  obtain ⟨c0, f0⟩ := blkc D1.b0
  obtain ⟨c2, f2⟩ := blkc D1.b2
  obtain ⟨c3, f3⟩ := blkc D1.b3
  simp only [encRC, zRC, zAns] at c0 c2 c3
  replace D1 := hid D1
  go_wp2_with fail
  go_region
 all_goals
  go_wp2_with fail
  have hz4 := Nat.le_of_eq hz0.out.symm
  exact do8_ret D1.out R1 H1 hv.out hz4 [.bool v1.on, .int .i64 v1.s, .int .i64 v1.a] [.int .i64 0, .int .i64 0, .int .i64 0, .int .i64 0, .int .i64 0, .bool _, .int .i64 _] rfl rfl rfl rfl rfl rfl rfl (by first | exact Or.inl rfl | exact Or.inr rfl) (fun r m h => ⟨v', rfl, r, m, h⟩)
def whichK (k : Int) : Bool × Bool := if k = 3 then (true, true) else if k = 4 then (true, false) else (false, false)
set_option maxHeartbeats 1000000 in
theorem do8R3 (h : RowV w v l) (hr : Row l) (hlen : l.length ≤ 65536) (c : Cu) (room : Int) (o : Op8) (hf : fit64 o.s.la) (hk : o.k = 3) :
  Calls Tryz.prog 41 #[v, .agg (encRC c).toArray, .int .i64 room, .agg (encO8 o).toArray] w fun e w' => Do8P w v l c room o e w' := by
 obtain ⟨w0, hw0, D0, hz0⟩ := boxD8 w c o
 obtain ⟨c1, f1⟩ := blkc D0.b1
 have hv : ∀ k, v.ownBlock = some k → k < w.heap.size := fun k hk => own_lt h hk
 have h' := h.keep D0.M
 have P1 : Calls Tryz.prog 22 #[v, .agg #[.int .i64 o.s.ls, .int .i64 o.s.la], .int .i64 2] w0 _ := nearR true true h' hr hlen o.s.ls o.s.la hf
 obtain ⟨v1, v2, v3, e1, e2, e3⟩ : ∃ v1 v2 v3, do8C o l c = v1 ∧ ans8 room o l c = v2 ∧ do8L room o l = v3 := ⟨_, _, _, rfl, rfl, rfl⟩
 have g1 : v1 = standC (nearS true true (kx o.s.ls o.s.la) l) := by subst e1; simp [do8C, hk, ky]
 have g2 : v2 = ansL zSg (nearS true true (kx o.s.ls o.s.la) l).isSome 0 := by
  subst e2; simp [ans8, do8S, do8B, do8E, oS, hk, ky, Op8.six, do6E]
 have g3 : v3 = l := by subst e3; simp [do8L, do6L, Op8.six, hk]
 unfold Do8P
 rw [e1, e2, e3]
 rw [g3]
 subst g1 g2
 clear e1 e2 e3 g3
 obtain ⟨k, n, ls, la, hs, ha, sv⟩ := o
 dsimp only at hk P1
 subst hk
 generalize nearS true true (kx ls la) l = q at P1 ⊢
 simp only [encO8, encRC, zRC, zAns, ansL, zSg] at *
 replace D0 := hid D0
 replace hz0 := hid hz0
 replace hv := hid hv
 replace h' := hid h'
 clear h hr hlen hf
 unfold optS at P1
 go_enter Tryz.func41, Tryz.ntmps41
 go_wp2_with fail
 refine P1.mono ?_
 rintro e w1 ⟨rfl, M1⟩
 have P2 := standR q w1
 simp only [encS, encRC, ansL, zSg] at P2
 go_wp2_with fail
 refine P2.mono ?_
 rintro e w2 ⟨rfl, M2⟩
 have D2 := (D0.out.mod M1).mod M2
 have R2 := (h'.out.keep M1).keep M2
 clear P1 P2 c1 f1
 have M3 := ((Mod.refl (fun _ => False) w2).alloc (.cells (encRC (standC q)).toArray 71)).alloc (.cells (ansL zSg q.isSome 0).toArray 61)
 have D3 := D2.mod M3
 have R3 := R2.keep M3
 obtain ⟨c2, f2⟩ := blkc D3.b2
 obtain ⟨c3, f3⟩ := blkc D3.b3
 obtain ⟨c4, f4⟩ := blkc (alloc2_0 w2 (.cells (encRC (standC q)).toArray 71) (.cells (ansL zSg q.isSome 0).toArray 61))
 obtain ⟨c5, f5⟩ := blkc (alloc2_1 w2 (.cells (encRC (standC q)).toArray 71) (.cells (ansL zSg q.isSome 0).toArray 61))
 simp only [encRC, zRC, zAns, ansL, zSg] at c2 c3 c4 c5 f2 f3 f4 f5 D3 R3
 have hz2 : w.heap.size + 4 ≤ w2.heap.size := by have := hz0.out; have := M1.size; have := M2.size; omega
 replace D3 := hid D3
 replace R3 := hid R3
 go_wp2_with fail
 obtain ⟨⟨n1, n2, n3, n4⟩, n5, n6, n7, n8⟩ : (w2.heap.size ≠ w.heap.size + 1 + 1 ∧ w2.heap.size ≠ w.heap.size + 1 + 1 + 1 ∧ w2.heap.size + 1 ≠ w.heap.size + 1 + 1 ∧ w2.heap.size + 1 ≠ w.heap.size + 1 + 1 + 1) ∧ w.heap.size + 1 + 1 ≠ w2.heap.size ∧ w.heap.size + 1 + 1 + 1 ≠ w2.heap.size ∧ w.heap.size + 1 + 1 ≠ w2.heap.size + 1 ∧ w.heap.size + 1 + 1 + 1 ≠ w2.heap.size + 1 := by omega
 clear hz2 M1 M2 M3 D2 R2 hw0
 generalize e3 : (w2.alloc _).alloc _ = W3 at *
 generalize w2.heap.size + 1 = x5 at *
 generalize w2.heap.size = x4 at *
 clear e3
 go_region
 all_goals
  go_wp2_with fail
  have hz4 := Nat.le_of_eq hz0.out.symm
  exact do8_ret D3.out R3.out (Hence.refl _ _) hv.out hz4 [.bool _, .int .i64 _, .int .i64 _] [.int .i64 0, .int .i64 0, .int .i64 0, .int .i64 0, .int .i64 0, .bool _, .int .i64 0] rfl rfl rfl rfl rfl rfl rfl (by first | exact Or.inl rfl | exact Or.inr rfl) (fun r m h => ⟨v, rfl, r, m, h⟩)
set_option maxHeartbeats 1000000 in
theorem do8R4off (h : RowV w v l) (hr : Row l) (hlen : l.length ≤ 65536) (c : Cu) (hc : fit64 c.a) (room : Int) (o : Op8) (hf : fit64 o.s.la) (hk : o.k = 4) (hon : c.on = false) :
  Calls Tryz.prog 41 #[v, .agg (encRC c).toArray, .int .i64 room, .agg (encO8 o).toArray] w fun e w' => Do8P w v l c room o e w' := by
 obtain ⟨w0, hw0, D0, hz0⟩ := boxD8 w c o
 obtain ⟨c1, f1⟩ := blkc D0.b1
 obtain ⟨c0, f0⟩ := blkc D0.b0
 have hv : ∀ k, v.ownBlock = some k → k < w.heap.size := fun k hk => own_lt h hk
 have h' := h.keep D0.M
 obtain ⟨v1, v2, v3, e1, e2, e3⟩ : ∃ v1 v2 v3, do8C o l c = v1 ∧ ans8 room o l c = v2 ∧ do8L room o l = v3 := ⟨_, _, _, rfl, rfl, rfl⟩
 have g1 : v1 = c := by subst e1; simp [do8C, hk, curC, hon]
 have g2 : v2 = ansL zSg false 0 := by subst e2; simp [ans8, do8S, do8B, do8E, oS, hk, hon, Op8.six, do6E]
 have g3 : v3 = l := by subst e3; simp [do8L, do6L, Op8.six, hk]
 unfold Do8P
 rw [e1, e2, e3, g1, g2, g3]
 clear e1 e2 e3 g1 g2 g3 v1 v2 v3
 obtain ⟨k, n, ls, la, hs, ha, sv⟩ := o
 dsimp only at hk
 subst hk
 obtain ⟨con, cs, ca⟩ := c
 dsimp only at hon
 subst hon
 simp only [encO8, encRC, zRC, zAns, ansL, zSg] at *
 replace D0 := hid D0
 replace hz0 := hid hz0
 replace hv := hid hv
 replace h' := hid h'
 clear h hr hlen hf hc
 have D1 := D0.out
 obtain ⟨c2, f2⟩ := blkc D1.b2
 obtain ⟨c3, f3⟩ := blkc D1.b3
 simp only [encRC, zRC, zAns] at c2 c3
 replace D1 := hid D1
 go_enter Tryz.func41, Tryz.ntmps41
 go_wp2_with fail
 go_region
 all_goals
  go_wp2_with fail
  have hz4 := Nat.le_of_eq hz0.out.symm
  exact do8_ret D1.out h'.out (Hence.refl _ _) hv.out hz4 [.bool _, .int .i64 _, .int .i64 _] [.int .i64 _, .int .i64 _, .int .i64 _, .int .i64 _, .int .i64 _, .bool _, .int .i64 _] rfl rfl rfl rfl rfl rfl rfl (by first | exact Or.inl rfl | exact Or.inr rfl) (fun r m h => ⟨v, rfl, r, m, h⟩)
set_option maxHeartbeats 1000000 in
theorem do8R4on (h : RowV w v l) (hr : Row l) (hlen : l.length ≤ 65536) (c : Cu) (hc : fit64 c.a) (room : Int) (o : Op8) (hf : fit64 o.s.la) (hk : o.k = 4) (hon : c.on = true) :
  Calls Tryz.prog 41 #[v, .agg (encRC c).toArray, .int .i64 room, .agg (encO8 o).toArray] w fun e w' => Do8P w v l c room o e w' := by
 obtain ⟨w0, hw0, D0, hz0⟩ := boxD8 w c o
 obtain ⟨c1, f1⟩ := blkc D0.b1
 obtain ⟨c0, f0⟩ := blkc D0.b0
 have hv : ∀ k, v.ownBlock = some k → k < w.heap.size := fun k hk => own_lt h hk
 have h' := h.keep D0.M
 have P1 : Calls Tryz.prog 22 #[v, .agg #[.int .i64 c.s, .int .i64 c.a], .int .i64 3] w0 _ := nearR true false h' hr hlen c.s c.a hc
 obtain ⟨v1, v2, v3, e1, e2, e3⟩ : ∃ v1 v2 v3, do8C o l c = v1 ∧ ans8 room o l c = v2 ∧ do8L room o l = v3 := ⟨_, _, _, rfl, rfl, rfl⟩
 have g1 : v1 = standC (nearS true false (kx c.s c.a) l) := by subst e1; simp [do8C, hk, curC, hon, Cu.key]
 have g2 : v2 = ansL zSg (nearS true false (kx c.s c.a) l).isSome 0 := by
  subst e2; simp [ans8, do8S, do8B, do8E, oS, hk, hon, Cu.key, Op8.six, do6E]
 have g3 : v3 = l := by subst e3; simp [do8L, do6L, Op8.six, hk]
 unfold Do8P
 rw [e1, e2, e3, g1, g2, g3]
 clear e1 e2 e3 g1 g2 g3 v1 v2 v3
 obtain ⟨k, n, ls, la, hs, ha, sv⟩ := o
 obtain ⟨con, cs, ca⟩ := c
 dsimp only at hk hon P1 ⊢
 subst hk hon
 generalize nearS true false (kx cs ca) l = q at P1 ⊢
 simp only [encO8, encRC, zRC, zAns, ansL, zSg] at *
 replace D0 := hid D0
 replace hz0 := hid hz0
 replace hv := hid hv
 replace h' := hid h'
 clear h hr hlen hf hc
 unfold optS at P1
 go_enter Tryz.func41, Tryz.ntmps41
 go_wp2_with fail
 refine P1.mono ?_
 rintro e w1 ⟨rfl, M1⟩
 have P2 := standR q w1
 simp only [encS, encRC, ansL, zSg] at P2
 go_wp2_with fail
 refine P2.mono ?_
 rintro e w2 ⟨rfl, M2⟩
 have D2 := (D0.out.mod M1).mod M2
 have R2 := (h'.out.keep M1).keep M2
 clear P1 P2 c1 f1
 have M3 := ((Mod.refl (fun _ => False) w2).alloc (.cells (encRC (standC q)).toArray 71)).alloc (.cells (ansL zSg q.isSome 0).toArray 61)
 have D3 := D2.mod M3
 have R3 := R2.keep M3
 obtain ⟨c2, f2⟩ := blkc D3.b2
 obtain ⟨c3, f3⟩ := blkc D3.b3
 obtain ⟨c4, f4⟩ := blkc (alloc2_0 w2 (.cells (encRC (standC q)).toArray 71) (.cells (ansL zSg q.isSome 0).toArray 61))
 obtain ⟨c5, f5⟩ := blkc (alloc2_1 w2 (.cells (encRC (standC q)).toArray 71) (.cells (ansL zSg q.isSome 0).toArray 61))
 simp only [encRC, zRC, zAns, ansL, zSg] at c2 c3 c4 c5 f2 f3 f4 f5 D3 R3
 have hz2 : w.heap.size + 4 ≤ w2.heap.size := by have := hz0.out; have := M1.size; have := M2.size; omega
 replace D3 := hid D3
 replace R3 := hid R3
 go_wp2_with fail
 obtain ⟨⟨n1, n2, n3, n4⟩, n5, n6, n7, n8⟩ : (w2.heap.size ≠ w.heap.size + 1 + 1 ∧ w2.heap.size ≠ w.heap.size + 1 + 1 + 1 ∧ w2.heap.size + 1 ≠ w.heap.size + 1 + 1 ∧ w2.heap.size + 1 ≠ w.heap.size + 1 + 1 + 1) ∧ w.heap.size + 1 + 1 ≠ w2.heap.size ∧ w.heap.size + 1 + 1 + 1 ≠ w2.heap.size ∧ w.heap.size + 1 + 1 ≠ w2.heap.size + 1 ∧ w.heap.size + 1 + 1 + 1 ≠ w2.heap.size + 1 := by omega
 clear hz2 M1 M2 M3 D2 R2 hw0
 generalize e3 : (w2.alloc _).alloc _ = W3 at *
 generalize w2.heap.size + 1 = x5 at *
 generalize w2.heap.size = x4 at *
 clear e3
 go_region
 all_goals
  go_wp2_with fail
  have hz4 := Nat.le_of_eq hz0.out.symm
  exact do8_ret D3.out R3.out (Hence.refl _ _) hv.out hz4 [.bool _, .int .i64 _, .int .i64 _] [.int .i64 0, .int .i64 0, .int .i64 0, .int .i64 0, .int .i64 0, .bool _, .int .i64 0] rfl rfl rfl rfl rfl rfl rfl (by first | exact Or.inl rfl | exact Or.inr rfl) (fun r m h => ⟨v, rfl, r, m, h⟩)
set_option maxHeartbeats 1000000 in
theorem do8R5off (h : RowV w v l) (hr : Row l) (hlen : l.length ≤ 65536) (c : Cu) (hc : fit64 c.a) (room : Int) (o : Op8) (hf : fit64 o.s.la) (hk : o.k = 5) (hon : c.on = false) :
  Calls Tryz.prog 41 #[v, .agg (encRC c).toArray, .int .i64 room, .agg (encO8 o).toArray] w fun e w' => Do8P w v l c room o e w' := by
 obtain ⟨w0, hw0, D0, hz0⟩ := boxD8 w c o
 obtain ⟨c1, f1⟩ := blkc D0.b1
 obtain ⟨c0, f0⟩ := blkc D0.b0
 have hv : ∀ k, v.ownBlock = some k → k < w.heap.size := fun k hk => own_lt h hk
 have h' := h.keep D0.M
 obtain ⟨v1, v2, v3, e1, e2, e3⟩ : ∃ v1 v2 v3, do8C o l c = v1 ∧ ans8 room o l c = v2 ∧ do8L room o l = v3 := ⟨_, _, _, rfl, rfl, rfl⟩
 have g1 : v1 = c := by subst e1; simp [do8C, hk, curC, hon]
 have g2 : v2 = ansL zSg false 0 := by subst e2; simp [ans8, do8S, do8B, do8E, oS, hk, hon, Op8.six, do6E]
 have g3 : v3 = l := by subst e3; simp [do8L, do6L, Op8.six, hk]
 unfold Do8P
 rw [e1, e2, e3, g1, g2, g3]
 clear e1 e2 e3 g1 g2 g3 v1 v2 v3
 obtain ⟨k, n, ls, la, hs, ha, sv⟩ := o
 dsimp only at hk
 subst hk
 obtain ⟨con, cs, ca⟩ := c
 dsimp only at hon
 subst hon
 simp only [encO8, encRC, zRC, zAns, ansL, zSg] at *
 replace D0 := hid D0
 replace hz0 := hid hz0
 replace hv := hid hv
 replace h' := hid h'
 clear h hr hlen hf hc
 have D1 := D0.out
 obtain ⟨c2, f2⟩ := blkc D1.b2
 obtain ⟨c3, f3⟩ := blkc D1.b3
 simp only [encRC, zRC, zAns] at c2 c3
 replace D1 := hid D1
 go_enter Tryz.func41, Tryz.ntmps41
 go_wp2_with fail
 go_region
 all_goals
  go_wp2_with fail
  have hz4 := Nat.le_of_eq hz0.out.symm
  exact do8_ret D1.out h'.out (Hence.refl _ _) hv.out hz4 [.bool _, .int .i64 _, .int .i64 _] [.int .i64 _, .int .i64 _, .int .i64 _, .int .i64 _, .int .i64 _, .bool _, .int .i64 _] rfl rfl rfl rfl rfl rfl rfl (by first | exact Or.inl rfl | exact Or.inr rfl) (fun r m h => ⟨v, rfl, r, m, h⟩)
set_option maxHeartbeats 1000000 in
theorem do8R5on (h : RowV w v l) (hr : Row l) (hlen : l.length ≤ 65536) (c : Cu) (hc : fit64 c.a) (room : Int) (o : Op8) (hf : fit64 o.s.la) (hk : o.k = 5) (hon : c.on = true) :
  Calls Tryz.prog 41 #[v, .agg (encRC c).toArray, .int .i64 room, .agg (encO8 o).toArray] w fun e w' => Do8P w v l c room o e w' := by
 obtain ⟨w0, hw0, D0, hz0⟩ := boxD8 w c o
 obtain ⟨c1, f1⟩ := blkc D0.b1
 obtain ⟨c0, f0⟩ := blkc D0.b0
 have hv : ∀ k, v.ownBlock = some k → k < w.heap.size := fun k hk => own_lt h hk
 have h' := h.keep D0.M
 have P1 : Calls Tryz.prog 22 #[v, .agg #[.int .i64 c.s, .int .i64 c.a], .int .i64 1] w0 _ := nearR false false h' hr hlen c.s c.a hc
 obtain ⟨v1, v2, v3, e1, e2, e3⟩ : ∃ v1 v2 v3, do8C o l c = v1 ∧ ans8 room o l c = v2 ∧ do8L room o l = v3 := ⟨_, _, _, rfl, rfl, rfl⟩
 have g1 : v1 = standC (nearS false false (kx c.s c.a) l) := by subst e1; simp [do8C, hk, curC, hon, Cu.key]
 have g2 : v2 = ansL zSg (nearS false false (kx c.s c.a) l).isSome 0 := by
  subst e2; simp [ans8, do8S, do8B, do8E, oS, hk, hon, Cu.key, Op8.six, do6E]
 have g3 : v3 = l := by subst e3; simp [do8L, do6L, Op8.six, hk]
 unfold Do8P
 rw [e1, e2, e3, g1, g2, g3]
 clear e1 e2 e3 g1 g2 g3 v1 v2 v3
 obtain ⟨k, n, ls, la, hs, ha, sv⟩ := o
 obtain ⟨con, cs, ca⟩ := c
 dsimp only at hk hon P1 ⊢
 subst hk hon
 generalize nearS false false (kx cs ca) l = q at P1 ⊢
 simp only [encO8, encRC, zRC, zAns, ansL, zSg] at *
 replace D0 := hid D0
 replace hz0 := hid hz0
 replace hv := hid hv
 replace h' := hid h'
 clear h hr hlen hf hc
 unfold optS at P1
 go_enter Tryz.func41, Tryz.ntmps41
 go_wp2_with fail
 refine P1.mono ?_
 rintro e w1 ⟨rfl, M1⟩
 have P2 := standR q w1
 simp only [encS, encRC, ansL, zSg] at P2
 go_wp2_with fail
 refine P2.mono ?_
 rintro e w2 ⟨rfl, M2⟩
 have D2 := (D0.out.mod M1).mod M2
 have R2 := (h'.out.keep M1).keep M2
 clear P1 P2 c1 f1
 have M3 := ((Mod.refl (fun _ => False) w2).alloc (.cells (encRC (standC q)).toArray 71)).alloc (.cells (ansL zSg q.isSome 0).toArray 61)
 have D3 := D2.mod M3
 have R3 := R2.keep M3
 obtain ⟨c2, f2⟩ := blkc D3.b2
 obtain ⟨c3, f3⟩ := blkc D3.b3
 obtain ⟨c4, f4⟩ := blkc (alloc2_0 w2 (.cells (encRC (standC q)).toArray 71) (.cells (ansL zSg q.isSome 0).toArray 61))
 obtain ⟨c5, f5⟩ := blkc (alloc2_1 w2 (.cells (encRC (standC q)).toArray 71) (.cells (ansL zSg q.isSome 0).toArray 61))
 simp only [encRC, zRC, zAns, ansL, zSg] at c2 c3 c4 c5 f2 f3 f4 f5 D3 R3
 have hz2 : w.heap.size + 4 ≤ w2.heap.size := by have := hz0.out; have := M1.size; have := M2.size; omega
 replace D3 := hid D3
 replace R3 := hid R3
 go_wp2_with fail
 obtain ⟨⟨n1, n2, n3, n4⟩, n5, n6, n7, n8⟩ : (w2.heap.size ≠ w.heap.size + 1 + 1 ∧ w2.heap.size ≠ w.heap.size + 1 + 1 + 1 ∧ w2.heap.size + 1 ≠ w.heap.size + 1 + 1 ∧ w2.heap.size + 1 ≠ w.heap.size + 1 + 1 + 1) ∧ w.heap.size + 1 + 1 ≠ w2.heap.size ∧ w.heap.size + 1 + 1 + 1 ≠ w2.heap.size ∧ w.heap.size + 1 + 1 ≠ w2.heap.size + 1 ∧ w.heap.size + 1 + 1 + 1 ≠ w2.heap.size + 1 := by omega
 clear hz2 M1 M2 M3 D2 R2 hw0
 generalize e3 : (w2.alloc _).alloc _ = W3 at *
 generalize w2.heap.size + 1 = x5 at *
 generalize w2.heap.size = x4 at *
 clear e3
 go_region
 all_goals
  go_wp2_with fail
  have hz4 := Nat.le_of_eq hz0.out.symm
  exact do8_ret D3.out R3.out (Hence.refl _ _) hv.out hz4 [.bool _, .int .i64 _, .int .i64 _] [.int .i64 0, .int .i64 0, .int .i64 0, .int .i64 0, .int .i64 0, .bool _, .int .i64 0] rfl rfl rfl rfl rfl rfl rfl (by first | exact Or.inl rfl | exact Or.inr rfl) (fun r m h => ⟨v, rfl, r, m, h⟩)
set_option maxHeartbeats 1000000 in
theorem do8R6no (h : RowV w v l) (hr : Row l) (hlen : l.length ≤ 65536) (c : Cu) (hc : fit64 c.a) (room : Int) (o : Op8) (hf : fit64 o.s.la) (hk : o.k = 6) (hno : c.on = false ∨ getS c.key l = none) :
  Calls Tryz.prog 41 #[v, .agg (encRC c).toArray, .int .i64 room, .agg (encO8 o).toArray] w fun e w' => Do8P w v l c room o e w' := by
 obtain ⟨w0, hw0, D0, hz0⟩ := boxD8 w c o
 obtain ⟨c1, f1⟩ := blkc D0.b1
 obtain ⟨c0, f0⟩ := blkc D0.b0
 have hv : ∀ k, v.ownBlock = some k → k < w.heap.size := fun k hk => own_lt h hk
 have h' := h.keep D0.M
 have P1 := findR h' hr hlen c.s c.a hc
 obtain ⟨v1, v2, v3, e1, e2, e3⟩ : ∃ v1 v2 v3, do8C o l c = v1 ∧ ans8 room o l c = v2 ∧ do8L room o l = v3 := ⟨_, _, _, rfl, rfl, rfl⟩
 have g1 : v1 = c := by subst e1; simp [do8C, hk]
 have g2 : v2 = ansL zSg false 0 := by subst e2; simp [ans8, do8S, do8B, do8E, oS, hk, Op8.six, do6E]; rcases hno with hno | hno <;> simp [hno]
 have g3 : v3 = l := by subst e3; simp [do8L, do6L, Op8.six, hk]
 unfold Do8P
 rw [e1, e2, e3, g1, g2, g3]
 clear e1 e2 e3 g1 g2 g3 v1 v2 v3
 obtain ⟨k, n, ls, la, hs, ha, sv⟩ := o
 obtain ⟨con, cs, ca⟩ := c
 dsimp only at hk
 subst hk
 have hx : con = false ∨ (con = true ∧ findI (kx cs ca) l = -1) := by
  cases con
  ·exact .inl rfl
  ·rcases hno with hno | hno
   ·cases hno
   ·rcases find_get (k := kx cs ca) (l := l) with ⟨e1, e2⟩ | ⟨i, s, e1, e2, e3⟩
    ·exact .inr ⟨rfl, e1⟩
    ·unfold Cu.key at hno; dsimp only at hno; rw [hno] at e3; cases e3
 clear hno
 simp only [encO8, encRC, zRC, zAns, ansL, zSg] at *
 replace D0 := hid D0
 replace hz0 := hid hz0
 replace hv := hid hv
 replace h' := hid h'
 clear h hr hlen hf hc
 rcases hx with rfl | ⟨rfl, hx⟩
 all_goals
  first | rw [hx] at P1 | skip
  go_enter Tryz.func41, Tryz.ntmps41
  go_wp2_with fail
  refine P1.mono ?_
  rintro e w1 ⟨rfl, M1⟩
  have D1 := D0.out.mod M1
  obtain ⟨c0, f0⟩ := blkc D1.b0
  obtain ⟨c2, f2⟩ := blkc D1.b2
  obtain ⟨c3, f3⟩ := blkc D1.b3
  simp only [encRC, zRC, zAns] at c0 c2 c3
  have h1 := h'.out.keep M1
  replace D1 := hid D1
  replace h1 := hid h1
  go_wp2_with fail
  go_region
 all_goals
  go_wp2_with fail
  have hz4 := Nat.le_of_eq hz0.out.symm
  exact do8_ret D1.out h1.out (Hence.refl _ _) hv.out hz4 [.bool _, .int .i64 _, .int .i64 _] [.int .i64 _, .int .i64 _, .int .i64 _, .int .i64 _, .int .i64 _, .bool _, .int .i64 _] rfl rfl rfl rfl rfl rfl rfl (by first | exact Or.inl rfl | exact Or.inr rfl) (fun r m h => ⟨v, rfl, r, m, h⟩)
set_option maxRecDepth 100000 in
set_option maxHeartbeats 1000000 in
theorem do8R6yes (h : RowV w v l) (hr : Row l) (hlen : l.length ≤ 65536) (c : Cu) (hc : fit64 c.a) (room : Int) (o : Op8) (hf : fit64 o.s.la) (hk : o.k = 6) (hon : c.on = true) (s : Sg) (hs : getS c.key l = some s) :
  Calls Tryz.prog 41 #[v, .agg (encRC c).toArray, .int .i64 room, .agg (encO8 o).toArray] w fun e w' => Do8P w v l c room o e w' := by
 obtain ⟨w0, hw0, D0, hz0⟩ := boxD8 w c o
 obtain ⟨c1, f1⟩ := blkc D0.b1
 obtain ⟨c0, f0⟩ := blkc D0.b0
 have hv : ∀ k, v.ownBlock = some k → k < w.heap.size := fun k hk => own_lt h hk
 have h' := h.keep D0.M
 have P1 := findR h' hr hlen c.s c.a hc
 obtain ⟨v1, v2, v3, e1, e2, e3⟩ : ∃ v1 v2 v3, do8C o l c = v1 ∧ ans8 room o l c = v2 ∧ do8L room o l = v3 := ⟨_, _, _, rfl, rfl, rfl⟩
 have g1 : v1 = c := by subst e1; simp [do8C, hk]
 have g2 : v2 = ansL s true 0 := by subst e2; simp [ans8, do8S, do8B, do8E, oS, hk, hon, hs, Op8.six, do6E]
 have g3 : v3 = l := by subst e3; simp [do8L, do6L, Op8.six, hk]
 unfold Do8P
 rw [e1, e2, e3, g1, g2, g3]
 clear e1 e2 e3 g1 g2 g3 v1 v2 v3
 obtain ⟨k, n, ls, la, hs, ha, sv⟩ := o
 obtain ⟨con, cs, ca⟩ := c
 dsimp only at hk hon
 subst hk hon
 obtain ⟨i, hi, e1, e2⟩ : ∃ i : Nat, ∃ hi : i < l.length, findI (kx cs ca) l = i ∧ l[i] = s := by
  rcases find_get (k := kx cs ca) (l := l) with ⟨e1, e2⟩ | ⟨i, x, e1, e2, e3⟩
  ·unfold Cu.key at hs; dsimp only at hs; rw [hs] at e2; cases e2
  ·unfold Cu.key at hs; dsimp only at hs
   rw [hs] at e3; cases e3
   obtain ⟨hi, e4⟩ := List.getElem?_eq_some_iff.1 e2
   exact ⟨i, hi, e1, e4⟩
 rw [e1] at P1
 obtain ⟨A, cap, rfl, hA⟩ := h'.slice
 obtain ⟨g, rfl⟩ := hA (by omega)
 have hib : (i : Int) < l.length := by omega
 have hcs := fun (w' : World) (M : Mod (fun _ => False) w0 w') => (h'.keep M).cells hi
 rw [e2] at hcs
 replace hcs := hid hcs
 clear hs e1 e2 hA
 obtain ⟨xs, xa, xh, xg, xv⟩ := s
 simp only [encO8, encRC, zRC, zAns, ansL, zSg] at *
 replace D0 := hid D0
 replace hz0 := hid hz0
 replace hv := hid hv
 replace h' := hid h'
 clear h hr hlen hf hc
 go_enter Tryz.func41, Tryz.ntmps41
 go_wp2_with fail
 refine P1.mono ?_
 rintro e w1 ⟨rfl, M1⟩
 have D1 := D0.out.mod M1
 obtain ⟨c0, f0⟩ := blkc D1.b0
 obtain ⟨c2, f2⟩ := blkc D1.b2
 obtain ⟨c3, f3⟩ := blkc D1.b3
 simp only [encRC, zRC, zAns] at c0 c2 c3
 have h1 := h'.out.keep M1
 have hg : g < w.heap.size := hv.out g rfl
 obtain ⟨t1, t2, t3, t4, t5⟩ := hcs.out w1 M1
 obtain ⟨n1, n2, n3, n4⟩ : g ≠ w.heap.size + 1 + 1 ∧ g ≠ w.heap.size + 1 + 1 + 1 ∧ w.heap.size + 1 + 1 ≠ g ∧ w.heap.size + 1 + 1 + 1 ≠ g := by omega
 clear hg
 replace D1 := hid D1
 replace h1 := hid h1
 go_wp2_with fail
 go_region
 all_goals
  go_wp2_with fail
  have hz4 := Nat.le_of_eq hz0.out.symm
  exact do8_ret D1.out h1.out (Hence.refl _ _) hv.out hz4 [.bool _, .int .i64 _, .int .i64 _] [.int .i64 _, .int .i64 _, .int .i64 _, .int .i64 _, .int .i64 _, .bool _, .int .i64 _] rfl rfl rfl rfl rfl rfl rfl (by first | exact Or.inl rfl | exact Or.inr rfl) (fun r m h => ⟨_, rfl, r, m, h⟩)
set_option maxHeartbeats 1000000 in
theorem do8R7no (h : RowV w v l) (hr : Row l) (hlen : l.length ≤ 65536) (c : Cu) (hc : fit64 c.a) (room : Int) (o : Op8) (hf : fit64 o.s.la) (hk : o.k = 7) (hn : rightD o.n = false) :
  Calls Tryz.prog 41 #[v, .agg (encRC c).toArray, .int .i64 room, .agg (encO8 o).toArray] w fun e w' => Do8P w v l c room o e w' := by
 obtain ⟨w0, hw0, D0, hz0⟩ := boxD8 w c o
 obtain ⟨c1, f1⟩ := blkc D0.b1
 obtain ⟨c0, f0⟩ := blkc D0.b0
 have hv : ∀ k, v.ownBlock = some k → k < w.heap.size := fun k hk => own_lt h hk
 have h' := h.keep D0.M
 obtain ⟨v1, v2, v3, e1, e2, e3⟩ : ∃ v1 v2 v3, do8C o l c = v1 ∧ ans8 room o l c = v2 ∧ do8L room o l = v3 := ⟨_, _, _, rfl, rfl, rfl⟩
 have g1 : v1 = c := by subst e1; simp [do8C, hk]
 have g2 : v2 = ansL zSg false 1 := by subst e2; simp [ans8, do8S, do8B, do8E, oS, hk, hn, Op8.six, do6B]
 have g3 : v3 = l := by subst e3; simp [do8L, do6L, Op8.six, hk]
 unfold Do8P
 rw [e1, e2, e3, g1, g2, g3]
 clear e1 e2 e3 g1 g2 g3 v1 v2 v3
 obtain ⟨k, n, ls, la, hs, ha, sv⟩ := o
 dsimp only at hk hn
 subst hk
 have P1 := fun w => right8R n 0 w
 rw [hn] at P1
 rw [show (false && (decide ((0 : Int) ≤ 0) && decide ((0 : Int) ≤ 4096))) = false from rfl] at P1
 replace P1 := hid P1
 simp only [encO8, encRC, zRC, zAns, ansL, zSg] at *
 replace D0 := hid D0
 replace hz0 := hid hz0
 replace hv := hid hv
 replace h' := hid h'
 clear h hr hlen hf hc
 have D1 := D0.out
 obtain ⟨c2, f2⟩ := blkc D1.b2
 obtain ⟨c3, f3⟩ := blkc D1.b3
 simp only [encRC, zRC, zAns] at c2 c3
 replace D1 := hid D1
 go_enter Tryz.func41, Tryz.ntmps41
 go_wp2_with fail
 refine (P1.out _).mono ?_
 rintro e w1 ⟨rfl, hw⟩
 rw [hw]; clear hw
 go_wp2_with fail
 go_region
 all_goals
  go_wp2_with fail
  have hz4 := Nat.le_of_eq hz0.out.symm
  exact do8_ret D1.out h'.out (Hence.refl _ _) hv.out hz4 [.bool _, .int .i64 _, .int .i64 _] [.int .i64 _, .int .i64 _, .int .i64 _, .int .i64 _, .int .i64 _, .bool _, .int .i64 _] rfl rfl rfl rfl rfl rfl rfl (by first | exact Or.inl rfl | exact Or.inr rfl) (fun r m h => ⟨v, rfl, r, m, h⟩)
set_option maxHeartbeats 1000000 in
theorem do8R7yes (h : RowV w v l) (hr : Row l) (hlen : l.length ≤ 65536) (c : Cu) (hc : fit64 c.a) (room : Int) (o : Op8) (hf : fit64 o.s.la) (hk : o.k = 7) (hn : rightD o.n = true) :
  Calls Tryz.prog 41 #[v, .agg (encRC c).toArray, .int .i64 room, .agg (encO8 o).toArray] w fun e w' => Do8P w v l c room o e w' := by
 obtain ⟨w0, hw0, D0, hz0⟩ := boxD8 w c o
 obtain ⟨c1, f1⟩ := blkc D0.b1
 obtain ⟨c0, f0⟩ := blkc D0.b0
 have hv : ∀ k, v.ownBlock = some k → k < w.heap.size := fun k hk => own_lt h hk
 have h' := h.keep D0.M
 obtain ⟨v1, v2, v3, e1, e2, e3⟩ : ∃ v1 v2 v3, do8C o l c = v1 ∧ ans8 room o l c = v2 ∧ do8L room o l = v3 := ⟨_, _, _, rfl, rfl, rfl⟩
 have g1 : v1 = c := by subst e1; simp [do8C, hk]
 have g2 : v2 = ansL zSg false 0 := by subst e2; simp [ans8, do8S, do8B, do8E, oS, hk, hn, Op8.six, do6B]
 have g3 : v3 = l := by subst e3; simp [do8L, do6L, Op8.six, hk]
 unfold Do8P
 rw [e1, e2, e3, g1, g2, g3]
 clear e1 e2 e3 g1 g2 g3 v1 v2 v3
 obtain ⟨k, n, ls, la, hs, ha, sv⟩ := o
 dsimp only at hk hn
 subst hk
 have P1 := fun w => right8R n 0 w
 rw [hn] at P1
 rw [show (true && (decide ((0 : Int) ≤ 0) && decide ((0 : Int) ≤ 4096))) = true from rfl] at P1
 replace P1 := hid P1
 simp only [encO8, encRC, zRC, zAns, ansL, zSg] at *
 replace D0 := hid D0
 replace hz0 := hid hz0
 replace hv := hid hv
 replace h' := hid h'
 clear h hr hlen hf hc
 have D1 := D0.out
 obtain ⟨c2, f2⟩ := blkc D1.b2
 obtain ⟨c3, f3⟩ := blkc D1.b3
 simp only [encRC, zRC, zAns] at c2 c3
 replace D1 := hid D1
 go_enter Tryz.func41, Tryz.ntmps41
 go_wp2_with fail
 refine (P1.out _).mono ?_
 rintro e w1 ⟨rfl, hw⟩
 rw [hw]; clear hw
 go_wp2_with fail
 go_region
 all_goals
  go_wp2_with fail
  have hz4 := Nat.le_of_eq hz0.out.symm
  exact do8_ret D1.out h'.out (Hence.refl _ _) hv.out hz4 [.bool _, .int .i64 _, .int .i64 _] [.int .i64 _, .int .i64 _, .int .i64 _, .int .i64 _, .int .i64 _, .bool _, .int .i64 _] rfl rfl rfl rfl rfl rfl rfl (by first | exact Or.inl rfl | exact Or.inr rfl) (fun r m h => ⟨v, rfl, r, m, h⟩)
set_option maxHeartbeats 1000000 in
theorem do8Rx (h : RowV w v l) (hr : Row l) (hlen : l.length ≤ 65536) (c : Cu) (hc : fit64 c.a) (room : Int) (o : Op8) (hf : fit64 o.s.la) (hk : o.k ≠ 0 ∧ o.k ≠ 1 ∧ o.k ≠ 2 ∧ o.k ≠ 3 ∧ o.k ≠ 4 ∧ o.k ≠ 5 ∧ o.k ≠ 6 ∧ o.k ≠ 7) :
  Calls Tryz.prog 41 #[v, .agg (encRC c).toArray, .int .i64 room, .agg (encO8 o).toArray] w fun e w' => Do8P w v l c room o e w' := by
 obtain ⟨w0, hw0, D0, hz0⟩ := boxD8 w c o
 obtain ⟨c1, f1⟩ := blkc D0.b1
 obtain ⟨c0, f0⟩ := blkc D0.b0
 have hv : ∀ k, v.ownBlock = some k → k < w.heap.size := fun k hk => own_lt h hk
 have h' := h.keep D0.M
 obtain ⟨k0, k1, k2, k3, k4, k5, k6, k7⟩ := hk
 obtain ⟨v1, v2, v3, e1, e2, e3⟩ : ∃ v1 v2 v3, do8C o l c = v1 ∧ ans8 room o l c = v2 ∧ do8L room o l = v3 := ⟨_, _, _, rfl, rfl, rfl⟩
 have g1 : v1 = c := by subst e1; simp [do8C, k3, k4, k5]
 have g2 : v2 = ansL zSg false 0 := by subst e2; simp [ans8, do8S, do8B, do8E, oS, k0, k1, k3, k4, k5, k6, k7, Op8.six, do6B, do6E]
 have g3 : v3 = l := by subst e3; simp [do8L, do6L, Op8.six, k0, k1, k2]
 unfold Do8P
 rw [e1, e2, e3, g1, g2, g3]
 clear e1 e2 e3 g1 g2 g3 v1 v2 v3
 obtain ⟨k, n, ls, la, hs, ha, sv⟩ := o
 dsimp only at k0 k1 k2 k3 k4 k5 k6 k7
 simp only [encO8, encRC, zRC, zAns, ansL, zSg] at *
 replace D0 := hid D0
 replace hz0 := hid hz0
 replace hv := hid hv
 replace h' := hid h'
 clear h hr hlen hf hc
 have D1 := D0.out
 obtain ⟨c2, f2⟩ := blkc D1.b2
 obtain ⟨c3, f3⟩ := blkc D1.b3
 simp only [encRC, zRC, zAns] at c2 c3
 replace D1 := hid D1
 go_enter Tryz.func41, Tryz.ntmps41
 go_wp2_with fail
 go_region
 all_goals
  go_wp2_with fail
  have hz4 := Nat.le_of_eq hz0.out.symm
  exact do8_ret D1.out h'.out (Hence.refl _ _) hv.out hz4 [.bool _, .int .i64 _, .int .i64 _] [.int .i64 _, .int .i64 _, .int .i64 _, .int .i64 _, .int .i64 _, .bool _, .int .i64 _] rfl rfl rfl rfl rfl rfl rfl (by first | exact Or.inl rfl | exact Or.inr rfl) (fun r m h => ⟨v, rfl, r, m, h⟩)
theorem do8R (h : RowV w v l) (hr : Row l) (hlen : l.length ≤ 65536) (c : Cu) (hc : fit64 c.a) (room : Int) (o : Op8) (hf : fit64 o.s.la) :
  Calls Tryz.prog 41 #[v, .agg (encRC c).toArray, .int .i64 room, .agg (encO8 o).toArray] w fun e w' => Do8P w v l c room o e w' := by
 by_cases h0 : o.k = 0 ∨ o.k = 1 ∨ o.k = 2
 ·exact do8R012 h hr hlen c room o hf h0
 by_cases h3 : o.k = 3
 ·exact do8R3 h hr hlen c room o hf h3
 by_cases h4 : o.k = 4
 ·cases hon : c.on
  ·exact do8R4off h hr hlen c hc room o hf h4 hon
  ·exact do8R4on h hr hlen c hc room o hf h4 hon
 by_cases h5 : o.k = 5
 ·cases hon : c.on
  ·exact do8R5off h hr hlen c hc room o hf h5 hon
  ·exact do8R5on h hr hlen c hc room o hf h5 hon
 by_cases h6 : o.k = 6
 ·cases hon : c.on
  ·exact do8R6no h hr hlen c hc room o hf h6 (.inl hon)
  ·cases hs : getS c.key l with
   | none => exact do8R6no h hr hlen c hc room o hf h6 (.inr hs)
   | some s => exact do8R6yes h hr hlen c hc room o hf h6 hon s hs
 by_cases h7 : o.k = 7
 ·cases hn : rightD o.n
  ·exact do8R7no h hr hlen c hc room o hf h7 hn
  ·exact do8R7yes h hr hlen c hc room o hf h7 hn
 exact do8Rx h hr hlen c hc room o hf ⟨fun e => h0 (.inl e), fun e => h0 (.inr (.inl e)), fun e => h0 (.inr (.inr e)), h3, h4, h5, h6, h7⟩
end
end Go.Proofs.Bo
