import Derived.Test.YtniemignjlanaaaMade6
import Derived.Test.YtniemignjlanaaaBoG
import Derived.Test.YtniemignjlanaaaRoundQ
set_option linter.unusedVariables false
namespace Go.Proofs.Bo
open Go Go.RowKit Go.Shelf

/-- The counter's block. -/
def CntR (nb : Nat) (f : Nat → Int) (R : Nat → Prop) : List Sg → World → Prop := fun pre W => W.heap[nb]? = some (.cells #[.int .i64 (f pre.length)] 3 (0, 0)) ∧ R pre.length
theorem CntR.looks {nb : Nat} {f : Nat → Int} {R : Nat → Prop} : Looks (fun j => j = nb) (CntR nb f R) := fun pre W W' h hk => ⟨(hk nb rfl).trans h.1, h.2⟩

/-- The world in which the two loops begin: the stop's box, the result's cell. -/
theorem box1b (w : World) (x y : Value) (t u : TypeId) : ∃ w0, (w.alloc (.cells #[x] t)).alloc (.cells #[y] u) = w0 ∧ w0.heap[w.heap.size]? = some (.cells #[x] t (0, 0)) ∧ w0.heap[w.heap.size + 1]? = some (.cells #[y] u (0, 0)) ∧ Mod (fun _ => False) w w0 ∧ w0.heap.size = w.heap.size + 2 :=
  ⟨_, rfl, alloc2_0 _ _ _, alloc2_1 _ _ _, ((Mod.refl _ _).alloc _).alloc _, by simp⟩

section
attribute [local go_sem] Oper.semAt_some
set_option maxHeartbeats 4000000 in
set_option maxRecDepth 100000 in
theorem down6 (room : Int) (a : Option Addr) (len cap : Nat) (zs : List Op6) (stop : Int) (w : World) (_ : (Lit.int .i64 room).wf = true) (hr : RdS encO6 6 w a len zs) (hG : ∀ z ∈ zs, GOp6 z) (hl : len * 48 ≤ 140737488351232) (hs : (Lit.int .i64 stop).wf = true) :
    Calls Try.prog 5 #[.int .i64 room, .slice a len cap, .int .i64 stop] w fun e w' => e = .returned (.bool true) ∧ Below w.heap.size w w' := by
  obtain ⟨w0, hw0, b0, r0, M0, hz0⟩ := box1b w (.int .i64 stop) (.bool false) 3 4
  replace hr := hr.below (by decide) (M0.to_below (Nat.le_refl _) fun _ h => h.elim)
  have B0 : Below w.heap.size w w0 := M0.to_below (Nat.le_refl _) fun _ h => h.elim
  obtain ⟨dr, er⟩ := blkc r0
  replace hz0 := hid hz0
  by_cases hb : (room < 0 ∨ 4096 < room) ∨ 200 < len
  · refine calls_of_wp_marks Try.func5 rfl ?_
    simp only [Try.ntmps5, List.size_toArray, List.length_cons, List.length_nil, Nat.reduceAdd, Nat.reduceSub, Array.replicate_succ, Array.replicate_zero, List.push_toArray, List.append_toArray, List.nil_append, List.cons_append]
    go_wp2_with fail
    refine (madeZ_no room a len cap _ hb).mono ?_
    rintro e w1 ⟨rfl, B1⟩
    go_wp2_with fail
    refine (alive6 _).mono ?_
    rintro e w2 ⟨rfl, B2⟩
    have r2 := (B2.block _ (by simp; have := blkl r0; have := B1.size; omega)).trans ((Below.heap_alloc _ _ _ (Nat.lt_of_lt_of_le (blkl r0) B1.size)).trans ((B1.block _ (blkl r0)).trans r0))
    obtain ⟨d2, e2⟩ := blkc r2
    go_wp2_with fail
    have Ball : Below w0.heap.size w0 w2 := (B1.alloc B1.size _).trans (B2.mono (by simp; have := B1.size; omega))
    exact retM0 (res_bool (w.heap.size + 1) (.bool true) rfl rfl ((blkc (one_setCell r2)).1 0) Try.underlying4) rfl ⟨rfl, (B0.trans (Ball.mono B0.size)).setCell (by simp) _⟩
  have hr0 : 0 ≤ room := by omega
  have hrm : room ≤ 4096 := by omega
  have hle : len ≤ 200 := by omega
  clear hb
  refine calls_of_wp_marks Try.func5 rfl ?_
  simp only [Try.ntmps5, List.size_toArray, List.length_cons, List.length_nil, Nat.reduceAdd, Nat.reduceSub, Array.replicate_succ, Array.replicate_zero, List.push_toArray, List.append_toArray, List.nil_append, List.cons_append]
  go_wp2_with fail
  refine (madeZ room a len cap zs _ hr hG hr0 hrm hle).mono ?_
  rintro e w1 ⟨tb, v, L, rfl, F1⟩
  clear hr hG hl dr er
  obtain ⟨A, c, hv, hA⟩ := F1.2.1.slice
  subst hv
  have hbL := rb_bound F1.1
  have hv := fun k (hk : (Value.slice A L.length c).ownBlock = some k) => own_lt F1.2.1 hk
  obtain ⟨W2, hW2, b2, M2, hz2⟩ : ∃ W2, (w1.alloc (.cells #[.slice none 0 0] 28)).setCell ⟨w1.heap.size, 0, none⟩ (.slice A L.length c) = W2 ∧ W2.heap[w1.heap.size]? = some (.cells #[.slice A L.length c] 28 (0, 0)) ∧ Mod (fun _ => False) w1 W2 ∧ W2.heap.size = w1.heap.size + 1 :=
    ⟨_, rfl, one_setCell (alloc_0 _ _), ((Mod.refl _ _).alloc _).setCell (.inr (Nat.le_refl _)) _, by simp⟩
  obtain ⟨d2, e2⟩ := blkc b2
  obtain ⟨W3, hW3, b3, M3, hz3⟩ : ∃ W3, (W2.alloc (.cells #[.int .i64 0] 3)).setCell ⟨W2.heap.size, 0, none⟩ (.int .i64 L.length) = W3 ∧ W3.heap[W2.heap.size]? = some (.cells #[.int .i64 L.length] 3 (0, 0)) ∧ Mod (fun _ => False) W2 W3 ∧ W3.heap.size = W2.heap.size + 1 :=
    ⟨_, rfl, one_setCell (alloc_0 _ _), ((Mod.refl _ _).alloc _).setCell (.inr (Nat.le_refl _)) _, by simp⟩
  have a2 := (blkc (alloc_0 w1 (.cells #[.slice none 0 0] 28)))
  have a3 := (blkc (alloc_0 W2 (.cells #[.int .i64 0] 3)))
  obtain ⟨a4, a5⟩ := a2
  obtain ⟨a6, a7⟩ := a3
  have HD := downTZ W3 tb
  replace hz2 := hid hz2
  replace hz3 := hid hz3
  replace hbL := hid hbL
  go_wp2_with fail
  refine HD.mono ?_
  rintro e w4 ⟨rfl, hw4⟩
  have k1 : w4.heap[W3.heap.size]? = some (.cells #[.pointer (some ⟨tb, 0, none⟩)] 23 (0, 0)) := by rw [hw4]; exact alloc2_0 _ _ _
  have k2 : w4.heap[W3.heap.size + 1]? = some (.cells #[.int .i64 (di true)] 3 (0, 0)) := by rw [hw4]; exact alloc2_1 _ _ _
  have M4 : Mod (fun _ => False) W3 w4 := by rw [hw4]; exact ((Mod.refl _ _).alloc _).alloc _
  have hz4 : Hid (w4.heap.size = W3.heap.size + 2) := by rw [hw4]; show _ = _; simp [WalkW]
  clear hw4 HD hW2 hW3 d2 e2 a4 a5 a6 a7
  have M14 := (M2.trans' M3).trans' M4
  have F4 := F1.mod0 M14
  replace b0 := F4.2.2.2.heap b0 fun h => h
  replace r0 := F4.2.2.2.heap r0 fun h => h
  replace b2 := (M3.trans' M4).heap b2 fun h => h
  replace b3 := M4.heap b3 fun h => h
  have hRow := F4.2.1
  obtain ⟨ab, N, lv, fv, free, t, hT1, _, _, hL, hX⟩ := F1.1
  have hT := hT1.mod0 M14
  have IT := walk_iter true hT k1 k2
  have hTF : ∀ j, TF tb ab lv fv j → w0.heap.size ≤ j ∧ j < w1.heap.size := fun j hj => ⟨(hX j hj).1, hT1.lt hj⟩
  rw [hL] at IT
  change Iter _ _ _ _ L.reverse _ _ at IT
  obtain ⟨nb, hnb⟩ : ∃ nb, W2.heap.size = nb := ⟨_, rfl⟩
  obtain ⟨lb, hlb⟩ : ∃ lb, w1.heap.size = lb := ⟨_, rfl⟩
  rw [hnb, hlb] at hz2
  rw [hnb] at hz3 b3
  rw [hlb] at b2 hTF hv
  rw [hnb, hlb]
  have hw01 := F1.2.2.2.size
  rw [hlb] at hw01
  have hlt4 : nb + 3 = w4.heap.size ∧ lb + 1 = nb ∧ w.heap.size + 2 ≤ lb ∧ W3.heap.size = nb + 1 ∧ w1.heap.size = lb := by have := hz2.out; have := hz3.out; have := hz4.out; have := hz0.out; omega
  replace hlt4 := hid hlt4
  clear hz2 hz3 hz4 hnb hlb
  go_wp2_with fail
  refine wp_range1 (gf := 78) rfl (enters_of Try.func78 (by kernel_rfl) rfl) IT (fun _ => rfl)
    (fun j => j = nb) (fun j hj => by have := hlt4.out; have : j = nb := hj; omega) (fun j hj h => by have := hlt4.out; have h : j = nb := h; rcases hj with hj | hj | hj; omega; omega; have := hTF j hj; omega) (fun j hj => by have := hlt4.out; rcases hj with rfl | rfl | hj; omega; omega; have := hTF j hj; omega)
    (CntR nb (fun m => (L.length : Int) - m) (fun m => 0 < m → (m : Int) ≠ stop)) (fun c pre W => c = .exit 0 ∧ CntR nb (fun m => (L.length : Int) - m) (fun m => (m : Int) = stop) pre W)
    CntR.looks (fun c pre W W' h hk => ⟨h.1, CntR.looks _ _ _ h.2 hk⟩) ⟨by simpa using b3, by simp⟩
    (fun x => #[.int .i64 x.ls, .int .i64 x.la, .int .i64 x.hs, .int .i64 x.ha, .int .i64 x.v]) 36 ?body ?done ?stop
  case body =>
    apply Exists.intro
    constructor
    · intro yl x W KK hKK
      simp [encSV]
      gi_wp2_with fail
      generalize W.heap.size = b at hKK ⊢
      exact hKK
    · intro yl pre x rest b W hx hb hge hM hR
      obtain ⟨hR1, hR2⟩ := hR
      have hLx : L = rest.reverse ++ x :: pre.reverse := by have := congrArg List.reverse hx; simpa using this
      have hlen : L.length = pre.length + 1 + rest.length := by rw [hLx]; simp; omega
      have hq : rest.length < L.length := by omega
      have hLq : L[rest.length] = x := by subst hLx; simp
      have hgn := hlt4.out
      have RW : RowV W (.slice A L.length c) L := own_mod hRow hM fun k hk e => by have := hv k hk; have : k = nb := e; omega
      have w0b := hM.heap b0 (by omega)
      have w2b := hM.heap b2 (by omega)
      dsimp only at hR1
      rw [show (L.length : Int) - pre.length = (rest.length : Int) + 1 by omega] at hR1
      obtain ⟨g, rfl⟩ := hA (by omega)
      have hbn : b ≠ nb := by omega
      have hgnb : g ≠ nb := by have := hv g rfl; omega
      obtain ⟨t1, t2⟩ := blkc hR1
      obtain ⟨W', hW', m'⟩ : ∃ W', W.setCell ⟨nb, 0, none⟩ (.int .i64 rest.length) = W' ∧ Mod (fun j => j = nb) W W' := ⟨_, rfl, Mod.setCell (S := fun j => j = nb) (p := ⟨nb, 0, none⟩) (Mod.refl _ _) (.inl rfl) _⟩
      have nb' : W'.heap[nb]? = some (.cells #[.int .i64 rest.length] 3 (0, 0)) := by rw [← hW']; exact one_setCell hR1
      obtain ⟨c0, c1, c2, c3, c4⟩ := RowV.cells (own_mod RW m' fun k hk e => by have := hv k hk; have : k = nb := e; omega) hq
      rw [hLq] at c0 c1 c2 c3 c4
      obtain ⟨s1, s2⟩ := blkc (m'.heap w0b (by omega))
      obtain ⟨s3, s4⟩ := blkc (m'.heap w2b (by omega))
      obtain ⟨s5, s6⟩ := blkc (m'.heap hb hbn)
      obtain ⟨s7, s8⟩ := blkc nb'
      have hL65 : (L.length : Int) ≤ 65536 := by have := hbL.out; omega
      have hqL : (rest.length : Int) < L.length := by omega
      have fin : ∀ (R : Nat → Prop), R (pre.length + 1) → ∀ n, Mod (fun j => j = nb) W (W'.drewN n) ∧ CntR nb (fun m => (L.length : Int) - m) R (pre ++ [x]) (W'.drewN n) := fun R hR n =>
        ⟨m'.drewN n, by
          have e : (L.length : Int) - ((pre ++ [x]).length : Nat) = (rest.length : Int) := by simp; omega
          show W'.heap[nb]? = some (.cells #[.int .i64 ((L.length : Int) - ((pre ++ [x]).length : Nat))] 3 (0, 0))
          rw [e]; exact nb', by simpa using hR⟩
      have e2 : (L.length : Int) - rest.length = (pre.length : Int) + 1 := by omega
      clear hR1 w0b w2b nb' hLx hx hLq RW hb m' hM hq
      generalize rest.length = q at *
      have hq0 : decide ((q : Int) < 0) = false := by simp
      obtain ⟨ls, la, hs', ha, sv⟩ := x
      replace hlen := hid hlen
      replace hgn := hid hgn
      by_cases hst : (pre.length : Int) + 1 = stop
      · have fin := hid (fin (fun m => (m : Int) = stop) (by simpa using hst))
        have hb : ((L.length : Int) - q == stop) = true := by rw [e2]; simpa using hst
        clear hst
        replace e2 := hid e2
        gi_wp2_with fail
        refine rq_read (by kernel_rfl) (by kernel_rfl) ?_
        repeat (any_goals (first | go_big_quiet_step (fail) | quiet_step (fail)))
        refine wpQuiet_nil ?_
        rintro _ ⟨nq, rfl⟩
        gi_wp2_with fail
        exact ⟨(fin.out nq).1, rfl, (fin.out nq).2⟩
      · have fin := hid (fin (fun m => 0 < m → (m : Int) ≠ stop) (by intro _; simpa using hst))
        have hb : ((L.length : Int) - q == stop) = false := by rw [e2]; simpa using hst
        clear hst
        replace e2 := hid e2
        gi_wp2_with fail
        refine rq_read (by kernel_rfl) (by kernel_rfl) ?_
        repeat (any_goals (first | go_big_quiet_step (fail) | quiet_step (fail)))
        refine wpQuiet_nil ?_
        rintro _ ⟨nq, rfl⟩
        gi_wp2_with fail
        exact fin.out nq
  case done =>
    intro W hM hR hk
    have key : ∃ n : Int, W.heap[nb]? = some (.cells #[.int .i64 n] 3 (0, 0)) ∧ 0 ≤ n ∧ n ≤ L.length ∧ (n = 0 ∨ (n ≠ 0 ∧ L.length - n = stop)) := ⟨0, by have := hR.1; simpa using this, by omega, by omega, .inl rfl⟩
    obtain ⟨n, hn, hn0, hnL, hcn⟩ := key
    have hgn := hlt4.out
    have hkW := hk
    replace b0 := hM.heap b0 (by omega)
    replace b2 := hM.heap b2 (by omega)
    replace r0 := hM.heap r0 (by omega)
    replace hT := hT.mod hM fun k hk e => by have := hTF k hk; have : k = nb := e; omega
    replace hRow : RowV W (.slice A L.length c) L := own_mod hRow hM fun k hk e => by have := hv k hk; have : k = nb := e; omega
    obtain ⟨W5, hW5, b5, M5, hz5⟩ : ∃ W5, (W.alloc (.cells #[.int .i64 0] 3)).setCell ⟨W.heap.size, 0, none⟩ (.int .i64 0) = W5 ∧ W5.heap[W.heap.size]? = some (.cells #[.int .i64 0] 3 (0, 0)) ∧ Mod (fun _ => False) W W5 ∧ W5.heap.size = W.heap.size + 1 := ⟨_, rfl, one_setCell (alloc_0 _ _), ((Mod.refl _ _).alloc _).setCell (.inr (Nat.le_refl _)) _, by simp⟩
    have HA := allTZ W5 tb
    obtain ⟨d1, e1⟩ := blkc b0
    obtain ⟨d2, e2⟩ := blkc b2
    obtain ⟨d3, e3⟩ := blkc hn
    obtain ⟨d4, e4⟩ := blkc (alloc_0 W (.cells #[.int .i64 0] 3))
    have hL65 : (L.length : Int) ≤ 65536 := by have := hbL.out; omega
    clear hR IT k1 k2 b3 hgn F4
    replace hz5 := hid hz5
    rcases hcn with rfl | ⟨hcn, hcs⟩
    · skip
      go_wp2_with fail
      refine HA.mono ?_
      rintro e w6 ⟨rfl, hw6⟩
      have k1 : w6.heap[W5.heap.size]? = some (.cells #[.pointer (some ⟨tb, 0, none⟩)] 23 (0, 0)) := by rw [hw6]; exact alloc2_0 _ _ _
      have k2 : w6.heap[W5.heap.size + 1]? = some (.cells #[.int .i64 (di false)] 3 (0, 0)) := by rw [hw6]; exact alloc2_1 _ _ _
      have M6 : Mod (fun _ => False) W5 w6 := by rw [hw6]; exact ((Mod.refl _ _).alloc _).alloc _
      have hz6 : w6.heap.size = W5.heap.size + 2 := by rw [hw6]; simp [WalkW]
      clear hw6 HA d1 e1 d2 e2 d3 e3 d4 e4 hW5
      replace hT := hT.mod0 (M5.trans' M6)
      replace hRow := hRow.keep (M5.trans' M6)
      replace b0 := (M5.trans' M6).heap b0 fun h => h
      replace b2 := (M5.trans' M6).heap b2 fun h => h
      replace r0 := (M5.trans' M6).heap r0 fun h => h
      replace hk := (M5.trans' M6).heap hk fun h => h
      replace b5 := M6.heap b5 fun h => h
      have hMM := hM.trans (M5.trans' M6) fun _ h => h.elim
      have IT := walk_iter false hT k1 k2
      rw [hL] at IT
      change Iter _ _ _ _ L _ _ at IT
      obtain ⟨mb, hmb⟩ : ∃ mb, W.heap.size = mb := ⟨_, rfl⟩
      rw [hmb] at b5 hz5
      rw [hmb]
      have hlt6 : W5.heap.size = mb + 1 ∧ w6.heap.size = mb + 3 ∧ nb + 3 = w4.heap.size ∧ lb + 1 = nb ∧ w.heap.size + 2 ≤ lb ∧ w4.heap.size < mb ∧ w1.heap.size = lb := by have := hlt4.out; have := blkl hkW; have := hz5.out; omega
      replace hlt6 := hid hlt6
      clear hz6 hz5 hmb hlt4 hM M5 M6 hkW
      go_wp2_with fail
      refine wp_range1 (gf := 78) rfl (enters_of Try.func78 (by kernel_rfl) rfl) IT (fun _ => rfl)
        (fun j => j = mb) (fun j hj => by have := hlt6.out; have : j = mb := hj; omega) (fun j hj h => by have := hlt6.out; have h : j = mb := h; rcases hj with hj | hj | hj; omega; omega; have := hTF j hj; omega) (fun j hj => by have := hlt6.out; rcases hj with rfl | rfl | hj; omega; omega; have := hTF j hj; omega)
        (CntR mb (fun m => (m : Int)) (fun m => 0 < m → (m : Int) ≠ stop)) (fun c pre W => c = .exit 2 ∧ CntR mb (fun m => (m : Int)) (fun m => (m : Int) = stop) pre W)
        CntR.looks (fun c pre W W' h hk => ⟨h.1, CntR.looks _ _ _ h.2 hk⟩) ⟨by simpa using b5, by simp⟩
        (fun x => #[.int .i64 x.ls, .int .i64 x.la, .int .i64 x.hs, .int .i64 x.ha, .int .i64 x.v]) 36 ?_ ?_ ?_
      · apply Exists.intro
        constructor
        · intro yl x W KK hKK
          simp [encSV]
          gi_wp2_with fail
          generalize W.heap.size = b at hKK ⊢
          exact hKK
        · intro yl pre x rest b W hx hb hge hM hR
          obtain ⟨hR1, hR2⟩ := hR
          have hlen : L.length = pre.length + 1 + rest.length := by rw [hx]; simp; omega
          have hq : pre.length < L.length := by omega
          have hLq : L[pre.length] = x := by subst hx; simp
          have hgn := hlt6.out
          have RW : RowV W (.slice A L.length c) L := own_mod hRow hM fun k hk e => by have := hv k hk; have : k = mb := e; omega
          have w0b := hM.heap b0 (by omega)
          have w2b := hM.heap b2 (by omega)
          dsimp only at hR1
          obtain ⟨g, rfl⟩ := hA (by omega)
          have hbn : b ≠ mb := by omega
          obtain ⟨t1, t2⟩ := blkc hR1
          obtain ⟨c0, c1, c2, c3, c4⟩ := RowV.cells RW hq
          rw [hLq] at c0 c1 c2 c3 c4
          obtain ⟨s3, s4⟩ := blkc w2b
          obtain ⟨s5, s6⟩ := blkc hb
          have hL65 : (L.length : Int) ≤ 65536 := by have := hbL.out; omega
          have hqL : (pre.length : Int) < L.length := by omega
          have fin : ∀ W', Mod (fun j => j = mb) W W' → W'.heap[mb]? = some (.cells #[.int .i64 ((pre.length : Int) + 1)] 3 (0, 0)) → ∀ (R : Nat → Prop), R (pre.length + 1) → Mod (fun j => j = mb) W W' ∧ CntR mb (fun m => (m : Int)) R (pre ++ [x]) W' := fun W' m' nb' R hR =>
            ⟨m', by
              have e : (((pre ++ [x]).length : Nat) : Int) = (pre.length : Int) + 1 := by simp
              show W'.heap[mb]? = some (.cells #[.int .i64 (((pre ++ [x]).length : Nat) : Int)] 3 (0, 0))
              rw [e]; exact nb', by simpa using hR⟩
          clear w2b hx hLq RW hb hM hq
          generalize pre.length = q at *
          have hq0 : decide ((q : Int) ≥ (L.length : Int)) = false := by simp; omega
          have hq1 : decide ((L.length : Int) ≤ (q : Int)) = false := by simp; omega
          have hq2 : ¬ L.length ≤ q := by omega
          have hq3 : decide (L.length ≤ q) = false := by simp; omega
          obtain ⟨ls, la, hs', ha, sv⟩ := x
          replace hlen := hid hlen
          replace fin := hid fin
          gi_wp2_with fail
          refine rq_read (by kernel_rfl) (by kernel_rfl) ?_
          repeat (any_goals (first | go_big_quiet_step (fail) | quiet_step (fail)))
          refine wpQuiet_nil ?_
          rintro _ ⟨nq, rfl⟩
          obtain ⟨W', hW', m'⟩ : ∃ W', (W.drewN nq).setCell ⟨mb, 0, none⟩ (.int .i64 ((q : Int) + 1)) = W' ∧ Mod (fun j => j = mb) W W' := ⟨_, rfl, Mod.setCell (S := fun j => j = mb) (p := ⟨mb, 0, none⟩) ((Mod.refl _ _).drewN _) (.inl rfl) _⟩
          have nb' : W'.heap[mb]? = some (.cells #[.int .i64 ((q : Int) + 1)] 3 (0, 0)) := by rw [← hW']; exact one_setCell (w := W.drewN nq) hR1
          obtain ⟨s1, s2⟩ := blkc (m'.heap w0b (by omega))
          obtain ⟨s7, s8⟩ := blkc nb'
          replace fin := fin.out W' m' nb'
          clear w0b hR1 m' nb'
          replace hgn := hid hgn
          by_cases hst : (q : Int) + 1 = stop
          · have fin := hid (fin (fun m => (m : Int) = stop) (by simpa using hst))
            have hb : ((q : Int) + 1 == stop) = true := by simpa using hst
            clear hst
            gi_wp2_with fail
            exact ⟨fin.out.1, rfl, fin.out.2⟩
          · have fin := hid (fin (fun m => 0 < m → (m : Int) ≠ stop) (by intro _; simpa using hst))
            have hb : ((q : Int) + 1 == stop) = false := by simpa using hst
            clear hst
            gi_wp2_with fail
            exact fin.out
      · intro W7 M7 hR hk2
        obtain ⟨c7, hcc⟩ : ∃ m : Int, W7.heap[mb]? = some (.cells #[.int .i64 m] 3 (0, 0)) ∧ (m = stop ∨ (m ≠ stop ∧ m = L.length)) := ⟨L.length, hR.1, (Decidable.em ((L.length : Int) = stop)).elim .inl fun h => .inr ⟨h, rfl⟩⟩
        have hgn := hlt6.out
        have hz0' := hz0.out
        replace b0 := M7.heap b0 (by omega)
        replace b2 := M7.heap b2 (by omega)
        replace r0 := M7.heap r0 (by omega)
        replace hk := M7.heap hk (by omega)
        have B7 : Below w0.heap.size w0 W7 := F1.below.trans (((M14.trans hMM fun j h => .inr (by have : j = nb := h; omega)).trans M7 fun j h => .inr (by have : j = mb := h; omega)).to_below (B := w0.heap.size) (by omega) fun _ h => h.elim)
        clear hR hRow hT IT hMM M7 k1 k2 hgn hz0'
        obtain ⟨hc1, hc2⟩ := hcc
        go_wp2_with fail
        refine (alive6 _).mono ?_
        rintro e W8 ⟨rfl, B8⟩
        replace b0 := (B8.block _ (blkl b0)).trans b0
        replace b2 := (B8.block _ (blkl b2)).trans b2
        replace r0 := (B8.block _ (blkl r0)).trans r0
        replace hk := (B8.block _ (blkl hk)).trans hk
        replace hk2 := (B8.block _ (blkl hk2)).trans hk2
        replace hc1 := (B8.block _ (blkl hc1)).trans hc1
        have Ball := B7.trans (B8.mono B7.size)
        clear B8 B7
        obtain ⟨d1, e1⟩ := blkc b0
        obtain ⟨d2, e2⟩ := blkc b2
        obtain ⟨d3, e3⟩ := blkc hc1
        obtain ⟨d4, e4⟩ := blkc r0
        have hL65 : (L.length : Int) ≤ 65536 := by have := hbL.out; omega
        rcases hc2 with rfl | ⟨hc2, rfl⟩
        all_goals
          go_wp2_with fail
          have hgn := hlt6.out
          have hz0' := hz0.out
          refine retM2 (D := w6.heap.size) (E := w4.heap.size) (v := .bool true) (by omega) ((heap_set_ne (by show w6.heap.size ≠ w.heap.size + 1; omega)).trans hk2) ((heap_set_ne (by show w4.heap.size ≠ w.heap.size + 1; omega)).trans hk) rfl (res_bool (w.heap.size + 1) _ rfl rfl ?_ Try.underlying4)
            ⟨rfl, below_put (below_put ((B0.trans (Ball.mono B0.size)).setCell (by simp) _) (by omega) _) (by omega) _⟩
          have hcell : (((W8.setCell ⟨w.heap.size + 1, 0, none⟩ (.bool true)).putObj w6.heap.size (.deferred none)).putObj w4.heap.size (.deferred none)).heap[w.heap.size + 1]? = some (.cells #[.bool true] 4 (0, 0)) := by
            rw [World.putObj_heap_other (by omega), World.putObj_heap_other (by omega)]
            exact one_setCell r0
          exact (blkc hcell).1 0
      · rintro cc pre W7 hpre M7 ⟨rfl, hR⟩ hk2
        obtain ⟨c7, hcc⟩ : ∃ m : Int, W7.heap[mb]? = some (.cells #[.int .i64 m] 3 (0, 0)) ∧ (m = stop ∨ (m ≠ stop ∧ m = L.length)) := ⟨pre.length, hR.1, .inl hR.2⟩
        have hgn := hlt6.out
        have hz0' := hz0.out
        replace b0 := M7.heap b0 (by omega)
        replace b2 := M7.heap b2 (by omega)
        replace r0 := M7.heap r0 (by omega)
        replace hk := M7.heap hk (by omega)
        have B7 : Below w0.heap.size w0 W7 := F1.below.trans (((M14.trans hMM fun j h => .inr (by have : j = nb := h; omega)).trans M7 fun j h => .inr (by have : j = mb := h; omega)).to_below (B := w0.heap.size) (by omega) fun _ h => h.elim)
        clear hR hRow hT IT hMM M7 k1 k2 hgn hz0'
        obtain ⟨hc1, hc2⟩ := hcc
        go_wp2_with fail
        refine (alive6 _).mono ?_
        rintro e W8 ⟨rfl, B8⟩
        replace b0 := (B8.block _ (blkl b0)).trans b0
        replace b2 := (B8.block _ (blkl b2)).trans b2
        replace r0 := (B8.block _ (blkl r0)).trans r0
        replace hk := (B8.block _ (blkl hk)).trans hk
        replace hk2 := (B8.block _ (blkl hk2)).trans hk2
        replace hc1 := (B8.block _ (blkl hc1)).trans hc1
        have Ball := B7.trans (B8.mono B7.size)
        clear B8 B7
        obtain ⟨d1, e1⟩ := blkc b0
        obtain ⟨d2, e2⟩ := blkc b2
        obtain ⟨d3, e3⟩ := blkc hc1
        obtain ⟨d4, e4⟩ := blkc r0
        have hL65 : (L.length : Int) ≤ 65536 := by have := hbL.out; omega
        rcases hc2 with rfl | ⟨hc2, rfl⟩
        all_goals
          go_wp2_with fail
          have hgn := hlt6.out
          have hz0' := hz0.out
          refine retM2 (D := w6.heap.size) (E := w4.heap.size) (v := .bool true) (by omega) ((heap_set_ne (by show w6.heap.size ≠ w.heap.size + 1; omega)).trans hk2) ((heap_set_ne (by show w4.heap.size ≠ w.heap.size + 1; omega)).trans hk) rfl (res_bool (w.heap.size + 1) _ rfl rfl ?_ Try.underlying4)
            ⟨rfl, below_put (below_put ((B0.trans (Ball.mono B0.size)).setCell (by simp) _) (by omega) _) (by omega) _⟩
          have hcell : (((W8.setCell ⟨w.heap.size + 1, 0, none⟩ (.bool true)).putObj w6.heap.size (.deferred none)).putObj w4.heap.size (.deferred none)).heap[w.heap.size + 1]? = some (.cells #[.bool true] 4 (0, 0)) := by
            rw [World.putObj_heap_other (by omega), World.putObj_heap_other (by omega)]
            exact one_setCell r0
          exact (blkc hcell).1 0
    · have hcs2 : ((L.length : Int) - n != stop) = false := by simpa using hcs
      have hcn2 : (n != 0) = true := by simpa using hcn
      have hcn3 : ((0 : Int) != n) = true := by simp; omega
      replace hcs := hid hcs
      replace hcn := hid hcn
      go_wp2_with fail
      refine HA.mono ?_
      rintro e w6 ⟨rfl, hw6⟩
      have k1 : w6.heap[W5.heap.size]? = some (.cells #[.pointer (some ⟨tb, 0, none⟩)] 23 (0, 0)) := by rw [hw6]; exact alloc2_0 _ _ _
      have k2 : w6.heap[W5.heap.size + 1]? = some (.cells #[.int .i64 (di false)] 3 (0, 0)) := by rw [hw6]; exact alloc2_1 _ _ _
      have M6 : Mod (fun _ => False) W5 w6 := by rw [hw6]; exact ((Mod.refl _ _).alloc _).alloc _
      have hz6 : w6.heap.size = W5.heap.size + 2 := by rw [hw6]; simp [WalkW]
      clear hw6 HA d1 e1 d2 e2 d3 e3 d4 e4 hW5
      replace hT := hT.mod0 (M5.trans' M6)
      replace hRow := hRow.keep (M5.trans' M6)
      replace b0 := (M5.trans' M6).heap b0 fun h => h
      replace b2 := (M5.trans' M6).heap b2 fun h => h
      replace r0 := (M5.trans' M6).heap r0 fun h => h
      replace hk := (M5.trans' M6).heap hk fun h => h
      replace b5 := M6.heap b5 fun h => h
      have hMM := hM.trans (M5.trans' M6) fun _ h => h.elim
      have IT := walk_iter false hT k1 k2
      rw [hL] at IT
      change Iter _ _ _ _ L _ _ at IT
      obtain ⟨mb, hmb⟩ : ∃ mb, W.heap.size = mb := ⟨_, rfl⟩
      rw [hmb] at b5 hz5
      rw [hmb]
      have hlt6 : W5.heap.size = mb + 1 ∧ w6.heap.size = mb + 3 ∧ nb + 3 = w4.heap.size ∧ lb + 1 = nb ∧ w.heap.size + 2 ≤ lb ∧ w4.heap.size < mb ∧ w1.heap.size = lb := by have := hlt4.out; have := blkl hkW; have := hz5.out; omega
      replace hlt6 := hid hlt6
      clear hz6 hz5 hmb hlt4 hM M5 M6 hkW
      go_wp2_with fail
      refine wp_range1 (gf := 78) rfl (enters_of Try.func78 (by kernel_rfl) rfl) IT (fun _ => rfl)
        (fun j => j = mb) (fun j hj => by have := hlt6.out; have : j = mb := hj; omega) (fun j hj h => by have := hlt6.out; have h : j = mb := h; rcases hj with hj | hj | hj; omega; omega; have := hTF j hj; omega) (fun j hj => by have := hlt6.out; rcases hj with rfl | rfl | hj; omega; omega; have := hTF j hj; omega)
        (CntR mb (fun m => (m : Int)) (fun m => 0 < m → (m : Int) ≠ stop)) (fun c pre W => c = .exit 2 ∧ CntR mb (fun m => (m : Int)) (fun m => (m : Int) = stop) pre W)
        CntR.looks (fun c pre W W' h hk => ⟨h.1, CntR.looks _ _ _ h.2 hk⟩) ⟨by simpa using b5, by simp⟩
        (fun x => #[.int .i64 x.ls, .int .i64 x.la, .int .i64 x.hs, .int .i64 x.ha, .int .i64 x.v]) 36 ?_ ?_ ?_
      · apply Exists.intro
        constructor
        · intro yl x W KK hKK
          simp [encSV]
          gi_wp2_with fail
          generalize W.heap.size = b at hKK ⊢
          exact hKK
        · intro yl pre x rest b W hx hb hge hM hR
          obtain ⟨hR1, hR2⟩ := hR
          have hlen : L.length = pre.length + 1 + rest.length := by rw [hx]; simp; omega
          have hq : pre.length < L.length := by omega
          have hLq : L[pre.length] = x := by subst hx; simp
          have hgn := hlt6.out
          have RW : RowV W (.slice A L.length c) L := own_mod hRow hM fun k hk e => by have := hv k hk; have : k = mb := e; omega
          have w0b := hM.heap b0 (by omega)
          have w2b := hM.heap b2 (by omega)
          dsimp only at hR1
          obtain ⟨g, rfl⟩ := hA (by omega)
          have hbn : b ≠ mb := by omega
          obtain ⟨t1, t2⟩ := blkc hR1
          obtain ⟨c0, c1, c2, c3, c4⟩ := RowV.cells RW hq
          rw [hLq] at c0 c1 c2 c3 c4
          obtain ⟨s3, s4⟩ := blkc w2b
          obtain ⟨s5, s6⟩ := blkc hb
          have hL65 : (L.length : Int) ≤ 65536 := by have := hbL.out; omega
          have hqL : (pre.length : Int) < L.length := by omega
          have fin : ∀ W', Mod (fun j => j = mb) W W' → W'.heap[mb]? = some (.cells #[.int .i64 ((pre.length : Int) + 1)] 3 (0, 0)) → ∀ (R : Nat → Prop), R (pre.length + 1) → Mod (fun j => j = mb) W W' ∧ CntR mb (fun m => (m : Int)) R (pre ++ [x]) W' := fun W' m' nb' R hR =>
            ⟨m', by
              have e : (((pre ++ [x]).length : Nat) : Int) = (pre.length : Int) + 1 := by simp
              show W'.heap[mb]? = some (.cells #[.int .i64 (((pre ++ [x]).length : Nat) : Int)] 3 (0, 0))
              rw [e]; exact nb', by simpa using hR⟩
          clear w2b hx hLq RW hb hM hq
          generalize pre.length = q at *
          have hq0 : decide ((q : Int) ≥ (L.length : Int)) = false := by simp; omega
          have hq1 : decide ((L.length : Int) ≤ (q : Int)) = false := by simp; omega
          have hq2 : ¬ L.length ≤ q := by omega
          have hq3 : decide (L.length ≤ q) = false := by simp; omega
          obtain ⟨ls, la, hs', ha, sv⟩ := x
          replace hlen := hid hlen
          replace fin := hid fin
          gi_wp2_with fail
          refine rq_read (by kernel_rfl) (by kernel_rfl) ?_
          repeat (any_goals (first | go_big_quiet_step (fail) | quiet_step (fail)))
          refine wpQuiet_nil ?_
          rintro _ ⟨nq, rfl⟩
          obtain ⟨W', hW', m'⟩ : ∃ W', (W.drewN nq).setCell ⟨mb, 0, none⟩ (.int .i64 ((q : Int) + 1)) = W' ∧ Mod (fun j => j = mb) W W' := ⟨_, rfl, Mod.setCell (S := fun j => j = mb) (p := ⟨mb, 0, none⟩) ((Mod.refl _ _).drewN _) (.inl rfl) _⟩
          have nb' : W'.heap[mb]? = some (.cells #[.int .i64 ((q : Int) + 1)] 3 (0, 0)) := by rw [← hW']; exact one_setCell (w := W.drewN nq) hR1
          obtain ⟨s1, s2⟩ := blkc (m'.heap w0b (by omega))
          obtain ⟨s7, s8⟩ := blkc nb'
          replace fin := fin.out W' m' nb'
          clear w0b hR1 m' nb'
          replace hgn := hid hgn
          by_cases hst : (q : Int) + 1 = stop
          · have fin := hid (fin (fun m => (m : Int) = stop) (by simpa using hst))
            have hb : ((q : Int) + 1 == stop) = true := by simpa using hst
            clear hst
            gi_wp2_with fail
            exact ⟨fin.out.1, rfl, fin.out.2⟩
          · have fin := hid (fin (fun m => 0 < m → (m : Int) ≠ stop) (by intro _; simpa using hst))
            have hb : ((q : Int) + 1 == stop) = false := by simpa using hst
            clear hst
            gi_wp2_with fail
            exact fin.out
      · intro W7 M7 hR hk2
        obtain ⟨c7, hcc⟩ : ∃ m : Int, W7.heap[mb]? = some (.cells #[.int .i64 m] 3 (0, 0)) ∧ (m = stop ∨ (m ≠ stop ∧ m = L.length)) := ⟨L.length, hR.1, (Decidable.em ((L.length : Int) = stop)).elim .inl fun h => .inr ⟨h, rfl⟩⟩
        have hgn := hlt6.out
        have hz0' := hz0.out
        replace b0 := M7.heap b0 (by omega)
        replace b2 := M7.heap b2 (by omega)
        replace r0 := M7.heap r0 (by omega)
        replace hk := M7.heap hk (by omega)
        have B7 : Below w0.heap.size w0 W7 := F1.below.trans (((M14.trans hMM fun j h => .inr (by have : j = nb := h; omega)).trans M7 fun j h => .inr (by have : j = mb := h; omega)).to_below (B := w0.heap.size) (by omega) fun _ h => h.elim)
        clear hR hRow hT IT hMM M7 k1 k2 hgn hz0'
        obtain ⟨hc1, hc2⟩ := hcc
        go_wp2_with fail
        refine (alive6 _).mono ?_
        rintro e W8 ⟨rfl, B8⟩
        replace b0 := (B8.block _ (blkl b0)).trans b0
        replace b2 := (B8.block _ (blkl b2)).trans b2
        replace r0 := (B8.block _ (blkl r0)).trans r0
        replace hk := (B8.block _ (blkl hk)).trans hk
        replace hk2 := (B8.block _ (blkl hk2)).trans hk2
        replace hc1 := (B8.block _ (blkl hc1)).trans hc1
        have Ball := B7.trans (B8.mono B7.size)
        clear B8 B7
        obtain ⟨d1, e1⟩ := blkc b0
        obtain ⟨d2, e2⟩ := blkc b2
        obtain ⟨d3, e3⟩ := blkc hc1
        obtain ⟨d4, e4⟩ := blkc r0
        have hL65 : (L.length : Int) ≤ 65536 := by have := hbL.out; omega
        rcases hc2 with rfl | ⟨hc2, rfl⟩
        all_goals
          go_wp2_with fail
          have hgn := hlt6.out
          have hz0' := hz0.out
          refine retM2 (D := w6.heap.size) (E := w4.heap.size) (v := .bool true) (by omega) ((heap_set_ne (by show w6.heap.size ≠ w.heap.size + 1; omega)).trans hk2) ((heap_set_ne (by show w4.heap.size ≠ w.heap.size + 1; omega)).trans hk) rfl (res_bool (w.heap.size + 1) _ rfl rfl ?_ Try.underlying4)
            ⟨rfl, below_put (below_put ((B0.trans (Ball.mono B0.size)).setCell (by simp) _) (by omega) _) (by omega) _⟩
          have hcell : (((W8.setCell ⟨w.heap.size + 1, 0, none⟩ (.bool true)).putObj w6.heap.size (.deferred none)).putObj w4.heap.size (.deferred none)).heap[w.heap.size + 1]? = some (.cells #[.bool true] 4 (0, 0)) := by
            rw [World.putObj_heap_other (by omega), World.putObj_heap_other (by omega)]
            exact one_setCell r0
          exact (blkc hcell).1 0
      · rintro cc pre W7 hpre M7 ⟨rfl, hR⟩ hk2
        obtain ⟨c7, hcc⟩ : ∃ m : Int, W7.heap[mb]? = some (.cells #[.int .i64 m] 3 (0, 0)) ∧ (m = stop ∨ (m ≠ stop ∧ m = L.length)) := ⟨pre.length, hR.1, .inl hR.2⟩
        have hgn := hlt6.out
        have hz0' := hz0.out
        replace b0 := M7.heap b0 (by omega)
        replace b2 := M7.heap b2 (by omega)
        replace r0 := M7.heap r0 (by omega)
        replace hk := M7.heap hk (by omega)
        have B7 : Below w0.heap.size w0 W7 := F1.below.trans (((M14.trans hMM fun j h => .inr (by have : j = nb := h; omega)).trans M7 fun j h => .inr (by have : j = mb := h; omega)).to_below (B := w0.heap.size) (by omega) fun _ h => h.elim)
        clear hR hRow hT IT hMM M7 k1 k2 hgn hz0'
        obtain ⟨hc1, hc2⟩ := hcc
        go_wp2_with fail
        refine (alive6 _).mono ?_
        rintro e W8 ⟨rfl, B8⟩
        replace b0 := (B8.block _ (blkl b0)).trans b0
        replace b2 := (B8.block _ (blkl b2)).trans b2
        replace r0 := (B8.block _ (blkl r0)).trans r0
        replace hk := (B8.block _ (blkl hk)).trans hk
        replace hk2 := (B8.block _ (blkl hk2)).trans hk2
        replace hc1 := (B8.block _ (blkl hc1)).trans hc1
        have Ball := B7.trans (B8.mono B7.size)
        clear B8 B7
        obtain ⟨d1, e1⟩ := blkc b0
        obtain ⟨d2, e2⟩ := blkc b2
        obtain ⟨d3, e3⟩ := blkc hc1
        obtain ⟨d4, e4⟩ := blkc r0
        have hL65 : (L.length : Int) ≤ 65536 := by have := hbL.out; omega
        rcases hc2 with rfl | ⟨hc2, rfl⟩
        all_goals
          go_wp2_with fail
          have hgn := hlt6.out
          have hz0' := hz0.out
          refine retM2 (D := w6.heap.size) (E := w4.heap.size) (v := .bool true) (by omega) ((heap_set_ne (by show w6.heap.size ≠ w.heap.size + 1; omega)).trans hk2) ((heap_set_ne (by show w4.heap.size ≠ w.heap.size + 1; omega)).trans hk) rfl (res_bool (w.heap.size + 1) _ rfl rfl ?_ Try.underlying4)
            ⟨rfl, below_put (below_put ((B0.trans (Ball.mono B0.size)).setCell (by simp) _) (by omega) _) (by omega) _⟩
          have hcell : (((W8.setCell ⟨w.heap.size + 1, 0, none⟩ (.bool true)).putObj w6.heap.size (.deferred none)).putObj w4.heap.size (.deferred none)).heap[w.heap.size + 1]? = some (.cells #[.bool true] 4 (0, 0)) := by
            rw [World.putObj_heap_other (by omega), World.putObj_heap_other (by omega)]
            exact one_setCell r0
          exact (blkc hcell).1 0
  case stop =>
    rintro cc pre W hpre hM ⟨rfl, hR⟩ hk
    have hpl : pre.length ≤ L.length := by simpa using hpre.length_le
    have key : ∃ n : Int, W.heap[nb]? = some (.cells #[.int .i64 n] 3 (0, 0)) ∧ 0 ≤ n ∧ n ≤ L.length ∧ (n = 0 ∨ (n ≠ 0 ∧ L.length - n = stop)) := ⟨(L.length : Int) - pre.length, hR.1, by omega, by omega, (Decidable.em ((L.length : Int) - pre.length = 0)).elim .inl fun h => .inr ⟨h, by have := hR.2; omega⟩⟩
    obtain ⟨n, hn, hn0, hnL, hcn⟩ := key
    have hgn := hlt4.out
    have hkW := hk
    replace b0 := hM.heap b0 (by omega)
    replace b2 := hM.heap b2 (by omega)
    replace r0 := hM.heap r0 (by omega)
    replace hT := hT.mod hM fun k hk e => by have := hTF k hk; have : k = nb := e; omega
    replace hRow : RowV W (.slice A L.length c) L := own_mod hRow hM fun k hk e => by have := hv k hk; have : k = nb := e; omega
    obtain ⟨W5, hW5, b5, M5, hz5⟩ : ∃ W5, (W.alloc (.cells #[.int .i64 0] 3)).setCell ⟨W.heap.size, 0, none⟩ (.int .i64 0) = W5 ∧ W5.heap[W.heap.size]? = some (.cells #[.int .i64 0] 3 (0, 0)) ∧ Mod (fun _ => False) W W5 ∧ W5.heap.size = W.heap.size + 1 := ⟨_, rfl, one_setCell (alloc_0 _ _), ((Mod.refl _ _).alloc _).setCell (.inr (Nat.le_refl _)) _, by simp⟩
    have HA := allTZ W5 tb
    obtain ⟨d1, e1⟩ := blkc b0
    obtain ⟨d2, e2⟩ := blkc b2
    obtain ⟨d3, e3⟩ := blkc hn
    obtain ⟨d4, e4⟩ := blkc (alloc_0 W (.cells #[.int .i64 0] 3))
    have hL65 : (L.length : Int) ≤ 65536 := by have := hbL.out; omega
    clear hR IT k1 k2 b3 hgn F4
    replace hz5 := hid hz5
    rcases hcn with rfl | ⟨hcn, hcs⟩
    · skip
      go_wp2_with fail
      refine HA.mono ?_
      rintro e w6 ⟨rfl, hw6⟩
      have k1 : w6.heap[W5.heap.size]? = some (.cells #[.pointer (some ⟨tb, 0, none⟩)] 23 (0, 0)) := by rw [hw6]; exact alloc2_0 _ _ _
      have k2 : w6.heap[W5.heap.size + 1]? = some (.cells #[.int .i64 (di false)] 3 (0, 0)) := by rw [hw6]; exact alloc2_1 _ _ _
      have M6 : Mod (fun _ => False) W5 w6 := by rw [hw6]; exact ((Mod.refl _ _).alloc _).alloc _
      have hz6 : w6.heap.size = W5.heap.size + 2 := by rw [hw6]; simp [WalkW]
      clear hw6 HA d1 e1 d2 e2 d3 e3 d4 e4 hW5
      replace hT := hT.mod0 (M5.trans' M6)
      replace hRow := hRow.keep (M5.trans' M6)
      replace b0 := (M5.trans' M6).heap b0 fun h => h
      replace b2 := (M5.trans' M6).heap b2 fun h => h
      replace r0 := (M5.trans' M6).heap r0 fun h => h
      replace hk := (M5.trans' M6).heap hk fun h => h
      replace b5 := M6.heap b5 fun h => h
      have hMM := hM.trans (M5.trans' M6) fun _ h => h.elim
      have IT := walk_iter false hT k1 k2
      rw [hL] at IT
      change Iter _ _ _ _ L _ _ at IT
      obtain ⟨mb, hmb⟩ : ∃ mb, W.heap.size = mb := ⟨_, rfl⟩
      rw [hmb] at b5 hz5
      rw [hmb]
      have hlt6 : W5.heap.size = mb + 1 ∧ w6.heap.size = mb + 3 ∧ nb + 3 = w4.heap.size ∧ lb + 1 = nb ∧ w.heap.size + 2 ≤ lb ∧ w4.heap.size < mb ∧ w1.heap.size = lb := by have := hlt4.out; have := blkl hkW; have := hz5.out; omega
      replace hlt6 := hid hlt6
      clear hz6 hz5 hmb hlt4 hM M5 M6 hkW
      go_wp2_with fail
      refine wp_range1 (gf := 78) rfl (enters_of Try.func78 (by kernel_rfl) rfl) IT (fun _ => rfl)
        (fun j => j = mb) (fun j hj => by have := hlt6.out; have : j = mb := hj; omega) (fun j hj h => by have := hlt6.out; have h : j = mb := h; rcases hj with hj | hj | hj; omega; omega; have := hTF j hj; omega) (fun j hj => by have := hlt6.out; rcases hj with rfl | rfl | hj; omega; omega; have := hTF j hj; omega)
        (CntR mb (fun m => (m : Int)) (fun m => 0 < m → (m : Int) ≠ stop)) (fun c pre W => c = .exit 2 ∧ CntR mb (fun m => (m : Int)) (fun m => (m : Int) = stop) pre W)
        CntR.looks (fun c pre W W' h hk => ⟨h.1, CntR.looks _ _ _ h.2 hk⟩) ⟨by simpa using b5, by simp⟩
        (fun x => #[.int .i64 x.ls, .int .i64 x.la, .int .i64 x.hs, .int .i64 x.ha, .int .i64 x.v]) 36 ?_ ?_ ?_
      · apply Exists.intro
        constructor
        · intro yl x W KK hKK
          simp [encSV]
          gi_wp2_with fail
          generalize W.heap.size = b at hKK ⊢
          exact hKK
        · intro yl pre x rest b W hx hb hge hM hR
          obtain ⟨hR1, hR2⟩ := hR
          have hlen : L.length = pre.length + 1 + rest.length := by rw [hx]; simp; omega
          have hq : pre.length < L.length := by omega
          have hLq : L[pre.length] = x := by subst hx; simp
          have hgn := hlt6.out
          have RW : RowV W (.slice A L.length c) L := own_mod hRow hM fun k hk e => by have := hv k hk; have : k = mb := e; omega
          have w0b := hM.heap b0 (by omega)
          have w2b := hM.heap b2 (by omega)
          dsimp only at hR1
          obtain ⟨g, rfl⟩ := hA (by omega)
          have hbn : b ≠ mb := by omega
          obtain ⟨t1, t2⟩ := blkc hR1
          obtain ⟨c0, c1, c2, c3, c4⟩ := RowV.cells RW hq
          rw [hLq] at c0 c1 c2 c3 c4
          obtain ⟨s3, s4⟩ := blkc w2b
          obtain ⟨s5, s6⟩ := blkc hb
          have hL65 : (L.length : Int) ≤ 65536 := by have := hbL.out; omega
          have hqL : (pre.length : Int) < L.length := by omega
          have fin : ∀ W', Mod (fun j => j = mb) W W' → W'.heap[mb]? = some (.cells #[.int .i64 ((pre.length : Int) + 1)] 3 (0, 0)) → ∀ (R : Nat → Prop), R (pre.length + 1) → Mod (fun j => j = mb) W W' ∧ CntR mb (fun m => (m : Int)) R (pre ++ [x]) W' := fun W' m' nb' R hR =>
            ⟨m', by
              have e : (((pre ++ [x]).length : Nat) : Int) = (pre.length : Int) + 1 := by simp
              show W'.heap[mb]? = some (.cells #[.int .i64 (((pre ++ [x]).length : Nat) : Int)] 3 (0, 0))
              rw [e]; exact nb', by simpa using hR⟩
          clear w2b hx hLq RW hb hM hq
          generalize pre.length = q at *
          have hq0 : decide ((q : Int) ≥ (L.length : Int)) = false := by simp; omega
          have hq1 : decide ((L.length : Int) ≤ (q : Int)) = false := by simp; omega
          have hq2 : ¬ L.length ≤ q := by omega
          have hq3 : decide (L.length ≤ q) = false := by simp; omega
          obtain ⟨ls, la, hs', ha, sv⟩ := x
          replace hlen := hid hlen
          replace fin := hid fin
          gi_wp2_with fail
          refine rq_read (by kernel_rfl) (by kernel_rfl) ?_
          repeat (any_goals (first | go_big_quiet_step (fail) | quiet_step (fail)))
          refine wpQuiet_nil ?_
          rintro _ ⟨nq, rfl⟩
          obtain ⟨W', hW', m'⟩ : ∃ W', (W.drewN nq).setCell ⟨mb, 0, none⟩ (.int .i64 ((q : Int) + 1)) = W' ∧ Mod (fun j => j = mb) W W' := ⟨_, rfl, Mod.setCell (S := fun j => j = mb) (p := ⟨mb, 0, none⟩) ((Mod.refl _ _).drewN _) (.inl rfl) _⟩
          have nb' : W'.heap[mb]? = some (.cells #[.int .i64 ((q : Int) + 1)] 3 (0, 0)) := by rw [← hW']; exact one_setCell (w := W.drewN nq) hR1
          obtain ⟨s1, s2⟩ := blkc (m'.heap w0b (by omega))
          obtain ⟨s7, s8⟩ := blkc nb'
          replace fin := fin.out W' m' nb'
          clear w0b hR1 m' nb'
          replace hgn := hid hgn
          by_cases hst : (q : Int) + 1 = stop
          · have fin := hid (fin (fun m => (m : Int) = stop) (by simpa using hst))
            have hb : ((q : Int) + 1 == stop) = true := by simpa using hst
            clear hst
            gi_wp2_with fail
            exact ⟨fin.out.1, rfl, fin.out.2⟩
          · have fin := hid (fin (fun m => 0 < m → (m : Int) ≠ stop) (by intro _; simpa using hst))
            have hb : ((q : Int) + 1 == stop) = false := by simpa using hst
            clear hst
            gi_wp2_with fail
            exact fin.out
      · intro W7 M7 hR hk2
        obtain ⟨c7, hcc⟩ : ∃ m : Int, W7.heap[mb]? = some (.cells #[.int .i64 m] 3 (0, 0)) ∧ (m = stop ∨ (m ≠ stop ∧ m = L.length)) := ⟨L.length, hR.1, (Decidable.em ((L.length : Int) = stop)).elim .inl fun h => .inr ⟨h, rfl⟩⟩
        have hgn := hlt6.out
        have hz0' := hz0.out
        replace b0 := M7.heap b0 (by omega)
        replace b2 := M7.heap b2 (by omega)
        replace r0 := M7.heap r0 (by omega)
        replace hk := M7.heap hk (by omega)
        have B7 : Below w0.heap.size w0 W7 := F1.below.trans (((M14.trans hMM fun j h => .inr (by have : j = nb := h; omega)).trans M7 fun j h => .inr (by have : j = mb := h; omega)).to_below (B := w0.heap.size) (by omega) fun _ h => h.elim)
        clear hR hRow hT IT hMM M7 k1 k2 hgn hz0'
        obtain ⟨hc1, hc2⟩ := hcc
        go_wp2_with fail
        refine (alive6 _).mono ?_
        rintro e W8 ⟨rfl, B8⟩
        replace b0 := (B8.block _ (blkl b0)).trans b0
        replace b2 := (B8.block _ (blkl b2)).trans b2
        replace r0 := (B8.block _ (blkl r0)).trans r0
        replace hk := (B8.block _ (blkl hk)).trans hk
        replace hk2 := (B8.block _ (blkl hk2)).trans hk2
        replace hc1 := (B8.block _ (blkl hc1)).trans hc1
        have Ball := B7.trans (B8.mono B7.size)
        clear B8 B7
        obtain ⟨d1, e1⟩ := blkc b0
        obtain ⟨d2, e2⟩ := blkc b2
        obtain ⟨d3, e3⟩ := blkc hc1
        obtain ⟨d4, e4⟩ := blkc r0
        have hL65 : (L.length : Int) ≤ 65536 := by have := hbL.out; omega
        rcases hc2 with rfl | ⟨hc2, rfl⟩
        all_goals
          go_wp2_with fail
          have hgn := hlt6.out
          have hz0' := hz0.out
          refine retM2 (D := w6.heap.size) (E := w4.heap.size) (v := .bool true) (by omega) ((heap_set_ne (by show w6.heap.size ≠ w.heap.size + 1; omega)).trans hk2) ((heap_set_ne (by show w4.heap.size ≠ w.heap.size + 1; omega)).trans hk) rfl (res_bool (w.heap.size + 1) _ rfl rfl ?_ Try.underlying4)
            ⟨rfl, below_put (below_put ((B0.trans (Ball.mono B0.size)).setCell (by simp) _) (by omega) _) (by omega) _⟩
          have hcell : (((W8.setCell ⟨w.heap.size + 1, 0, none⟩ (.bool true)).putObj w6.heap.size (.deferred none)).putObj w4.heap.size (.deferred none)).heap[w.heap.size + 1]? = some (.cells #[.bool true] 4 (0, 0)) := by
            rw [World.putObj_heap_other (by omega), World.putObj_heap_other (by omega)]
            exact one_setCell r0
          exact (blkc hcell).1 0
      · rintro cc pre W7 hpre M7 ⟨rfl, hR⟩ hk2
        obtain ⟨c7, hcc⟩ : ∃ m : Int, W7.heap[mb]? = some (.cells #[.int .i64 m] 3 (0, 0)) ∧ (m = stop ∨ (m ≠ stop ∧ m = L.length)) := ⟨pre.length, hR.1, .inl hR.2⟩
        have hgn := hlt6.out
        have hz0' := hz0.out
        replace b0 := M7.heap b0 (by omega)
        replace b2 := M7.heap b2 (by omega)
        replace r0 := M7.heap r0 (by omega)
        replace hk := M7.heap hk (by omega)
        have B7 : Below w0.heap.size w0 W7 := F1.below.trans (((M14.trans hMM fun j h => .inr (by have : j = nb := h; omega)).trans M7 fun j h => .inr (by have : j = mb := h; omega)).to_below (B := w0.heap.size) (by omega) fun _ h => h.elim)
        clear hR hRow hT IT hMM M7 k1 k2 hgn hz0'
        obtain ⟨hc1, hc2⟩ := hcc
        go_wp2_with fail
        refine (alive6 _).mono ?_
        rintro e W8 ⟨rfl, B8⟩
        replace b0 := (B8.block _ (blkl b0)).trans b0
        replace b2 := (B8.block _ (blkl b2)).trans b2
        replace r0 := (B8.block _ (blkl r0)).trans r0
        replace hk := (B8.block _ (blkl hk)).trans hk
        replace hk2 := (B8.block _ (blkl hk2)).trans hk2
        replace hc1 := (B8.block _ (blkl hc1)).trans hc1
        have Ball := B7.trans (B8.mono B7.size)
        clear B8 B7
        obtain ⟨d1, e1⟩ := blkc b0
        obtain ⟨d2, e2⟩ := blkc b2
        obtain ⟨d3, e3⟩ := blkc hc1
        obtain ⟨d4, e4⟩ := blkc r0
        have hL65 : (L.length : Int) ≤ 65536 := by have := hbL.out; omega
        rcases hc2 with rfl | ⟨hc2, rfl⟩
        all_goals
          go_wp2_with fail
          have hgn := hlt6.out
          have hz0' := hz0.out
          refine retM2 (D := w6.heap.size) (E := w4.heap.size) (v := .bool true) (by omega) ((heap_set_ne (by show w6.heap.size ≠ w.heap.size + 1; omega)).trans hk2) ((heap_set_ne (by show w4.heap.size ≠ w.heap.size + 1; omega)).trans hk) rfl (res_bool (w.heap.size + 1) _ rfl rfl ?_ Try.underlying4)
            ⟨rfl, below_put (below_put ((B0.trans (Ball.mono B0.size)).setCell (by simp) _) (by omega) _) (by omega) _⟩
          have hcell : (((W8.setCell ⟨w.heap.size + 1, 0, none⟩ (.bool true)).putObj w6.heap.size (.deferred none)).putObj w4.heap.size (.deferred none)).heap[w.heap.size + 1]? = some (.cells #[.bool true] 4 (0, 0)) := by
            rw [World.putObj_heap_other (by omega), World.putObj_heap_other (by omega)]
            exact one_setCell r0
          exact (blkc hcell).1 0
    · have hcs2 : ((L.length : Int) - n != stop) = false := by simpa using hcs
      have hcn2 : (n != 0) = true := by simpa using hcn
      have hcn3 : ((0 : Int) != n) = true := by simp; omega
      replace hcs := hid hcs
      replace hcn := hid hcn
      go_wp2_with fail
      refine HA.mono ?_
      rintro e w6 ⟨rfl, hw6⟩
      have k1 : w6.heap[W5.heap.size]? = some (.cells #[.pointer (some ⟨tb, 0, none⟩)] 23 (0, 0)) := by rw [hw6]; exact alloc2_0 _ _ _
      have k2 : w6.heap[W5.heap.size + 1]? = some (.cells #[.int .i64 (di false)] 3 (0, 0)) := by rw [hw6]; exact alloc2_1 _ _ _
      have M6 : Mod (fun _ => False) W5 w6 := by rw [hw6]; exact ((Mod.refl _ _).alloc _).alloc _
      have hz6 : w6.heap.size = W5.heap.size + 2 := by rw [hw6]; simp [WalkW]
      clear hw6 HA d1 e1 d2 e2 d3 e3 d4 e4 hW5
      replace hT := hT.mod0 (M5.trans' M6)
      replace hRow := hRow.keep (M5.trans' M6)
      replace b0 := (M5.trans' M6).heap b0 fun h => h
      replace b2 := (M5.trans' M6).heap b2 fun h => h
      replace r0 := (M5.trans' M6).heap r0 fun h => h
      replace hk := (M5.trans' M6).heap hk fun h => h
      replace b5 := M6.heap b5 fun h => h
      have hMM := hM.trans (M5.trans' M6) fun _ h => h.elim
      have IT := walk_iter false hT k1 k2
      rw [hL] at IT
      change Iter _ _ _ _ L _ _ at IT
      obtain ⟨mb, hmb⟩ : ∃ mb, W.heap.size = mb := ⟨_, rfl⟩
      rw [hmb] at b5 hz5
      rw [hmb]
      have hlt6 : W5.heap.size = mb + 1 ∧ w6.heap.size = mb + 3 ∧ nb + 3 = w4.heap.size ∧ lb + 1 = nb ∧ w.heap.size + 2 ≤ lb ∧ w4.heap.size < mb ∧ w1.heap.size = lb := by have := hlt4.out; have := blkl hkW; have := hz5.out; omega
      replace hlt6 := hid hlt6
      clear hz6 hz5 hmb hlt4 hM M5 M6 hkW
      go_wp2_with fail
      refine wp_range1 (gf := 78) rfl (enters_of Try.func78 (by kernel_rfl) rfl) IT (fun _ => rfl)
        (fun j => j = mb) (fun j hj => by have := hlt6.out; have : j = mb := hj; omega) (fun j hj h => by have := hlt6.out; have h : j = mb := h; rcases hj with hj | hj | hj; omega; omega; have := hTF j hj; omega) (fun j hj => by have := hlt6.out; rcases hj with rfl | rfl | hj; omega; omega; have := hTF j hj; omega)
        (CntR mb (fun m => (m : Int)) (fun m => 0 < m → (m : Int) ≠ stop)) (fun c pre W => c = .exit 2 ∧ CntR mb (fun m => (m : Int)) (fun m => (m : Int) = stop) pre W)
        CntR.looks (fun c pre W W' h hk => ⟨h.1, CntR.looks _ _ _ h.2 hk⟩) ⟨by simpa using b5, by simp⟩
        (fun x => #[.int .i64 x.ls, .int .i64 x.la, .int .i64 x.hs, .int .i64 x.ha, .int .i64 x.v]) 36 ?_ ?_ ?_
      · apply Exists.intro
        constructor
        · intro yl x W KK hKK
          simp [encSV]
          gi_wp2_with fail
          generalize W.heap.size = b at hKK ⊢
          exact hKK
        · intro yl pre x rest b W hx hb hge hM hR
          obtain ⟨hR1, hR2⟩ := hR
          have hlen : L.length = pre.length + 1 + rest.length := by rw [hx]; simp; omega
          have hq : pre.length < L.length := by omega
          have hLq : L[pre.length] = x := by subst hx; simp
          have hgn := hlt6.out
          have RW : RowV W (.slice A L.length c) L := own_mod hRow hM fun k hk e => by have := hv k hk; have : k = mb := e; omega
          have w0b := hM.heap b0 (by omega)
          have w2b := hM.heap b2 (by omega)
          dsimp only at hR1
          obtain ⟨g, rfl⟩ := hA (by omega)
          have hbn : b ≠ mb := by omega
          obtain ⟨t1, t2⟩ := blkc hR1
          obtain ⟨c0, c1, c2, c3, c4⟩ := RowV.cells RW hq
          rw [hLq] at c0 c1 c2 c3 c4
          obtain ⟨s3, s4⟩ := blkc w2b
          obtain ⟨s5, s6⟩ := blkc hb
          have hL65 : (L.length : Int) ≤ 65536 := by have := hbL.out; omega
          have hqL : (pre.length : Int) < L.length := by omega
          have fin : ∀ W', Mod (fun j => j = mb) W W' → W'.heap[mb]? = some (.cells #[.int .i64 ((pre.length : Int) + 1)] 3 (0, 0)) → ∀ (R : Nat → Prop), R (pre.length + 1) → Mod (fun j => j = mb) W W' ∧ CntR mb (fun m => (m : Int)) R (pre ++ [x]) W' := fun W' m' nb' R hR =>
            ⟨m', by
              have e : (((pre ++ [x]).length : Nat) : Int) = (pre.length : Int) + 1 := by simp
              show W'.heap[mb]? = some (.cells #[.int .i64 (((pre ++ [x]).length : Nat) : Int)] 3 (0, 0))
              rw [e]; exact nb', by simpa using hR⟩
          clear w2b hx hLq RW hb hM hq
          generalize pre.length = q at *
          have hq0 : decide ((q : Int) ≥ (L.length : Int)) = false := by simp; omega
          have hq1 : decide ((L.length : Int) ≤ (q : Int)) = false := by simp; omega
          have hq2 : ¬ L.length ≤ q := by omega
          have hq3 : decide (L.length ≤ q) = false := by simp; omega
          obtain ⟨ls, la, hs', ha, sv⟩ := x
          replace hlen := hid hlen
          replace fin := hid fin
          gi_wp2_with fail
          refine rq_read (by kernel_rfl) (by kernel_rfl) ?_
          repeat (any_goals (first | go_big_quiet_step (fail) | quiet_step (fail)))
          refine wpQuiet_nil ?_
          rintro _ ⟨nq, rfl⟩
          obtain ⟨W', hW', m'⟩ : ∃ W', (W.drewN nq).setCell ⟨mb, 0, none⟩ (.int .i64 ((q : Int) + 1)) = W' ∧ Mod (fun j => j = mb) W W' := ⟨_, rfl, Mod.setCell (S := fun j => j = mb) (p := ⟨mb, 0, none⟩) ((Mod.refl _ _).drewN _) (.inl rfl) _⟩
          have nb' : W'.heap[mb]? = some (.cells #[.int .i64 ((q : Int) + 1)] 3 (0, 0)) := by rw [← hW']; exact one_setCell (w := W.drewN nq) hR1
          obtain ⟨s1, s2⟩ := blkc (m'.heap w0b (by omega))
          obtain ⟨s7, s8⟩ := blkc nb'
          replace fin := fin.out W' m' nb'
          clear w0b hR1 m' nb'
          replace hgn := hid hgn
          by_cases hst : (q : Int) + 1 = stop
          · have fin := hid (fin (fun m => (m : Int) = stop) (by simpa using hst))
            have hb : ((q : Int) + 1 == stop) = true := by simpa using hst
            clear hst
            gi_wp2_with fail
            exact ⟨fin.out.1, rfl, fin.out.2⟩
          · have fin := hid (fin (fun m => 0 < m → (m : Int) ≠ stop) (by intro _; simpa using hst))
            have hb : ((q : Int) + 1 == stop) = false := by simpa using hst
            clear hst
            gi_wp2_with fail
            exact fin.out
      · intro W7 M7 hR hk2
        obtain ⟨c7, hcc⟩ : ∃ m : Int, W7.heap[mb]? = some (.cells #[.int .i64 m] 3 (0, 0)) ∧ (m = stop ∨ (m ≠ stop ∧ m = L.length)) := ⟨L.length, hR.1, (Decidable.em ((L.length : Int) = stop)).elim .inl fun h => .inr ⟨h, rfl⟩⟩
        have hgn := hlt6.out
        have hz0' := hz0.out
        replace b0 := M7.heap b0 (by omega)
        replace b2 := M7.heap b2 (by omega)
        replace r0 := M7.heap r0 (by omega)
        replace hk := M7.heap hk (by omega)
        have B7 : Below w0.heap.size w0 W7 := F1.below.trans (((M14.trans hMM fun j h => .inr (by have : j = nb := h; omega)).trans M7 fun j h => .inr (by have : j = mb := h; omega)).to_below (B := w0.heap.size) (by omega) fun _ h => h.elim)
        clear hR hRow hT IT hMM M7 k1 k2 hgn hz0'
        obtain ⟨hc1, hc2⟩ := hcc
        go_wp2_with fail
        refine (alive6 _).mono ?_
        rintro e W8 ⟨rfl, B8⟩
        replace b0 := (B8.block _ (blkl b0)).trans b0
        replace b2 := (B8.block _ (blkl b2)).trans b2
        replace r0 := (B8.block _ (blkl r0)).trans r0
        replace hk := (B8.block _ (blkl hk)).trans hk
        replace hk2 := (B8.block _ (blkl hk2)).trans hk2
        replace hc1 := (B8.block _ (blkl hc1)).trans hc1
        have Ball := B7.trans (B8.mono B7.size)
        clear B8 B7
        obtain ⟨d1, e1⟩ := blkc b0
        obtain ⟨d2, e2⟩ := blkc b2
        obtain ⟨d3, e3⟩ := blkc hc1
        obtain ⟨d4, e4⟩ := blkc r0
        have hL65 : (L.length : Int) ≤ 65536 := by have := hbL.out; omega
        rcases hc2 with rfl | ⟨hc2, rfl⟩
        all_goals
          go_wp2_with fail
          have hgn := hlt6.out
          have hz0' := hz0.out
          refine retM2 (D := w6.heap.size) (E := w4.heap.size) (v := .bool true) (by omega) ((heap_set_ne (by show w6.heap.size ≠ w.heap.size + 1; omega)).trans hk2) ((heap_set_ne (by show w4.heap.size ≠ w.heap.size + 1; omega)).trans hk) rfl (res_bool (w.heap.size + 1) _ rfl rfl ?_ Try.underlying4)
            ⟨rfl, below_put (below_put ((B0.trans (Ball.mono B0.size)).setCell (by simp) _) (by omega) _) (by omega) _⟩
          have hcell : (((W8.setCell ⟨w.heap.size + 1, 0, none⟩ (.bool true)).putObj w6.heap.size (.deferred none)).putObj w4.heap.size (.deferred none)).heap[w.heap.size + 1]? = some (.cells #[.bool true] 4 (0, 0)) := by
            rw [World.putObj_heap_other (by omega), World.putObj_heap_other (by omega)]
            exact one_setCell r0
          exact (blkc hcell).1 0
      · rintro cc pre W7 hpre M7 ⟨rfl, hR⟩ hk2
        obtain ⟨c7, hcc⟩ : ∃ m : Int, W7.heap[mb]? = some (.cells #[.int .i64 m] 3 (0, 0)) ∧ (m = stop ∨ (m ≠ stop ∧ m = L.length)) := ⟨pre.length, hR.1, .inl hR.2⟩
        have hgn := hlt6.out
        have hz0' := hz0.out
        replace b0 := M7.heap b0 (by omega)
        replace b2 := M7.heap b2 (by omega)
        replace r0 := M7.heap r0 (by omega)
        replace hk := M7.heap hk (by omega)
        have B7 : Below w0.heap.size w0 W7 := F1.below.trans (((M14.trans hMM fun j h => .inr (by have : j = nb := h; omega)).trans M7 fun j h => .inr (by have : j = mb := h; omega)).to_below (B := w0.heap.size) (by omega) fun _ h => h.elim)
        clear hR hRow hT IT hMM M7 k1 k2 hgn hz0'
        obtain ⟨hc1, hc2⟩ := hcc
        go_wp2_with fail
        refine (alive6 _).mono ?_
        rintro e W8 ⟨rfl, B8⟩
        replace b0 := (B8.block _ (blkl b0)).trans b0
        replace b2 := (B8.block _ (blkl b2)).trans b2
        replace r0 := (B8.block _ (blkl r0)).trans r0
        replace hk := (B8.block _ (blkl hk)).trans hk
        replace hk2 := (B8.block _ (blkl hk2)).trans hk2
        replace hc1 := (B8.block _ (blkl hc1)).trans hc1
        have Ball := B7.trans (B8.mono B7.size)
        clear B8 B7
        obtain ⟨d1, e1⟩ := blkc b0
        obtain ⟨d2, e2⟩ := blkc b2
        obtain ⟨d3, e3⟩ := blkc hc1
        obtain ⟨d4, e4⟩ := blkc r0
        have hL65 : (L.length : Int) ≤ 65536 := by have := hbL.out; omega
        rcases hc2 with rfl | ⟨hc2, rfl⟩
        all_goals
          go_wp2_with fail
          have hgn := hlt6.out
          have hz0' := hz0.out
          refine retM2 (D := w6.heap.size) (E := w4.heap.size) (v := .bool true) (by omega) ((heap_set_ne (by show w6.heap.size ≠ w.heap.size + 1; omega)).trans hk2) ((heap_set_ne (by show w4.heap.size ≠ w.heap.size + 1; omega)).trans hk) rfl (res_bool (w.heap.size + 1) _ rfl rfl ?_ Try.underlying4)
            ⟨rfl, below_put (below_put ((B0.trans (Ball.mono B0.size)).setCell (by simp) _) (by omega) _) (by omega) _⟩
          have hcell : (((W8.setCell ⟨w.heap.size + 1, 0, none⟩ (.bool true)).putObj w6.heap.size (.deferred none)).putObj w4.heap.size (.deferred none)).heap[w.heap.size + 1]? = some (.cells #[.bool true] 4 (0, 0)) := by
            rw [World.putObj_heap_other (by omega), World.putObj_heap_other (by omega)]
            exact one_setCell r0
          exact (blkc hcell).1 0
end
end Go.Proofs.Bo
