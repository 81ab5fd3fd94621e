import Derived.Test.YtofgoehkahcajaaAMG
import Derived.Test.YtofgoehkahcajaaDown7
import Derived.Test.YtofgoehkahcajaaRngG
import Derived.Test.YtofgoehkahcajaaRoundQ
set_option linter.unusedVariables false
set_option linter.unusedSimpArgs false
namespace Go.Proofs.Bo
open Go Go.RowKit Go.Shelf

/-- The end of a function whose one result is a bool in memory. -/
theorem res_bool7 {P : Program} {fn : Func} {tmps : Array Value} {W : World} {p : Tmp} {ty : TypeId} (g : Nat) (v : Value) (h : fn.results = #[.cell p ty]) (hp : tmps.getD p undef = .pointer (some ⟨g, 0, none⟩))
    (hg : W.cell? ⟨g, 0, none⟩ = some v) (hu : P.underlying ty = some .bool) : (results fn tmps).run P W = .ok v W := by
  have hp' : tmps[p]?.getD undef = .pointer (some ⟨g, 0, none⟩) := by simpa using hp
  have hl : (Sem.load .plain ⟨g, 0, none⟩ Sem.pure).run P W = .ok v W := by
    have := run_load (P := P) (w := W) ⟨g, 0, none⟩ .plain
    rw [hg] at this
    exact this
  simp [results, h, hp', asAddr, loadVar, isAgg, run_underlying hu, load, hl, go_sem]
theorem one_setCell7 {w : World} {g : Nat} {t : TypeId} {u v : Value} (h : w.heap[g]? = some (.cells #[u] t (0, 0))) : (w.setCell ⟨g, 0, none⟩ v).heap[g]? = some (.cells #[v] t (0, 0)) := setL_whole (cs := [u]) (us := [v]) h rfl

/-- The counter's block. -/
def CntR7 (nb : Nat) (f : Nat → Int) (R : Nat → Prop) : List Sg → World → Prop := fun pre W => W.heap[nb]? = some (.cells #[.int .i64 (f pre.length)] 3 (0, 0)) ∧ R pre.length
theorem CntR7.looks {nb : Nat} {f : Nat → Int} {R : Nat → Prop} : Looks (fun j => j = nb) (CntR7 nb f R) := fun pre W W' h hk => ⟨(hk nb rfl).trans h.1, h.2⟩
theorem shareW {G : Prop} (F : World → Prop) (h : ∃ P : World → Prop, ((∀ a, F a → P a) → G) ∧ ∀ a, F a → P a) : G := h.elim fun P q => q.1 q.2
theorem shareNM {G : Prop} (F : World → Nat → Nat → Prop) (h : ∃ P : World → Nat → Nat → Prop, ((∀ a b c, F a b c → P a b c) → G) ∧ ∀ a b c, F a b c → P a b c) : G := h.elim fun P q => q.1 q.2

theorem box3w (w : World) (deg room stop : Int) : ∃ w0, ((w.alloc (.cells #[.int .i64 deg, .int .i64 room] 23)).alloc (.cells #[.int .i64 stop] 3)).alloc (.cells #[.bool false] 4) = w0 ∧ w0.heap[w.heap.size]? = some (.cells #[.int .i64 deg, .int .i64 room] 23 (0, 0)) ∧
    w0.heap[w.heap.size + 1]? = some (.cells #[.int .i64 stop] 3 (0, 0)) ∧ w0.heap[w.heap.size + 1 + 1]? = some (.cells #[.bool false] 4 (0, 0)) ∧ Mod (fun _ => False) w w0 ∧ w0.heap.size = w.heap.size + 3 :=
  ⟨_, rfl, alloc3_0 _ _ _ _, alloc3_1 _ _ _ _, alloc3_2 _ _ _ _, (((Mod.refl _ _).alloc _).alloc _).alloc _, by simp⟩

section
attribute [local go_sem] Oper.semAt_some
set_option maxHeartbeats 4000000 in
set_option maxRecDepth 100000 in
theorem walks7 (deg room : Int) (a : Option Addr) (len cap : Nat) (zs : List Op6) (stop : Int) (w : World) (hst : fit64 stop) (hr : RdS encO6 6 w a len zs) (hG : ∀ z ∈ zs, GOp6 z) :
    Calls Try.prog 6 #[.agg #[.int .i64 deg, .int .i64 room], .slice a len cap, .int .i64 stop] w fun e w' => e = .returned (.bool true) ∧ Below w.heap.size w w' := by
  obtain ⟨w0, hw0, bS, b0, r0, M0, hz0⟩ := box3w w deg room stop
  replace hr := hr.below (by decide) (M0.to_below (Nat.le_refl _) fun _ h => h.elim)
  have B0 : Below w.heap.size w w0 := M0.to_below (Nat.le_refl _) fun _ h => h.elim
  obtain ⟨dr, er⟩ := blkc r0
  obtain ⟨dS, eS⟩ := blkc bS
  replace hz0 := hid hz0
  by_cases hb : (deg < 2 ∨ 64 < deg ∨ room < 0 ∨ 4096 < room) ∨ 200 < len
  · have P := madeB_no deg room a len cap w0 hb
    clear hb
    refine calls_of_wp_marks Try.func6 rfl ?_
    simp only [Try.ntmps6, List.size_toArray, List.length_cons, List.length_nil, Nat.reduceAdd, Nat.reduceSub, Array.replicate_succ, Array.replicate_zero, List.push_toArray, List.append_toArray, List.nil_append, List.cons_append]
    go_wp2_with fail
    refine P.mono ?_
    rintro e w1 ⟨rfl, B1⟩
    have r1 := (B1.block _ (blkl r0)).trans r0
    have r1' := ((Mod.refl (fun _ => False) w1).alloc (.cells #[.slice none 0 0] 26)).heap r1 fun h => h
    have B1' : Below w0.heap.size w0 (w1.alloc (.cells #[.slice none 0 0] 26)) := B1.alloc B1.size _
    obtain ⟨W2, hW2, b2, M2⟩ : ∃ W2, (w1.alloc (.cells #[.slice none 0 0] 26)).setCell ⟨w1.heap.size, 0, none⟩ (.slice none 0 0) = W2 ∧ W2.heap[w1.heap.size]? = some (.cells #[.slice none 0 0] 26 (0, 0)) ∧ Mod (fun _ => False) w1 W2 := ⟨_, rfl, one_setCell7 (alloc_0 _ _), ((Mod.refl _ _).alloc _).setCell (.inr (Nat.le_refl _)) _⟩
    obtain ⟨a4, a5⟩ := blkc (alloc_0 w1 (.cells #[.slice none 0 0] 26))
    have B2 : Below w0.heap.size w0 W2 := B1.trans ((M2.to_below (Nat.le_refl _) fun _ h => h.elim).mono B1.size)
    go_wp2_with fail
    refine (alive7 _).mono ?_
    rintro e w3 ⟨rfl, B3⟩
    have Ball := B2.trans (B3.mono B2.size)
    have r2 := (Ball.block _ (blkl r0)).trans r0
    obtain ⟨d2, e2⟩ := blkc r2
    go_wp2_with fail
    exact retM0 (res_bool7 (w.heap.size + 1 + 1) (.bool true) rfl rfl ((blkc (one_setCell7 r2)).1 0) Try.underlying4) rfl ⟨rfl, (B0.trans (Ball.mono B0.size)).setCell (by simp; omega) _⟩
  obtain ⟨d, rfl⟩ : ∃ d : Nat, deg = d := ⟨deg.toNat, by omega⟩
  have hd : 2 ≤ d ∧ d ≤ 64 := by omega
  have hr0 : 0 ≤ room ∧ room ≤ 4096 := by omega
  have hle : len ≤ 200 := by omega
  have P := madeB d room a len cap zs w0 hr hG hd hr0 hle
  clear hb hr hG
  refine calls_of_wp_marks Try.func6 rfl ?_
  simp only [Try.ntmps6, List.size_toArray, List.length_cons, List.length_nil, Nat.reduceAdd, Nat.reduceSub, Array.replicate_succ, Array.replicate_zero, List.push_toArray, List.append_toArray, List.nil_append, List.cons_append]
  go_wp2_with fail
  refine P.mono ?_
  rintro e w1 ⟨tb, v, L, rfl, F1⟩
  clear P dr er dS eS
  obtain ⟨A, c, hv, hA⟩ := F1.2.1.slice
  subst hv
  have hbL := bb_bound F1.1
  have hv := fun k (hk : (Value.slice A L.length c).ownBlock = some k) => own_lt F1.2.1 hk
  obtain ⟨W2, hW2, b2, M2, hz2⟩ : ∃ W2, (w1.alloc (.cells #[.slice none 0 0] 26)).setCell ⟨w1.heap.size, 0, none⟩ (.slice A L.length c) = W2 ∧ W2.heap[w1.heap.size]? = some (.cells #[.slice A L.length c] 26 (0, 0)) ∧ Mod (fun _ => False) w1 W2 ∧ W2.heap.size = w1.heap.size + 1 :=
    ⟨_, rfl, one_setCell7 (alloc_0 _ _), ((Mod.refl _ _).alloc _).setCell (.inr (Nat.le_refl _)) _, by simp⟩
  obtain ⟨d2, e2⟩ := blkc b2
  obtain ⟨a4, a5⟩ := blkc (alloc_0 w1 (.cells #[.slice none 0 0] 26))
  replace hz2 := hid hz2
  replace hbL := hid hbL
  go_wp2_with fail
  clear hW2 a4 a5
  refine shareNM (fun W4 nb mb => CM W2 W4 ∧ W4.heap[nb]? = some (.cells #[.int .i64 0] 3 (0, 0)) ∧ W4.heap[mb]? = some (.cells #[.int .i64 (L.length : Int)] 3 (0, 0)) ∧ nb ≠ mb ∧ W2.heap.size ≤ nb ∧ W2.heap.size ≤ mb ∧ nb < W4.heap.size ∧ mb < W4.heap.size) ?_
  apply Exists.intro
  refine ⟨fun hP => ?_, fun W4 nb mb hF => ?_⟩
  · have f1 : ∀ o, (W2.alloc o).cell? ⟨w1.heap.size, 0, none⟩ = some (.slice A L.length c) := fun o => (blkc (((Mod.refl (fun _ => False) W2).alloc o).heap b2 fun h => h)).1 0
    have f2 : ∀ o o', ((W2.alloc o).alloc o').cell? ⟨w1.heap.size, 0, none⟩ = some (.slice A L.length c) := fun o o' => (blkc ((((Mod.refl (fun _ => False) W2).alloc o).alloc o').heap b2 fun h => h)).1 0
    obtain ⟨g1, g2⟩ := blkc (alloc2_0 W2 (.cells #[.int .i64 0] 3) (.cells #[.int .i64 0] 3))
    obtain ⟨g3, g4⟩ := blkc (alloc2_1 W2 (.cells #[.int .i64 0] 3) (.cells #[.int .i64 0] 3))
    go_region
    · have x0 : CM W2 ((W2.alloc (.cells #[.int .i64 0] 3)).alloc (.cells #[.int .i64 (L.length : Int)] 3)).drew := (((Mod.refl _ _).alloc _).alloc _).drew
      have x1 : ((W2.alloc (.cells #[.int .i64 0] 3)).alloc (.cells #[.int .i64 (L.length : Int)] 3)).drew.heap[W2.heap.size]? = some (.cells #[.int .i64 0] 3 (0, 0)) := alloc2_0 _ _ _
      have x2 : ((W2.alloc (.cells #[.int .i64 0] 3)).alloc (.cells #[.int .i64 (L.length : Int)] 3)).drew.heap[W2.heap.size + 1]? = some (.cells #[.int .i64 (L.length : Int)] 3 (0, 0)) := alloc2_1 _ _ _
      have x3 : ((W2.alloc (.cells #[.int .i64 0] 3)).alloc (.cells #[.int .i64 (L.length : Int)] 3)).drew.heap.size = W2.heap.size + 2 := by show ((W2.alloc _).alloc _).heap.size = _; simp
      clear f1 f2 g1 g2 g3 g4
      generalize e2 : W2.heap.size + 1 = mb at x2 ⊢
      generalize e1 : ((W2.alloc (.cells #[.int .i64 0] 3)).alloc (.cells #[.int .i64 (L.length : Int)] 3)).drew = W4 at x0 x1 x2 x3 ⊢
      generalize e3 : W2.heap.size = nb at x1 ⊢
      exact hP W4 nb mb ⟨x0, x1, x2, by omega, by omega, by omega, by omega, by omega⟩
    · have x0 : CM W2 ((W2.alloc (.cells #[.int .i64 (L.length : Int)] 3)).alloc (.cells #[.int .i64 0] 3)).drew := (((Mod.refl _ _).alloc _).alloc _).drew
      have x1 : ((W2.alloc (.cells #[.int .i64 (L.length : Int)] 3)).alloc (.cells #[.int .i64 0] 3)).drew.heap[W2.heap.size]? = some (.cells #[.int .i64 (L.length : Int)] 3 (0, 0)) := alloc2_0 _ _ _
      have x2 : ((W2.alloc (.cells #[.int .i64 (L.length : Int)] 3)).alloc (.cells #[.int .i64 0] 3)).drew.heap[W2.heap.size + 1]? = some (.cells #[.int .i64 0] 3 (0, 0)) := alloc2_1 _ _ _
      have x3 : ((W2.alloc (.cells #[.int .i64 (L.length : Int)] 3)).alloc (.cells #[.int .i64 0] 3)).drew.heap.size = W2.heap.size + 2 := by show ((W2.alloc _).alloc _).heap.size = _; simp
      clear f1 f2 g1 g2 g3 g4
      generalize e2 : W2.heap.size + 1 = nb at x2 ⊢
      generalize e1 : ((W2.alloc (.cells #[.int .i64 (L.length : Int)] 3)).alloc (.cells #[.int .i64 0] 3)).drew = W4 at x0 x1 x2 x3 ⊢
      generalize e3 : W2.heap.size = mb at x1 ⊢
      exact hP W4 nb mb ⟨x0, x2, x1, by omega, by omega, by omega, by omega, by omega⟩
  obtain ⟨M4, n4, m4, hnm, hn2, hm2, hnW, hmW⟩ := hF
  clear d2 e2
  have M14 := M2.trans' M4
  have F4 := F1.mod0 M14
  have HA := allBZ W4 tb
  go_wp2_with fail
  refine HA.mono ?_
  rintro e w5 ⟨rfl, hw5⟩
  have k1 : w5.heap[W4.heap.size]? = some (.cells #[.pointer (some ⟨tb, 0, none⟩)] 25 (0, 0)) := by rw [hw5]; exact alloc_0 _ _
  have M5 : Mod (fun _ => False) W4 w5 := by rw [hw5]; exact (Mod.refl _ _).alloc _
  have hz5 : w5.heap.size = W4.heap.size + 1 := by rw [hw5]; simp
  clear hw5 HA
  replace M14 := M14.trans' M5
  have F5 := F4.mod0 M5
  replace b0 := F5.2.2.2.heap b0 fun h => h
  replace r0 := F5.2.2.2.heap r0 fun h => h
  replace b2 := (M4.trans' M5).heap b2 fun h => h
  replace n4 := M5.heap n4 fun h => h
  replace m4 := M5.heap m4 fun h => h
  have hRow := F5.2.1
  obtain ⟨ab, lv, fv, σ, free, root, S, hT1, hPT, hRw, hdd, _, _, hX⟩ := F1.1
  have hT := hT1.mod0 M14
  have hL5 : L.length ≤ 65535 := by have := hbL.out; omega
  have IT := all_iter hT hPT hdd hL5 k1
  have hTF : ∀ j, FootB tb ab lv fv σ j → w0.heap.size ≤ j ∧ j < w1.heap.size := fun j hj => ⟨(hX j hj).1, hT1.lt hj⟩
  have hw01 := F1.2.2.2.size
  have hz2' := hz2.out
  have hz0' := hz0.out
  obtain ⟨lb, hlb⟩ : ∃ lb, w1.heap.size = lb := ⟨_, rfl⟩
  rw [hlb] at b2 hTF hv hw01 hz2'
  rw [hlb]
  obtain ⟨kb, hkb⟩ : ∃ kb, W4.heap.size = kb := ⟨_, rfl⟩
  rw [hkb] at hnW hmW hz5 k1 IT
  rw [hkb]
  have hlt4 : w.heap.size + 3 = w0.heap.size ∧ w0.heap.size ≤ lb ∧ lb + 1 ≤ nb ∧ lb + 1 ≤ mb ∧ nb < kb ∧ mb < kb ∧ nb ≠ mb ∧ w5.heap.size = kb + 1 := by omega
  replace hlt4 := hid hlt4
  clear hz2' hz0' hw01 hkb hnm hn2 hm2 hnW hmW hz2
  go_wp2_with fail
  refine shareW (fun W => Mod (fun j => j = nb) w5 W ∧ W.heap[kb + 1]? = some (.deferred (some [])) ∧ ∃ n : Nat, n ≤ L.length ∧ W.heap[nb]? = some (.cells #[.int .i64 (n : Int)] 3 (0, 0)) ∧ (n = L.length ∨ (n : Int) = stop)) ?_
  apply Exists.intro
  refine ⟨fun hP => ?_, fun W hF => ?_⟩
  · have e51 : w5.heap.size = kb + 1 := hlt4.out.2.2.2.2.2.2.2
    refine wp_range1 (gf := 57) rfl (enters_of Try.func57 (by kernel_rfl) rfl) IT (fun _ => rfl)
      (fun j => j = nb) (fun j hj => by have := hlt4.out; have : j = nb := hj; omega) (fun j hj h => by have := hlt4.out; have h : j = nb := h; rcases hj with hj | hj; omega; have := hTF j hj; omega) (fun j hj => by have := hlt4.out; rcases hj with hj | hj; omega; have := hTF j hj; omega)
      (CntR7 nb (fun m => (m : Int)) (fun m => 0 < m → (m : Int) ≠ stop)) (fun c pre W => c = .exit 0 ∧ CntR7 nb (fun m => (m : Int)) (fun m => (m : Int) = stop) pre W)
      CntR7.looks (fun c pre W W' h hk => ⟨h.1, CntR7.looks _ _ _ h.2 hk⟩) ⟨by simpa using n4, by simp⟩
      (fun x => #[.int .i64 x.ls, .int .i64 x.la, .int .i64 x.hs, .int .i64 x.ha, .int .i64 x.v]) 36 ?body ?done ?stop
    case done =>
      intro W hM hR hk
      rw [e51] at hk ⊢
      go_simp
      exact hP W ⟨hM, hk, L.length, Nat.le_refl _, hR.1, .inl rfl⟩
    case stop =>
      rintro cc pre W hpre hM ⟨rfl, hR⟩ hk
      rw [e51] at hk ⊢
      refine wp_exit ?_
      go_simp
      exact hP W ⟨hM, hk, pre.length, hpre.length_le, hR.1, .inr hR.2⟩
    case body =>
      apply Exists.intro
      constructor
      · intro yl x W KK hKK
        simp [encSB]
        gi_wp2_with fail
        generalize W.heap.size = b at hKK ⊢
        exact hKK
      · intro yl pre x rest b W hx hb hge hM hR
        obtain ⟨hR1, hR2⟩ := hR
        have hlen : L.length = pre.length + 1 + rest.length := by rw [hx]; simp; omega
        have hq : pre.length < L.length := by omega
        have hLq : L[pre.length] = x := by subst hx; simp
        have hgn := hlt4.out
        have RW : RowV W (.slice A L.length c) L := own_mod hRow hM fun k hk e => by have := hv k hk; have : k = nb := e; omega
        have w0b := hM.heap b0 (by omega)
        have w2b := hM.heap b2 (by omega)
        dsimp only at hR1
        obtain ⟨g, rfl⟩ := hA (by omega)
        have hbn : b ≠ nb := by omega
        obtain ⟨t1, t2⟩ := blkc hR1
        obtain ⟨c0, c1, c2, c3, c4⟩ := RowV.cells RW hq
        rw [hLq] at c0 c1 c2 c3 c4
        obtain ⟨s3, s4⟩ := blkc w2b
        obtain ⟨s5, s6⟩ := blkc hb
        have hL65 : (L.length : Int) ≤ 65536 := by omega
        have hqL : (pre.length : Int) < L.length := by omega
        have fin : ∀ W', Mod (fun j => j = nb) W W' → W'.heap[nb]? = some (.cells #[.int .i64 ((pre.length : Int) + 1)] 3 (0, 0)) → ∀ (R : Nat → Prop), R (pre.length + 1) → Mod (fun j => j = nb) W W' ∧ CntR7 nb (fun m => (m : Int)) R (pre ++ [x]) W' := fun W' m' nb' R hR =>
          ⟨m', by
            have e : (((pre ++ [x]).length : Nat) : Int) = (pre.length : Int) + 1 := by simp
            show W'.heap[nb]? = some (.cells #[.int .i64 (((pre ++ [x]).length : Nat) : Int)] 3 (0, 0))
            rw [e]; exact nb', by simpa using hR⟩
        clear w2b hx hLq RW hb hM hq
        generalize pre.length = q at *
        have hq0 : decide ((q : Int) ≥ (L.length : Int)) = false := by simp; omega
        have hq1 : decide ((L.length : Int) ≤ (q : Int)) = false := by simp; omega
        have hq2 : ¬ L.length ≤ q := by omega
        have hq3 : decide (L.length ≤ q) = false := by simp; omega
        obtain ⟨ls, la, hs', ha, sv⟩ := x
        replace hlen := hid hlen
        replace fin := hid fin
        gi_wp2_with fail
        refine rq_read (by kernel_rfl) (by kernel_rfl) ?_
        repeat (any_goals (first | go_big_quiet_step (fail) | quiet_step (fail)))
        refine wpQuiet_nil ?_
        rintro _ ⟨nq, rfl⟩
        obtain ⟨W', hW', m'⟩ : ∃ W', (W.drewN nq).setCell ⟨nb, 0, none⟩ (.int .i64 ((q : Int) + 1)) = W' ∧ Mod (fun j => j = nb) W W' := ⟨_, rfl, Mod.setCell (S := fun j => j = nb) (p := ⟨nb, 0, none⟩) ((Mod.refl _ _).drewN _) (.inl rfl) _⟩
        have nb' : W'.heap[nb]? = some (.cells #[.int .i64 ((q : Int) + 1)] 3 (0, 0)) := by rw [← hW']; exact one_setCell7 (w := W.drewN nq) hR1
        obtain ⟨s1, s2⟩ := blkc (m'.heap w0b (by omega))
        obtain ⟨s7, s8⟩ := blkc nb'
        replace fin := fin.out W' m' nb'
        clear w0b hR1 m' nb'
        replace hgn := hid hgn
        by_cases hst : (q : Int) + 1 = stop
        · have fin := hid (fin (fun m => (m : Int) = stop) (by simpa using hst))
          have hb : ((q : Int) + 1 == stop) = true := by simpa using hst
          clear hst
          gi_wp2_with fail
          exact ⟨fin.out.1, rfl, fin.out.2⟩
        · have fin := hid (fin (fun m => 0 < m → (m : Int) ≠ stop) (by intro _; simpa using hst))
          have hb : ((q : Int) + 1 == stop) = false := by simpa using hst
          clear hst
          gi_wp2_with fail
          exact fin.out
  obtain ⟨hM, hk, n, hnL, hnb, hcn⟩ := hF
  have HD := downBZ W tb
  go_wp2_with fail
  refine HD.mono ?_
  rintro e w6 ⟨rfl, hw6⟩
  have k2 : w6.heap[W.heap.size]? = some (.cells #[.pointer (some ⟨tb, 0, none⟩)] 25 (0, 0)) := by rw [hw6]; exact alloc_0 _ _
  have M6 : Mod (fun _ => False) W w6 := by rw [hw6]; exact (Mod.refl _ _).alloc _
  have hz6 : w6.heap.size = W.heap.size + 1 := by rw [hw6]; simp
  clear hw6 HD
  have hgn := hlt4.out
  have hWk := blkl hk
  have M56 : Mod (fun j => j = nb) w5 w6 := hM.trans M6 fun _ h => h.elim
  replace hT := hT.mod M56 fun k hk e => by have := hTF k hk; have : k = nb := e; omega
  replace hRow : RowV w6 (.slice A L.length c) L := own_mod hRow M56 fun k hk e => by have := hv k hk; have : k = nb := e; omega
  replace b0 := M56.heap b0 (by omega)
  replace b2 := M56.heap b2 (by omega)
  replace r0 := M56.heap r0 (by omega)
  replace m4 := M56.heap m4 (by omega)
  replace hk := M6.heap hk fun h => h
  replace hnb := M6.heap hnb fun h => h
  clear IT k1
  have IT := down_iter hT hPT hdd.2 hRw k2
  obtain ⟨qb, hqb⟩ : ∃ qb, W.heap.size = qb := ⟨_, rfl⟩
  rw [hqb] at hz6 hWk k2 IT
  rw [hqb]
  have hlt6 : kb + 1 < qb ∧ w6.heap.size = qb + 1 ∧ w.heap.size + 3 = w0.heap.size ∧ w0.heap.size ≤ lb ∧ lb + 1 ≤ nb ∧ lb + 1 ≤ mb ∧ nb < kb ∧ mb < kb ∧ nb ≠ mb := by omega
  have B6 : Below w0.heap.size w0 w6 := F1.below.trans ((M14.to_below (B := w0.heap.size) (by have := F1.below.size; omega) fun _ h => h.elim).trans (M56.to_below (B := w0.heap.size) (by have := F1.below.size; have := M14.size; omega) fun j h => by have : j = nb := h; omega))
  replace B6 := hid B6
  replace hlt6 := hid hlt6
  clear hgn hz6 hWk hqb hM M6 M56 M14 hlt4 F4 F5 n4 hT1 hX
  go_wp2_with fail
  have e61 : w6.heap.size = qb + 1 := hlt6.out.2.1
  refine shareW (fun W => Mod (fun j => j = mb) w6 W ∧ W.heap[qb + 1]? = some (.deferred (some [])) ∧ ∃ m : Nat, m ≤ L.length ∧ W.heap[mb]? = some (.cells #[.int .i64 (m : Int)] 3 (0, 0)) ∧ (m = 0 ∨ (L.length : Int) - m = stop)) ?_
  apply Exists.intro
  refine ⟨fun hP => ?_, fun W7 hF => ?_⟩
  · refine wp_range1 (gf := 59) rfl (enters_of Try.func59 (by kernel_rfl) rfl) IT (fun _ => rfl)
      (fun j => j = mb) (fun j hj => by have := hlt6.out; have : j = mb := hj; omega) (fun j hj h => by have := hlt6.out; have h : j = mb := h; rcases hj with hj | hj; omega; have := hTF j hj; omega) (fun j hj => by have := hlt6.out; rcases hj with hj | hj; omega; have := hTF j hj; omega)
      (CntR7 mb (fun m => (L.length : Int) - m) (fun m => 0 < m → (m : Int) ≠ stop)) (fun c pre W => c = .exit 2 ∧ CntR7 mb (fun m => (L.length : Int) - m) (fun m => (m : Int) = stop) pre W)
      CntR7.looks (fun c pre W W' h hk => ⟨h.1, CntR7.looks _ _ _ h.2 hk⟩) ⟨by simpa using m4, by simp⟩
      (fun x => #[.int .i64 x.ls, .int .i64 x.la, .int .i64 x.hs, .int .i64 x.ha, .int .i64 x.v]) 36 ?body ?done ?stop
    case done =>
      intro W hM hR hk
      rw [e61] at hk ⊢
      go_simp
      refine hP W ⟨hM, hk, 0, Nat.zero_le _, by have := hR.1; simpa using this, .inl rfl⟩
    case stop =>
      rintro cc pre W hpre hM ⟨rfl, hR⟩ hk
      rw [e61] at hk ⊢
      refine wp_exit ?_
      go_simp
      have hl := hpre.length_le
      rw [List.length_reverse] at hl
      have e1 : ((L.length - pre.length : Nat) : Int) = (L.length : Int) - pre.length := by omega
      refine hP W ⟨hM, hk, L.length - pre.length, by omega, by rw [e1]; exact hR.1, .inr ?_⟩
      have := hR.2
      rw [e1]; omega
    case body =>
      apply Exists.intro
      constructor
      · intro yl x W KK hKK
        simp [encSB]
        gi_wp2_with fail
        generalize W.heap.size = b at hKK ⊢
        exact hKK
      · intro yl pre x rest b W hx hb hge hM hR
        obtain ⟨hR1, hR2⟩ := hR
        have hLx : L = rest.reverse ++ x :: pre.reverse := by have := congrArg List.reverse hx; simpa using this
        have hlen : L.length = pre.length + 1 + rest.length := by rw [hLx]; simp; omega
        have hq : rest.length < L.length := by omega
        have hLq : L[rest.length] = x := by subst hLx; simp
        have hgn := hlt6.out
        have RW : RowV W (.slice A L.length c) L := own_mod hRow hM fun k hk e => by have := hv k hk; have : k = mb := e; omega
        have w0b := hM.heap b0 (by omega)
        have w2b := hM.heap b2 (by omega)
        dsimp only at hR1
        rw [show (L.length : Int) - pre.length = (rest.length : Int) + 1 by omega] at hR1
        obtain ⟨g, rfl⟩ := hA (by omega)
        have hbn : b ≠ mb := by omega
        have hgnb : g ≠ mb := by have := hv g rfl; omega
        obtain ⟨t1, t2⟩ := blkc hR1
        obtain ⟨W', hW', m'⟩ : ∃ W', W.setCell ⟨mb, 0, none⟩ (.int .i64 rest.length) = W' ∧ Mod (fun j => j = mb) W W' := ⟨_, rfl, Mod.setCell (S := fun j => j = mb) (p := ⟨mb, 0, none⟩) (Mod.refl _ _) (.inl rfl) _⟩
        have nb' : W'.heap[mb]? = some (.cells #[.int .i64 rest.length] 3 (0, 0)) := by rw [← hW']; exact one_setCell7 hR1
        obtain ⟨c0, c1, c2, c3, c4⟩ := RowV.cells (own_mod RW m' fun k hk e => by have := hv k hk; have : k = mb := e; omega) hq
        rw [hLq] at c0 c1 c2 c3 c4
        obtain ⟨s1, s2⟩ := blkc (m'.heap w0b (by omega))
        obtain ⟨s3, s4⟩ := blkc (m'.heap w2b (by omega))
        obtain ⟨s5, s6⟩ := blkc (m'.heap hb hbn)
        obtain ⟨s7, s8⟩ := blkc nb'
        have hL65 : (L.length : Int) ≤ 65536 := by omega
        have hqL : (rest.length : Int) < L.length := by omega
        have fin : ∀ (R : Nat → Prop), R (pre.length + 1) → ∀ n, Mod (fun j => j = mb) W (W'.drewN n) ∧ CntR7 mb (fun m => (L.length : Int) - m) R (pre ++ [x]) (W'.drewN n) := fun R hR n =>
          ⟨m'.drewN n, by
            have e : (L.length : Int) - ((pre ++ [x]).length : Nat) = (rest.length : Int) := by simp; omega
            show W'.heap[mb]? = some (.cells #[.int .i64 ((L.length : Int) - ((pre ++ [x]).length : Nat))] 3 (0, 0))
            rw [e]; exact nb', by simpa using hR⟩
        have e2 : (L.length : Int) - rest.length = (pre.length : Int) + 1 := by omega
        clear hR1 w0b w2b nb' hLx hx hLq RW hb m' hM hq
        generalize rest.length = q at *
        have hq0 : decide ((q : Int) < 0) = false := by simp
        obtain ⟨ls, la, hs', ha, sv⟩ := x
        replace hlen := hid hlen
        replace hgn := hid hgn
        by_cases hst : (pre.length : Int) + 1 = stop
        · have fin := hid (fin (fun m => (m : Int) = stop) (by simpa using hst))
          have hb : ((L.length : Int) - q == stop) = true := by rw [e2]; simpa using hst
          clear hst
          replace e2 := hid e2
          gi_wp2_with fail
          refine rq_read (by kernel_rfl) (by kernel_rfl) ?_
          repeat (any_goals (first | go_big_quiet_step (fail) | quiet_step (fail)))
          refine wpQuiet_nil ?_
          rintro _ ⟨nq, rfl⟩
          gi_wp2_with fail
          exact ⟨(fin.out nq).1, rfl, (fin.out nq).2⟩
        · have fin := hid (fin (fun m => 0 < m → (m : Int) ≠ stop) (by intro _; simpa using hst))
          have hb : ((L.length : Int) - q == stop) = false := by rw [e2]; simpa using hst
          clear hst
          replace e2 := hid e2
          gi_wp2_with fail
          refine rq_read (by kernel_rfl) (by kernel_rfl) ?_
          repeat (any_goals (first | go_big_quiet_step (fail) | quiet_step (fail)))
          refine wpQuiet_nil ?_
          rintro _ ⟨nq, rfl⟩
          gi_wp2_with fail
          exact fin.out nq
  obtain ⟨M7, hk2, m, hmL, hmb, hcm⟩ := hF
  have hgn := hlt6.out
  replace b0 := M7.heap b0 (by omega)
  replace b2 := M7.heap b2 (by omega)
  replace r0 := M7.heap r0 (by omega)
  replace hk := M7.heap hk (by omega)
  replace hnb := M7.heap hnb (by omega)
  have B7 : Below w0.heap.size w0 W7 := B6.out.trans (M7.to_below (B := w0.heap.size) (by have := B6.out.size; omega) fun j h => by have : j = mb := h; omega)
  have hz7 := M7.size
  clear IT hRow hT M7 k2 m4
  replace hgn := hid hgn
  replace hz7 := hid hz7
  replace hmL := hid hmL
  replace hnL := hid hnL
  replace hlt6 := hid hlt6
  clear B6
  go_wp2_with fail
  refine (alive7 _).mono ?_
  rintro e W8 ⟨rfl, B8⟩
  replace b0 := (B8.block _ (blkl b0)).trans b0
  replace b2 := (B8.block _ (blkl b2)).trans b2
  replace r0 := (B8.block _ (blkl r0)).trans r0
  replace hk := (B8.block _ (blkl hk)).trans hk
  replace hk2 := (B8.block _ (blkl hk2)).trans hk2
  replace hnb := (B8.block _ (blkl hnb)).trans hnb
  replace hmb := (B8.block _ (blkl hmb)).trans hmb
  have Ball := B7.trans (B8.mono B7.size)
  clear B8 B7
  obtain ⟨d1, e1⟩ := blkc b0
  obtain ⟨d2, e2⟩ := blkc b2
  obtain ⟨d3, e3⟩ := blkc hnb
  obtain ⟨d4, e4⟩ := blkc r0
  obtain ⟨d5, e5⟩ := blkc hmb
  have hL65 : (L.length : Int) ≤ 65536 := by omega
  have hmL2 : (m : Int) ≤ L.length := by have := hmL.out; omega
  have hm0 : (0 : Int) ≤ m := by omega
  have c1 : (((n : Int) == (L.length : Int)) = true) ∨ ((((n : Int) == (L.length : Int)) = false) ∧ ((n : Int) == stop) = true) := by
    by_cases e : n = L.length
    · exact .inl (by simp [e])
    · exact .inr ⟨by simp; omega, by rcases hcn with h | h; exact absurd h e; simpa using h⟩
  have c2 : (((m : Int) == 0) = true) ∨ ((((m : Int) == 0) = false) ∧ ((L.length : Int) - m == stop) = true) := by
    by_cases e : m = 0
    · exact .inl (by simp [e])
    · exact .inr ⟨by simp; omega, by rcases hcm with h | h; exact absurd h e; simpa using h⟩
  clear hcn hcm
  replace hlt6 := hid hlt6
  rcases c1 with c1 | ⟨c1, c1'⟩ <;> rcases c2 with c2 | ⟨c2, c2'⟩
  all_goals
    go_wp2_with fail
    have hgn := hgn.out
    have hz7 := hz7.out
    refine retM2 (D := qb + 1) (E := kb + 1) (v := .bool true) (by omega) ((heap_set_ne (by show qb + 1 ≠ w.heap.size + 1 + 1; omega)).trans hk2) ((heap_set_ne (by show kb + 1 ≠ w.heap.size + 1 + 1; omega)).trans hk) rfl (res_bool7 (w.heap.size + 1 + 1) (.bool true) rfl rfl ?_ Try.underlying4)
      ⟨rfl, below_put (below_put ((B0.trans (Ball.mono B0.size)).setCell (by simp; omega) _) (by omega) _) (by omega) _⟩
    have hcell : (((W8.setCell ⟨w.heap.size + 1 + 1, 0, none⟩ (.bool true)).putObj (qb + 1) (.deferred none)).putObj (kb + 1) (.deferred none)).heap[w.heap.size + 1 + 1]? = some (.cells #[.bool true] 4 (0, 0)) := by
      rw [World.putObj_heap_other (by omega), World.putObj_heap_other (by omega)]
      exact one_setCell7 r0
    exact (blkc hcell).1 0
theorem walks7r (cs : Array Value) (a : Option Addr) (len cap : Nat) (zs : List Op6) (stop : Int) (w : World) (fit : Fit [.int .i64, .int .i64] cs.toList) (hr : RdS encO6 6 w a len zs) (hG : ∀ z ∈ zs, GOp6 z) (_ : len * 48 ≤ 140737488351232) (hs : (Lit.int .i64 stop).wf = true) :
    Calls Try.prog 6 #[.agg cs, .slice a len cap, .int .i64 stop] w fun e w' => e = .returned (.bool true) ∧ Below w.heap.size w w' := by
  obtain ⟨deg, room, rfl, _, _⟩ := seatArg fit
  exact walks7 deg room a len cap zs stop w (wf64 hs) hr hG
end
end Go.Proofs.Bo
