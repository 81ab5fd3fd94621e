import Derived.Test.YtgehgjaglgafdaaGreatG14
import Derived.Deep.DeepCutAuto
import Derived.Test.YtgehgjaglgafdaaGreatG16
set_option linter.unusedVariables false
set_option linter.unusedSimpArgs false
namespace Go.Proofs.Bo
open Go Go.RowKit Go.Shelf
theorem res_bool {P : Program} {fn : Func} {tmps : Array Value} {W : World} {p : Tmp} {ty : TypeId} (g : Nat) (v : Value) (h : fn.results = #[.cell p ty]) (hp : tmps.getD p undef = .pointer (some ⟨g, 0, none⟩))
  (hg : W.cell? ⟨g, 0, none⟩ = some v) (hu : P.underlying ty = some .bool) : (results fn tmps).run P W = .ok v W := by
 have hp' : tmps[p]?.getD undef = .pointer (some ⟨g, 0, none⟩) := by simpa using hp
 have hl : (Sem.load .plain ⟨g, 0, none⟩ Sem.pure).run P W = .ok v W := by
  have := run_load (P := P) (w := W) ⟨g, 0, none⟩ .plain
  rw [hg] at this
  exact this
 simp [results, h, hp', asAddr, loadVar, isAgg, run_underlying hu, load, hl, go_sem]
theorem one_setCell {w : World} {g : Nat} {t : TypeId} {u v : Value} (h : w.heap[g]? = some (.cells #[u] t (0, 0))) : (w.setCell ⟨g, 0, none⟩ v).heap[g]? = some (.cells #[v] t (0, 0)) := setL_whole (cs := [u]) (us := [v]) h rfl
section
variable {w w' : World} {tb ab N : Nat} {lv fv : Value} {room : Int} {free : List Int} {t : T}
attribute [local go_sem] Oper.semAt_some
theorem boxTB (w : World) (tb : Nat) : ∃ w0, (w.alloc (.cells #[.pointer (some ⟨tb, 0, none⟩)] 93)).alloc (.cells #[.bool false] 4) = w0 ∧ w0.heap[w.heap.size]? = some (.cells #[.pointer (some ⟨tb, 0, none⟩)] 93 (0, 0)) ∧
  w0.heap[w.heap.size + 1]? = some (.cells #[.bool false] 4 (0, 0)) ∧ Mod (fun _ => False) w w0 ∧ w0.heap.size = w.heap.size + 2 :=
 ⟨_, rfl, alloc2_0 _ _ _, alloc2_1 _ _ _, ((Mod.refl _ _).alloc _).alloc _, by simp⟩
set_option maxHeartbeats 2000000 in
set_option maxRecDepth 100000 in
theorem checkZ_E (h : TS w tb ab lv fv room N free .E) : Calls Tryz.prog 151 #[.pointer (some ⟨tb, 0, none⟩)] w fun e w' => e = .returned (.bool true) ∧ Mod (fun _ => False) w w' := by
 obtain ⟨w0, hw0, b1, b2, M0, hs⟩ := boxTB w tb
 replace h := h.mod0 M0
 have HL := hid (fun (w' : World) (M : CM w0 w') => And.intro (h.mod0 M).root (blkc (Mod.heap M b1 fun h => h)))
 replace hs := hid hs
 refine calls_of_wp_marks Tryz.func151 rfl ?_
 simp only [Tryz.ntmps151, List.size_toArray, List.length_cons, List.length_nil, Nat.reduceAdd, Nat.reduceSub, Array.replicate_succ, Array.replicate_zero, List.push_toArray, List.append_toArray, List.nil_append, List.cons_append]
 go_wp2_with fail
 refine cq_region (by kernel_rfl) (by kernel_rfl) ?_
 iterate 13 (refine wpQuiet_step (fun K hK => ?_); go_simp; first | (refine hK _ ?_; clear hK K) | (refine ⟨_, fun _ _ => rfl, hK _ ?_⟩; clear hK K) | (apply Exists.intro; refine ⟨fun wq hq => ?_, hK _ ?_⟩; (focus (first  | (obtain ⟨⟨t1, t2, t3⟩, t4, t5⟩ := HL.out _ hq; go_simp; try with_reducible rfl))); clear hK K))
 refine wpQuiet_nil ?_
 intro w1 M1
 obtain ⟨⟨t1, t2, t3⟩, t4, t5⟩ := HL.out _ M1
 have P := lenTZ (h.mod0 M1)
 simp only [T.size] at P
 rw [T.ix_E] at t1
 replace b2 := Mod.heap M1 b2 fun h => h
 clear h HL
 go_wp2_with fail
 refine P.mono ?_; rintro e w2 ⟨rfl, M2⟩
 clear P t1 t2 t3 t4 t5
 replace b2 := Mod.heap M2 b2 fun h => h
 obtain ⟨q1, q2⟩ := blkc b2
 go_wp2_with fail
 exact retM0 (res_bool (w.heap.size + 1) (.bool true) rfl rfl ((blkc (one_setCell b2)).1 0) Tryz.underlying4) rfl ⟨rfl, (M0.trans' (Mod.trans' M1 M2)).setCell (.inr (by simp)) _⟩
def ChkR (K : Nat) (g3 : Nat) : List (Nat × Nd) → World → Prop := fun _ W => ∃ v : Int, (v = -1 ∨ v = K) ∧ W.heap[g3]? = some (.cells #[.int .i64 v] 3 (0, 0))
def lastK (pre : List Sg) : Sg := (pre.getLast?).getD zSg
def SrtR (g4 g8 : Nat) : List Sg → World → Prop := fun pre W => W.heap[g4]? = some (.cells #[.int .i64 pre.length] 3 (0, 0)) ∧ W.heap[g8]? = some (.cells #[.int .i64 (lastK pre).ls, .int .i64 (lastK pre).la] 34 (0, 0))
set_option maxHeartbeats 4000000 in
set_option maxRecDepth 100000 in
theorem checkZ_N (h : TS w tb ab lv fv room N free t) (ht0 : t ≠ .E) (hr : Row t.toL) (hF : Fine t) : Calls Tryz.prog 151 #[.pointer (some ⟨tb, 0, none⟩)] w fun e w' => e = .returned (.bool true) ∧ Mod (fun _ => False) w w' := by
 obtain ⟨w0, hw0, b1, b2, M0, hs⟩ := boxTB w tb
 have hlt := fun k hk => h.lt (k := k) hk
 replace hlt := hid hlt
 replace h := h.mod0 M0
 have hred : t.red = false := hF.1
 obtain ⟨K, hK⟩ := hF.2
 have hroot : (t.ix == -1) = false := by
  cases t with
  | E => exact absurd rfl ht0
  | N i b s l r => obtain ⟨k, rfl⟩ := h.nat (i := i) (by simp [T.ids]); simp [T.ix_N]
 have HL := hid (fun (w' : World) (M : CM w0 w') => And.intro (h.mod0 M).root (blkc (Mod.heap M b1 fun h => h)))
 have HR := hid (fun (w' : World) (M : CM w0 w') => (redZ (c := []) (X := t) (h.mod0 M)).mono fun e w'' ⟨h1, h2⟩ => (⟨by rw [h1, hred], by rw [h2]; exact M⟩ : e = Ending.returned (.bool false) ∧ CM w0 w''))
 replace hs := hid hs
 replace hred := hid hred
 replace hK := hid hK
 replace hr := hid hr
 replace hF := hid hF
 refine calls_of_wp_marks Tryz.func151 rfl ?_
 simp only [Tryz.ntmps151, List.size_toArray, List.length_cons, List.length_nil, Nat.reduceAdd, Nat.reduceSub, Array.replicate_succ, Array.replicate_zero, List.push_toArray, List.append_toArray, List.nil_append, List.cons_append]
 go_wp2_with fail
 refine cq_region (by kernel_rfl) (by kernel_rfl) ?_
 iterate 13 (refine wpQuiet_step (fun K hK => ?_); go_simp; first | (refine hK _ ?_; clear hK K) | (refine ⟨_, fun _ _ => rfl, hK _ ?_⟩; clear hK K) | (apply Exists.intro; refine ⟨fun wq hq => ?_, hK _ ?_⟩; (focus (first | (go_at_call 165; exact HR.out _ hq) | (obtain ⟨⟨t1, t2, t3⟩, t4, t5⟩ := HL.out _ hq; go_simp; try with_reducible rfl))); clear hK K))
 refine wpQuiet_nil ?_
 intro w1 M1
 replace b1 := Mod.heap M1 b1 fun h => h
 replace b2 := Mod.heap M1 b2 fun h => h
 replace h := h.mod0 M1
 have hz1 : w.heap.size + 2 ≤ w1.heap.size := by have := Mod.size M1; have := hs.out; omega
 replace M0 := M0.trans' M1
 clear HL HR M1 hroot
 obtain ⟨w2, hw2⟩ : ∃ w2, (w1.alloc (.cells #[.int .i64 0] 3)).alloc (.cells #[.int .i64 0] 3) = w2 := ⟨_, rfl⟩
 obtain ⟨w3, hw3⟩ : ∃ w3, (w2.setCell ⟨w1.heap.size, 0, none⟩ (.int .i64 (-1))).setCell ⟨w1.heap.size + 1, 0, none⟩ (.int .i64 0) = w3 := ⟨_, rfl⟩
 have M2 : Mod (fun _ => False) w1 w2 := by rw [← hw2]; exact ((Mod.refl _ _).alloc _).alloc _
 have c3 : w2.heap[w1.heap.size]? = some (.cells #[.int .i64 0] 3 (0, 0)) := by rw [← hw2]; exact alloc2_0 _ _ _
 have c4 : w2.heap[w1.heap.size + 1]? = some (.cells #[.int .i64 0] 3 (0, 0)) := by rw [← hw2]; exact alloc2_1 _ _ _
 have M3 : Mod (fun _ => False) w1 w3 := by rw [← hw3]; exact (M2.setCell (.inr (by simp)) _).setCell (.inr (by simp)) _
 have b3 : w3.heap[w1.heap.size]? = some (.cells #[.int .i64 (-1)] 3 (0, 0)) := by rw [← hw3, heap_set_ne (by simp)]; exact one_setCell c3
 have b4 : w3.heap[w1.heap.size + 1]? = some (.cells #[.int .i64 0] 3 (0, 0)) := by
  rw [← hw3]; exact one_setCell (by rw [heap_set_ne (by simp)]; exact c4)
 have hz3 : w3.heap.size = w1.heap.size + 2 := by rw [← hw3, ← hw2]; simp
 obtain ⟨x3, y3⟩ := blkc c3
 have c4' : (w2.setCell ⟨w1.heap.size, 0, none⟩ (.int .i64 (-1))).heap[w1.heap.size + 1]? = some (.cells #[.int .i64 0] 3 (0, 0)) := by rw [heap_set_ne (by simp)]; exact c4
 obtain ⟨x4, y4⟩ := blkc c4'
 replace b1 := M3.heap b1 fun h => h
 replace b2 := M3.heap b2 fun h => h
 replace h := h.mod0 M3
 have hrt := h.root.2.1
 obtain ⟨q1, p1⟩ := blkc b1
 clear M2 c3 c4 c4'
 replace hz1 := hid hz1
 replace hz3 := hid hz3
 go_wp2_with fail
 clear hw0 hw2 hw3 x3 y3 x4 y4 q1 p1 hrt
 refine (eachN _ _).mono ?_
 rintro e w4 ⟨rfl, hw4⟩
 have M4 : Mod (fun _ => False) w3 w4 := by rw [hw4]; exact (Mod.refl _ _).alloc _
 have hcl : w4.heap[w3.heap.size]? = some (.cells #[.pointer (some ⟨ab, 0, none⟩)] 121 (0, 0)) := by rw [hw4]; exact alloc_0 _ _
 have hz4 : w4.heap.size = w3.heap.size + 1 := by rw [hw4]; simp
 replace b1 := M4.heap b1 fun h => h
 replace b2 := M4.heap b2 fun h => h
 replace b3 := M4.heap b3 fun h => h
 replace b4 := M4.heap b4 fun h => h
 replace h := h.mod0 M4
 replace M0 := M0.trans' (M3.trans' M4)
 obtain ⟨g3, hg3⟩ : ∃ g3, w1.heap.size = g3 := ⟨_, rfl⟩
 obtain ⟨ge, hge⟩ : ∃ ge, w3.heap.size = ge := ⟨_, rfl⟩
 rw [hg3] at b3 b4 hz3 hz1 ⊢
 rw [hge] at hcl hz4 hz3 ⊢
 replace hz1 := hz1.out
 replace hz3 := hz3.out
 clear hw4 M3 M4 hg3 hge
 subst hz3
 have hz4' : g3 + 3 ≤ w4.heap.size := by omega
 clear hz4
 have hTF : ∀ j, TF tb ab lv fv j → j < w.heap.size := hlt.out
 have h0 := h
 obtain ⟨root, σ, m, hh, hN⟩ := h0
 have hS3 : ∀ j, (fun j => j = g3) j → j < w4.heap.size := fun j hj => by have : j = g3 := hj; omega
 go_wp2_with fail
 refine wp_range' (gf := 185) (lb := #[.pointer (some ⟨g3 + 2, 0, none⟩)]) rfl (enters_of Tryz.func185 (by kernel_rfl) rfl) (eachN_iter m.a hcl) (Mod.refl _ _) (fun _ => rfl)
  (fun j => j = g3) (fun j hj => by omega) (fun j hj h => by rcases hj with hj | hj; omega; have := hTF j (.inr hj); omega) (fun j hj => by rcases hj with rfl | hj; omega; have := hTF j (.inr hj); omega)
  (RngI w4 (fun j => j = g3) (ChkR K g3)) (fun c pre G W => False)
  (RngI.stab (fun pre W W' ⟨v, hv, hr⟩ hk => ⟨v, hv, (hk _ rfl).trans hr⟩) hS3) (fun c s G W W' T h m t => h.elim) (RngI.start ⟨-1, .inl rfl, b3⟩) ?body ?done ?stop
 case stop => exact fun c pre G W _ h => h.elim
 case body =>
  apply Exists.intro
  constructor
  ·intro yl x W KK hKK
   gi_wp2_with fail
   simp [encNV]
   exact hKK
  ·intro yl pre x rest G W hx hI hg
   have hmem : x ∈ items 0 σ := by rw [hx]; simp
   obtain ⟨c, b, s, l, r, ht⟩ := hh.item hmem
   have hTW : TS W tb ab lv fv room N free t := h.mod hI.2.1 fun k hk e => by have := hTF k hk; omega
   have n1 := hI.2.1.heap b1 (by omega)
   obtain ⟨v, hv, n3⟩ := hI.2.2
   have hF2 := hF.out
   rw [ht] at hTW hF2
   have PF := fineZ hTW (fine_kids hF2)
   have PD := deepZ hTW
   have hleaf : l = .E ∨ r = .E → cblk c + nblk b = K := fun e => rbt_leaf (by rw [← ht]; exact hK.out) e
   obtain ⟨lb, hNd⟩ := hTW.node'
   have A := hNd.at'
   have c5 := hNd.c5
   have c6 := hNd.c6
   have hkid : ∀ X, X = l ∨ X = r → X = .E ∨ (X.ix == -1) = false := by
    intro X hX
    cases X with
    | E => exact .inl rfl
    | N i2 _ _ _ _ =>
     obtain ⟨j2, rfl⟩ := hTW.nat (i := i2) ((mem_plug ..).2 (.inr (by rcases hX with rfl | rfl <;> simp [T.ids])))
     right; rw [T.ix_N]; simp
   have hl := hkid l (.inl rfl)
   have hr' := hkid r (.inr rfl)
   have hBD : (0 : Int) ≤ ((cblk c + nblk b : Nat) : Int) := by omega
   obtain ⟨d1, e1⟩ := blkc n1
   obtain ⟨d3, e3⟩ := blkc n3
   obtain ⟨kb, hkb⟩ : ∃ kb : Nat, cblk c + nblk b = kb := ⟨_, rfl⟩
   rw [hkb] at PD hleaf hBD
   have fin1 : ∀ W', W' = W → roundEnd (RngI w4 (fun j => j = g3) (ChkR K g3)) (fun c pre G W => False) (pre ++ [x]) G W .normal { tmps := #[], defers := [] } W' := by
    rintro W' rfl
    exact RngI.step hI hS3 (Mod.refl _ _) ⟨v, hv, n3⟩
   have fin2 : kb = K → roundEnd (RngI w4 (fun j => j = g3) (ChkR K g3)) (fun c pre G W => False) (pre ++ [x]) G W .normal { tmps := #[], defers := [] } (W.setCell ⟨g3, 0, none⟩ (.int .i64 kb)) := by
    intro e
    exact RngI.step hI hS3 (Mod.setCell (S := fun j => j = g3) (p := ⟨g3, 0, none⟩) (Mod.refl _ _) (.inl rfl) _) ⟨(kb : Int), .inr (by rw [e]), one_setCell n3⟩
   replace fin1 := hid fin1
   replace fin2 := hid fin2
   replace hI := hid hI
   replace ht := hid ht
   replace hkb := hid hkb
   replace hz1 := hid hz1
   replace hx := hid hx
   clear hTW hNd hF2 hkid
   rcases hl with rfl | hl
   ·rw [T.ix_E] at c5
    obtain rfl : kb = K := hleaf (.inl rfl)
    ·clear hr'
     replace hleaf := hid hleaf
     rcases hv with rfl | rfl
     all_goals
      gi_wp2_with fail
      refine ⟨trivial, rfl, (callsIn_wide.2 (PF.mono ?_)).inRound yl⟩
      rintro e w5 ⟨rfl, hw⟩
      subst hw
      gi_wp2_with fail
      refine ⟨trivial, rfl, (callsIn_wide.2 (PD.mono ?_)).inRound yl⟩
      rintro e w5 ⟨rfl, hw⟩
      subst hw
      gi_wp2_with fail
      refine ⟨trivial, rfl, (callsIn_wide.2 (A.mono ?_)).inRound yl⟩
      rintro e w5 ⟨rfl, hw⟩
      subst hw
      gi_wp2_with fail
      refine ⟨trivial, ?_⟩
      gi_wp2_with fail
      exact fin2.out (by simp)
   ·rcases hr' with rfl | hr'
    ·rw [T.ix_E] at c6
     obtain rfl : kb = K := hleaf (.inr rfl)
     replace hleaf := hid hleaf
     rcases hv with rfl | rfl
     all_goals
      gi_wp2_with fail
      refine ⟨trivial, rfl, (callsIn_wide.2 (PF.mono ?_)).inRound yl⟩
      rintro e w5 ⟨rfl, hw⟩
      subst hw
      gi_wp2_with fail
      refine ⟨trivial, rfl, (callsIn_wide.2 (PD.mono ?_)).inRound yl⟩
      rintro e w5 ⟨rfl, hw⟩
      subst hw
      gi_wp2_with fail
      refine ⟨trivial, rfl, (callsIn_wide.2 (A.mono ?_)).inRound yl⟩
      rintro e w5 ⟨rfl, hw⟩
      subst hw
      gi_wp2_with fail
      refine ⟨trivial, rfl, (callsIn_wide.2 (A.mono ?_)).inRound yl⟩
      rintro e w5 ⟨rfl, hw⟩
      subst hw
      gi_wp2_with fail
      exact fin2.out (by simp)
    ·clear hleaf hv
     gi_wp2_with fail
     refine ⟨trivial, rfl, (callsIn_wide.2 (PF.mono ?_)).inRound yl⟩
     rintro e w5 ⟨rfl, hw⟩
     subst hw
     gi_wp2_with fail
     refine ⟨trivial, rfl, (callsIn_wide.2 (PD.mono ?_)).inRound yl⟩
     rintro e w5 ⟨rfl, hw⟩
     subst hw
     gi_wp2_with fail
     refine ⟨trivial, rfl, (callsIn_wide.2 (A.mono ?_)).inRound yl⟩
     rintro e w5 ⟨rfl, hw⟩
     subst hw
     gi_wp2_with fail
     refine ⟨trivial, rfl, (callsIn_wide.2 (A.mono ?_)).inRound yl⟩
     rintro e w5 ⟨rfl, hw⟩
     subst hw
     gi_wp2_with fail
     exact fin1.out _ rfl
 case done =>
  intro G W hI hg hk
  have hMW := hI.2.1
  have hTW : TS W tb ab lv fv room N free t := h.mod hMW fun k hk e => by have := hTF k hk; omega
  have a1 := hMW.heap b1 (by omega)
  have a2 := hMW.heap b2 (by omega)
  have a4 := hMW.heap b4 (by omega)
  have hzW : w4.heap.size < W.heap.size := (Array.getElem?_eq_some_iff.1 hk).1
  clear hI h m hh
  obtain ⟨W5, hW5⟩ : ∃ W5, W.alloc (.cells #[.int .i64 0, .int .i64 0] 34) = W5 := ⟨_, rfl⟩
  have M5 : Mod (fun _ => False) W W5 := by rw [← hW5]; exact (Mod.refl _ _).alloc _
  have a8 : W5.heap[W.heap.size]? = some (.cells #[.int .i64 0, .int .i64 0] 34 (0, 0)) := by rw [← hW5]; exact alloc_0 _ _
  have hz5 : W5.heap.size = W.heap.size + 1 := by rw [← hW5]; simp
  replace a1 := M5.heap a1 fun h => h
  obtain ⟨d1, e1⟩ := blkc a1
  have HA := allTZ W5 tb
  replace hz5 := hid hz5
  go_wp2_with fail
  refine HA.mono ?_; rintro e w6 ⟨rfl, hw6⟩
  clear HA hW5 d1 e1
  have M6 : Mod (fun _ => False) W5 w6 := by rw [hw6]; exact ((Mod.refl _ _).alloc _).alloc _
  have k1 : w6.heap[W5.heap.size]? = some (.cells #[.pointer (some ⟨tb, 0, none⟩)] 93 (0, 0)) := by rw [hw6]; exact alloc2_0 _ _ _
  have k2 : w6.heap[W5.heap.size + 1]? = some (.cells #[.int .i64 (di false)] 3 (0, 0)) := by rw [hw6]; exact alloc2_1 _ _ _
  have hz6 : w6.heap.size = W5.heap.size + 2 := by rw [hw6]; simp [WalkW]
  clear hw6
  have hT6 := hTW.mod0 (M5.trans' M6)
  replace a1 := M6.heap a1 fun h => h
  replace a2 := (M5.trans' M6).heap a2 fun h => h
  replace a4 := (M5.trans' M6).heap a4 fun h => h
  replace a8 := M6.heap a8 fun h => h
  replace hk := (M5.trans' M6).heap hk fun h => h
  replace hz5 := hz5.out
  obtain ⟨g8, hg8⟩ : ∃ g8, W.heap.size = g8 := ⟨_, rfl⟩
  obtain ⟨gw, hgw⟩ : ∃ gw, W5.heap.size = gw := ⟨_, rfl⟩
  rw [hg8] at a8 hz5 hzW ⊢
  rw [hgw] at k1 k2 hz5 hz6 ⊢
  subst hz5
  have hz6' : g8 + 3 ≤ w6.heap.size := by omega
  replace M0 := (M0.trans hMW (fun j h => .inr (by omega))).trans' (M5.trans' M6)
  clear hz6 hg8 hgw M5 M6 hTW
  have hS : ∀ j, (fun j => j = g3 + 1 ∨ j = g8) j → j < w6.heap.size := fun j hj => by have : j = g3 + 1 ∨ j = g8 := hj; omega
  go_wp2_with fail
  refine wp_range1 (gf := 181) (lb := #[.pointer (some ⟨g8 + 1, 0, none⟩), .pointer (some ⟨g8 + 1 + 1, 0, none⟩)]) rfl (enters_of Tryz.func181 (by kernel_rfl) rfl) (walk_iter false hT6 k1 k2) (fun _ => rfl)
   (fun j => j = g3 + 1 ∨ j = g8) hS (fun j hj h => by rcases hj with hj | hj | hj; omega; omega; have := hTF j hj; omega) (fun j hj => by rcases hj with rfl | rfl | hj; omega; omega; have := hTF j hj; omega)
   (SrtR (g3 + 1) g8) (fun c pre W => False) (fun pre W W' hr hk => ⟨(hk _ (.inl rfl)).trans hr.1, (hk _ (.inr rfl)).trans hr.2⟩) (fun c pre W W' hr hk => hr) ⟨a4, a8⟩
   (fun x => #[.int .i64 x.ls, .int .i64 x.la, .int .i64 x.hs, .int .i64 x.ha, .int .i64 x.v]) 38 ?body2 ?done2 ?stop2
  case stop2 => exact fun c pre W _ _ h => h.elim
  case body2 =>
   apply Exists.intro
   constructor
   ·intro yl x W KK hKK
    simp [encSV]
    gi_wp2_with fail
    generalize W.heap.size = b at hKK ⊢
    exact hKK
   ·intro yl pre x rest b W hx hb hbz M hR
    replace hx : t.toL = pre ++ x :: rest := hx
    have hsz : t.size = pre.length + (rest.length + 1) := by rw [← size_toL, hx]; simp
    have hbd : pre.length ≤ 65536 := by have := hT6.bound; omega
    have hr' := hr.out
    rw [hx] at hr'
    obtain ⟨r4, r8⟩ := hR
    have hzM := M.size
    obtain ⟨d4, e4⟩ := blkc r4
    obtain ⟨d8, e8⟩ := blkc r8
    obtain ⟨db, eb⟩ := blkc hb
    obtain ⟨np, hnp⟩ : ∃ np : Int, (pre.length : Int) = np := ⟨_, rfl⟩
    rw [hnp] at d4
    have hn0 : 0 ≤ np ∧ np ≤ 65536 := by omega
    replace hsz := hid hsz
    replace hx := hid hx
    have e1 : IntKind.i64.wrap (np + 1) = np + 1 := by rw [IntKind.wrap_i64]; omega
    have hne : b ≠ g8 := by omega
    have hlast : (pre ++ [x]).getLast? = some x := by simp
    have fin : ∀ W', Mod (fun _ => False) W W' → rndE (fun j => j = g3 + 1 ∨ j = g8) (SrtR (g3 + 1) g8) (fun c pre W => False) (pre ++ [x]) W .normal { tmps := #[], defers := [] } (((W'.setCell ⟨g8, 0, none⟩ (.int .i64 x.ls)).setCell ⟨g8, 1, none⟩ (.int .i64 x.la)).setCell ⟨g3 + 1, 0, none⟩ (.int .i64 (np + 1))) := by
     intro W' M'
     have r4' := M'.heap r4 fun h => h
     have r8' := M'.heap r8 fun h => h
     refine ⟨(((M'.mono fun _ h => h.elim).setCell (.inl (.inr rfl)) _).setCell (.inl (.inr rfl)) _).setCell (.inl (.inl rfl)) _, ?_, ?_⟩
     ·rw [one_setCell (by rw [heap_set_ne (by show g3 + 1 ≠ g8; omega), heap_set_ne (by show g3 + 1 ≠ g8; omega)]; exact r4')]
      rw [← hnp]; simp
     ·rw [heap_set_ne (by show g8 ≠ g3 + 1; omega)]
      unfold lastK
      rw [hlast]
      exact setL_whole (cs := [.int .i64 _, .int .i64 _]) (us := [.int .i64 x.ls, .int .i64 x.la]) r8' rfl
    have h34 : g3 + 1 ≠ g8 := by omega
    replace fin := hid fin
    rcases Nat.eq_zero_or_pos pre.length with hp | hp
    ·obtain rfl : pre = [] := List.length_eq_zero_iff.1 hp
     obtain rfl : np = 0 := by rw [← hnp]; rfl
     gi_wp2_with fail
     refine ⟨trivial, ?_⟩
     gi_wp2_with fail
     exact fin.out _ (Mod.refl _ _)
    ·have hpos : decide (np > 0) = true := by simp; omega
     have hlk : lastK pre ∈ pre := by
      unfold lastK
      obtain ⟨y, hy⟩ : ∃ y, pre.getLast? = some y := by
       cases hq : pre.getLast? with
       | none => rw [List.getLast?_eq_none_iff] at hq; subst hq; simp at hp
       | some y => exact ⟨y, rfl⟩
      rw [hy]; exact List.mem_of_getLast? hy
     have PC := compareZ (s := (lastK pre).ls) (s' := x.ls) (hr'.2 (lastK pre) (by simp [hlk])).2 (hr'.2 x (by simp)).2 W
     have hcmp : cmpI (kx (lastK pre).ls (lastK pre).la) (kx x.ls x.la) = -1 := cmpI_lt ((List.pairwise_append.1 hr'.1).2.2 _ hlk x (by simp))
     rw [hcmp] at PC
     clear hcmp
     gi_wp2_with fail
     refine ⟨trivial, rfl, (callsIn_wide.2 (PC.mono ?_)).inRound yl⟩
     rintro e w5 ⟨rfl, M5⟩
     obtain ⟨d4', e4'⟩ := blkc (M5.heap r4 fun h => h)
     obtain ⟨d8', e8'⟩ := blkc (M5.heap r8 fun h => h)
     obtain ⟨db', eb'⟩ := blkc (M5.heap hb fun h => h)
     rw [hnp] at d4'
     clear PC
     gi_wp2_with fail
     exact fin.out _ M5
  case done2 =>
   intro W7 M7 hR hk2
   have hM7 := M7.size
   have hD : ∀ j, TF tb ab lv fv j → ¬ (j = g3 + 1 ∨ j = g8) := fun j hj h => by have := hTF j hj; omega
   have hT7 : TS W7 tb ab lv fv room N free t := hT6.mod M7 fun k hk e => hD k hk e
   have m1 := M7.heap a1 (by omega)
   have m2 := M7.heap a2 (by omega)
   have m4 := hR.1
   replace hk := M7.heap hk (by omega)
   rw [show (dirL false t.toL) = t.toL from rfl, size_toL] at m4
   have HA := hid (fun (w' : World) (M : CM W7 w') => (lenTZ (hT7.mod0 M)).mono fun e w'' ⟨h1, h2⟩ => (⟨h1, Mod.trans' M h2⟩ : e = Ending.returned (.int .i64 t.size) ∧ CM W7 w''))
   have HB := hid (fun (w' : World) (M : CM W7 w') => And.intro (blkc (Mod.heap M m1 fun h => h)) (And.intro (blkc (Mod.heap M m4 fun h => h)) (blkc (Mod.heap M m2 fun h => h))))
   clear hT7 hR
   go_wp2_with fail
   refine cq_tail 4 (by kernel_rfl) (by kernel_rfl) ?_
   simp only [List.take_succ_cons, List.take_zero, List.drop_succ_cons, List.drop_zero]
   iterate 4 (refine wpQuiet_step (fun K hK => ?_); go_simp; first | (refine hK _ ?_; clear hK K) | (refine ⟨_, fun _ _ => rfl, hK _ ?_⟩; clear hK K) | (apply Exists.intro; refine ⟨fun wq hq => ?_, hK _ ?_⟩; (focus (first | (go_at_call 159; exact HA.out _ hq) | (obtain ⟨⟨t1, t2⟩, ⟨t3, t4⟩, t5, t6⟩ := HB.out _ hq; go_simp; try with_reducible rfl))); clear hK K))
   refine wpQuiet_nil ?_
   intro w8 M8
   clear HA HB
   have m2' := Mod.heap M8 m2 fun h => h
   obtain ⟨t5, t6⟩ := blkc m2'
   go_wp2_with fail
   replace hk := (Mod.heap M8 hk fun h => h)
   replace hk2 := (Mod.heap M8 hk2 fun h => h)
   have hF1 : Mod (fun _ => False) w (w8.setCell ⟨w.heap.size + 1, 0, none⟩ (.bool true)) := ((M0.trans M7 fun j h => by rcases h with h | h <;> exact .inr (by omega)).trans' M8).setCell (.inr (by simp)) _
   refine retM2 (D := w6.heap.size) (E := w4.heap.size) (v := .bool true) (by omega) ((heap_set_ne (by show w6.heap.size ≠ w.heap.size + 1; omega)).trans hk2) ((heap_set_ne (by show w4.heap.size ≠ w.heap.size + 1; omega)).trans hk) rfl (res_bool (w.heap.size + 1) _ rfl rfl ?_ Tryz.underlying4)
    ⟨rfl, mod_putObj (mod_putObj hF1 (.inr (by omega)) _) (.inr (by omega)) _⟩
   have hcell : (((w8.setCell ⟨w.heap.size + 1, 0, none⟩ (.bool true)).putObj w6.heap.size (.deferred none)).putObj w4.heap.size (.deferred none)).heap[w.heap.size + 1]? = some (.cells #[.bool true] 4 (0, 0)) := by
    rw [World.putObj_heap_other (by omega), World.putObj_heap_other (by omega)]
    exact one_setCell m2'
   exact (blkc hcell).1 0
end
open Go Go.RowKit
section
variable {w w' : World} {tb : Nat} {room : Int} {l : List Sg} {X : Nat → Prop}
theorem rb_check (h : RB X w tb room l) : Calls Tryz.prog 151 #[.pointer (some ⟨tb, 0, none⟩)] w fun e w' => e = .returned (.bool true) ∧ Mod (fun _ => False) w w' := by
 obtain ⟨ab, N, lv, fv, free, t, h1, h2, h3, rfl, h5⟩ := h
 cases t with
 | E => exact checkZ_E h1
 | N i b s l r => exact checkZ_N h1 (by simp) h2 h3
end
end Go.Proofs.Bo
