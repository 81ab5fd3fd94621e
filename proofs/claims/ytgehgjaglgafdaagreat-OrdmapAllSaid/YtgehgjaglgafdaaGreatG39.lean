import Derived.Test.YtgehgjaglgafdaaGreatG38
import Derived.Test.YtgehgjaglgafdaaGreatG18
import Derived.Test.YtgehgjaglgafdaaGreatG22
import Derived.Test.YtgehgjaglgafdaaGreatG01
import Derived.Test.YtgehgjaglgafdaaGreatG07
set_option linter.unusedVariables false
set_option linter.unusedSimpArgs false
namespace Go.Proofs.Bo
open Go Go.RowKit
def CB (w : World) (cb mb : Nat) (c : Cu) : Prop := w.heap[cb]? = some (.cells #[.pointer (some ⟨mb, 0, none⟩), .int .i64 c.s, .int .i64 c.a, .bool c.on] 78 (0, 0))
def MC (X : Nat → Prop) (w : World) (mb cb d : Nat) (room : Int) (l : List Sg) (c : Cu) : Prop := OM (fun k => X k ∧ k ≠ cb) w mb d room l ∧ CB w cb mb c ∧ X cb ∧ fit64 c.a
section
variable {w w' : World} {mb cb d d' : Nat} {room : Int} {l l' : List Sg} {c c' : Cu} {X Y R : Nat → Prop}
theorem CB.mod (h : CB w cb mb c) (hm : Mod R w w') (hs : ¬ R cb) : CB w' cb mb c := hm.heap h hs
theorem MC.mod (h : MC X w mb cb d room l c) (hm : Mod R w w') (hs : ∀ k, X k → k < w.heap.size → ¬ R k) : MC X w' mb cb d room l c :=
 ⟨h.1.mod hm fun k hk hl => hs k hk.1 hl, h.2.1.mod hm (hs cb h.2.2.1 (blkl h.2.1)), h.2.2⟩
theorem MC.mod0 (h : MC X w mb cb d room l c) (hm : Mod (fun _ => False) w w') : MC X w' mb cb d room l c := h.mod hm fun _ _ _ h => h
theorem MC.mono (h : MC X w mb cb d room l c) (hs : ∀ k, X k → k < w.heap.size → Y k) : MC Y w mb cb d room l c :=
 ⟨h.1.mono fun k hk hl => ⟨hs k hk.1 hl, hk.2⟩, h.2.1, hs cb h.2.2.1 (blkl h.2.1), h.2.2.2⟩
theorem MC.om (h : MC X w mb cb d room l c) : OM X w mb d room l := h.1.mono fun k hk _ => hk.1
attribute [local irreducible] wpQuiet in
set_option maxHeartbeats 2000000 in
set_option maxRecDepth 100000 in
theorem mc_bound (h : MC X w mb cb d room l c) : (l.length : Int) ≤ room ∧ room ≤ 4096 := om_bound h.1
attribute [local irreducible] wpQuiet in
set_option maxHeartbeats 2000000 in
set_option maxRecDepth 100000 in
theorem mc_row (h : MC X w mb cb d room l c) : Row l := om_row h.1
theorem MC.cur (h : MC X w mb cb d room l c) (hc : CB w' cb mb c') (hm : Mod (fun k => k = cb) w w') (hf : fit64 c'.a) : MC X w' mb cb d room l c' ∧ Mod X w w' :=
 ⟨⟨h.1.mod hm fun k hk _ => hk.2, hc, h.2.2.1, hf⟩, hm.mono fun i hi => .inl (by have hi : i = cb := hi; rw [hi]; exact h.2.2.1)⟩
theorem MC.map {w0 : World} (h : MC X w mb cb d room l c) (M0 : Mod (fun _ => False) w0 w) (hlt : cb < w0.heap.size) (ho : OM (fun k => (X k ∧ k ≠ cb) ∨ w.heap.size ≤ k) w' mb d' room l') (hm : Mod (fun k => X k ∧ k ≠ cb) w w') : MC (fun k => X k ∨ w0.heap.size ≤ k) w' mb cb d' room l' c ∧ Mod X w0 w' := by
 have hs := M0.size
 refine ⟨⟨ho.mono fun k hk hl => ?_, h.2.1.mod hm fun hk => hk.2 rfl, .inl h.2.2.1, h.2.2.2⟩, (M0.mono fun _ h => h.elim).trans hm fun j hj => .inl hj.1⟩
 rcases hk with hk | hk
 ·exact ⟨.inl hk.1, hk.2⟩
 ·exact ⟨.inr (by omega), by omega⟩
theorem om_cursor (mb : Nat) (w : World) : Calls Tryz.prog 30 #[.pointer (some ⟨mb, 0, none⟩)] w fun e w' => e = .returned (.pointer (some ⟨w.heap.size, 0, none⟩)) ∧ CB w' w.heap.size mb Cu.z ∧ Mod (fun _ => False) w w' ∧ w'.heap.size = w.heap.size + 1 := by
 go_enter Tryz.func30, Tryz.ntmps30
 go_wp2_with fail
 go_ret
 exact ⟨rfl, alloc_0 _ _, (Mod.refl _ _).alloc _, by simp⟩
theorem cur_stand (hb : CB w cb mb c) (o : Option Sg) : Calls Tryz.prog 44 #[.pointer (some ⟨cb, 0, none⟩), .agg (encS (oS o)).toArray, .bool o.isSome] w fun e w' => e = .returned (.bool o.isSome) ∧ CB w' cb mb (standC o) ∧ Mod (fun k => k = cb) w w' := by
 obtain ⟨w0, hw0, b0, M0⟩ := boxS w (oS o)
 obtain ⟨d0, e0⟩ := blkc b0
 have hlt := blkl hb
 replace hb := hb.mod M0 fun h => h
 obtain ⟨c0, f0⟩ := blkc hb
 have fin : ∀ v1 v2 v3, v1 = Value.int .i64 (oS o).ls → v2 = Value.int .i64 (oS o).la → v3 = Value.bool o.isSome → (fun w' : World => CB w' cb mb (standC o) ∧ Mod (fun k => k = cb) w w') (((w0.setCell ⟨cb, 1, none⟩ v1).setCell ⟨cb, 2, none⟩ v2).setCell ⟨cb, 3, none⟩ v3) := by
  rintro v1 v2 v3 rfl rfl rfl
  exact ⟨setL_heap_same [.int .i64 (oS o).ls, .int .i64 (oS o).la, .bool o.isSome] w0 1 [.pointer (some ⟨mb, 0, none⟩), .int .i64 c.s, .int .i64 c.a, .bool c.on] hb,
   setL_mod (S := fun k => k = cb) cb (.inl rfl) [.int .i64 (oS o).ls, .int .i64 (oS o).la, .bool o.isSome] w0 1 (M0.mono fun _ h => h.elim)⟩
 replace fin := hid fin
 generalize oS o = s at *
 generalize o.isSome = is at *
 obtain ⟨ls, la, hs, ha, sv⟩ := s
 simp only [encS] at *
 clear hb
 go_enter Tryz.func44, Tryz.ntmps44
 go_wp2_with fail
 go_ret
 exact ⟨rfl, fin.out _ _ _ rfl rfl rfl⟩
attribute [local irreducible] wpQuiet in
set_option maxHeartbeats 2000000 in
set_option maxRecDepth 100000 in
theorem mc_seek (h : MC X w mb cb d room l c) (cs ca : Int) (hf : fit64 ca) : Calls Tryz.prog 12 #[.pointer (some ⟨cb, 0, none⟩), .agg #[.int .i64 cs, .int .i64 ca]] w fun e w' => e = .returned (.bool (nearS true true (kx cs ca) l).isSome) ∧ MC X w' mb cb d room l (standC (nearS true true (kx cs ca) l)) ∧ Mod X w w' := by
 have hfit := stand_fit (mc_row h) (d := true) (own := true) (k := kx cs ca)
 obtain ⟨w0, hw0, b0, M0⟩ := boxC w cs ca
 obtain ⟨d0, e0⟩ := blkc b0
 replace h := h.mod0 M0
 obtain ⟨c0, f0⟩ := blkc h.2.1
 have HP := fun w' (M : CM w0 w') => om_ceil (h.1.mod0 M) cs ca hf
 generalize nearS true true (kx cs ca) l = o at *
 have HB := hid fun w' (M : CM w0 w') => And.intro (blkc (Mod.heap M h.2.1 fun h => h)) (blkc (Mod.heap M b0 fun h => h))
 have HC := hid fun w' (M : CM w0 w') => (HP w' M).mono fun e w'' ⟨h1, h2⟩ => (⟨h1, Mod.trans' M h2⟩ : e = Ending.returned (optS o) ∧ CM w0 w'')
 unfold optS at HC
 clear HP c0 f0 d0 e0 b0
 go_enter Tryz.func12, Tryz.ntmps12
 go_wp2_with fail
 refine cq_mid 9 _ (by kernel_rfl) (by kernel_rfl) rfl rfl ?_
 simp only [List.take_succ_cons, List.take_zero, List.drop_succ_cons, List.drop_zero]
 iterate 9 (refine wpQuiet_step (fun K hK => ?_); go_simp; first | (refine hK _ ?_; clear hK K) | (refine ⟨_, fun _ _ => rfl, hK _ ?_⟩; clear hK K) | (apply Exists.intro; refine ⟨fun wq hq => ?_, hK _ ?_⟩; (focus (first | (go_at_call 20; exact HC.out _ hq) | (obtain ⟨⟨t0, t1⟩, t2, t3⟩ := HB.out _ hq; go_simp; try with_reducible rfl))); clear hK K))
 refine wpQuiet_nil ?_
 intro w1 M1 K hK
 go_simp
 replace h := h.mod0 M1
 have P2 := cur_stand h.2.1 o
 simp only [encS] at P2
 refine P2.mono ?_
 rintro e w2 ⟨rfl, C2, M2⟩
 refine hK _ _ ?_
 clear hK K
 iterate 1 (refine wpQuiet_step (fun K hK => ?_); go_simp; first | (refine hK _ ?_; clear hK K) | (refine ⟨_, fun _ _ => rfl, hK _ ?_⟩; clear hK K) | (apply Exists.intro; refine ⟨fun wq hq => ?_, hK _ ?_⟩; (focus (first  | (skip; go_simp; try with_reducible rfl))); clear hK K))
 refine wpQuiet_nil ?_
 intro w4 M4
 go_wp2_with fail
 go_ret
 obtain ⟨h3, M3⟩ := h.cur C2 M2 hfit
 exact ⟨rfl, h3.mod0 M4, (((M0.trans' M1).mono fun _ h => h.elim).trans M3 fun j hj => .inl hj).trans M4 fun _ h => h.elim⟩
attribute [local irreducible] wpQuiet in
set_option maxHeartbeats 2000000 in
set_option maxRecDepth 100000 in
theorem mc_next (h : MC X w mb cb d room l c) : Calls Tryz.prog 13 #[.pointer (some ⟨cb, 0, none⟩)] w fun e w' => e = .returned (.bool (c.on && (nearS true false c.key l).isSome)) ∧ MC X w' mb cb d room l (curC c (nearS true false c.key l)) ∧ Mod X w w' := by
 obtain ⟨c0, f0⟩ := blkc h.2.1
 have hfit := stand_fit (mc_row h) (d := true) (own := false) (k := c.key)
 have HP := fun w' (M : CM w w') => om_high (h.1.mod0 M) c.s c.a h.2.2.2
 unfold curC Cu.key at *
 generalize nearS true false (kx c.s c.a) l = o at *
 cases hon : c.on with
 | false =>
  rw [hon] at c0
  clear HP hfit
  simp only [Bool.false_and, Bool.false_eq_true, if_false]
  replace hon := hid hon
  have HB := hid fun w' (M : CM w w') => blkc (Mod.heap M h.2.1 fun h => h)
  rw [hon.out] at HB
  go_enter Tryz.func13, Tryz.ntmps13
  go_wp2_with fail
  refine cq_region (by kernel_rfl) (by kernel_rfl) ?_
  iterate 20 (refine wpQuiet_step (fun K hK => ?_); go_simp; first | (refine hK _ ?_; clear hK K) | (refine ⟨_, fun _ _ => rfl, hK _ ?_⟩; clear hK K) | (apply Exists.intro; refine ⟨fun wq hq => ?_, hK _ ?_⟩; (focus (first  | (obtain ⟨t0, t1⟩ := HB.out _ hq; go_simp; try with_reducible rfl))); clear hK K))
  refine wpQuiet_nil ?_
  intro w4 M4
  go_wp2_with fail
  go_ret
  exact ⟨rfl, h.mod0 M4, Mod.mono M4 fun _ h => h.elim⟩
 | true =>
  rw [hon] at c0
  simp only [Bool.true_and, if_true]
  replace hon := hid hon
  have HB := hid fun w' (M : CM w w') => blkc (Mod.heap M h.2.1 fun h => h)
  rw [hon.out] at HB
  have HC := hid fun w' (M : CM w w') => (HP w' M).mono fun e w'' ⟨h1, h2⟩ => (⟨h1, Mod.trans' M h2⟩ : e = Ending.returned (optS o) ∧ CM w w'')
  unfold optS at HC
  clear HP c0 f0
  go_enter Tryz.func13, Tryz.ntmps13
  go_wp2_with fail
  refine cq_midW 17 _ (by kernel_rfl) (by kernel_rfl) rfl ?_
  simp only [List.take_succ_cons, List.take_zero, List.drop_succ_cons, List.drop_zero]
  iterate 17 (refine wpQuiet_step (fun K hK => ?_); go_simp; first | (refine hK _ ?_; clear hK K) | (refine ⟨_, fun _ _ => rfl, hK _ ?_⟩; clear hK K) | (apply Exists.intro; refine ⟨fun wq hq => ?_, hK _ ?_⟩; (focus (first | (go_at_call 21; exact HC.out _ hq) | (obtain ⟨t0, t1⟩ := HB.out _ hq; go_simp; try with_reducible rfl))); clear hK K))
  refine wpQuiet_nil ⟨by go_simp, ?_⟩
  intro w1 M1 K hK
  go_simp
  replace h := h.mod0 M1
  have P2 := cur_stand h.2.1 o
  simp only [encS] at P2
  refine P2.mono ?_
  rintro e w2 ⟨rfl, C2, M2⟩
  refine hK _ _ ?_
  clear hK K
  iterate 2 (refine wpQuiet_step (fun K hK => ?_); go_simp; first | (refine hK _ ?_; clear hK K) | (refine ⟨_, fun _ _ => rfl, hK _ ?_⟩; clear hK K) | (apply Exists.intro; refine ⟨fun wq hq => ?_, hK _ ?_⟩; (focus (first  | (skip; go_simp; try with_reducible rfl))); clear hK K))
  refine wpQuiet_nil ?_
  intro w4 M4
  go_wp2_with fail
  go_ret
  obtain ⟨h3, M3⟩ := h.cur C2 M2 hfit
  exact ⟨rfl, h3.mod0 M4, ((Mod.mono M1 fun _ h => h.elim).trans M3 fun j hj => .inl hj).trans M4 fun _ h => h.elim⟩
attribute [local irreducible] wpQuiet in
set_option maxHeartbeats 2000000 in
set_option maxRecDepth 100000 in
theorem mc_prev (h : MC X w mb cb d room l c) : Calls Tryz.prog 17 #[.pointer (some ⟨cb, 0, none⟩)] w fun e w' => e = .returned (.bool (c.on && (nearS false false c.key l).isSome)) ∧ MC X w' mb cb d room l (curC c (nearS false false c.key l)) ∧ Mod X w w' := by
 obtain ⟨c0, f0⟩ := blkc h.2.1
 have hfit := stand_fit (mc_row h) (d := false) (own := false) (k := c.key)
 have HP := fun w' (M : CM w w') => om_lower (h.1.mod0 M) c.s c.a h.2.2.2
 unfold curC Cu.key at *
 generalize nearS false false (kx c.s c.a) l = o at *
 cases hon : c.on with
 | false =>
  rw [hon] at c0
  clear HP hfit
  simp only [Bool.false_and, Bool.false_eq_true, if_false]
  replace hon := hid hon
  have HB := hid fun w' (M : CM w w') => blkc (Mod.heap M h.2.1 fun h => h)
  rw [hon.out] at HB
  go_enter Tryz.func17, Tryz.ntmps17
  go_wp2_with fail
  refine cq_region (by kernel_rfl) (by kernel_rfl) ?_
  iterate 20 (refine wpQuiet_step (fun K hK => ?_); go_simp; first | (refine hK _ ?_; clear hK K) | (refine ⟨_, fun _ _ => rfl, hK _ ?_⟩; clear hK K) | (apply Exists.intro; refine ⟨fun wq hq => ?_, hK _ ?_⟩; (focus (first  | (obtain ⟨t0, t1⟩ := HB.out _ hq; go_simp; try with_reducible rfl))); clear hK K))
  refine wpQuiet_nil ?_
  intro w4 M4
  go_wp2_with fail
  go_ret
  exact ⟨rfl, h.mod0 M4, Mod.mono M4 fun _ h => h.elim⟩
 | true =>
  rw [hon] at c0
  simp only [Bool.true_and, if_true]
  replace hon := hid hon
  have HB := hid fun w' (M : CM w w') => blkc (Mod.heap M h.2.1 fun h => h)
  rw [hon.out] at HB
  have HC := hid fun w' (M : CM w w') => (HP w' M).mono fun e w'' ⟨h1, h2⟩ => (⟨h1, Mod.trans' M h2⟩ : e = Ending.returned (optS o) ∧ CM w w'')
  unfold optS at HC
  clear HP c0 f0
  go_enter Tryz.func17, Tryz.ntmps17
  go_wp2_with fail
  refine cq_midW 17 _ (by kernel_rfl) (by kernel_rfl) rfl ?_
  simp only [List.take_succ_cons, List.take_zero, List.drop_succ_cons, List.drop_zero]
  iterate 17 (refine wpQuiet_step (fun K hK => ?_); go_simp; first | (refine hK _ ?_; clear hK K) | (refine ⟨_, fun _ _ => rfl, hK _ ?_⟩; clear hK K) | (apply Exists.intro; refine ⟨fun wq hq => ?_, hK _ ?_⟩; (focus (first | (go_at_call 19; exact HC.out _ hq) | (obtain ⟨t0, t1⟩ := HB.out _ hq; go_simp; try with_reducible rfl))); clear hK K))
  refine wpQuiet_nil ⟨by go_simp, ?_⟩
  intro w1 M1 K hK
  go_simp
  replace h := h.mod0 M1
  have P2 := cur_stand h.2.1 o
  simp only [encS] at P2
  refine P2.mono ?_
  rintro e w2 ⟨rfl, C2, M2⟩
  refine hK _ _ ?_
  clear hK K
  iterate 2 (refine wpQuiet_step (fun K hK => ?_); go_simp; first | (refine hK _ ?_; clear hK K) | (refine ⟨_, fun _ _ => rfl, hK _ ?_⟩; clear hK K) | (apply Exists.intro; refine ⟨fun wq hq => ?_, hK _ ?_⟩; (focus (first  | (skip; go_simp; try with_reducible rfl))); clear hK K))
  refine wpQuiet_nil ?_
  intro w4 M4
  go_wp2_with fail
  go_ret
  obtain ⟨h3, M3⟩ := h.cur C2 M2 hfit
  exact ⟨rfl, h3.mod0 M4, ((Mod.mono M1 fun _ h => h.elim).trans M3 fun j hj => .inl hj).trans M4 fun _ h => h.elim⟩
attribute [local irreducible] wpQuiet in
set_option maxHeartbeats 2000000 in
set_option maxRecDepth 100000 in
theorem mc_seg (h : MC X w mb cb d room l c) : Calls Tryz.prog 14 #[.pointer (some ⟨cb, 0, none⟩)] w fun e w' => e = .returned (optS (if c.on then getS c.key l else none)) ∧ Mod (fun _ => False) w w' := by
 obtain ⟨w0, hw0, b0, M0⟩ := boxZ w
 obtain ⟨d0, e0⟩ := blkc b0
 replace h := h.mod0 M0
 obtain ⟨c0, f0⟩ := blkc h.2.1
 have P := fun w' (M : CM w0 w') => om_get (h.1.mod0 M) c.s c.a h.2.2.2
 unfold Cu.key at *
 generalize getS (kx c.s c.a) l = o at *
 have hg := hid (Nat.le_refl w.heap.size)
 cases hon : c.on with
 | false =>
  rw [hon] at c0
  clear P
  simp only [Bool.false_eq_true, if_false]
  replace hon := hid hon
  go_enter Tryz.func14, Tryz.ntmps14
  go_wp2_with fail
  obtain ⟨b4, M4⟩ := store5 (a' := .int .i64 0) (b' := .int .i64 0) (c' := .int .i64 0) (d' := .int .i64 0) (e' := .int .i64 0) b0 hg.out M0
  exact ret_row_tmp w.heap.size [.int .i64 0, .int .i64 0, .int .i64 0, .int .i64 0, .int .i64 0] rfl rfl b4 Tryz.underlying38 rfl (by kernel_rfl) rfl ⟨rfl, M4⟩
 | true =>
  clear c0
  simp only [if_true]
  replace hon := hid hon
  obtain ⟨s, hs⟩ : ∃ s, oS o = s := ⟨_, rfl⟩
  unfold optS at P
  rw [hs] at P
  replace hs := hid hs
  have HB := hid fun w' (M : CM w0 w') => blkc (Mod.heap M h.2.1 fun h => h)
  rw [hon.out] at HB
  have HC := hid fun w' (M : CM w0 w') => (P w' M).mono fun e w'' ⟨h1, h2⟩ => (⟨h1, Mod.trans' M h2⟩ : _ ∧ CM w0 w'')
  clear P
  have HX := hid h
  have c0 := (HB.out _ (Mod.refl _ _)).1
  have f0 := (HB.out _ (Mod.refl _ _)).2
  go_enter Tryz.func14, Tryz.ntmps14
  go_wp2_with fail
  clear c0 f0
  refine cq_tail 11 (by kernel_rfl) (by kernel_rfl) ?_
  simp only [List.take_succ_cons, List.take_zero, List.drop_succ_cons, List.drop_zero]
  iterate 11 (refine wpQuiet_step (fun K hK => ?_); go_simp; first | (refine hK _ ?_; clear hK K) | (refine ⟨_, fun _ _ => rfl, hK _ ?_⟩; clear hK K) | (apply Exists.intro; refine ⟨fun wq hq => ?_, hK _ ?_⟩; (focus (first | (go_at_call 23; exact HC.out _ hq) | (obtain ⟨t0, t1⟩ := HB.out _ hq; go_simp; try with_reducible rfl))); clear hK K))
  refine wpQuiet_nil ?_
  intro w3 M3
  have b3 := Mod.heap M3 b0 fun h => h
  replace M0 := M0.trans' M3
  clear M3 b0 HB HC d0 e0
  obtain ⟨d0, e0⟩ := blkc b3
  go_wp2_with fail
  obtain ⟨b4, M4⟩ := store5 (a' := .int .i64 s.ls) (b' := .int .i64 s.la) (c' := .int .i64 s.hs) (d' := .int .i64 s.ha) (e' := .int .i64 s.v) b3 hg.out M0
  exact ret_row_tmp w.heap.size [.int .i64 s.ls, .int .i64 s.la, .int .i64 s.hs, .int .i64 s.ha, .int .i64 s.v] rfl rfl b4 Tryz.underlying38 rfl (by kernel_rfl) rfl ⟨by first | rfl | (unfold optS; rw [hs.out]; rfl), M4⟩
end
open Go Go.RowKit
def encW (s : Nat × Nat) : List Value := [.int .i64 (s.1 : Int), .int .i64 (s.2 : Int)]
theorem infoSt : (Tryz.prog.info? 170).map (fun i => (i.zero, i.size, i.bytes)) = some (some (.agg #[.int .i64 0, .int .i64 0]), 2, 16) := by kernel_rfl
structure WayM (w : World) (b : Nat) (v : Value) (ws : List (Nat × Nat)) : Prop where
 box : w.heap[b]? = some (.cells #[v] 168 (0, 0))
 row : w.ownsRow 0 170 2 v ws.length (ws.reverse.flatMap encW)
 ne : v.ownBlock ≠ some b
section
variable {w w' : World} {tb ab : Nat} {lv fv : Value} {σ : List (Option Bn)} {free : List Int} {root deg room many : Int} {S : StB} {d : Nat} {L : List Sg}
theorem WayM.mod {R : Nat → Prop} {b : Nat} {v : Value} {ws : List (Nat × Nat)} (h : WayM w b v ws) (m : Mod R w w') (h1 : ¬ R b) (h2 : ∀ k, v.ownBlock = some k → ¬ R k) : WayM w' b v ws :=
 ⟨m.heap h.box h1, own_mod h.row m h2, h.ne⟩
theorem WayM.push {b : Nat} {v v1 : Value} {ws : List (Nat × Nat)} (h : WayM w b v ws) (x : Nat × Nat) {w1 : World} (own : w1.ownsRow 0 170 2 v1 (ws.length + 1) (ws.reverse.flatMap encW ++ encW x)) (gr : w.grownBy w1 v.ownBlock)
  (bl : ∀ k, v1.ownBlock = some k → v.ownBlock = some k ∨ w.heap.size ≤ k) : WayM (w1.setCell ⟨b, 0, none⟩ v1) b v1 (x :: ws) ∧ Mod (fun k => k = b ∨ v.ownBlock = some k) w (w1.setCell ⟨b, 0, none⟩ v1) := by
 have Mg : Mod (fun k => v.ownBlock = some k) w w1 := Mod.of_grown gr
 have hb := Mg.heap h.box h.ne
 have hne : v1.ownBlock ≠ some b := fun e => by
  rcases bl b e with e | e
  ·exact h.ne e
  ·have := blkl h.box; omega
 have MS : Mod (fun k => k = b) w1 (w1.setCell ⟨b, 0, none⟩ v1) := Mod.setCell (S := fun k => k = b) (p := ⟨b, 0, none⟩) (Mod.refl _ _) (.inl rfl) _
 refine ⟨⟨setL_whole (cs := [v]) (us := [v1]) hb rfl, own_mod ?_ MS fun k hk e => hne (by rw [← show k = b from e]; exact hk), hne⟩, (Mg.mono fun k hk => .inl (.inr hk)).trans MS fun k hk => .inl (.inl hk)⟩
 simpa using own
def DownN (d : Nat) (S : StB) (g : Nat) (i : Int) (Lk : List Sg) (n : Nat) : Prop := (i = -1 ∧ g = 0 ∧ Lk = [] ∧ n = 0) ∨ ∃ (r h lo : Nat) (F : List Nat), i = r ∧ g = h + 1 ∧ Sub d S h lo r Lk F ∧ n = F.length
def DownX (w : World) (d : Nat) (S : StB) (wb : Nat) (v0 : Value) (T : List Sg) (N : Nat) (g : Nat) (i : Value) (W : World) : Prop :=
 ∃ (iv : Int) (Lk R : List Sg) (n m : Nat) (v : Value) (ws : List (Nat × Nat)), i = .int .i64 iv ∧ DownN d S g iv Lk n ∧ WayB d S ws R m ∧ T = Lk ++ R ∧ N = n + m ∧ WayM W wb v ws ∧ Mod (fun k => k = wb ∨ v0.ownBlock = some k) w W ∧ (∀ k, v.ownBlock = some k → v0.ownBlock = some k ∨ w.heap.size ≤ k)
set_option maxHeartbeats 2000000 in
theorem downC (h : MemB w tb ab lv fv σ free root deg room many S) {wb tx : Nat} {v : Value} {ws : List (Nat × Nat)} (hw : WayM w wb v ws) (htx : w.heap[tx]? = some (.cells #[.pointer (some ⟨tb, 0, none⟩)] 91 (0, 0)))
  (hap : ∀ k, FootB tb ab lv fv σ k → k ≠ wb ∧ v.ownBlock ≠ some k) (hx : tx ≠ wb ∧ v.ownBlock ≠ some tx) {g0 n m : Nat} {i : Int} {Lk R : List Sg} (hi : DownN d S g0 i Lk n) (hW : WayB d S ws R m) (hN : n + m ≤ 65536) :
  Calls Tryz.prog 113 #[.int .i64 i, .pointer (some ⟨wb, 0, none⟩), .pointer (some ⟨tx, 0, none⟩)] w fun e w' => e = .returned (.tuple #[]) ∧ ∃ v' ws', WayM w' wb v' ws' ∧ WayB d S ws' (Lk ++ R) (n + m) ∧ Mod (fun k => k = wb ∨ v.ownBlock = some k) w w' ∧ (∀ k, v'.ownBlock = some k → v.ownBlock = some k ∨ w.heap.size ≤ k) := by
 obtain ⟨T, hT⟩ : ∃ T, Lk ++ R = T := ⟨_, rfl⟩
 obtain ⟨N, hNN⟩ : ∃ N, n + m = N := ⟨_, rfl⟩
 rw [hT, hNN]
 rw [hNN] at hN
 replace hT := hid hT
 replace hNN := hid hNN
 go_enter Tryz.func113, Tryz.ntmps113
 go_wp2_with fail
 go_loopg [0] g0 (fun g i W => DownX w d S wb v T N g i W)
 case atStart => exact ⟨i, Lk, R, n, m, v, ws, rfl, hi, hW, hT.out.symm, hNN.out.symm, hw, Mod.refl _ _, fun k hk => .inl hk⟩
 case round =>
  obtain ⟨iv, Lk', R', n', m', v', ws', rfl, hi', hW', eT, eN, hw', M, hv'⟩ := hrel
  clear hi hW hw hT hNN
  have hm : MemB wr tb ab lv fv σ free root deg room many S := h.mod M fun k hk e => by
   rcases e with e | e
   ·exact (hap k hk).1 e
   ·exact (hap k hk).2 e
  have htx' := M.heap htx fun e => by
   rcases e with e | e
   ·exact hx.1 e
   ·exact hx.2 e
  rcases hi' with ⟨rfl, rfl, rfl, rfl⟩ | ⟨r, hh, lo, F, rfl, rfl, hS, rfl⟩
  ·clear hm h htx htx'
   replace hW' := hid hW'
   replace eT := hid eT
   replace eN := hid eN
   go_wp2_with fail
   go_end0
   refine ⟨rfl, v', ws', hw', ?_, M, hv'⟩
   have e1 := eT.out
   have e2 := eN.out
   simp only [List.nil_append, Nat.zero_add] at e1 e2
   rw [e1, e2]
   exact hW'.out
  ·obtain ⟨l, ks, hSr, hl1, hl2, hks⟩ := hS.node
   obtain ⟨b, hb, hn⟩ := hm.live hSr
   obtain ⟨lb, c, rfl⟩ := hm.lbS hb
   obtain ⟨q1, q2⟩ := blkc hw'.box
   obtain ⟨t1, t2⟩ := blkc htx'
   have hlen := hW'.len
   have hlen2 : ws'.length ≤ 65536 := by omega
   have hr0 : ((r : Int) != -1) = true := by simp
   have hrow := hw'.row
   have hwl := blkl hw'.box
   have htl := blkl htx'
   have hwz : w.heap.size ≤ wr.heap.size := M.size
   have hFL : ∀ k, FootB tb ab (.slice (some ⟨lb, 0, none⟩) σ.length c) fv σ k → k < w.heap.size := fun k hk => h.lt hk
   have htw := blkl htx
   replace hks := hid hks
   replace hl2 := hid hl2
   replace hS := hid hS
   replace hW' := hid hW'
   replace eT := hid eT
   replace eN := hid eN
   replace hap := hid hap
   replace hv' := hid hv'
   clear h htx
   go_wp2_with (at_builtin; refine app_one [.int .i64 (r : Int), .int .i64 (0 : Int)] v' ws'.length (ws'.reverse.flatMap encW) (.tmp 6) (.tmp 9) 168 170 (.agg #[.int .i64 0, .int .i64 0]) 2 16 rfl rfl Tryz.underlying168 infoSt rfl (by omega) (by omega) rfl rfl hrow rfl (by simp [Value.oneCell']) (by omega) ?_)
   intro v1 w1 own gr bl
   obtain ⟨P1, P2⟩ := hw'.push (r, 0) own gr bl
   obtain ⟨A1, c1, rfl, _⟩ := own_slice own
   obtain ⟨w3, hw3⟩ : ∃ w3, w1.setCell ⟨wb, 0, none⟩ (.slice A1 (ws'.length + 1) c1) = w3 := ⟨_, rfl⟩
   have Mg : Mod (fun k => v'.ownBlock = some k) wr w1 := Mod.of_grown gr
   obtain ⟨u1, u2⟩ := blkc (Mg.heap hw'.box hw'.ne)
   rw [hw3] at P1 P2
   have hXv : ∀ k, (k = wb ∨ v'.ownBlock = some k) → k = wb ∨ v.ownBlock = some k ∨ w.heap.size ≤ k := fun k hk => hk.elim (fun e => .inl e) fun e => (hv'.out k e).elim (fun e => .inr (.inl e)) fun e => .inr (.inr e)
   have m3 := hm.mod P2 fun k hk e => by
    rcases hXv k e with e | e | e
    ·exact (hap.out k hk).1 e
    ·exact (hap.out k hk).2 e
    ·have := hFL k hk; omega
   have htx3 := P2.heap htx' fun e => by
    rcases hXv tx e with e | e | e
    ·exact hx.1 e
    ·exact hx.2 e
    ·omega
   obtain ⟨t5, t6⟩ := blkc htx3
   obtain ⟨l', ks', e', hn3⟩ := m3.node r b hb
   rw [hSr] at e'; cases e'
   have PA := atM m3 hb
   have PL := leafM m3 hb hn3
   obtain ⟨q5, q6, q7, q8⟩ := m3.cells hb
   have hnk := hn3.kn
   have M3 : Mod (fun k => k = wb ∨ v.ownBlock = some k) w w3 := M.trans P2 fun k hk => (hXv k hk).elim (fun e => .inl (.inl e)) fun e => e.elim (fun e => .inl (.inr e)) fun e => .inr e
   have hv1 : ∀ k, (Value.slice A1 (ws'.length + 1) c1).ownBlock = some k → v.ownBlock = some k ∨ w.heap.size ≤ k := fun k hk => by
    rcases bl k hk with e | e
    ·exact hv'.out k e
    ·exact .inr (by omega)
   replace hXv := hid hXv
   replace hFL := hid hFL
   replace bl := hid bl
   replace hv1 := hid hv1
   clear gr Mg hrow t1 t2 q1 q2
   rcases hS.out.step hSr with ⟨rfl, hst⟩ | ⟨h', kid, L0, F0, R1, n1, rfl, hk0, hS0, hst, eL, eF⟩
   ·simp only [decide_true] at PL
    replace hst := hid hst
    go_wp2_with fail
    refine PA.mono ?_; rintro e w4 ⟨rfl, hw4⟩; subst hw4
    go_wp2_with fail
    refine PL.mono ?_; rintro e w4 ⟨rfl, hw4⟩; subst hw4
    go_wp2_with fail
    refine bodyPost_ret (results_none rfl _ _ _) rfl ⟨rfl, _, _, P1, ?_, M3, hv1.out⟩
    rw [eT.out, eN.out]
    exact ⟨hh, _, _, R', m', hst.out, hW'.out, rfl, rfl⟩
   ·rw [show decide (ks = []) = false from by simp; rintro rfl; simp at hk0] at PL
    obtain ⟨h0, hkk⟩ := List.getElem?_eq_some_iff.1 hk0
    obtain ⟨gk, hgk, yk⟩ := hn3.kidC h0
    rw [hkk] at yk
    rw [hnk, hgk] at q6
    have h0I : (0 : Int) < ks.length := by omega
    replace hst := hid hst
    replace hS0 := hid hS0
    replace eL := hid eL
    replace eF := hid eF
    replace hk0 := hid hk0
    replace hkk := hid hkk
    clear hn hn3 hSr hl1
    go_wp2_with fail
    refine PA.mono ?_; rintro e w4 ⟨rfl, hw4⟩; subst hw4
    go_wp2_with fail
    refine PL.mono ?_; rintro e w4 ⟨rfl, hw4⟩; subst hw4
    go_wp2_with fail
    refine PA.mono ?_; rintro e w4 ⟨rfl, hw4⟩; subst hw4
    go_wp2_with fail
    go_roundg (h' + 1)
    case measure => omega
    case rel =>
     refine ⟨kid, L0, R1 ++ R', F0.length, n1 + m', _, (r, 0) :: ws', rfl, .inr ⟨kid, h', d - 1, F0, rfl, rfl, hS0.out, rfl⟩, ⟨_, _, _, R', m', hst.out, hW'.out, rfl, rfl⟩, ?_, ?_, P1, M3, hv1.out⟩
     ·rw [eT.out, eL.out, List.append_assoc]
     ·rw [eN.out, eF.out]; omega
end
open Go Go.RowKit
section
variable {n0 : Nat} {P : Program} {ops : Array Oper} {md : Region.Mode} {C : World → Prop}
theorem wpIn_of_quietW {o : Oper} {a : Act} {K : Act → Prop} {K' : Act → World → Prop} {Q' : Exit → Act → World → Prop} {w : World} (hw : C w) (h : ∀ a w', C w' → K a → K' a w')
  (hh : o.quiet P a C K) : o.wpIn Fence.wide n0 P a w K' Q' := by
 obtain ⟨v, h1, h2⟩ := hh
 have h3 := h1 w hw
 unfold Oper.quietAt at h3
 unfold Oper.wpIn
 refine ⟨fun _ _ => trivial, ?_⟩
 rw [show Fence.wide.round = none from rfl, Oper.semAt_none]
 generalize (execOp a.eval o).run P w = r at *
 cases r with
 | ok x w' =>
  cases x <;> simp only [Oper.quietUpon] at h3 <;> simp only [Oper.uponIn]
  case value u =>
   obtain ⟨e1, e2⟩ := h3
   rw [e1, e2]
   exact h _ _ hw h2
  case skip =>
   obtain ⟨e1, e2⟩ := h3
   rw [e1, ← e2]
   exact h _ _ hw h2
  case enter f args =>
   obtain ⟨e1, hc⟩ := h3
   rw [e1]
   refine ⟨fun hd => (by cases hd), callsIn_wide.2 (hc.mono fun e w'' hx => ?_)⟩
   obtain ⟨he, hw''⟩ := hx
   subst he; exact h _ _ hw'' h2
 | halt x w' => simp only [Oper.quietUpon] at h3
theorem wpOpIn_of_qOpW {i : Nat} {a : Act} {K : Act → Prop} {K' : Act → World → Prop} {Q' : Exit → Act → World → Prop} {w : World} (hC : C w) (h : ∀ a w', C w' → K a → K' a w')
  (hh : qOp P ops C i K a) : wpOpIn Fence.wide n0 P ops Q' i K' a w := by
 unfold qOp at hh
 unfold wpOpIn
 split
 ·rename_i ho; simp only [ho] at hh; exact h _ _ hC hh
 ·rename_i o ho
  simp only [ho] at hh
  split
  ·rename_i hw; simp only [hw, if_true] at hh; exact wpIn_of_quietW hC h hh
  ·rename_i hw; simp only [hw] at hh; exact ⟨fun _ _ => trivial, h _ _ hC hh⟩
theorem wpAnyIn_of_quietW {Q : Act → Prop} {Q' : Exit → Act → World → Prop} (hQ : ∀ a w, C w → Q a → Q' .normal a w) : ∀ (fuel : Nat) (listed : Array Bool) (a : Act) (w : World), C w →
  wpAnyQ P md ops C Q fuel listed a → wpAnyIn Fence.wide n0 P md ops Q' fuel listed a w
 | 0, _, _, _, hw, h => ⟨h.1, hQ _ _ hw h.2⟩
 | fuel + 1, _, _, _, hw, h => ⟨fun h0 => hQ _ _ hw (h.1 h0), fun i hi => wpOpIn_of_qOpW hw (fun a' w' hw' => wpAnyIn_of_quietW hQ fuel _ a' w' hw') (h.2 i hi)⟩
theorem anyIn_of_headQ {n g : Nat} {L : Array Bool → Act → Prop} {Q : Exit → Act → World → Prop} (hL : ∀ listed a w, C w → L listed a → wpAnyIn Fence.wide n0 P md ops Q g listed a w) :
  ∀ (f : Nat) (listed : Array Bool) (a : Act) (w : World), C w → HeadQ P md ops C n L f listed a → wpAnyIn Fence.wide n0 P md ops Q (f + g) listed a w
 | 0, listed, a, w, hw, h => by rw [Nat.zero_add]; exact hL _ _ _ hw h
 | f + 1, listed, a, w, hw, h => by
  rw [Nat.add_right_comm]
  exact ⟨fun e => absurd e h.1, fun i hi => wpOpIn_of_qOpW hw (fun _ _ hw' hk => anyIn_of_headQ hL f _ _ _ hw' hk) (h.2 i hi).2⟩
theorem cq_midIn {id : Nat} {Q : Exit → Act → World → Prop} {a : Act} {w : World} {l : List Oper} (n : Nat) (o : Oper) (hm : P.follows .mixedOrders = true) (hB : midB .any l.toArray n = true) (ho : l[n]? = some o) (hg : o.guard = none)
  (h : wpQuiet P l.toArray (CM w) (fun a' => ∀ w', CM w w' → ∀ K : Act → World → Prop, (∀ a1 w1, wpQuiet P l.toArray (CM w1) (fun a2 => ∀ w2, CM w1 w2 → Q .normal a2 w2) (l.drop (n + 1)) a1 → K a1 w1) → o.wpIn Fence.wide n0 P a' w' K Q) (l.take n) a) :
  (Code.region id l.toArray true).wpIn Fence.wide n0 P Q a w := by
 simp only [midB, Bool.and_eq_true, decide_eq_true_eq] at hB
 obtain ⟨⟨⟨⟨hsel, hn⟩, hs⟩, hc⟩, hlex⟩ := hB
 have hn' : n < l.length := by simpa using hn
 have htl : (l.take n).length = n := by simp; omega
 have inv0 : HeadInv .any l.toArray n (Array.replicate l.toArray.size false) :=
  ⟨by simp, fun j oj _ hl => (by rw [getD_replicate_false] at hl; cases hl), fun t _ ht => getD_in (by simpa using ht) (getD_replicate_false _ _)⟩
 have H := HeadQ.lex2 (P := P) (C := CM w) (md := .any) (n := n) (B := midC .any l.toArray n) (fun listed hb j hj => by
   rw [(midC_spec hb).1] at hj
   have : j = n := by simpa using hj
   omega) hsel hs hc hn (l.take n) 0 _ a (fun j hj => by
  rw [htl] at hj
  simp [hj]) (by simpa using htl) inv0 (by rw [htl]; exact hlex) h
 refine wpIn_region_any hm ?_
 have := anyIn_of_headQ (n0 := n0) (Q := Q) (g := l.toArray.size - n) (fun listed a' w' hw' hL => by
  obtain ⟨hb, hq⟩ := hL
  replace hb := midC_spec hb
  have hd : l.toArray.size - n = (l.drop (n + 1)).length + 1 := by simp; omega
  rw [hd]
  refine wpAnyIn_all hb.1 (by simp) ?_
  intro i hi
  simp at hi
  subst hi
  unfold wpOpIn
  simp only [List.getElem?_toArray, ho]
  rw [if_pos (by simp [Region.wanted, hg])]
  refine hq w' hw' _ fun a1 w1 hq1 => ?_
  refine wpAnyIn_of_quietW (C := CM w1) (Q := fun a' => ∀ w', CM w1 w' → Q .normal a' w') (fun _ w' hw' h => h w' hw') _ _ _ _ (Mod.refl _ _) ?_
  have hd2 : (l.drop (i + 1)).length = l.toArray.size - i - 1 := by simp; omega
  exact wpAnyQ_lex hsel (l.drop (i + 1)) (i + 1) _ _ (fun j => by simp) (by rw [hd2]; exact hb.2) hq1) _ _ _ w.drew ((Mod.refl _ w).drew) H
 have e : (l.take n).length + (l.toArray.size - n) = l.toArray.size := by rw [htl]; simp; omega
 rw [e] at this
 exact this
end
end Go.Proofs.Bo
