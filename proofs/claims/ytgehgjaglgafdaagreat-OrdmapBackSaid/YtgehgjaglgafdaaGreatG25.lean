import Derived.Test.YtgehgjaglgafdaaGreatG24
import Derived.Test.YtgehgjaglgafdaaGreatG21
set_option linter.unusedVariables false
set_option linter.unusedSimpArgs false
namespace Go.Proofs.Bo
open Go Go.RowKit
section
variable {w w' : World} {tb ab : Nat} {lv fv : Value} {σ : List (Option Bn)} {free : List Int} {root room many : Int} {S : StB} {d : Nat} {L : List Sg}
def SplitQ (w : World) (tb ab : Nat) (lv fv : Value) (σ : List (Option Bn)) (free : List Int) (root deg room many : Int) (S : StB) (i k kid : Nat) (li l1 l2 : List Sg) (ki k1 k2 : List Nat) (up : Sg) (e : Ending) (w' : World) : Prop :=
 e = .returned (.tuple #[]) ∧ ∃ (j : Nat) (lv' fv' : Value) (σ' : List (Option Bn)) (free' : List Int), S j = none ∧
  MemB w' tb ab lv' fv' σ' free' root deg room many (((S.set kid (some (l1, k1))).set j (some (l2, k2))).set i (some (li.take k ++ up :: li.drop k, ki.take (k + 1) ++ j :: ki.drop (k + 1)))) ∧
  Mod (FootB tb ab lv fv σ) w w' ∧ (∀ k, FootB tb ab lv' fv' σ' k → FootB tb ab lv fv σ k ∨ w.heap.size ≤ k) ∧ cntB σ' free' = cntB σ free + 1
set_option maxHeartbeats 8000000 in
set_option maxRecDepth 100000 in
theorem splitBZ_leaf {m : Nat} (h : MemB w tb ab lv fv σ free root ((m : Int) + 1) room many S) {i k kid : Nat} {li l1 l2 : List Sg} {up : Sg} {ki : List Nat} (hd : 1 ≤ m ∧ m ≤ 63) (hi : S i = some (li, ki)) (hk : k < ki.length) (hkl : k ≤ li.length) (hkid : ki[k] = kid) (hs : S kid = some (l1 ++ up :: l2, []))
  (hl1 : l1.length = m) (hl2 : l2.length = m) (hne : kid ≠ i) (hli : li.length ≤ 127) (hki : ki.length ≤ 128) (hroom : cntB σ free < 2 * room + 4) :
  Calls Tryz.prog 126 #[.pointer (some ⟨tb, 0, none⟩), .int .i64 i, .int .i64 k] w (SplitQ w tb ab lv fv σ free root ((m : Int) + 1) room many S i k kid li l1 l2 ki [] [] up) := by
 obtain ⟨bi, hbi, hni⟩ := h.live hi
 obtain ⟨b, hb, hn⟩ := h.live hs
 obtain ⟨lb, c, rfl⟩ := h.lbS hb
 obtain ⟨_, cb, hbe, hbc, _⟩ := own_slice hn.1
 have hbe : Value.slice b.la b.ln b.lc = _ := hbe
 injection hbe with _ _ hbe
 subst hbe
 have hll : (l1 ++ up :: l2).length = 2 * m + 1 := by simp; omega
 have hln := hn.ln
 rw [hll] at hln hbc
 have hkn := hn.kn
 have hin := hni.kn
 have PI := atM h hbi
 have HA := hid (fun (W : World) (m : CM w W) => (atM (h.mod0 m) hb).mono fun e w'' ⟨h1, h2⟩ => (⟨h1, by rw [h2]; exact m⟩ : e = Ending.returned (.pointer (some ⟨lb, kid * 3, none⟩)) ∧ CM w w''))
 have HB := hid (fun (W : World) (m : CM w W) => (h.mod0 m).cells hb)
 obtain ⟨q0, q1, q2, q3⟩ := h.cells hbi
 obtain ⟨gi, hgi, yi⟩ := hni.kidC hk
 rw [hin, hgi] at q1
 rw [hkid] at yi
 have HK := hid (fun (W : World) (m : CM w W) => hn.keep (w' := W) fun x k e => m.block k (hn.lt e) fun h => h)
 have HM := hid (fun (W : World) (m : CM w W) => And.intro (h.mod0 m) (And.intro (HK.out W m) (hni.keep (w' := W) fun x k e => m.block k (hni.lt e) fun h => h)))
 have HT := hid (fun (W : World) (m : CM w W) => blkc (h.mod0 m).t)
 have hkI : (k : Int) < ki.length := by omega
 obtain ⟨gl, hgl, -⟩ := hn.segs (A := []) (M := l1) (B := up :: l2) rfl (by omega)
 rw [hln, hgl] at HB
 have C2 := hid (fun (W : World) (q : CM w W) => by
  obtain ⟨g, e, H⟩ := (HK.out W q).segs (A := []) (M := l1) (B := up :: l2) rfl (by omega)
  rw [hgl] at e; cases e
  exact cloneSg (w := W) ⟨gl, 0, none⟩ m b.lc (l1.flatMap encS) (by rw [flat5_len, hl1]) (by simpa using H) (one_segs _) (by omega))
 have C1 := hid (fun (W : World) (q : CM w W) => by
  obtain ⟨g, e, H⟩ := (HK.out W q).segs (A := l1 ++ [up]) (M := l2) (B := []) (by simp) (by omega)
  rw [hgl] at e; cases e
  exact cloneSg (w := W) ⟨gl, (m + 1) * 5, none⟩ m (b.lc - (m + 1)) (l2.flatMap encS) (by rw [flat5_len, hl2]) (by simpa [hl1] using H) (one_segs _) (by omega))
 have hcap : ¬ b.lc = m + 1 := by omega
 have hmm : 2 * m + 1 - (m + 1) = m := by omega
 have hsub : IntKind.i64.wrap ((m : Int) + 1 - 1) = (m : Int) := by rw [IntKind.wrap_i64]; omega
 have hm1 : (m : Int) + 1 ≤ 2 * m + 1 := by omega
 have hup := hid (show ∀ hj : m < (l1 ++ up :: l2).length, (l1 ++ up :: l2)[m]'hj = up by intro hj; subst hl1; simp)
 replace hll := hid hll
 have hl12 := hid (And.intro hl1 hl2)
 have hi' := hid hi
 clear h hn hni hi hs hl1 hl2
 go_enter Tryz.func126, Tryz.ntmps126
 go_wp2_with fail
 refine PI.mono ?_; rintro e w2 ⟨rfl, hw2⟩; subst hw2
 clear PI
 go_wp2_with fail
 refine cq_region (by kernel_rfl) (by kernel_rfl) ?_
 iterate 14 (refine wpQuiet_step (fun K hK => ?_); go_simp; first | (refine hK _ ?_; clear hK K) | (refine ⟨_, fun _ _ => rfl, hK _ ?_⟩; clear hK K) | (apply Exists.intro; refine ⟨fun wq hq => ?_, hK _ ?_⟩; (focus (first | (go_at_call 114; exact HA.out _ hq) | (obtain ⟨t1, t2, t3, t4⟩ := HB.out _ hq; go_simp; try with_reducible rfl))); clear hK K))
 refine wpQuiet_nil ?_
 intro w3 M3
 obtain ⟨t0, t1⟩ := HT.out _ M3
 go_wp2_with fail
 refine (C1.out _ M3).mono ?_; rintro e w4 ⟨g1, c1, rfl, own1, M4, hg1⟩
 clear t0 t1
 have N4 := M3.trans' M4
 go_wp2_with fail
 obtain ⟨w5, hw5, b5, M5, hz5⟩ := boxB w4 ⟨some ⟨g1, 0, none⟩, m, c1, none, 0, 0⟩
 rw [hw5]
 have N5 := N4.trans' M5
 refine (C2.out _ N5).mono ?_; rintro e w6 ⟨g2, c2, rfl, own2, M6, hg2⟩
 have N6 := N5.trans' M6
 clear hw5
 obtain ⟨w7, hw7, b7, M7, hz7⟩ := boxB w6 ⟨some ⟨g2, 0, none⟩, m, c2, none, 0, 0⟩
 have N7 := N6.trans' M7
 obtain ⟨gx, hgx, z0, z1, z2, z3, z4⟩ := (HK.out _ N7).segC (j := m) (by rw [hll.out]; omega)
 rw [hgl] at hgx; cases hgx
 rw [hup.out] at z0 z1 z2 z3 z4
 have hz : Hid (w6.alloc _ = w7) := hid hw7
 subst hw7
 go_wp2_with fail
 obtain ⟨w8, hw8, b8, M8⟩ := boxS (w6.alloc (.cells #[.slice (some ⟨g2, 0, none⟩) m c2, .slice none 0 0] 115)) up
 rw [hw8]
 have N8 := N7.trans' M8
 have X5 := (M6.trans' M7).trans' M8
 obtain ⟨u1, hu1⟩ : ∃ u : Bn, u = ⟨some ⟨g2, 0, none⟩, m, c2, none, 0, 0⟩ := ⟨_, rfl⟩
 obtain ⟨u2, hu2⟩ : ∃ u : Bn, u = ⟨some ⟨g1, 0, none⟩, m, c1, none, 0, 0⟩ := ⟨_, rfl⟩
 have K1 : ∀ W, Mod (fun _ => False) w8 W → NodeB W u1 l1 [] := by
  intro W q
  rw [hu1]
  exact ⟨by rw [hl12.out.1]; exact own_keep own2 fun x e => ((M7.trans' M8).trans' q).block x (own_lt own2 e) fun h => h, own_none0⟩
 have K2 : ∀ (X : Nat → Prop) W, Mod X w4 W → (¬ X g1) → NodeB W u2 l2 [] := by
  intro X W q hX
  rw [hu2]
  exact ⟨by rw [hl12.out.2]; exact own_keep own1 fun x e => q.block x (own_lt own1 e) fun h => hX (by cases e; exact h), own_none0⟩
 have hs2 := (HM.out _ (Mod.refl _ _)).1
 have g2lt : g2 < w6.heap.size := own_lt own2 rfl
 have g1lt : g1 < w4.heap.size := own_lt own1 rfl
 have z3 := M3.size
 have z4 := M4.size
 have z5 := M5.size
 have z6 := M6.size
 have z8 := (M7.trans' M8).size
 have F1 : ∀ x k, (u1.v x).ownBlock = some k → ¬ FootB tb ab (.slice (some ⟨lb, 0, none⟩) σ.length c) fv σ k := by
  intro x k e hf
  have hlt := hs2.lt hf
  rw [hu1] at e
  cases x
  ·have e2 : some g2 = some k := e
   cases e2
   omega
  ·cases e
 have HS := hid (fun (W : World) (q : Mod (fun _ => False) w8 W) => asetM (HM.out _ (N8.trans' q)).1 hb u1 (K1 W q) F1)
 have HE := hid (fun (W : World) (q : CM w8 W) => And.intro (HT.out W (N8.trans' q)) (blkc (Mod.heap (M8.trans' q) b7 fun h => h)))
 have HU := hid (show (.agg (encBn u1).toArray : Value) = .agg #[.slice (some ⟨g2, 0, none⟩) m c2, .slice none 0 0] by rw [hu1]; rfl)
 have hw8' := hid hw8
 obtain ⟨gu, hgu1⟩ : ∃ gu, w6.heap.size + 1 = gu := ⟨_, rfl⟩
 have hgu : (w6.alloc (.cells #[.slice (some ⟨g2, 0, none⟩) m c2, .slice none 0 0] 115)).heap.size = gu := by rw [← hgu1]; simp
 have g7 := hid (show w2.heap.size ≤ gu ∧ g2 < gu ∧ gu < w8.heap.size by have := blkl b8; rw [hgu] at this; omega)
 rw [hgu1]
 replace hgu1 := hid hgu1
 replace hgu := hid hgu
 have HU2 := hid (show (.agg (encBn u2).toArray : Value) = .agg #[.slice (some ⟨g1, 0, none⟩) m c1, .slice none 0 0] by rw [hu2]; rfl)
 have g6 := hid (show w2.heap.size ≤ g1 ∧ g1 < w4.heap.size ∧ w4.heap.size < g2 ∧ w4.heap.size ≤ w8.heap.size by omega)
 have g5 := hid (show w2.heap.size ≤ w4.heap.size by omega)
 clear hw8 z0 z1 z2 z3 z4
 refine cq_tail 6 (by kernel_rfl) (by kernel_rfl) ?_
 simp only [List.take_succ_cons, List.take_zero, List.drop_succ_cons, List.drop_zero]
 iterate 6 (refine wpQuiet_step (fun K hK => ?_); go_simp; first | (refine hK _ ?_; clear hK K) | (refine ⟨_, fun _ _ => rfl, hK _ ?_⟩; clear hK K) | (apply Exists.intro; refine ⟨fun wq hq => ?_, hK _ ?_⟩; (focus (first  | (obtain ⟨⟨t1, t2⟩, t3, t4⟩ := HE.out _ hq; go_simp; try with_reducible rfl))); clear hK K))
 refine wpQuiet_nil ?_
 intro w9 M9
 have PS := HS.out _ M9
 rw [HU.out] at PS
 go_wp2_with fail
 refine PS.mono ?_; rintro e w10 ⟨rfl, m10, X10, F10⟩
 have b5' := hid (X10.heap ((M9.heap (X5.heap b5 fun h => h) fun h => h)) fun hf => by have := hs2.lt hf; have := g5.out; omega)
 obtain ⟨t0, t1⟩ := blkc b5'.out
 have X4 := (((M5.trans' X5).trans' M9).mono (T := FootB tb ab (.slice (some ⟨lb, 0, none⟩) σ.length c) fv σ) fun _ h => h.elim).trans' X10
 have hg12 : g1 ≠ g2 := by have := g6.out; omega
 have hz9 := hid (show w4.heap.size ≤ w9.heap.size by have := M9.size; have := g6.out; omega)
 have n2 := K2 _ w10 X4 fun hf => by have := hs2.lt hf; have := g6.out; omega
 have F2 : ∀ x k, (u2.v x).ownBlock = some k → ¬ FootB tb ab (.slice (some ⟨lb, 0, none⟩) σ.length c) fv (σ.set kid (some u1)) k := by
  intro x k e hf
  rw [hu2] at e
  cases x
  ·have e2 : some g1 = some k := e
   cases e2
   rcases F10 _ hf with hf | hf | ⟨y, hf⟩
   ·have := hs2.lt hf; have := g6.out; omega
   ·have := hz9.out; omega
   ·rw [hu1] at hf
    cases y
    ·have e2 : some g2 = some g1 := hf
     cases e2; exact hg12 rfl
    ·cases hf
  ·cases e
 have PM := makeM m10 u2 n2 F2 (by unfold cntB at hroom ⊢; simpa using hroom)
 rw [HU2.out] at PM
 go_wp2_with fail
 refine PM.mono ?_; rintro e w11 ⟨j, rfl, lv', fv', σ', free', hj, hσj, m11, X11, F11, hcnt⟩
 have hij : i ≠ j := by
  intro e
  rw [← e, StB.set_ne _ _ (Ne.symm hne), hi'.out] at hj
  cases hj
 have hi11 : ((S.set kid (some (l1, []))).set j (some (l2, []))) i = some (li, ki) := by rw [StB.set_ne _ _ hij, StB.set_ne _ _ (Ne.symm hne), hi'.out]
 obtain ⟨b', hb', hn'⟩ := m11.live hi11
 obtain ⟨lb', c', rfl⟩ := m11.lbS hb'
 have PA := atM m11 hb'
 have hgf := hid (show ¬ FootB tb ab (.slice (some ⟨lb, 0, none⟩) σ.length c) fv (σ.set kid (some u1)) gu by
  intro hf
  rcases F10 _ hf with hf | hf | ⟨y, hf⟩
  ·have := hs2.lt hf; have := g7.out; omega
  ·have := M9.size; have := g7.out; omega
  ·rw [hu1] at hf
   cases y
   ·have e2 : some g2 = some gu := hf
    cases e2; have := g7.out; omega
   ·cases hf)
 have b8' : w11.heap[gu]? = some (.cells #[.int .i64 up.ls, .int .i64 up.la, .int .i64 up.hs, .int .i64 up.ha, .int .i64 up.v] 38 (0, 0)) := by
  refine X11.heap (X10.heap (M9.heap (by rw [← hgu.out]; exact b8) fun h => h) fun hf => ?_) hgf.out
  have := hs2.lt hf; have := g7.out; omega
 have hgn := hid (show ∀ x k, (b'.v x).ownBlock = some k → k ≠ gu by
  intro x k e e2
  rw [e2] at e
  rcases F11 _ (.inr (.inr ⟨i, b', x, hb', e⟩)) with hf | hf | ⟨y, hf⟩
  ·exact hgf.out hf
  ·have := M9.size; have := X10.size; have := g7.out; omega
  ·rw [hu2] at hf
   cases y
   ·have e2 : some g1 = some gu := hf
    cases e2; have := g7.out; have := g6.out; omega
   ·cases hf)
 have hgl2 := hid (show lb' ≠ gu by
  intro e
  rcases F11 gu (.inr (.inl (.inr (.inl (by rw [← e]; rfl))))) with hf | hf | ⟨y, hf⟩
  ·exact hgf.out hf
  ·have := M9.size; have := X10.size; have := g7.out; omega
  ·rw [hu2] at hf
   cases y
   ·have e2 : some g1 = some gu := hf
    cases e2; have := g7.out; have := g6.out; omega
   ·cases hf)
 clear t0 t1
 obtain ⟨t0, t1⟩ := blkc b8'
 obtain ⟨q0, q1, q2, q3⟩ := m11.cells hb'
 go_wp2_with fail
 refine PA.mono ?_; rintro e w12 ⟨rfl, hw12⟩; subst hw12
 go_wp2_with fail
 have INS := hid (fun (W : World) (q : Mod (fun _ => False) w12 W) (vb : Nat) (hv : W.heap[vb]? = some (.cells #[.int .i64 up.ls, .int .i64 up.la, .int .i64 up.hs, .int .i64 up.ha, .int .i64 up.v] 38 (0, 0))) (hvb : w12.heap.size ≤ vb) =>
  insSg (w := W) (v := b'.v false) (n := li.length) (k := k) (xs := li.flatMap encS) (x := encS up) (vb := vb) (own_keep hn'.1 fun x e => q.block x (hn'.lt e) fun h => h) (one_segs _) hv (fun j e he => by have := hn'.lt e; omega) rfl (by simpa using one_segs [up]) hkl (by omega))
 have hv' := hid (show b'.v false = .slice b'.la b'.ln b'.lc from rfl)
 rw [hv'.out] at INS
 have DR := hid (fun (W : World) => (Mod.refl (fun _ => False) W).drew)
 obtain ⟨wa, hwa, ba, Ma⟩ := boxS w12 up
 have Mq := Ma.drew
 have bq : wa.drew.heap[w12.heap.size]? = some (.cells #[.int .i64 up.ls, .int .i64 up.la, .int .i64 up.hs, .int .i64 up.ha, .int .i64 up.v] 38 (0, 0)) := ba
 obtain ⟨p0, _⟩ := blkc (Mq.heap b8' fun h => h)
 have mq := m11.mod0 Mq
 obtain ⟨p1, _⟩ := mq.cells hb'
 have IN := INS.out _ Mq _ bq (Nat.le_refl _)
 have HH := hid (fun (W : World) (q : Mod (fun j => (b'.v false).ownBlock = some j) wa.drew W) => by
  have A1 := mq.a.mod q (fun k hk e => (m11.away i b' false k hb' e).2 hk)
  have := A1.cell (i := i) (p := some b') hb' (j := 0) (u := .slice b'.la b'.ln b'.lc) rfl
  simp only [zBn, List.length_cons, List.length_nil, Nat.zero_add, Nat.add_zero, Nat.reduceAdd] at this
  exact this)
 have HG := hid (fun (W : World) (q : Mod (fun j => (b'.v false).ownBlock = some j) wa.drew W) => (blkc (q.heap (Mq.heap b8' fun h => h) fun e => hgn.out false _ e rfl)).1)
 have HL := hid (fun (W : World) (q : Mod (fun j => (b'.v false).ownBlock = some j) wa.drew W) (u : Value) => (blkc (((Mod.refl (fun k => k = lb') W).setCell (p := ⟨lb', i * 3, none⟩) (.inl rfl) u).heap (q.heap (Mq.heap b8' fun h => h) fun e => hgn.out false _ e rfl) fun e => hgl2.out e.symm)).1)
 have mq' := hid mq
 have ba' := hid ba
 clear ba mq
 subst hwa
 go_region_with ((go_at_call 128; refine IN.mono ?_; rintro e w13 ⟨v13, rfl, own13, M13, F13⟩; obtain ⟨A13, c13, rfl, h13⟩ := own_slice own13; obtain ⟨y0, y1⟩ := HH.out _ M13; have y2 := HG.out _ M13; have y3 := HL.out _ M13 (.slice A13 (li.length + 1) c13)))
 all_goals
  have NB : NodeB w13 (b'.upd false A13 (li.length + 1) c13) (li.take k ++ up :: li.drop k) ki := by
   refine ⟨?_, ?_⟩
   ·rw [Bn.v_upd]
    have := own13
    rw [flat5_ins li k up hkl] at this
    rw [show (li.take k ++ up :: li.drop k).length = li.length + 1 by simp; omega]
    exact this
   ·rw [Bn.v_upd_ne _ (by decide)]
    exact own_keep hn'.2 fun x e => (M13.block x (Nat.lt_of_lt_of_le (hn'.lt (x := true) e) Mq.size) fun e2 => absurd (hn'.ne (x := true) (y := false) e e2) (by decide)).trans (Mq.block x (hn'.lt (x := true) e) fun h => h)
  obtain ⟨m14, X14, F14⟩ := mq'.out.setF (x := false) hb' M13 A13 (li.length + 1) c13 (li.take k ++ up :: li.drop k) ki NB F13 0 rfl
  simp only [Nat.add_zero] at m14 X14
  obtain ⟨w14, hw14⟩ : ∃ w14, w13.setCell ⟨lb', i * 3, none⟩ (.slice A13 (li.length + 1) c13) = w14 := ⟨_, rfl⟩
  rw [hw14] at m14 X14 ⊢
  clear hw14 q0 q1 q2 q3 y0 y1 y2 y3 p0 p1 t0 t1
  obtain ⟨b2, hb2, hn2⟩ := m14.live (StB.set_self _ i _)
  obtain ⟨r0, r1, r2, r3⟩ := m14.cells hb2
  have Mb : Mod (fun _ => False) w14 (w14.alloc (.cells #[.int .i64 (j : Int)] 3)) := (Mod.refl _ _).alloc _
  have IN2 := insIt (w := w14.alloc (.cells #[.int .i64 (j : Int)] 3)) (v := b2.v true) (n := ki.length) (k := k + 1) (xs := numsV ki) (x := [.int .i64 (j : Int)]) (vb := w14.heap.size) (own_keep hn2.2 fun x e => Mb.block x (hn2.lt (x := true) e) fun h => h) (one_nums _) (alloc_0 _ _) (fun j e he => by have := hn2.lt (x := true) e; omega) rfl (by simp; rfl) (by omega) (by omega)
  rw [show b2.v true = .slice b2.ka b2.kn b2.kc from rfl, show (((k + 1 : Nat)) : Int) = (k : Int) + 1 from by simp] at IN2
  have hw1 : IntKind.i64.wrap ((k : Int) + 1) = (k : Int) + 1 := by rw [IntKind.wrap_i64]; omega
  have mb := hid (m14.mod0 Mb)
  have HH2 := hid (fun (W : World) (q : Mod (fun j => (b2.v true).ownBlock = some j) (w14.alloc (.cells #[.int .i64 (j : Int)] 3)) W) => by
   have A1 := mb.out.a.mod q (fun k hk e => (m14.away i b2 true k hb2 e).2 hk)
   have := A1.cell (i := i) (p := some b2) hb2 (j := 1) (u := .slice b2.ka b2.kn b2.kc) rfl
   simp only [zBn, List.length_cons, List.length_nil, Nat.zero_add, Nat.add_zero, Nat.reduceAdd] at this
   exact this)
  go_wp2_with fail
  refine IN2.mono ?_; rintro e w15 ⟨v15, rfl, own15, M15, F15⟩
  obtain ⟨A15, c15, rfl, h15⟩ := own_slice own15
  obtain ⟨y0, y1⟩ := HH2.out _ M15
  go_wp2_with fail
  have NB2 : NodeB w15 (b2.upd true A15 (ki.length + 1) c15) (li.take k ++ up :: li.drop k) (ki.take (k + 1) ++ j :: ki.drop (k + 1)) := by
   refine ⟨?_, ?_⟩
   ·rw [Bn.v_upd_ne _ (by decide)]
    exact own_keep hn2.1 fun x e => (M15.block x (Nat.lt_of_lt_of_le (hn2.lt (x := false) e) Mb.size) fun e2 => absurd (hn2.ne (x := false) (y := true) e e2) (by decide)).trans (Mb.block x (hn2.lt (x := false) e) fun h => h)
   ·rw [Bn.v_upd]
    have := own15
    rw [nums_ins ki (k + 1) j] at this
    rw [show (ki.take (k + 1) ++ j :: ki.drop (k + 1)).length = ki.length + 1 by simp; omega]
    exact this
  obtain ⟨m16, X16, F16⟩ := mb.out.setF (x := true) hb2 M15 A15 (ki.length + 1) c15 _ _ NB2 F15 1 rfl
  rw [StB.set_set] at m16
  go_end0
  have hjS : S j = none := by
   by_cases e : j = kid
   ·rw [e, StB.set_self] at hj; cases hj
   ·rwa [StB.set_ne _ _ e] at hj
  have s4 := N4.size
  have s9 := hz9.out
  have s10 := X4.size
  have s12 := X11.size
  have sq := Mq.size
  have s14 := X14.size
  have sb := Mb.size
  have E1 : ∀ k, FootB tb ab (.slice (some ⟨lb, 0, none⟩) σ.length c) fv (σ.set kid (some u1)) k → FootB tb ab (.slice (some ⟨lb, 0, none⟩) σ.length c) fv σ k ∨ w2.heap.size ≤ k := by
   intro k hk
   rcases F10 k hk with a | a | ⟨y, a⟩
   ·exact .inl a
   ·exact .inr (by omega)
   ·rw [hu1] at a
    cases y
    ·have e2 : some g2 = some k := a
     cases e2; exact .inr (by have := g6.out; omega)
    ·cases a
  have E2 := fun k hk => (F11 k hk).elim (E1 k) fun a => a.elim (fun a => .inr (by omega)) fun ⟨y, a⟩ => by
   rw [hu2] at a
   cases y
   ·have e2 : some g1 = some k := a
    cases e2; exact (.inr (by have := g6.out; omega) : FootB tb ab (.slice (some ⟨lb, 0, none⟩) σ.length c) fv σ g1 ∨ w2.heap.size ≤ g1)
   ·cases a
  have E3 := fun k hk => (F14 k hk).elim (E2 k) fun a => .inr (by omega)
  have E4 := fun k hk => (F16 k hk).elim (E3 k) fun a => .inr (by omega)
  refine ⟨rfl, j, _, _, _, _, hjS, m16, ?_, E4, ?_⟩
  ·have N0 := (N4.mono (T := FootB tb ab (.slice (some ⟨lb, 0, none⟩) σ.length c) fv σ) fun _ h => h.elim).trans' X4
   exact ((((N0.trans X11 E1).trans Mq fun _ h => h.elim).trans X14 E2).trans Mb fun _ h => h.elim).trans X16 E3
  ·simpa [cntB] using hcnt
end
end Go.Proofs.Bo
