import Derived.Test.YtgehgjaglgafdaaGreatG25
import Derived.Test.YtgehgjaglgafdaaGreatG18
import Derived.Test.YtgehgjaglgafdaaGreatG20
import Derived.Test.YtgehgjaglgafdaaGreatG22
set_option linter.unusedVariables false
set_option linter.unusedSimpArgs false
namespace Go.Proofs.Bo
open Go Go.RowKit
section
variable {w w' : World} {tb ab : Nat} {lv fv : Value} {σ : List (Option Bn)} {free : List Int} {root room many : Int} {S : StB} {d : Nat} {L : List Sg}
theorem share {G : Prop} (F : World → World → Nat → Nat → Nat → Nat → Prop) (h : ∃ P : World → World → Nat → Nat → Nat → Nat → Prop, ((∀ a b c d e f, F a b c d e f → P a b c d e f) → G) ∧ ∀ a b c d e f, F a b c d e f → P a b c d e f) : G := h.elim fun P q => q.1 q.2
set_option maxHeartbeats 8000000 in
set_option maxRecDepth 100000 in
theorem splitBZ_inner {m : Nat} (h : MemB w tb ab lv fv σ free root ((m : Int) + 1) room many S) {i k kid : Nat} {li l1 l2 : List Sg} {up : Sg} {ki k1 k2 : List Nat} (hd : 1 ≤ m ∧ m ≤ 63) (hi : S i = some (li, ki)) (hk : k < ki.length) (hkl : k ≤ li.length) (hkid : ki[k] = kid) (hs : S kid = some (l1 ++ up :: l2, k1 ++ k2))
  (hl1 : l1.length = m) (hl2 : l2.length = m) (hk1 : k1.length = m + 1) (hk2 : k2.length = m + 1) (hne : kid ≠ i) (hli : li.length ≤ 127) (hki : ki.length ≤ 128) (hroom : cntB σ free < 2 * room + 4) :
  Calls Tryz.prog 126 #[.pointer (some ⟨tb, 0, none⟩), .int .i64 i, .int .i64 k] w (SplitQ w tb ab lv fv σ free root ((m : Int) + 1) room many S i k kid li l1 l2 ki k1 k2 up) := by
 obtain ⟨bi, hbi, hni⟩ := h.live hi
 obtain ⟨b, hb, hn⟩ := h.live hs
 obtain ⟨lb, c, rfl⟩ := h.lbS hb
 obtain ⟨_, cb, hbe, hbc, _⟩ := own_slice hn.1
 have hbe : Value.slice b.la b.ln b.lc = _ := hbe
 injection hbe with _ _ hbe
 subst hbe
 have hll : (l1 ++ up :: l2).length = 2 * m + 1 := by simp; omega
 have hln := hn.ln
 rw [hll] at hln hbc
 obtain ⟨_, ck, hke, hkc, _⟩ := own_slice hn.2
 have hke : Value.slice b.ka b.kn b.kc = _ := hke
 injection hke with _ _ hke
 subst hke
 have hkk : (k1 ++ k2).length = 2 * m + 2 := by simp; omega
 have hkn := hn.kn
 rw [hkk] at hkn hkc
 obtain ⟨gk, hgk, -⟩ := hn.kids (A := []) (M := k1) (B := k2) rfl (by omega)
 have hin := hni.kn
 have PI := atM h hbi
 have HA := hid (fun (W : World) (m : CM w W) => (atM (h.mod0 m) hb).mono fun e w'' ⟨h1, h2⟩ => (⟨h1, by rw [h2]; exact m⟩ : e = Ending.returned (.pointer (some ⟨lb, kid * 3, none⟩)) ∧ CM w w''))
 have HB := hid (fun (W : World) (m : CM w W) => (h.mod0 m).cells hb)
 obtain ⟨q0, q1, q2, q3⟩ := h.cells hbi
 obtain ⟨gi, hgi, yi⟩ := hni.kidC hk
 rw [hin, hgi] at q1
 rw [hkid] at yi
 have HK := hid (fun (W : World) (m : CM w W) => hn.keep (w' := W) fun x k e => m.block k (hn.lt e) fun h => h)
 have HM := hid (fun (W : World) (m : CM w W) => And.intro (h.mod0 m) (And.intro (HK.out W m) (hni.keep (w' := W) fun x k e => m.block k (hni.lt e) fun h => h)))
 have HT := hid (fun (W : World) (m : CM w W) => blkc (h.mod0 m).t)
 have hkI : (k : Int) < ki.length := by omega
 obtain ⟨gl, hgl, -⟩ := hn.segs (A := []) (M := l1) (B := up :: l2) rfl (by omega)
 rw [hln, hgl, hkn, hgk] at HB
 have C2 := hid (fun (W : World) (q : CM w W) => by
  obtain ⟨g, e, H⟩ := (HK.out W q).segs (A := []) (M := l1) (B := up :: l2) rfl (by omega)
  rw [hgl] at e; cases e
  exact cloneSg (w := W) ⟨gl, 0, none⟩ m b.lc (l1.flatMap encS) (by rw [flat5_len, hl1]) (by simpa using H) (one_segs _) (by omega))
 have C1 := hid (fun (W : World) (q : CM w W) => by
  obtain ⟨g, e, H⟩ := (HK.out W q).segs (A := l1 ++ [up]) (M := l2) (B := []) (by simp) (by omega)
  rw [hgl] at e; cases e
  exact cloneSg (w := W) ⟨gl, (m + 1) * 5, none⟩ m (b.lc - (m + 1)) (l2.flatMap encS) (by rw [flat5_len, hl2]) (by simpa [hl1] using H) (one_segs _) (by omega))
 have D2 := hid (fun (W : World) (q : CM w W) => by
  obtain ⟨g, e, H⟩ := (HK.out W q).kids (A := []) (M := k1) (B := k2) rfl (by omega)
  rw [hgk] at e; cases e
  exact cloneIt (w := W) ⟨gk, 0, none⟩ (m + 1) b.kc (numsV k1) (by simp [numsV, hk1]) (by simpa using H) (one_nums _) (by omega))
 have D1 := hid (fun (W : World) (q : CM w W) => by
  obtain ⟨g, e, H⟩ := (HK.out W q).kids (A := k1) (M := k2) (B := []) (by simp) (by omega)
  rw [hgk] at e; cases e
  exact cloneIt (w := W) ⟨gk, m + 1, none⟩ (m + 1) (b.kc - (m + 1)) (numsV k2) (by simp [numsV, hk2]) (by simpa [hk1] using H) (one_nums _) (by omega))
 have hcap : ¬ b.lc = m + 1 := by omega
 have hcapk : ¬ b.kc = m + 1 := by omega
 have hkm : 2 * m + 2 - (m + 1) = m + 1 := by omega
 have hm2 : (m : Int) + 1 ≤ 2 * m + 2 := by omega
 have hk12 := hid (And.intro hk1 hk2)
 have hmm : 2 * m + 1 - (m + 1) = m := by omega
 have hsub : IntKind.i64.wrap ((m : Int) + 1 - 1) = (m : Int) := by rw [IntKind.wrap_i64]; omega
 have hm1 : (m : Int) + 1 ≤ 2 * m + 1 := by omega
 have hup := hid (show ∀ hj : m < (l1 ++ up :: l2).length, (l1 ++ up :: l2)[m]'hj = up by intro hj; subst hl1; simp)
 replace hll := hid hll
 have hl12 := hid (And.intro hl1 hl2)
 have hi' := hid hi
 clear h hn hni hi hs hl1 hl2 hk1 hk2 hkk
 go_enter Tryz.func126, Tryz.ntmps126
 go_wp2_with fail
 refine PI.mono ?_; rintro e w2 ⟨rfl, hw2⟩; subst hw2
 clear PI
 go_wp2_with fail
 refine cq_region (by kernel_rfl) (by kernel_rfl) ?_
 iterate 14 (refine wpQuiet_step (fun K hK => ?_); go_simp; first | (refine hK _ ?_; clear hK K) | (refine ⟨_, fun _ _ => rfl, hK _ ?_⟩; clear hK K) | (apply Exists.intro; refine ⟨fun wq hq => ?_, hK _ ?_⟩; (focus (first | (go_at_call 114; exact HA.out _ hq) | (obtain ⟨t1, t2, t3, t4⟩ := HB.out _ hq; go_simp; try with_reducible rfl))); clear hK K))
 refine wpQuiet_nil ?_
 intro w3 M3
 obtain ⟨t0, t1⟩ := HT.out _ M3
 go_wp2_with fail
 refine (C1.out _ M3).mono ?_; rintro e w4 ⟨g1, c1, rfl, own1, M4, hg1⟩
 clear t0 t1
 have N4 := M3.trans' M4
 go_wp2_with fail
 obtain ⟨w5, hw5, b5, M5, hz5⟩ := boxB w4 ⟨some ⟨g1, 0, none⟩, m, c1, none, 0, 0⟩
 rw [hw5]
 have N5 := N4.trans' M5
 refine (C2.out _ N5).mono ?_; rintro e w6 ⟨g2, c2, rfl, own2, M6, hg2⟩
 have N6 := N5.trans' M6
 clear hw5
 go_wp2_with fail
 obtain ⟨w7, hw7, b7, M7, hz7⟩ := boxB w6 ⟨some ⟨g2, 0, none⟩, m, c2, none, 0, 0⟩
 have N7 := N6.trans' M7
 have N7d := N7.drew
 rw [hw7]
 clear hw7
 have hsz := M6.size
 have n46 : ¬ w6.heap.size = w4.heap.size := by omega
 have n64 : ¬ w4.heap.size = w6.heap.size := by omega
 clear hsz
 have b5h := hid ((M6.trans' M7).heap b5 fun h => h)
 have b7h := hid b7
 refine share (fun w8 w9 g3 c3 g4 c4 => w8.ownsRow 0 3 1 (.slice (some ⟨g3, 0, none⟩) (m + 1) c3) (m + 1) (numsV k2) ∧ Mod (fun _ => False) w7 w8 ∧ w7.heap.size ≤ g3 ∧ w9.ownsRow 0 3 1 (.slice (some ⟨g4, 0, none⟩) (m + 1) c4) (m + 1) (numsV k1) ∧ Mod (fun _ => False) w8 w9 ∧ w8.heap.size ≤ g4) ?_
 apply Exists.intro
 refine ⟨fun HW => ?_, ?_⟩
 ·replace HW := hid HW
  go_region_with (first
   | (go_at_call 68; refine (D1.out _ N7d).mono ?_; rintro e w8 ⟨g3, c3, rfl, own3, M8, hg3⟩; have M8' := M8.of_drew)
   | (go_at_call 68; refine (D2.out _ (N7.trans' M8')).mono ?_; rintro e w9 ⟨g4, c4, rfl, own4, M9, hg4⟩; obtain ⟨x0, x1⟩ := blkc ((M8'.trans' M9).heap b5h.out fun h => h); obtain ⟨x2, x3⟩ := blkc ((M8'.trans' M9).heap b7h.out fun h => h)))
  all_goals exact HW.out w8 w9 g3 c3 g4 c4 ⟨own3, M8', hg3, own4, M9, hg4⟩
 rintro w8 w9 g3 c3 g4 c4 ⟨own3, M8', hg3, own4, M9, hg4⟩
 obtain ⟨w10, hw10, b5k, b7k, M10⟩ : ∃ w10, ((w9.setCell ⟨w4.heap.size, 1, none⟩ (.slice (some ⟨g3, 0, none⟩) (m + 1) c3)).setCell ⟨w6.heap.size, 1, none⟩ (.slice (some ⟨g4, 0, none⟩) (m + 1) c4)) = w10 ∧
   w10.heap[w4.heap.size]? = some (.cells #[.slice (some ⟨g1, 0, none⟩) m c1, .slice (some ⟨g3, 0, none⟩) (m + 1) c3] 115 (0, 0)) ∧
   w10.heap[w6.heap.size]? = some (.cells #[.slice (some ⟨g2, 0, none⟩) m c2, .slice (some ⟨g4, 0, none⟩) (m + 1) c4] 115 (0, 0)) ∧ Mod (fun j => j = w4.heap.size ∨ j = w6.heap.size) w9 w10 := by
  refine ⟨_, rfl, ?_, ?_, ?_⟩
  ·exact (Below.heap_setCell _ _ _ _ n64).trans (heap_setCell_same w9 w4.heap.size 1 _ 115 _ ((M8'.trans' M9).heap b5h.out fun h => h))
  ·exact heap_setCell_same _ w6.heap.size 1 _ 115 _ ((Below.heap_setCell _ _ _ _ n46).trans ((M8'.trans' M9).heap b7h.out fun h => h))
  ·exact Mod.setCell (p := ⟨w6.heap.size, 1, none⟩) (Mod.setCell (p := ⟨w4.heap.size, 1, none⟩) (Mod.refl _ _) (.inl (.inl rfl)) _) (.inl (.inr rfl)) _
 rw [hw10]
 clear hw10
 have g2lt : g2 < w6.heap.size := own_lt own2 rfl
 have g1lt : g1 < w4.heap.size := own_lt own1 rfl
 have g3lt : g3 < w8.heap.size := own_lt own3 rfl
 have g4lt : g4 < w9.heap.size := own_lt own4 rfl
 have y3 := M3.size
 have y4 := M4.size
 have y6 := M6.size
 have y8 := M8'.size
 have y9 := M9.size
 have y10 := M10.size
 have hg3' := hg3
 have N10 : Mod (fun _ => False) w2 w10 := ((N7.trans' M8').trans' M9).trans M10 fun i h => .inr (by rcases h with rfl | rfl <;> omega)
 obtain ⟨u1, hu1⟩ : ∃ u : Bn, u = ⟨some ⟨g2, 0, none⟩, m, c2, some ⟨g4, 0, none⟩, m + 1, c4⟩ := ⟨_, rfl⟩
 obtain ⟨u2, hu2⟩ : ∃ u : Bn, u = ⟨some ⟨g1, 0, none⟩, m, c1, some ⟨g3, 0, none⟩, m + 1, c3⟩ := ⟨_, rfl⟩
 obtain ⟨gu, hgu⟩ : ∃ gu, w10.heap.size = gu := ⟨_, rfl⟩
 have MX : Mod (fun j => j = w4.heap.size ∨ j = w6.heap.size) w6 w10 := (((M7.trans' M8').trans' M9).mono (T := fun j => j = w4.heap.size ∨ j = w6.heap.size) fun _ h => h.elim).trans' M10
 have MY : Mod (fun j => j = w4.heap.size ∨ j = w6.heap.size) w4 w10 := ((M5.trans' M6).mono (T := fun j => j = w4.heap.size ∨ j = w6.heap.size) fun _ h => h.elim).trans' MX
 have MZ : Mod (fun j => j = w4.heap.size ∨ j = w6.heap.size) w8 w10 := (M9.mono (T := fun j => j = w4.heap.size ∨ j = w6.heap.size) fun _ h => h.elim).trans' M10
 have p1 := own_mod own2 MX fun x e h => by have e2 : some g2 = some x := e; cases e2; rcases h with h | h <;> omega
 have p2 := own_mod own4 M10 fun x e h => by have e2 : some g4 = some x := e; cases e2; rcases h with h | h <;> omega
 have p3 := own_mod own1 MY fun x e h => by have e2 : some g1 = some x := e; cases e2; rcases h with h | h <;> omega
 have p4 := own_mod own3 MZ fun x e h => by have e2 : some g3 = some x := e; cases e2; rcases h with h | h <;> omega
 have r1 : NodeB w10 u1 l1 k1 := by
  rw [hu1]
  exact ⟨by rw [hl12.out.1]; exact p1, by rw [hk12.out.1]; exact p2⟩
 have r2 : NodeB w10 u2 l2 k2 := by
  rw [hu2]
  exact ⟨by rw [hl12.out.2]; exact p3, by rw [hk12.out.2]; exact p4⟩
 clear p1 p2 p3 p4 MX MY MZ
 have o1 : ∀ x k, (u1.v x).ownBlock = some k → w2.heap.size ≤ k ∧ k < gu ∧ k ≠ g1 ∧ k ≠ g3 := by
  intro x k e
  rw [hu1] at e
  cases x
  ·have e2 : some g2 = some k := e
   cases e2; omega
  ·have e2 : some g4 = some k := e
   cases e2; omega
 have o2 : ∀ x k, (u2.v x).ownBlock = some k → w2.heap.size ≤ k ∧ k < gu ∧ (k = g1 ∨ k = g3) := by
  intro x k e
  rw [hu2] at e
  cases x
  ·have e2 : some g1 = some k := e
   cases e2; omega
  ·have e2 : some g3 = some k := e
   cases e2; omega
 have z5 : w2.heap.size ≤ w4.heap.size ∧ w4.heap.size < gu := by omega
 have HUa := hid (show (.agg (encBn u1).toArray : Value) = .agg #[.slice (some ⟨g2, 0, none⟩) m c2, .slice (some ⟨g4, 0, none⟩) (m + 1) c4] by rw [hu1]; rfl)
 have HU2a := hid (show (.agg (encBn u2).toArray : Value) = .agg #[.slice (some ⟨g1, 0, none⟩) m c1, .slice (some ⟨g3, 0, none⟩) (m + 1) c3] by rw [hu2]; rfl)
 obtain ⟨gx, hgx, z0, z1, z2, z3, z4⟩ := (HK.out _ N10).segC (j := m) (by rw [hll.out]; omega)
 rw [hgl] at hgx; cases hgx
 rw [hup.out] at z0 z1 z2 z3 z4
 replace b5k := hid b5k
 replace b7k := hid b7k
 replace hgu := hid hgu
 replace z5 := hid z5
 clear hu1 hu2 own1 own2 own3 own4 M3 M4 M5 M6 M7 M8' M9 M10 N4 N5 N6 N7 N7d b5 b5h b7 b7h hz5 hz7 n46 n64 hg1 hg2 hg3 hg3' hg4 g1lt g2lt g3lt g4lt y3 y4 y6 y8 y9 y10
 go_wp2_with fail
 obtain ⟨w18, hw18, b18, M18⟩ := boxS w10 up
 rw [hw18]
 have N18 := N10.trans' M18
 have hs2 := (HM.out _ (Mod.refl _ _)).1
 have F1 : ∀ x k, (u1.v x).ownBlock = some k → ¬ FootB tb ab (.slice (some ⟨lb, 0, none⟩) σ.length c) fv σ k := fun x k e hf => by
  have := hs2.lt hf; have := o1 x k e; omega
 have K1 : ∀ W, Mod (fun _ => False) w18 W → NodeB W u1 l1 k1 := fun W q => r1.keep fun x k e => (M18.trans' q).block k (r1.lt e) fun h => h
 have HS := hid (fun (W : World) (q : Mod (fun _ => False) w18 W) => asetM (HM.out _ (N18.trans' q)).1 hb u1 (K1 W q) F1)
 have HE := hid (fun (W : World) (q : CM w18 W) => And.intro (HT.out W (N18.trans' q)) (blkc (Mod.heap (M18.trans' q) b7k.out fun h => h)))
 rw [hgu.out] at b18 ⊢
 have hgu2 := hid (show gu < w18.heap.size from blkl b18)
 have g10 := hid (show w10.heap.size ≤ w18.heap.size from M18.size)
 clear hw18 z0 z1 z2 z3 z4
 refine cq_tail 6 (by kernel_rfl) (by kernel_rfl) ?_
 simp only [List.take_succ_cons, List.take_zero, List.drop_succ_cons, List.drop_zero]
 iterate 6 (refine wpQuiet_step (fun K hK => ?_); go_simp; first | (refine hK _ ?_; clear hK K) | (refine ⟨_, fun _ _ => rfl, hK _ ?_⟩; clear hK K) | (apply Exists.intro; refine ⟨fun wq hq => ?_, hK _ ?_⟩; (focus (first  | (obtain ⟨⟨t1, t2⟩, t3, t4⟩ := HE.out _ hq; go_simp; try with_reducible rfl))); clear hK K))
 refine wpQuiet_nil ?_
 intro w19 M19
 have PS := HS.out _ M19
 rw [HUa.out] at PS
 go_wp2_with fail
 refine PS.mono ?_; rintro e w20 ⟨rfl, m10, X10, F10⟩
 have X18 := ((M18.trans' M19).mono (T := FootB tb ab (.slice (some ⟨lb, 0, none⟩) σ.length c) fv σ) fun _ h => h.elim).trans' X10
 have b5' := hid (X18.heap b5k.out fun hf => by have := hs2.lt hf; have := z5.out; omega)
 obtain ⟨t0, t1⟩ := blkc b5'.out
 have X4 := ((N18.trans' M19).mono (T := FootB tb ab (.slice (some ⟨lb, 0, none⟩) σ.length c) fv σ) fun _ h => h.elim).trans' X10
 have n2 : NodeB w20 u2 l2 k2 := r2.keep fun x k e => X18.block k (r2.lt e) fun hf => by have := hs2.lt hf; have := o2 x k e; omega
 have h1920 := hid (show w18.heap.size ≤ w19.heap.size from M19.size)
 have E1 : ∀ k, FootB tb ab (.slice (some ⟨lb, 0, none⟩) σ.length c) fv (σ.set kid (some u1)) k → FootB tb ab (.slice (some ⟨lb, 0, none⟩) σ.length c) fv σ k ∨ w19.heap.size ≤ k ∨ ∃ x, (u1.v x).ownBlock = some k := F10
 have F2 : ∀ x k, (u2.v x).ownBlock = some k → ¬ FootB tb ab (.slice (some ⟨lb, 0, none⟩) σ.length c) fv (σ.set kid (some u1)) k := by
  intro x k e hf
  have q := o2 x k e
  rcases F10 _ hf with hf | hf | ⟨y, hf⟩
  ·have := hs2.lt hf; omega
  ·have := h1920.out; have := hgu2.out; omega
  ·have := o1 y k hf; omega
 have PM := makeM m10 u2 n2 F2 (by unfold cntB at hroom ⊢; simpa using hroom)
 rw [HU2a.out] at PM
 go_wp2_with fail
 refine PM.mono ?_; rintro e w11 ⟨j, rfl, lv', fv', σ', free', hj, hσj, m11, X11, F11, hcnt⟩
 have hij : i ≠ j := by
  intro e
  rw [← e, StB.set_ne _ _ (Ne.symm hne), hi'.out] at hj
  cases hj
 have hi11 : ((S.set kid (some (l1, k1))).set j (some (l2, k2))) i = some (li, ki) := by rw [StB.set_ne _ _ hij, StB.set_ne _ _ (Ne.symm hne), hi'.out]
 obtain ⟨b', hb', hn'⟩ := m11.live hi11
 obtain ⟨lb', c', rfl⟩ := m11.lbS hb'
 have PA := atM m11 hb'
 have hgf := hid (show ¬ FootB tb ab (.slice (some ⟨lb, 0, none⟩) σ.length c) fv (σ.set kid (some u1)) gu by
  intro hf
  rcases F10 _ hf with hf | hf | ⟨y, hf⟩
  ·have := hs2.lt hf; have := z5.out; omega
  ·have := h1920.out; have := hgu2.out; omega
  ·have := o1 y _ hf; omega)
 have b18' : w11.heap[gu]? = some (.cells #[.int .i64 up.ls, .int .i64 up.la, .int .i64 up.hs, .int .i64 up.ha, .int .i64 up.v] 38 (0, 0)) := by
  refine X11.heap (X10.heap (M19.heap b18 fun h => h) fun hf => ?_) hgf.out
  have := hs2.lt hf; have := z5.out; omega
 have hgn := hid (show ∀ x k, (b'.v x).ownBlock = some k → k ≠ gu by
  intro x k e e2
  rw [e2] at e
  rcases F11 _ (.inr (.inr ⟨i, b', x, hb', e⟩)) with hf | hf | ⟨y, hf⟩
  ·exact hgf.out hf
  ·have := h1920.out; have := X10.size; have := hgu2.out; omega
  ·have := o2 y _ hf; omega)
 have hgl2 := hid (show lb' ≠ gu by
  intro e
  rcases F11 gu (.inr (.inl (.inr (.inl (by rw [← e]; rfl))))) with hf | hf | ⟨y, hf⟩
  ·exact hgf.out hf
  ·have := h1920.out; have := X10.size; have := hgu2.out; omega
  ·have := o2 y _ hf; omega)
 clear t0 t1
 obtain ⟨t0, t1⟩ := blkc b18'
 obtain ⟨q0, q1, q2, q3⟩ := m11.cells hb'
 go_wp2_with fail
 refine PA.mono ?_; rintro e w12 ⟨rfl, hw12⟩; subst hw12
 go_wp2_with fail
 have INS := hid (fun (W : World) (q : Mod (fun _ => False) w12 W) (vb : Nat) (hv : W.heap[vb]? = some (.cells #[.int .i64 up.ls, .int .i64 up.la, .int .i64 up.hs, .int .i64 up.ha, .int .i64 up.v] 38 (0, 0))) (hvb : w12.heap.size ≤ vb) =>
  insSg (w := W) (v := b'.v false) (n := li.length) (k := k) (xs := li.flatMap encS) (x := encS up) (vb := vb) (own_keep hn'.1 fun x e => q.block x (hn'.lt e) fun h => h) (one_segs _) hv (fun j e he => by have := hn'.lt e; omega) rfl (by simpa using one_segs [up]) hkl (by omega))
 have hv' := hid (show b'.v false = .slice b'.la b'.ln b'.lc from rfl)
 rw [hv'.out] at INS
 have DR := hid (fun (W : World) => (Mod.refl (fun _ => False) W).drew)
 obtain ⟨wa, hwa, ba, Ma⟩ := boxS w12 up
 have Mq := Ma.drew
 have bq : wa.drew.heap[w12.heap.size]? = some (.cells #[.int .i64 up.ls, .int .i64 up.la, .int .i64 up.hs, .int .i64 up.ha, .int .i64 up.v] 38 (0, 0)) := ba
 obtain ⟨p0, _⟩ := blkc (Mq.heap b18' fun h => h)
 have mq := m11.mod0 Mq
 obtain ⟨p1, _⟩ := mq.cells hb'
 have IN := INS.out _ Mq _ bq (Nat.le_refl _)
 have HH := hid (fun (W : World) (q : Mod (fun j => (b'.v false).ownBlock = some j) wa.drew W) => by
  have A1 := mq.a.mod q (fun k hk e => (m11.away i b' false k hb' e).2 hk)
  have := A1.cell (i := i) (p := some b') hb' (j := 0) (u := .slice b'.la b'.ln b'.lc) rfl
  simp only [zBn, List.length_cons, List.length_nil, Nat.zero_add, Nat.add_zero, Nat.reduceAdd] at this
  exact this)
 have HG := hid (fun (W : World) (q : Mod (fun j => (b'.v false).ownBlock = some j) wa.drew W) => (blkc (q.heap (Mq.heap b18' fun h => h) fun e => hgn.out false _ e rfl)).1)
 have HL := hid (fun (W : World) (q : Mod (fun j => (b'.v false).ownBlock = some j) wa.drew W) (u : Value) => (blkc (((Mod.refl (fun k => k = lb') W).setCell (p := ⟨lb', i * 3, none⟩) (.inl rfl) u).heap (q.heap (Mq.heap b18' fun h => h) fun e => hgn.out false _ e rfl) fun e => hgl2.out e.symm)).1)
 have mq' := hid mq
 have ba' := hid ba
 clear ba mq
 subst hwa
 go_region_with ((go_at_call 128; refine IN.mono ?_; rintro e w13 ⟨v13, rfl, own13, M13, F13⟩; obtain ⟨A13, c13, rfl, h13⟩ := own_slice own13; obtain ⟨y0, y1⟩ := HH.out _ M13; have y2 := HG.out _ M13; have y3 := HL.out _ M13 (.slice A13 (li.length + 1) c13)))
 all_goals
  have NB : NodeB w13 (b'.upd false A13 (li.length + 1) c13) (li.take k ++ up :: li.drop k) ki := by
   refine ⟨?_, ?_⟩
   ·rw [Bn.v_upd]
    have := own13
    rw [flat5_ins li k up hkl] at this
    rw [show (li.take k ++ up :: li.drop k).length = li.length + 1 by simp; omega]
    exact this
   ·rw [Bn.v_upd_ne _ (by decide)]
    exact own_keep hn'.2 fun x e => (M13.block x (Nat.lt_of_lt_of_le (hn'.lt (x := true) e) Mq.size) fun e2 => absurd (hn'.ne (x := true) (y := false) e e2) (by decide)).trans (Mq.block x (hn'.lt (x := true) e) fun h => h)
  obtain ⟨m14, X14, F14⟩ := mq'.out.setF (x := false) hb' M13 A13 (li.length + 1) c13 (li.take k ++ up :: li.drop k) ki NB F13 0 rfl
  simp only [Nat.add_zero] at m14 X14
  obtain ⟨w14, hw14⟩ : ∃ w14, w13.setCell ⟨lb', i * 3, none⟩ (.slice A13 (li.length + 1) c13) = w14 := ⟨_, rfl⟩
  rw [hw14] at m14 X14 ⊢
  clear hw14 q0 q1 q2 q3 y0 y1 y2 y3 p0 p1 t0 t1
  obtain ⟨b2, hb2, hn2⟩ := m14.live (StB.set_self _ i _)
  obtain ⟨r0, r1, r2, r3⟩ := m14.cells hb2
  have Mb : Mod (fun _ => False) w14 (w14.alloc (.cells #[.int .i64 (j : Int)] 3)) := (Mod.refl _ _).alloc _
  have IN2 := insIt (w := w14.alloc (.cells #[.int .i64 (j : Int)] 3)) (v := b2.v true) (n := ki.length) (k := k + 1) (xs := numsV ki) (x := [.int .i64 (j : Int)]) (vb := w14.heap.size) (own_keep hn2.2 fun x e => Mb.block x (hn2.lt (x := true) e) fun h => h) (one_nums _) (alloc_0 _ _) (fun j e he => by have := hn2.lt (x := true) e; omega) rfl (by simp; rfl) (by omega) (by omega)
  rw [show b2.v true = .slice b2.ka b2.kn b2.kc from rfl, show (((k + 1 : Nat)) : Int) = (k : Int) + 1 from by simp] at IN2
  have hw1 : IntKind.i64.wrap ((k : Int) + 1) = (k : Int) + 1 := by rw [IntKind.wrap_i64]; omega
  have mb := hid (m14.mod0 Mb)
  have HH2 := hid (fun (W : World) (q : Mod (fun j => (b2.v true).ownBlock = some j) (w14.alloc (.cells #[.int .i64 (j : Int)] 3)) W) => by
   have A1 := mb.out.a.mod q (fun k hk e => (m14.away i b2 true k hb2 e).2 hk)
   have := A1.cell (i := i) (p := some b2) hb2 (j := 1) (u := .slice b2.ka b2.kn b2.kc) rfl
   simp only [zBn, List.length_cons, List.length_nil, Nat.zero_add, Nat.add_zero, Nat.reduceAdd] at this
   exact this)
  go_wp2_with fail
  refine IN2.mono ?_; rintro e w15 ⟨v15, rfl, own15, M15, F15⟩
  obtain ⟨A15, c15, rfl, h15⟩ := own_slice own15
  obtain ⟨y0, y1⟩ := HH2.out _ M15
  go_wp2_with fail
  have NB2 : NodeB w15 (b2.upd true A15 (ki.length + 1) c15) (li.take k ++ up :: li.drop k) (ki.take (k + 1) ++ j :: ki.drop (k + 1)) := by
   refine ⟨?_, ?_⟩
   ·rw [Bn.v_upd_ne _ (by decide)]
    exact own_keep hn2.1 fun x e => (M15.block x (Nat.lt_of_lt_of_le (hn2.lt (x := false) e) Mb.size) fun e2 => absurd (hn2.ne (x := false) (y := true) e e2) (by decide)).trans (Mb.block x (hn2.lt (x := false) e) fun h => h)
   ·rw [Bn.v_upd]
    have := own15
    rw [nums_ins ki (k + 1) j] at this
    rw [show (ki.take (k + 1) ++ j :: ki.drop (k + 1)).length = ki.length + 1 by simp; omega]
    exact this
  obtain ⟨m16, X16, F16⟩ := mb.out.setF (x := true) hb2 M15 A15 (ki.length + 1) c15 _ _ NB2 F15 1 rfl
  rw [StB.set_set] at m16
  go_end0
  have hjS : S j = none := by
   by_cases e : j = kid
   ·rw [e, StB.set_self] at hj; cases hj
   ·rwa [StB.set_ne _ _ e] at hj
  have s10 := X4.size
  have s12 := X11.size
  have sq := Mq.size
  have s14 := X14.size
  have sb := Mb.size
  have E1 : ∀ k, FootB tb ab (.slice (some ⟨lb, 0, none⟩) σ.length c) fv (σ.set kid (some u1)) k → FootB tb ab (.slice (some ⟨lb, 0, none⟩) σ.length c) fv σ k ∨ w2.heap.size ≤ k := by
   intro k hk
   rcases F10 k hk with a | a | ⟨y, a⟩
   ·exact .inl a
   ·exact .inr (by have := h1920.out; have := hgu2.out; have := z5.out; omega)
   ·exact .inr (o1 y k a).1
  have E2 := fun k hk => (F11 k hk).elim (E1 k) fun a => a.elim (fun a => .inr (by omega)) fun ⟨y, a⟩ => .inr (o2 y k a).1
  have E3 := fun k hk => (F14 k hk).elim (E2 k) fun a => .inr (by omega)
  have E4 := fun k hk => (F16 k hk).elim (E3 k) fun a => .inr (by omega)
  refine ⟨rfl, j, _, _, _, _, hjS, m16, ?_, E4, ?_⟩
  ·exact ((((X4.trans X11 E1).trans Mq fun _ h => h.elim).trans X14 E2).trans Mb fun _ h => h.elim).trans X16 E3
  ·simpa [cntB] using hcnt
end
open Go Go.RowKit
section
variable {w w' : World} {tb ab : Nat} {lv fv : Value} {σ : List (Option Bn)} {free : List Int} {root deg room many : Int} {S : StB}
theorem MemB.liveIff (h : MemB w tb ab lv fv σ free root deg room many S) (i : Nat) : S i ≠ none ↔ i < σ.length ∧ σ[i]? ≠ some none := by
 constructor
 ·intro hs
  obtain ⟨⟨l, ks⟩, e⟩ := Option.ne_none_iff_exists'.1 hs
  obtain ⟨b, hb, _⟩ := h.live e
  exact ⟨(List.getElem?_eq_some_iff.1 hb).1, by rw [hb]; simp⟩
 ·rintro ⟨hl, hn⟩ e
  cases hp : σ[i]? with
  | none => rw [List.getElem?_eq_none_iff] at hp; omega
  | some p =>
   cases p with
   | none => exact hn hp
   | some b =>
    obtain ⟨l, ks, q, _⟩ := h.node i b hp
    rw [e] at q; cases q
theorem MemB.count (h : MemB w tb ab lv fv σ free root deg room many S) {F : List Nat} (hA : Alls S F) : cntB σ free = F.length := by
 have ha := h.a.inv
 have hp : (F.map (fun i : Nat => (i : Int)) ++ free).Perm ((List.range σ.length).map (fun i : Nat => (i : Int))) := by
  rw [List.perm_ext_iff_of_nodup]
  ·intro k
   rw [List.mem_append, List.mem_map, List.mem_map, ha.mem]
   constructor
   ·rintro (⟨i, hi, rfl⟩ | ⟨i, rfl, hi⟩)
    ·exact ⟨i, List.mem_range.2 ((h.liveIff i).1 ((hA.2 i).1 hi)).1, rfl⟩
    ·exact ⟨i, List.mem_range.2 (List.getElem?_eq_some_iff.1 hi).1, rfl⟩
   ·rintro ⟨i, hi, rfl⟩
    rw [List.mem_range] at hi
    by_cases hn : σ[i]? = some none
    ·exact .inr ⟨i, rfl, hn⟩
    ·exact .inl ⟨i, (hA.2 i).2 ((h.liveIff i).2 ⟨hi, hn⟩), rfl⟩
  ·rw [List.nodup_append]
   refine ⟨?_, ha.nodup, ?_⟩
   ·rw [List.nodup_iff_pairwise_ne, List.pairwise_map]
    exact List.Pairwise.imp (fun h e => h (by omega)) hA.1
   ·rintro a h1 b h2 rfl
    obtain ⟨i, hi, rfl⟩ := List.mem_map.1 h1
    obtain ⟨j, e2, hj⟩ := (ha.mem _).1 h2
    obtain rfl : i = j := by omega
    exact ((h.liveIff i).1 ((hA.2 i).1 hi)).2 hj
  ·rw [List.nodup_iff_pairwise_ne, List.pairwise_map]
   exact List.Pairwise.imp (fun h e => h (by omega)) List.nodup_range
 have := hp.length_eq
 rw [List.length_append, List.length_map, List.length_map, List.length_range] at this
 unfold cntB
 omega
end
open Go Go.RowKit
theorem Sub.kidsLen {d : Nat} {S : StB'} {h lo i : Nat} {L l : List Sg} {ks : List Nat} {F : List Nat} (hs : Sub d S h lo i L F) (hl : S i = some (l, ks)) : (h = 0 → ks = []) ∧ (0 < h → ks.length = l.length + 1) := by
 cases h with
 | zero =>
  obtain ⟨q1, _⟩ := hs
  rw [hl] at q1; cases q1
  exact ⟨fun _ => rfl, fun h => by omega⟩
 | succ h =>
  obtain ⟨l', cs, h1, h2, h3, h4, _⟩ := hs
  rw [hl] at h1; cases h1
  exact ⟨fun h => by omega, fun _ => by simpa using h4⟩
section
variable {w w' : World} {tb ab : Nat} {lv fv : Value} {σ : List (Option Bn)} {free : List Int} {root room many : Int} {S : StB} {d : Nat} {L : List Sg}
def Split8Q (w : World) (tb ab : Nat) (lv fv : Value) (σ : List (Option Bn)) (root deg room many : Int) (S : StB) (d g lo i k : Nat) (L l : List Sg) (F : List Nat) (w' : World) : Prop :=
 ∃ (S' : StB) (lv' fv' : Value) (σ' : List (Option Bn)) (free' : List Int) (l' : List Sg) (ks' F' : List Nat) (up : Sg),
  MemB w' tb ab lv' fv' σ' free' root deg room many S' ∧ S' i = some (l', ks') ∧ l' = l.take k ++ up :: l.drop k ∧ Sub d S' (g + 1) (lo + 1) i L F' ∧ Chg S S' F F' ∧
  (∀ t, t = k ∨ t = k + 1 → ∃ kt lt kk, ks'[t]? = some kt ∧ S' kt = some (lt, kk) ∧ lt.length = d - 1) ∧ Mod (FootB tb ab lv fv σ) w w' ∧ (∀ x, FootB tb ab lv' fv' σ' x → FootB tb ab lv fv σ x ∨ w.heap.size ≤ x)
theorem splitBZ (h : MemB w tb ab lv fv σ free root (d : Int) room many S) (hd : 2 ≤ d ∧ d ≤ 64) {g lo i k kid : Nat} {l lk : List Sg} {ks kk F : List Nat} (hs : Sub d S (g + 1) lo i L F) (hi : S i = some (l, ks)) (hnd : F.Nodup) (hk : k ≤ l.length) (hkid : ks[k]? = some kid)
  (hkl : S kid = some (lk, kk)) (hfull : lk.length = 2 * d - 1) (hlen : l.length + 1 ≤ 2 * d - 1) (hroom : cntB σ free < 2 * room + 4) :
  Calls Tryz.prog 126 #[.pointer (some ⟨tb, 0, none⟩), .int .i64 i, .int .i64 k] w fun e w' => e = .returned (.tuple #[]) ∧ Split8Q w tb ab lv fv σ root d room many S d g lo i k L l F w' := by
 obtain ⟨m, rfl⟩ : ∃ m, d = m + 1 := ⟨d - 1, by omega⟩
 obtain ⟨C1, a, C2, q1, q2, q3, q4, q5, q6, q7, q8, q9, q10⟩ := hs.one hi k hk
 have hka : (C1.map Ch.i ++ a.i :: C2.map Ch.i)[k]? = some a.i := (take_mid (by simpa using q2)).2.2
 rw [q1, hka] at hkid
 obtain rfl : a.i = kid := by injection hkid
 obtain ⟨c1, c2⟩ := q5.kidsLen hkl
 obtain ⟨i1, i2⟩ := hs.kidsLen hi
 have i3 := i2 (by omega)
 have hne : a.i ≠ i := fun e => by
  rw [q8] at hnd
  refine (List.nodup_cons.1 hnd).1 ?_
  have := q5.mem
  rw [← e]
  simp [this]
 have hup : m < lk.length := by omega
 have e1 : lk = lk.take m ++ lk[m] :: lk.drop (m + 1) := by rw [← List.drop_eq_getElem_cons hup, List.take_append_drop]
 have hl1 : (lk.take m).length = m := by simp; omega
 have hl2 : (lk.drop (m + 1)).length = m := by simp; omega
 have hkk : k < ks.length := by omega
 have hkk2 : ks[k] = a.i := by
  have := hka
  rw [← q1, List.getElem?_eq_getElem hkk] at this
  injection this
 generalize lk.take m = l1 at e1 hl1
 generalize lk.drop (m + 1) = l2 at e1 hl2
 generalize lk[m] = up at e1
 subst e1
 have fin : ∀ (k1 k2 : List Nat), kk = k1 ++ k2 → (g = 0 → k1 = []) → (0 < g → k1.length = l1.length + 1) → ∀ w', (∃ (j : Nat) (lv' fv' : Value) (σ' : List (Option Bn)) (free' : List Int), S j = none ∧
  MemB w' tb ab lv' fv' σ' free' root ((m : Int) + 1) room many (((S.set a.i (some (l1, k1))).set j (some (l2, k2))).set i (some (l.take k ++ up :: l.drop k, ks.take (k + 1) ++ j :: ks.drop (k + 1)))) ∧
  Mod (FootB tb ab lv fv σ) w w' ∧ (∀ k, FootB tb ab lv' fv' σ' k → FootB tb ab lv fv σ k ∨ w.heap.size ≤ k) ∧ cntB σ' free' = cntB σ free + 1) → Split8Q w tb ab lv fv σ root ((m + 1 : Nat) : Int) room many S (m + 1) g lo i k L l F w' := by
  rintro k1 k2 rfl hk0 hk1 w' ⟨j, lv', fv', σ', free', hj, hm, M, Fo, _⟩
  have hji : j ≠ i := fun e => by rw [e, hi] at hj; cases hj
  have hja : j ≠ a.i := fun e => by rw [e, hkl] at hj; cases hj
  have E1 : (((S.set a.i (some (l1, k1))).set j (some (l2, k2))).set i (some (l.take k ++ up :: l.drop k, ks.take (k + 1) ++ j :: ks.drop (k + 1)))) a.i = some (l1, k1) := by rw [StB.set_ne _ _ hne, StB.set_ne _ _ (Ne.symm hja), StB.set_self]
  have E2 : (((S.set a.i (some (l1, k1))).set j (some (l2, k2))).set i (some (l.take k ++ up :: l.drop k, ks.take (k + 1) ++ j :: ks.drop (k + 1)))) j = some (l2, k2) := by rw [StB.set_ne _ _ hji, StB.set_self]
  obtain ⟨F', s1, s2⟩ := hs.split (S' := ((S.set a.i (some (l1, k1))).set j (some (l2, k2))).set i (some (l.take k ++ up :: l.drop k, ks.take (k + 1) ++ j :: ks.drop (k + 1)))) hi hnd hk (kid := a.i) (j := j) (by rw [q1]; exact hka) hkl hk1 hk0 (by omega) (by omega) hj hlen E1 E2 (StB.set_self ..) (fun x n1 n2 n3 => by rw [StB.set_ne _ _ n3, StB.set_ne _ _ n2, StB.set_ne _ _ n1])
  refine ⟨_, lv', fv', σ', free', _, _, F', up, hm, StB.set_self .., rfl, s1, s2, ?_, M, Fo⟩
  rintro t (rfl | rfl)
  ·refine ⟨a.i, l1, k1, ?_, E1, by omega⟩
   rw [List.getElem?_append_left (by simp; omega), List.getElem?_take, if_pos (by omega), List.getElem?_eq_getElem hkk, hkk2]
  ·refine ⟨j, l2, k2, ?_, E2, by omega⟩
   rw [List.getElem?_append_right (by simp; omega)]
   have : (ks.take (k + 1)).length = k + 1 := by simp; omega
   rw [this]; simp
 cases g with
 | zero =>
  obtain rfl := c1 rfl
  exact (splitBZ_leaf (m := m) (by simpa using h) ⟨by omega, by omega⟩ hi hkk hk hkk2 hkl hl1 hl2 hne (by omega) (by omega) hroom).mono fun e w' ⟨h1, h2⟩ => ⟨h1, fin [] [] rfl (fun _ => rfl) (fun h => by omega) w' h2⟩
 | succ g =>
  have c2 := c2 (by omega)
  simp only [List.length_append, List.length_cons] at c2
  exact (splitBZ_inner (m := m) (k1 := kk.take (m + 1)) (k2 := kk.drop (m + 1)) (by simpa using h) ⟨by omega, by omega⟩ hi hkk hk hkk2 (by rw [List.take_append_drop]; exact hkl) hl1 hl2 (by simp; omega) (by simp; omega) hne (by omega) (by omega) hroom).mono fun e w' ⟨h1, h2⟩ =>
   ⟨h1, fin _ _ (List.take_append_drop _ _).symm (fun h => by omega) (fun _ => by simp; omega) w' h2⟩
end
end Go.Proofs.Bo
