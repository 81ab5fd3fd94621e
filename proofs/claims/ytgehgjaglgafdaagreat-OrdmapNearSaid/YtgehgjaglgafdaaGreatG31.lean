import Derived.Test.YtgehgjaglgafdaaGreatG30
import Derived.Test.YtgehgjaglgafdaaGreatG21
import Derived.Deep.DeepCutAuto
set_option linter.unusedVariables false
set_option linter.unusedSimpArgs false
namespace Go.Proofs.Bo
open Go Go.RowKit
section
variable {w w' : World} {tb ab : Nat} {lv fv : Value} {σ : List (Option Bn)} {free : List Int} {root deg room many : Int} {S : StB}
set_option maxHeartbeats 4000000 in
set_option maxRecDepth 100000 in
theorem shiftLZ (h : MemB w tb ab lv fv σ free root deg room many S) {i f t k : Nat} {l lf lt : List Sg} {y : Sg} {ks kf kq kt : List Nat} (hi : S i = some (l, ks)) (hf : S f = some (lf ++ [y], kf ++ kq)) (ht : S t = some (lt, kt)) (hkf : ks[k]? = some f) (hkt : ks[k + 1]? = some t) (hk : k < l.length)
  (hif : i ≠ f) (hit : i ≠ t) (hft : f ≠ t) (hz : l.length ≤ 200 ∧ ks.length ≤ 201 ∧ lf.length ≤ 200 ∧ lt.length ≤ 200) (hkk : (kf = [] ∧ kq = [] ∧ kt = []) ∨ ∃ q, kq = [q] ∧ kf.length = lf.length + 1 ∧ kt.length ≤ 201) :
  Calls Tryz.prog 142 #[.pointer (some ⟨tb, 0, none⟩), .int .i64 i, .int .i64 ((k : Int) + 1), .bool true] w fun e w' => e = .returned (.tuple #[]) ∧ Sh3 w tb ab lv fv σ free root deg room many S i f t (l.set k y, ks) (lf, kf) (l[k] :: lt, kq ++ kt) w' := by
 have hsh : Sh3 w tb ab lv fv σ free root deg room many S i f t (l, ks) (lf ++ [y], kf ++ kq) (lt, kt) w := ⟨S, σ, h, hi, hf, ht, fun _ _ _ _ => rfl, rfl, Mod.refl _ _, fun x hx => .inl hx⟩
 obtain ⟨bi0, hbi0, hni0⟩ := h.live hi
 obtain ⟨bf0, hbf0, hnf0⟩ := h.live hf
 obtain ⟨bt0, hbt0, hnt0⟩ := h.live ht
 obtain ⟨lb, c, rfl⟩ := h.lbS hbi0
 have PI := atM h hbi0
 have HF := hid (fun (W : World) (M : CM w W) => (atM (h.mod0 M) hbf0).mono fun e w'' ⟨h1, h2⟩ => (⟨h1, by rw [h2]; exact M⟩ : e = Ending.returned (.pointer (some ⟨lb, f * 3, none⟩)) ∧ CM w w''))
 have HT := hid (fun (W : World) (M : CM w W) => (atM (h.mod0 M) hbt0).mono fun e w'' ⟨h1, h2⟩ => (⟨h1, by rw [h2]; exact M⟩ : e = Ending.returned (.pointer (some ⟨lb, t * 3, none⟩)) ∧ CM w w''))
 have HN := hid (fun (W : World) (M : CM w W) => (by
  obtain ⟨b', hb', hn', z0, z1, _⟩ := (h.mod0 M).nodeF hi
  rw [hbi0] at hb'; cases hb'
  obtain ⟨g1, hg1, u1⟩ := hn'.kidC (List.getElem?_eq_some_iff.1 hkf).1
  obtain ⟨g2, hg2, u2⟩ := hn'.kidC (List.getElem?_eq_some_iff.1 hkt).1
  rw [hg1] at hg2; cases hg2
  rw [(List.getElem?_eq_some_iff.1 hkf).2] at u1
  rw [(List.getElem?_eq_some_iff.1 hkt).2] at u2
  rw [hg1] at z1
  exact ⟨g1, hg1, z1, u1, u2⟩ : ∃ g1, bi0.ka = some ⟨g1, 0, none⟩ ∧ W.cell? ⟨lb, i * 3 + 1, none⟩ = some (.slice (some ⟨g1, 0, none⟩) ks.length bi0.kc) ∧ W.cell? ⟨g1, k, none⟩ = some (.int .i64 (f : Int)) ∧ W.cell? ⟨g1, k + 1, none⟩ = some (.int .i64 (t : Int))))
 obtain ⟨gk, hgk, -⟩ := HN.out _ (Mod.refl _ _)
 rw [hgk] at HN
 obtain ⟨hk1, hkf⟩ := List.getElem?_eq_some_iff.1 hkf
 obtain ⟨hk2, hkt⟩ := List.getElem?_eq_some_iff.1 hkt
 have hsub : IntKind.i64.wrap (k : Int) = (k : Int) := by rw [IntKind.wrap_i64]; omega
 have hkI : (k : Int) < ks.length := by omega
 have hkI2 : (k : Int) + 1 < ks.length := by omega
 have hkl : (k : Int) < l.length := by omega
 have hk10 : (0 : Int) ≤ (k : Int) + 1 := by omega
 obtain ⟨xk, hxk⟩ : ∃ x, l[k] = x := ⟨_, rfl⟩
 rw [hxk]
 have hxk0 := hid hxk
 replace hz := hid hz
 replace hkk := hid hkk
 have hk0 := hid hk
 clear h hi hf ht hni0 hnf0 hnt0 hkf hkt hxk hk1 hk2
 replace hsh := hid hsh
 go_enter Tryz.func142, Tryz.ntmps142
 go_wp2_with fail
 refine PI.mono ?_; rintro e w2 ⟨rfl, hw2⟩; subst hw2
 go_upto_region 2 with fail
 go_cut [9, 10] (fun a b W => a = Value.pointer (some ⟨lb, f * 3, none⟩) ∧ b = Value.pointer (some ⟨lb, t * 3, none⟩) ∧ Sh3 w2 tb ab (.slice (some ⟨lb, 0, none⟩) σ.length c) fv σ free root deg room many S i f t (l, ks) (lf ++ [y], kf ++ kq) (lt, kt) W)
 case first =>
  refine cq_region (by kernel_rfl) (by kernel_rfl) ?_
  iterate 21 (refine wpQuiet_step (fun K hK => ?_); go_simp; first | (refine hK _ ?_; clear hK K) | (refine ⟨_, fun _ _ => rfl, hK _ ?_⟩; clear hK K) | (apply Exists.intro; refine ⟨fun wq hq => ?_, hK _ ?_⟩; (focus (first | (go_at_call 114; with_reducible exact HF.out _ hq) | (go_at_call 114; with_reducible exact HT.out _ hq) | (obtain ⟨g1, hg1, z1, u1, u2⟩ := HN.out _ hq; cases hg1; go_simp; try with_reducible rfl))); clear hK K))
  refine wpQuiet_nil ?_
  intro w3 M3
  go_wp2_with fail
  go_meet
  obtain ⟨S1, σ1, m1, e1i, e1f, e1t, e1o, e1l, M1, F1⟩ := hsh.out
  exact ⟨rfl, rfl, S1, σ1, m1.mod0 M3, e1i, e1f, e1t, e1o, e1l, M1.trans' (M3.mono fun _ h => h.elim), F1⟩
 case rest =>
  obtain ⟨rfl, rfl, hsh⟩ := hcut
  clear PI HF HT HN
  obtain ⟨W1, hW1⟩ : ∃ W, W = wc := ⟨_, rfl⟩
  subst hW1
  obtain ⟨S1, σ1, m1, e1i, e1f, e1t, e1o, e1l, M1, F1⟩ := hsh
  obtain ⟨bf, hbf, hnf, qf0, qf1, qf2, qf3⟩ := m1.nodeF e1f
  rw [show (lf ++ [y]).length = lf.length + 1 by simp] at qf0
  have hsub2 : IntKind.i64.wrap (lf.length : Int) = (lf.length : Int) := by rw [IntKind.wrap_i64]; have := hz.out; omega
  have hsh := hid (show Sh3 w2 tb ab (.slice (some ⟨lb, 0, none⟩) σ.length c) fv σ free root deg room many S i f t (l, ks) (lf ++ [y], kf ++ kq) (lt, kt) W1 from ⟨S1, σ1, m1, e1i, e1f, e1t, e1o, e1l, M1, F1⟩)
  clear m1 e1i e1f e1t e1o e1l M1 F1 hnf
  go_upto_region 4 with fail
  go_cut [] (fun W => Sh3 w2 tb ab (.slice (some ⟨lb, 0, none⟩) σ.length c) fv σ free root deg room many S i f t (l, ks) (lf ++ [y], kf ++ kq) (xk :: lt, kt) W)
  case first =>
   obtain ⟨S1, σ1, m1, e1i, e1f, e1t, e1o, e1l, M1, F1⟩ := hsh.out
   obtain ⟨bt, hbt, hnt⟩ := m1.live e1t
   obtain ⟨qt0, qt1, qt2, qt3⟩ := m1.cells hbt
   obtain ⟨bi, hbi, hni, qi0, qi1, qi2, qi3⟩ := m1.nodeF e1i
   obtain ⟨gi, hgi, z0, z1, z2, z3, z4⟩ := hni.segC (j := k) hk0.out
   rw [hxk0.out] at z0 z1 z2 z3 z4
   rw [hgi] at qi0
   clear hni
   obtain ⟨wa, hwa, ba, Ma⟩ := boxS W1 xk
   have Mq := Ma.drew
   have mq := hid (m1.mod0 Mq)
   have hq := hid (show NodeB wa.drew bt lt kt from hnt.keep fun x k e => Mq.block k (hnt.lt e) fun h => h)
   obtain ⟨p0, p1, p2, p3⟩ := m1.hdr hbt false (Mq.mono fun _ h => h.elim) hbt
   have bq := hid ba
   have IN := insSg (w := wa.drew) (v := bt.v false) (n := lt.length) (k := 0) (xs := lt.flatMap encS) (x := encS xk) (vb := W1.heap.size) hq.out.1 (one_segs _) bq.out (fun j e he => by have := hnt.lt e; omega) rfl (by simpa using one_segs [xk]) (Nat.zero_le _) (by have := hz.out; omega)
   rw [show (((0 : Nat)) : Int) = 0 from rfl, show bt.v false = .slice bt.la bt.ln bt.lc from rfl] at IN
   have HH := hid (fun (W : World) (q : Mod (fun j => (bt.v false).ownBlock = some j) wa.drew W) => mq.out.hdr hbt false q hbt)
   have G := hid (And.intro m1 (And.intro M1 F1))
   clear ba m1 hnt M1 F1
   subst hwa
   refine share1 (fun w13 A13 c13 => w13.ownsRow 0 38 5 (.slice A13 (lt.length + 1) c13) (lt.length + 1) ((lt.flatMap encS).take (0 * 5) ++ encS xk ++ (lt.flatMap encS).drop (0 * 5)) ∧ Mod (fun j => (bt.v false).ownBlock = some j) (W1.alloc (.cells #[.int .i64 xk.ls, .int .i64 xk.la, .int .i64 xk.hs, .int .i64 xk.ha, .int .i64 xk.v] 38)).drew w13 ∧ ∀ j, (Value.slice A13 (lt.length + 1) c13).ownBlock = some j → (bt.v false).ownBlock = some j ∨ (W1.alloc (.cells #[.int .i64 xk.ls, .int .i64 xk.la, .int .i64 xk.hs, .int .i64 xk.ha, .int .i64 xk.v] 38)).drew.heap.size ≤ j) ?_
   apply Exists.intro
   refine ⟨fun HW => ?_, ?_⟩
   ·replace HW := hid HW
    go_region_with ((go_at_call 128; refine IN.mono ?_; rintro e w13 ⟨v13, rfl, own13, M13, F13⟩; obtain ⟨A13, c13, rfl, h13⟩ := own_slice own13; obtain ⟨y0, y1, y2, y3⟩ := HH.out _ M13))
    all_goals exact HW.out w13 A13 c13 ⟨own13, M13, F13⟩
   rintro w13 A13 c13 ⟨own13, M13, F13⟩
   have NB := hq.out.newL (l' := xk :: lt) M13 own13 (by simp [encS]) (by simp)
   obtain ⟨m14, X14, F14⟩ := mq.out.setF (x := false) hbt M13 A13 _ c13 (xk :: lt) kt NB F13 0 rfl
   try simp only [Nat.add_zero] at m14 X14
   obtain ⟨y0, y1, y2, y3⟩ := HH.out _ M13
   go_wp2_with fail
   go_meet
   exact Sh3.setT m14 e1i e1f e1o hit hft (by simp [e1l]) (sh_next G.out.2.1 G.out.2.2 Mq X14 F14)
  case rest =>
   replace hsh := hcut
   go_upto_region 5 with fail
   go_cut [] (fun W => Sh3 w2 tb ab (.slice (some ⟨lb, 0, none⟩) σ.length c) fv σ free root deg room many S i f t (l.set k y, ks) (lf ++ [y], kf ++ kq) (xk :: lt, kt) W)
   case first =>
    obtain ⟨W1, hW1⟩ : ∃ W, W = wc := ⟨_, rfl⟩
    subst hW1
    obtain ⟨S1, σ1, m1, e1i, e1f, e1t, e1o, e1l, M1, F1⟩ := hsh
    obtain ⟨bi, hbi, hni, qi0, qi1, qi2, qi3⟩ := m1.nodeF e1i
    obtain ⟨gi, hgi, -⟩ := hni.segC (j := k) hk0.out
    obtain ⟨bf, hbf, hnf, qf0, qf1, qf2, qf3⟩ := m1.nodeF e1f
    obtain ⟨gf, hgf, -⟩ := hnf.segC (j := lf.length) (by simp)
    have HE : ∀ (W : World), CM W1 W → W.cell? ⟨lb, f * 3, none⟩ = some (.slice (some ⟨gf, 0, none⟩) (lf.length + 1) bf.lc) ∧ W.cell? ⟨gf, lf.length * 5, none⟩ = some (.int .i64 y.ls) ∧ W.cell? ⟨gf, lf.length * 5 + 1, none⟩ = some (.int .i64 y.la) ∧ W.cell? ⟨gf, lf.length * 5 + 2, none⟩ = some (.int .i64 y.hs) ∧ W.cell? ⟨gf, lf.length * 5 + 3, none⟩ = some (.int .i64 y.ha) ∧ W.cell? ⟨gf, lf.length * 5 + 4, none⟩ = some (.int .i64 y.v) ∧ W.cell? ⟨lb, i * 3, none⟩ = some (.slice (some ⟨gi, 0, none⟩) l.length bi.lc) := by
     intro W q
     obtain ⟨qf0, _⟩ := (m1.mod0 q).cells hbf
     obtain ⟨gf2, hgf2, z0, z1, z2, z3, z4⟩ := (hnf.keep (w' := W) fun x k e => Mod.block q k (hnf.lt e) fun h => h).segC (j := lf.length) (by simp)
     rw [hgf] at hgf2; cases hgf2
     obtain ⟨qi0, _⟩ := (m1.mod0 q).cells hbi
     rw [hni.ln, hgi] at qi0
     rw [hnf.ln, hgf] at qf0
     simp only [List.getElem_concat_length] at z0 z1 z2 z3 z4
     rw [show (lf ++ [y]).length = lf.length + 1 by simp] at qf0
     exact ⟨qf0, z0, z1, z2, z3, z4, qi0⟩
    replace HE := hid HE
    have HQ : ∀ (W : World), CM W1 W → (∀ j, j < 5 → (∃ u, W.cell? ⟨gi, k * 5 + j, none⟩ = some u) ∧ W.frozen? ⟨gi, k * 5 + j, none⟩ = false) ∧ MemB (((((W.setCell ⟨gi, k * 5, none⟩ (.int .i64 y.ls)).setCell ⟨gi, k * 5 + 1, none⟩ (.int .i64 y.la)).setCell ⟨gi, k * 5 + 2, none⟩ (.int .i64 y.hs)).setCell ⟨gi, k * 5 + 3, none⟩ (.int .i64 y.ha)).setCell ⟨gi, k * 5 + 4, none⟩ (.int .i64 y.v)) tb ab (.slice (some ⟨lb, 0, none⟩) σ.length c) fv σ1 free root deg room many (S1.set i (some (l.set k y, ks))) ∧
      Mod (FootB tb ab (.slice (some ⟨lb, 0, none⟩) σ.length c) fv σ1) W (((((W.setCell ⟨gi, k * 5, none⟩ (.int .i64 y.ls)).setCell ⟨gi, k * 5 + 1, none⟩ (.int .i64 y.la)).setCell ⟨gi, k * 5 + 2, none⟩ (.int .i64 y.hs)).setCell ⟨gi, k * 5 + 3, none⟩ (.int .i64 y.ha)).setCell ⟨gi, k * 5 + 4, none⟩ (.int .i64 y.v)) := by
     intro W q
     have hni' : NodeB W bi l ks := hni.keep fun x k e => Mod.block q k (hni.lt e) fun h => h
     obtain ⟨z1, z2⟩ := hni'.put5 hk0.out y hgi
     exact ⟨hni'.segF hk0.out hgi, (m1.mod0 q).inRow hbi z2 z1⟩
    replace HQ := hid HQ
    have hlI : (lf.length : Int) < (lf.length : Int) + 1 := by omega
    clear hni hnf qi0 qi1 qi2 qi3 qf0 qf1 qf2 qf3
    refine cq_tail 14 (by kernel_rfl) (by kernel_rfl) ?_
    simp only [List.take_succ_cons, List.take_zero, List.drop_succ_cons, List.drop_zero]
    iterate 14 (refine wpQuiet_step (fun K hK => ?_); go_simp; first | (refine hK _ ?_; clear hK K) | (refine ⟨_, fun _ _ => rfl, hK _ ?_⟩; clear hK K) | (apply Exists.intro; refine ⟨fun wq hq => ?_, hK _ ?_⟩; (focus (first  | (obtain ⟨t0, t1, t2, t3, t4, t5, t6⟩ := HE.out _ hq; go_simp; try with_reducible rfl))); clear hK K))
    refine wpQuiet_nil ?_
    intro w4 M4
    obtain ⟨hfr, z3, z4⟩ := HQ.out _ M4
    obtain ⟨⟨v0, y0⟩, f0⟩ := hfr 0 (by omega)
    obtain ⟨⟨v1, y1⟩, f1⟩ := hfr 1 (by omega)
    obtain ⟨⟨v2, y2⟩, f2⟩ := hfr 2 (by omega)
    obtain ⟨⟨v3, y3⟩, f3⟩ := hfr 3 (by omega)
    obtain ⟨⟨v4, y4⟩, f4⟩ := hfr 4 (by omega)
    simp only [Nat.add_zero] at y0 f0
    replace z3 := hid z3
    replace z4 := hid z4
    have G := hid (And.intro M1 F1)
    clear hfr HE HQ m1 M1 F1
    go_wp2_with fail
    go_meet
    exact Sh3.setI z3.out e1f e1t e1o (Ne.symm hif) (Ne.symm hit) e1l (sh_next G.out.1 G.out.2 M4 z4.out fun x hx => .inl hx)
   case rest =>
    replace hsh := hcut
    obtain ⟨W1, hW1⟩ : ∃ W, W = wc := ⟨_, rfl⟩
    subst hW1
    obtain ⟨S1, σ1, m1, e1i, e1f, e1t, e1o, e1l, M1, F1⟩ := hsh
    obtain ⟨bf, hbf, hnf, qf0, qf1, qf2, qf3⟩ := m1.nodeF e1f
    obtain ⟨gf, hgf, -⟩ := hnf.segC (j := lf.length) (by simp)
    obtain ⟨m2, X2, F2⟩ := m1.cutL (m := lf.length) hbf hnf (by simp)
    rw [show (lf ++ [y]).take lf.length = lf by simp] at m2
    rw [hgf] at m2 X2 F2 qf0
    have hf2 := StB.set_self S1 f (some (lf, kf ++ kq))
    obtain ⟨bf2, hbf2, hnf2⟩ := m2.live hf2
    have PL := leafM m2 hbf2 hnf2
    have hsh := hid (show Sh3 w2 tb ab (.slice (some ⟨lb, 0, none⟩) σ.length c) fv σ free root deg room many S i f t (l.set k y, ks) (lf, kf ++ kq) (xk :: lt, kt) _ from Sh3.setFr m2 e1i e1t e1o hif (Ne.symm hft) (by simp [e1l]) (sh_next M1 F1 (Mod.refl _ _) X2 F2))
    rw [show (lf ++ [y]).length = lf.length + 1 by simp] at qf0
    have hle : (lf.length : Int) ≤ bf.lc := by
     obtain ⟨A, c', e, h1, _⟩ := own_slice hnf.1
     have e : Value.slice bf.la bf.ln bf.lc = _ := e
     injection e with _ _ e
     rw [e]; simp at h1; omega
    clear m1 e1i e1f e1t e1o e1l M1 F1 hnf X2 F2 hf2 hnf2
    rcases hkk.out with ⟨rfl, rfl, rfl⟩ | ⟨q, rfl, hkl1, hkt1⟩
    ·rw [show decide (([] : List Nat) ++ [] = []) = true from rfl] at PL
     go_wp2_with fail
     refine PL.mono ?_; rintro e w8 ⟨rfl, hw8⟩; subst hw8
     go_wp2_with fail
     (try simp only [Exit.inBlock, Exit.then])
     refine bodyPost_ret (results_none rfl _ _ _) rfl ?_
     exact ⟨rfl, by simpa [hxk0.out] using hsh.out⟩
    ·rw [show decide (kf ++ [q] = []) = false from by simp] at PL
     replace hkl1 := hid hkl1
     replace hkt1 := hid hkt1
     replace hkk := hid hkk
     go_wp2_with fail
     refine PL.mono ?_; rintro e w8 ⟨rfl, hw8⟩; rw [← hw8] at hsh; clear hw8
     clear PL qf0 qf1 qf2 qf3
     have hadd : IntKind.i64.wrap ((lf.length : Int) + 1) = (lf.length : Int) + 1 := by rw [IntKind.wrap_i64]; have := hz.out; omega
     have hl0 : (0 : Int) ≤ (lf.length : Int) + 1 := by omega
     have hl1 : (lf.length : Int) + 1 < (lf.length : Int) + 2 := by omega
     obtain ⟨wc, hwc⟩ : ∃ W, W = w8 := ⟨_, rfl⟩
     subst hwc
     go_upto_region 8 with fail
     go_cut [] (fun W => Sh3 w2 tb ab (.slice (some ⟨lb, 0, none⟩) σ.length c) fv σ free root deg room many S i f t (l.set k y, ks) (lf, kf ++ [q]) (xk :: lt, q :: kt) W)
     case first =>
      obtain ⟨W1, hW1⟩ : ∃ W, W = wc := ⟨_, rfl⟩
      subst hW1
      obtain ⟨S1, σ1, m1, e1i, e1f, e1t, e1o, e1l, M1, F1⟩ := hsh.out
      obtain ⟨bt, hbt, hnt⟩ := m1.live e1t
      obtain ⟨qt0, qt1, qt2, qt3⟩ := m1.cells hbt
      obtain ⟨bf, hbf, hnf, qf0, qf1, qf2, qf3⟩ := m1.nodeF e1f
      obtain ⟨gk, hgk, z0⟩ := hnf.kidC (j := lf.length + 1) (by have := hkl1.out; simp; omega)
      rw [show (kf ++ [q])[lf.length + 1]'(by have := hkl1.out; simp; omega) = q by simp [hkl1.out]] at z0
      rw [hgk, show (kf ++ [q]).length = lf.length + 2 by have := hkl1.out; simp; omega] at qf1
      clear hnf
      obtain ⟨wa, hwa, ba, Ma⟩ : ∃ wa, W1.alloc (.cells #[.int .i64 (q : Int)] 3) = wa ∧ wa.heap[W1.heap.size]? = some (.cells #[.int .i64 (q : Int)] 3 (0, 0)) ∧ Mod (fun _ => False) W1 wa := ⟨_, rfl, alloc_0 _ _, (Mod.refl _ _).alloc _⟩
      have Mq := Ma.drew
      have mq := hid (m1.mod0 Mq)
      have hq := hid (show NodeB wa.drew bt (xk :: lt) kt from hnt.keep fun x k e => Mq.block k (hnt.lt e) fun h => h)
      obtain ⟨p0, p1, p2, p3⟩ := m1.hdr hbt true (Mq.mono fun _ h => h.elim) hbt
      have bq := hid ba
      have IN := insIt (w := wa.drew) (v := bt.v true) (n := kt.length) (k := 0) (xs := numsV kt) (x := [.int .i64 (q : Int)]) (vb := W1.heap.size) hq.out.2 (one_nums _) bq.out (fun j e he => by have := hnt.lt (x := true) e; omega) rfl (by simp; rfl) (Nat.zero_le _) (by have := hkt1.out; omega)
      rw [show (((0 : Nat)) : Int) = 0 from rfl, show bt.v true = .slice bt.ka bt.kn bt.kc from rfl] at IN
      have HH := hid (fun (W : World) (q : Mod (fun j => (bt.v true).ownBlock = some j) wa.drew W) => mq.out.hdr hbt true q hbt)
      have G := hid (And.intro m1 (And.intro M1 F1))
      clear ba m1 hnt M1 F1
      subst hwa
      refine share1 (fun w13 A13 c13 => w13.ownsRow 0 3 1 (.slice A13 (kt.length + 1) c13) (kt.length + 1) ((numsV kt).take (0 * 1) ++ [.int .i64 (q : Int)] ++ (numsV kt).drop (0 * 1)) ∧ Mod (fun j => (bt.v true).ownBlock = some j) (W1.alloc (.cells #[.int .i64 (q : Int)] 3)).drew w13 ∧ ∀ j, (Value.slice A13 (kt.length + 1) c13).ownBlock = some j → (bt.v true).ownBlock = some j ∨ (W1.alloc (.cells #[.int .i64 (q : Int)] 3)).drew.heap.size ≤ j) ?_
      apply Exists.intro
      refine ⟨fun HW => ?_, ?_⟩
      ·replace HW := hid HW
       go_region_with ((go_at_call 135; refine IN.mono ?_; rintro e w13 ⟨v13, rfl, own13, M13, F13⟩; obtain ⟨A13, c13, rfl, h13⟩ := own_slice own13; obtain ⟨y0, y1, y2, y3⟩ := HH.out _ M13))
       all_goals exact HW.out w13 A13 c13 ⟨own13, M13, F13⟩
      rintro w13 A13 c13 ⟨own13, M13, F13⟩
      have NB := hq.out.newK (ks' := q :: kt) M13 own13 (by simp [numsV]) (by simp)
      obtain ⟨m14, X14, F14⟩ := mq.out.setF (x := true) hbt M13 A13 _ c13 ((xk :: lt)) (q :: kt) NB F13 1 rfl
      try simp only [Nat.add_zero] at m14 X14
      obtain ⟨y0, y1, y2, y3⟩ := HH.out _ M13
      go_wp2_with fail
      go_meet
      exact Sh3.setT m14 e1i e1f e1o hit hft (by simp [e1l]) (sh_next G.out.2.1 G.out.2.2 Mq X14 F14)
     case rest =>
      replace hsh := hcut
      obtain ⟨W1, hW1⟩ : ∃ W, W = wc := ⟨_, rfl⟩
      subst hW1
      obtain ⟨S1, σ1, m1, e1i, e1f, e1t, e1o, e1l, M1, F1⟩ := hsh
      obtain ⟨bf, hbf, hnf, qf0, qf1, qf2, qf3⟩ := m1.nodeF e1f
      obtain ⟨gk, hgk, -⟩ := hnf.kidC (j := lf.length + 1) (by have := hkl1.out; simp; omega)
      obtain ⟨m2, X2, F2⟩ := m1.cutK (m := lf.length + 1) hbf hnf (by have := hkl1.out; simp; omega)
      rw [show (kf ++ [q]).take (lf.length + 1) = kf by rw [← hkl1.out]; simp] at m2
      rw [hgk] at m2 X2 F2 qf1
      have hsh := hid (show Sh3 w2 tb ab (.slice (some ⟨lb, 0, none⟩) σ.length c) fv σ free root deg room many S i f t (l.set k y, ks) (lf, kf) (xk :: lt, q :: kt) _ from Sh3.setFr m2 e1i e1t e1o hif (Ne.symm hft) (by simp [e1l]) (sh_next M1 F1 (Mod.refl _ _) X2 F2))
      rw [show (kf ++ [q]).length = lf.length + 2 by have := hkl1.out; simp; omega] at qf1
      have hle2 : (lf.length : Int) + 1 ≤ bf.kc := by
       obtain ⟨A, c', e, h1, _⟩ := own_slice hnf.2
       have e : Value.slice bf.ka bf.kn bf.kc = _ := e
       injection e with _ _ e
       rw [e]; have := hkl1.out; simp at h1; omega
      clear m1 e1i e1f e1t e1o e1l M1 F1 hnf X2 F2
      go_wp2_with fail
      (try simp only [Exit.inBlock, Exit.then])
      refine bodyPost_ret (results_none rfl _ _ _) rfl ?_
      exact ⟨rfl, by simpa [hxk0.out] using hsh.out⟩
end
end Go.Proofs.Bo
