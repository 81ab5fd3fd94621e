import Derived.Test.YtgehgjaglgafdaaGreatG30
import Derived.Test.YtgehgjaglgafdaaGreatG21
import Derived.Test.YtgehgjaglgafdaaGreatG33
import Derived.Deep.RegionLaw
import Derived.Deep.DeepCutAuto
import Derived.Test.YtgehgjaglgafdaaGreatG31
import Derived.Test.YtgehgjaglgafdaaGreatG32
set_option linter.unusedVariables false
set_option linter.unusedSimpArgs false
namespace Go.Proofs.Bo
open Go Go.RowKit
section
variable {w w' : World} {tb ab : Nat} {lv fv : Value} {σ : List (Option Bn)} {free : List Int} {root deg room many : Int} {S : StB}
def JN (w : World) (tb ab : Nat) (lv fv : Value) (σ : List (Option Bn)) (free : List Int) (root deg room many : Int) (S : StB) (i f t : Nat) (bf : Bn) (vi vf vt : List Sg × List Nat) (W : World) : Prop :=
 ∃ (S' : StB) (σ' : List (Option Bn)), MemB W tb ab lv fv σ' free root deg room many S' ∧ S' i = some vi ∧ S' f = some vf ∧ S' t = some vt ∧ (∀ x, x ≠ i → x ≠ f → x ≠ t → S' x = S x) ∧ σ'[f]? = some (some bf) ∧ σ'.length = σ.length ∧ Mod (FootB tb ab lv fv σ) w W ∧ ∀ x, FootB tb ab lv fv σ' x → FootB tb ab lv fv σ x ∨ w.heap.size ≤ x
theorem JN.setT {i f t : Nat} {bf : Bn} {vi vf v : List Sg × List Nat} {S' : StB} {σ' : List (Option Bn)} {b2 : Bn} {w2 : World} (m2 : MemB w2 tb ab lv fv (σ'.set t (some b2)) free root deg room many (S'.set t (some v))) (hi : S' i = some vi) (hf : S' f = some vf) (ho : ∀ x, x ≠ i → x ≠ f → x ≠ t → S' x = S x) (hb : σ'[f]? = some (some bf)) (hti : i ≠ t) (htf : f ≠ t) (hl : σ'.length = σ.length)
  (H : Mod (FootB tb ab lv fv σ) w w2 ∧ ∀ x, FootB tb ab lv fv (σ'.set t (some b2)) x → FootB tb ab lv fv σ x ∨ w.heap.size ≤ x) : JN w tb ab lv fv σ free root deg room many S i f t bf vi vf v w2 :=
 ⟨_, _, m2, by rw [StB.set_ne _ _ hti]; exact hi, by rw [StB.set_ne _ _ htf]; exact hf, StB.set_self .., fun x h1 h2 h3 => by rw [StB.set_ne _ _ h3]; exact ho x h1 h2 h3, by rw [List.getElem?_set_ne (Ne.symm htf)]; exact hb, by simpa using hl, H.1, H.2⟩
set_option maxHeartbeats 4000000 in
set_option maxRecDepth 100000 in
theorem joinZ (h : MemB w tb ab lv fv σ free root deg room many S) {i f t k : Nat} {l lf lt : List Sg} {ks kf kt : List Nat} (hi : S i = some (l, ks)) (hf : S f = some (lf, kf)) (ht : S t = some (lt, kt)) (hkt : ks[k]? = some t) (hkf : ks[k + 1]? = some f) (hk : k < l.length)
  (hif : i ≠ f) (hit : i ≠ t) (hft : f ≠ t) (hlf0 : 0 < lf.length) (hz : l.length ≤ 200 ∧ ks.length ≤ 201 ∧ lf.length ≤ 200 ∧ lt.length ≤ 200 ∧ kf.length ≤ 201 ∧ kt.length ≤ 201) :
  Calls Tryz.prog 132 #[.pointer (some ⟨tb, 0, none⟩), .int .i64 i, .int .i64 (k : Int)] w fun e w' => e = .returned (.tuple #[]) ∧ ShJ w tb ab lv fv σ root deg room many S i f t (l.take k ++ l.drop (k + 1), ks.take (k + 1) ++ ks.drop (k + 2)) (lt ++ l[k] :: lf, kt ++ kf) w' := by
 have h00 := hid h
 have e00 := hid (And.intro hi (And.intro hf ht))
 obtain ⟨bi0, hbi0, hni0⟩ := h.live hi
 obtain ⟨bf0, hbf0, hnf0⟩ := h.live hf
 obtain ⟨bt0, hbt0, hnt0⟩ := h.live ht
 obtain ⟨lb, c, rfl⟩ := h.lbS hbi0
 have PI := atM h hbi0
 have HF := hid (fun (W : World) (M : CM w W) => atM (h.mod0 M) hbf0)
 have HT := hid (fun (W : World) (M : CM w W) => atM (h.mod0 M) hbt0)
 obtain ⟨hk1, e1⟩ := List.getElem?_eq_some_iff.1 hkt
 obtain ⟨hk2, e2⟩ := List.getElem?_eq_some_iff.1 hkf
 obtain ⟨gk, hgk, -⟩ := hni0.kidC hk1
 have HN : ∀ (W : World), CM w W → W.cell? ⟨lb, i * 3 + 1, none⟩ = some (.slice (some ⟨gk, 0, none⟩) ks.length bi0.kc) ∧ W.cell? ⟨gk, k, none⟩ = some (.int .i64 (t : Int)) ∧ W.cell? ⟨gk, k + 1, none⟩ = some (.int .i64 (f : Int)) ∧ W.cell? ⟨lb, f * 3, none⟩ = some (.slice bf0.la lf.length bf0.lc) ∧ W.cell? ⟨lb, f * 3 + 1, none⟩ = some (.slice bf0.ka kf.length bf0.kc) := by
  intro W M
  obtain ⟨_, z1, _⟩ := (h.mod0 M).cells hbi0
  have hn' : NodeB W bi0 l ks := hni0.keep fun x k e => Mod.block M k (hni0.lt e) fun h => h
  obtain ⟨g1, hg1, u1⟩ := hn'.kidC hk1
  obtain ⟨g2, hg2, u2⟩ := hn'.kidC hk2
  rw [hgk] at hg1 hg2; cases hg1; cases hg2
  rw [e1] at u1
  rw [e2] at u2
  rw [hgk, hni0.kn] at z1
  obtain ⟨y0, y1, _⟩ := (h.mod0 M).cells hbf0
  rw [hnf0.ln] at y0
  rw [hnf0.kn] at y1
  exact ⟨z1, u1, u2, y0, y1⟩
 have hkI : (k : Int) < ks.length := by omega
 have hkI2 : (k : Int) + 1 < ks.length := by omega
 have hkl : (k : Int) < l.length := by omega
 have hadd : IntKind.i64.wrap ((k : Int) + 1) = (k : Int) + 1 := by rw [IntKind.wrap_i64]; omega
 have hadd2 : IntKind.i64.wrap ((k : Int) + 2) = (k : Int) + 2 := by rw [IntKind.wrap_i64]; omega
 have hk10 : (0 : Int) ≤ (k : Int) + 1 := by omega
 obtain ⟨xk, hxk⟩ : ∃ x, l[k] = x := ⟨_, rfl⟩
 rw [hxk]
 have hxk0 := hid hxk
 replace hz := hid hz
 have hk0 := hid hk
 have hkf0 := hid hkf
 replace hlf0 := hid hlf0
 clear h hi hf ht hni0 hnf0 hnt0 hkf hkt hxk hk1 hk2 e1 e2
 replace HN := hid HN
 have nfs := hid (fun x (hx : FootB tb ab (.slice (some ⟨lb, 0, none⟩) σ.length c) fv σ x) => h00.out.lt hx)
 go_enter Tryz.func132, Tryz.ntmps132
 go_wp2_with fail
 refine PI.mono ?_; rintro e w2 ⟨rfl, hw2⟩; subst hw2
 go_upto_region 1 with fail
 go_cut [7, 8] (fun a b W => a = Value.pointer (some ⟨lb, t * 3, none⟩) ∧ b = Value.pointer (some ⟨w2.heap.size, 0, none⟩) ∧ W.heap[w2.heap.size]? = some (.cells #[.slice bf0.la lf.length bf0.lc, .slice bf0.ka kf.length bf0.kc] 115 (0, 0)) ∧ Mod (fun _ => False) w2 W)
 case first =>
  have HAW := hid (show ∀ W, AW w2 (.cells #[.slice none 0 0, .slice none 0 0] 115) W → CM w2 W from fun W h => h.elim (fun ⟨k, e⟩ => by subst e; exact (Mod.refl _ _).drewN k) fun ⟨k, e⟩ => by subst e; exact ((Mod.refl _ _).alloc _).drewN k)
  have HF2 := hid (fun (W : World) (hW : AW w2 (.cells #[.slice none 0 0, .slice none 0 0] 115) W) => (HF.out W (HAW.out W hW)).mono fun e w'' ⟨h1, h2⟩ => (⟨h1, 0, h2⟩ : e = Ending.returned (.pointer (some ⟨lb, f * 3, none⟩)) ∧ ∃ k, w'' = W.drewN k))
  have HT2 := hid (fun (W : World) (hW : AW w2 (.cells #[.slice none 0 0, .slice none 0 0] 115) W) => (HT.out W (HAW.out W hW)).mono fun e w'' ⟨h1, h2⟩ => (⟨h1, 0, h2⟩ : e = Ending.returned (.pointer (some ⟨lb, t * 3, none⟩)) ∧ ∃ k, w'' = W.drewN k))
  have HN2 := hid (fun (W : World) (hW : AW w2 (.cells #[.slice none 0 0, .slice none 0 0] 115) W) => HN.out W (HAW.out W hW))
  refine al_region 21 23 [] [0, 1, 2, 3, 4, 5, 6, 7, 8, 9, 10, 11, 12, 13, 14, 15, 16, 17, 18, 19, 20, 22] (.cells #[.slice none 0 0, .slice none 0 0] 115) (.pointer (some ⟨w2.heap.size, 0, none⟩)) _ (by kernel_rfl) (by kernel_rfl) (by kernel_rfl) rfl ?_
  intro Q0 hQ0
  iterate 22 (refine wpS_step _ rfl (fun K hK => ?_); go_simp; first | (refine hK _ ?_; clear hK K) | (refine ⟨_, fun _ _ => rfl, hK _ ?_⟩; clear hK K) | (apply Exists.intro; refine ⟨fun wq hq => ?_, hK _ ?_⟩; (focus (first | (go_at_call 114; with_reducible exact HF2.out _ hq) | (go_at_call 114; with_reducible exact HT2.out _ hq) | (obtain ⟨z1, u1, u2, u3, u4⟩ := HN2.out _ hq; go_simp; try with_reducible rfl))); clear hK K))
  refine wpS_nil ⟨⟨rfl, fun k => by go_simp; rfl⟩, fun k' => ?_⟩
  have b0 : ((w2.alloc (.cells #[.slice none 0 0, .slice none 0 0] 115)).drewN k').heap[w2.heap.size]? = some (.cells #[.slice none 0 0, .slice none 0 0] 115 (0, 0)) := alloc_0 w2 _
  have b1 := hid (heap_setCell_same _ w2.heap.size 1 _ 115 (.slice bf0.ka kf.length bf0.kc) (heap_setCell_same _ w2.heap.size 0 _ 115 (.slice bf0.la lf.length bf0.lc) b0))
  have Mz := hid (((((Mod.refl (fun _ => False) w2).alloc (.cells #[.slice none 0 0, .slice none 0 0] 115)).drewN k').setCell (p := ⟨w2.heap.size, 0, none⟩) (.inr (Nat.le_refl _)) (.slice bf0.la lf.length bf0.lc)).setCell (p := ⟨w2.heap.size, 1, none⟩) (.inr (Nat.le_refl _)) (.slice bf0.ka kf.length bf0.kc))
  obtain ⟨d0, e0⟩ := blkc b0
  clear b0
  go_wp2_with fail
  go_meet
  exact ⟨rfl, rfl, by simpa using b1.out, Mz.out⟩
 case rest =>
  obtain ⟨rfl, rfl, hfb, M0⟩ := hcut
  obtain ⟨wb, hwb⟩ : ∃ W, W = wc := ⟨_, rfl⟩
  subst hwb
  have hfb' := hid hfb
  obtain ⟨fb, hfbe⟩ : ∃ x, w2.heap.size = x := ⟨_, rfl⟩
  have nfb : fb < wb.heap.size ∧ ¬ FootB tb ab (.slice (some ⟨lb, 0, none⟩) σ.length c) fv σ fb := by
   rw [← hfbe]; exact ⟨blkl hfb, fun e => by have := nfs.out _ e; omega⟩
  rw [hfbe] at hfb ⊢
  have hsh : JN wb tb ab (.slice (some ⟨lb, 0, none⟩) σ.length c) fv σ free root deg room many S i f t bf0 (l, ks) (lf, kf) (lt, kt) wb := ⟨S, σ, h00.out.mod0 M0, e00.out.1, e00.out.2.1, e00.out.2.2, fun _ _ _ _ => rfl, hbf0, rfl, Mod.refl _ _, fun x hx => .inl hx⟩
  replace hfb := hid hfb
  replace nfb := hid nfb
  replace hfbe := hid hfbe
  replace M0 := hid M0
  clear hfb' PI HF HT HN
  go_upto_region 2 with fail
  go_cut [] (fun W => JN wb tb ab (.slice (some ⟨lb, 0, none⟩) σ.length c) fv σ free root deg room many S i f t bf0 (l, ks) (lf, kf) (lt ++ xk :: lf, kt) W)
  case first =>
   obtain ⟨S1, σ1, m1, e1i, e1f, e1t, e1o, ebf, e1l, M1, F1⟩ := hsh
   have nf1 : ¬ FootB tb ab (.slice (some ⟨lb, 0, none⟩) σ.length c) fv σ1 fb := fun e => (F1 fb e).elim nfb.out.2 fun q => by have := nfb.out.1; omega
   have hnf : NodeB wb bf0 lf kf := by
    obtain ⟨l', ks', q1, q2⟩ := m1.node f bf0 ebf
    rw [e1f] at q1; cases q1; exact q2
   obtain ⟨bt, hbt, hnt⟩ := m1.live e1t
   obtain ⟨qt0, qt1, qt2, qt3⟩ := m1.cells hbt
   have hfb1 := hid (M1.heap hfb.out nfb.out.2)
   obtain ⟨c0, f0⟩ := blkc hfb1.out
   have nbt : ∀ x, (bt.v x).ownBlock ≠ some fb := fun x e => nf1 (.inr (.inr ⟨t, bt, x, hbt, e⟩))
   obtain ⟨bi, hbi, hni, qi0, qi1, qi2, qi3⟩ := m1.nodeF e1i
   obtain ⟨gi, hgi, z0, z1, z2, z3, z4⟩ := hni.segC (j := k) hk0.out
   rw [hxk0.out] at z0 z1 z2 z3 z4
   rw [hgi] at qi0
   clear hni
   obtain ⟨gf, hgf, -⟩ := hnf.segs (A := []) (M := lf) (B := []) (by simp) hlf0.out
   rw [hgf] at c0
   obtain ⟨wa, hwa, ba, Ma⟩ := boxS wb xk
   have Mq := Ma.drew
   have mq := hid (m1.mod0 Mq)
   have hq := hid (show NodeB wa.drew bt lt kt from hnt.keep fun x k e => Mq.block k (hnt.lt e) fun h => h)
   obtain ⟨p0, p1, p2, p3⟩ := m1.hdr hbt false (Mq.mono fun _ h => h.elim) hbt
   obtain ⟨ca0, _⟩ := blkc (Mq.heap hfb1.out fun h => h)
   rw [hgf] at ca0
   have bq := hid ba
   have OWN := hid (show wa.drew.ownsRow 0 38 5 (.slice bt.la bt.ln bt.lc) lt.length (lt.flatMap encS) from hq.out.1)
   have HH := hid (fun (W : World) (q : Mod (fun j => (bt.v false).ownBlock = some j) wa.drew W) => mq.out.hdr hbt false q hbt)
   have HC : ∀ (W : World), Mod (fun j => (bt.v false).ownBlock = some j) wa.drew W → (∀ j, W.cell? ⟨fb, j, none⟩ = #[.slice (some ⟨gf, 0, none⟩) lf.length bf0.lc, .slice bf0.ka kf.length bf0.kc][j]?) ∧ ∀ j u, (lf.flatMap encS)[j]? = some u → W.cell? ((⟨gf, 0, none⟩ : Addr).add j) = some u := by
    intro W q
    obtain ⟨x0, _⟩ := blkc (q.heap (Mq.heap hfb1.out fun h => h) (nbt false))
    rw [hgf] at x0
    have hn' : NodeB W bf0 lf kf := mq.out.other hbt false q ebf (hnf.keep fun x k e => Mq.block k (hnf.lt e) fun h => h) hft
    obtain ⟨g, e, H⟩ := hn'.segs (A := []) (M := lf) (B := []) (by simp) hlf0.out
    rw [hgf] at e; cases e
    exact ⟨x0, by simpa using H⟩
   replace HC := hid HC
   have GG := hid (And.intro m1 (And.intro M1 F1))
   have hbig : (lt.length + 1) * 40 ≤ 140737488355328 := by have := hz.out; omega
   have hbig2 : (lt.length + 1 + lf.length) * 40 ≤ 140737488355328 := by have := hz.out; omega
   have hlfl := hid (flat5_len lf)
   clear ba m1 hnt M1 F1 hnf nf1 nbt
   subst hwa
   refine share2 (fun w13 A13 c13 _ => w13.ownsRow 0 38 5 (.slice A13 (lt.length + 1 + lf.length) c13) (lt.length + 1 + lf.length) (lt.flatMap encS ++ encS xk ++ lf.flatMap encS) ∧ Mod (fun j => (bt.v false).ownBlock = some j) (wb.alloc (.cells #[.int .i64 xk.ls, .int .i64 xk.la, .int .i64 xk.hs, .int .i64 xk.ha, .int .i64 xk.v] 38)).drew w13 ∧ ∀ j, (Value.slice A13 (lt.length + 1 + lf.length) c13).ownBlock = some j → (bt.v false).ownBlock = some j ∨ (wb.alloc (.cells #[.int .i64 xk.ls, .int .i64 xk.la, .int .i64 xk.hs, .int .i64 xk.ha, .int .i64 xk.v] 38)).drew.heap.size ≤ j) ?_
   apply Exists.intro
   refine ⟨fun HW => ?_, ?_⟩
   ·replace HW := hid HW
    go_region_law (first
     | (refine step_app (encS xk) (.slice bt.la bt.ln bt.lc) lt.length (lt.flatMap encS) (.tmp 37) (.tmp 45) 28 38 _ 5 40 rfl rfl Tryz.underlying28 infoSg rfl (by omega) (by omega) rfl OWN.out wb.heap.size bq.out rfl rfl (by simp [encS, Value.oneCell']) hbig ?_
        intro v3 w3 own3 gr3 bl3
        have M3 := Mod.of_grown gr3
        obtain ⟨cc0, PP⟩ := HC.out _ M3
        replace PP := hid PP)
     | (refine step_appS (lf.flatMap encS) v3 (lt.length + 1) (lt.flatMap encS ++ encS xk) ⟨gf, 0, none⟩ lf.length bf0.lc (.tmp 46) (.tmp 48) 28 38 _ 5 40 rfl rfl Tryz.underlying28 infoSg rfl (by omega) (by omega) rfl rfl own3 PP.out hlfl.out (one_segs _) hbig2 ?_
        intro v4 w4 own4 gr4 bl4
        obtain ⟨A13, c13, rfl, -⟩ := own_slice own4
        have M34 := M3.trans (Mod.of_grown gr4) bl3
        obtain ⟨y0, y1, y2, y3⟩ := HH.out _ M34))
    all_goals exact HW.out w4 A13 c13 v3 ⟨own4, M34, fun j hj => (bl4 j hj).elim (bl3 j) fun q => .inr (Nat.le_trans M3.size q)⟩
   rintro w13 A13 c13 v3 ⟨own13, M13, F13⟩
   have NB := hq.out.newL (l' := lt ++ xk :: lf) M13 own13 (by simp) (by simp; omega)
   obtain ⟨m14, X14, F14⟩ := mq.out.setF (x := false) hbt M13 A13 _ c13 (lt ++ xk :: lf) kt NB F13 0 rfl
   simp only [Nat.add_zero] at m14 X14
   obtain ⟨y0, y1, y2, y3⟩ := HH.out _ M13
   go_wp2_with fail
   go_meet
   exact JN.setT m14 e1i e1f e1o ebf hit hft e1l (sh_next GG.out.2.1 GG.out.2.2 Mq X14 F14)
  case rest =>
   replace hsh := hcut
   go_upto_region 3 with fail
   go_cut [] (fun W => JN wb tb ab (.slice (some ⟨lb, 0, none⟩) σ.length c) fv σ free root deg room many S i f t bf0 (l, ks) (lf, kf) (lt ++ xk :: lf, kt ++ kf) W)
   case first =>
    obtain ⟨W1, hW1⟩ : ∃ W, W = wc := ⟨_, rfl⟩
    subst hW1
    obtain ⟨S1, σ1, m1, e1i, e1f, e1t, e1o, ebf, e1l, M1, F1⟩ := hsh
    have nf1 : ¬ FootB tb ab (.slice (some ⟨lb, 0, none⟩) σ.length c) fv σ1 fb := fun e => (F1 fb e).elim nfb.out.2 fun q => by have := nfb.out.1; omega
    have hnf : NodeB W1 bf0 lf kf := by
     obtain ⟨l', ks', q1, q2⟩ := m1.node f bf0 ebf
     rw [e1f] at q1; cases q1; exact q2
    obtain ⟨bt, hbt, hnt⟩ := m1.live e1t
    obtain ⟨qt0, qt1, qt2, qt3⟩ := m1.cells hbt
    have hfb1 := hid (M1.heap hfb.out nfb.out.2)
    obtain ⟨c0, f0⟩ := blkc hfb1.out
    have nbt : ∀ x, (bt.v x).ownBlock ≠ some fb := fun x e => nf1 (.inr (.inr ⟨t, bt, x, hbt, e⟩))
    have Mq := (Mod.refl (fun _ => False) W1).drew
    have mq := hid (m1.mod0 Mq)
    have hq := hid (show NodeB W1.drew bt (lt ++ xk :: lf) kt from hnt.keep fun x k e => Mq.block k (hnt.lt e) fun h => h)
    have OWN := hid (show W1.drew.ownsRow 0 3 1 (.slice bt.ka bt.kn bt.kc) kt.length (numsV kt) from hq.out.2)
    have HH := hid (fun (W : World) (q : Mod (fun j => (bt.v true).ownBlock = some j) W1.drew W) => mq.out.hdr hbt true q hbt)
    have hbig : (kt.length + kf.length) * 8 ≤ 140737488355328 := by have := hz.out; omega
    have GG := hid (And.intro m1 (And.intro M1 F1))
    rcases hnf.2.2 with ⟨hv, hx⟩ | ⟨gk2, cap, cur, hv, _⟩
    ·have hv : Value.slice bf0.ka bf0.kn bf0.kc = .slice none 0 0 := hv
     obtain rfl : kf = [] := List.length_eq_zero_iff.1 hx
     injection hv with hv1 hv2 hv3
     rw [hv1, hv3] at c0
     have hkn := hnt.kn
     have NB := hq.out.newK (ks' := kt) (Mod.refl _ _) (show W1.drew.ownsRow 0 3 1 (.slice bt.ka kt.length bt.kc) kt.length (numsV kt) by have := OWN.out; rw [hkn] at this; exact this) rfl rfl
     obtain ⟨m14, X14, F14⟩ := mq.out.setF (x := true) hbt (Mod.refl _ _) bt.ka kt.length bt.kc (lt ++ xk :: lf) kt NB (fun k e => .inl (by rw [← e, show bt.v true = .slice bt.ka bt.kn bt.kc from rfl]; exact ownB_len ..)) 1 rfl
     obtain ⟨i0, hi0, -⟩ := Option.map_eq_some_iff.1 infoI7
     have hkn0 := hid hkn
     clear m1 hnt M1 F1 hnf nf1 nbt hkn hv1 hv2 hv3
     go_region_law (first
      | (refine step_appN (.slice bt.ka bt.kn bt.kc) kt.length (numsV kt) (.tmp 56) (.tmp 58) 113 3 i0 1 rfl rfl Tryz.underlying113 hi0 rfl rfl OWN.out ?_))
     all_goals
      go_wp2_with fail
      go_meet
      have fin : JN wb tb ab (.slice (some ⟨lb, 0, none⟩) σ.length c) fv σ free root deg room many S i f t bf0 (l, ks) (lf, []) (lt ++ xk :: lf, kt) _ := JN.setT m14 e1i e1f e1o ebf hit hft e1l (sh_next GG.out.2.1 GG.out.2.2 Mq X14 F14)
      rw [hkn0.out, List.append_nil]
      exact fin
    ·have hv : Value.slice bf0.ka bf0.kn bf0.kc = .slice (some ⟨gk2, 0, none⟩) kf.length cap := hv
     injection hv with hv1 hv2 hv3
     rw [hv1] at c0
     have HC : ∀ j u, (numsV kf)[j]? = some u → W1.drew.cell? ((⟨gk2, 0, none⟩ : Addr).add j) = some u := by
      intro j u hu
      have h2 : W1.ownsRow 0 3 1 (.slice (some ⟨gk2, 0, none⟩) bf0.kn bf0.kc) kf.length (numsV kf) := by
       have := hnf.2
       rw [show bf0.v true = .slice bf0.ka bf0.kn bf0.kc from rfl, hv1] at this
       exact this
      rw [hv2] at h2
      exact own_part (XA := []) (XM := numsV kf) (XB := []) h2 (by simp) j u hu
     replace HC := hid HC
     have hnl := hid (show (numsV kf).length = kf.length * 1 by simp [numsV])
     clear m1 hnt M1 F1 hnf nf1 nbt hv1 hv2 hv3
     refine share1 (fun w13 A13 c13 => w13.ownsRow 0 3 1 (.slice A13 (kt.length + kf.length) c13) (kt.length + kf.length) (numsV kt ++ numsV kf) ∧ Mod (fun j => (bt.v true).ownBlock = some j) W1.drew w13 ∧ ∀ j, (Value.slice A13 (kt.length + kf.length) c13).ownBlock = some j → (bt.v true).ownBlock = some j ∨ W1.drew.heap.size ≤ j) ?_
     apply Exists.intro
     refine ⟨fun HW => ?_, ?_⟩
     ·replace HW := hid HW
      go_region_law (first
       | (refine step_appS (numsV kf) (.slice bt.ka bt.kn bt.kc) kt.length (numsV kt) ⟨gk2, 0, none⟩ kf.length bf0.kc (.tmp 56) (.tmp 58) 113 3 _ 1 8 rfl rfl Tryz.underlying113 infoI7 rfl (by omega) (by omega) rfl rfl OWN.out HC.out hnl.out (one_nums _) hbig ?_
          intro v3 w3 own3 gr3 bl3
          obtain ⟨A13, c13, rfl, -⟩ := own_slice own3
          have M13 := Mod.of_grown gr3
          obtain ⟨y0, y1, y2, y3⟩ := HH.out _ M13))
      all_goals exact HW.out w3 A13 c13 ⟨own3, M13, bl3⟩
     rintro w13 A13 c13 ⟨own13, M13, F13⟩
     have NB := hq.out.newK (ks' := kt ++ kf) M13 own13 (by simp [numsV]) (by simp)
     obtain ⟨m14, X14, F14⟩ := mq.out.setF (x := true) hbt M13 A13 _ c13 (lt ++ xk :: lf) (kt ++ kf) NB F13 1 rfl
     obtain ⟨y0, y1, y2, y3⟩ := HH.out _ M13
     go_wp2_with fail
     go_meet
     exact JN.setT m14 e1i e1f e1o ebf hit hft e1l (sh_next GG.out.2.1 GG.out.2.2 Mq X14 F14)
   case rest =>
    replace hsh := hcut
    go_upto_region 4 with fail
    go_cut [] (fun W => ShJ wb tb ab (.slice (some ⟨lb, 0, none⟩) σ.length c) fv σ root deg room many S i f t (l, ks) (lt ++ xk :: lf, kt ++ kf) W)
    case first =>
     obtain ⟨W1, hW1⟩ : ∃ W, W = wc := ⟨_, rfl⟩
     subst hW1
     obtain ⟨S1, σ1, m1, e1i, e1f, e1t, e1o, ebf, e1l, M1, F1⟩ := hsh
     have hk2 : k + 1 < ks.length := by omega
     have e2 : ks[k + 1] = f := by have := hkf0.out; rw [List.getElem?_eq_getElem hk2] at this; injection this
     obtain ⟨bi, hbi, hni, qi0, qi1, qi2, qi3⟩ := m1.nodeF e1i
     obtain ⟨gi, hgi, -⟩ := hni.kidC (j := k + 1) hk2
     have HE : ∀ (W : World), CM W1 W → (∀ j, W.cell? ⟨tb, j, none⟩ = #[.pointer (some ⟨ab, 0, none⟩), .int .i64 root, .int .i64 deg, .int .i64 room, .int .i64 many][j]?) ∧ W.cell? ⟨lb, i * 3 + 1, none⟩ = some (.slice (some ⟨gi, 0, none⟩) ks.length bi.kc) ∧ W.cell? ⟨gi, k + 1, none⟩ = some (.int .i64 (f : Int)) := by
      intro W q
      obtain ⟨g2, hg2, u2⟩ := (hni.keep (w' := W) fun x k e => Mod.block q k (hni.lt e) fun h => h).kidC hk2
      rw [hgi] at hg2; cases hg2
      rw [e2] at u2
      obtain ⟨_, z1, _⟩ := (m1.mod0 q).cells hbi
      rw [hni.kn, hgi] at z1
      exact ⟨(blkc (m1.mod0 q).t).1, z1, u2⟩
     replace HE := hid HE
     have HP := hid (fun (W : World) (q : CM W1 W) => afreeM (m1.mod0 q) ebf)
     have GG := hid (And.intro M1 F1)
     clear m1 hni qi0 qi1 qi2 qi3 M1 F1 e2 hk2
     refine cq_tail 12 (by kernel_rfl) (by kernel_rfl) ?_
     simp only [List.take_succ_cons, List.take_zero, List.drop_succ_cons, List.drop_zero]
     iterate 12 (refine wpQuiet_step (fun K hK => ?_); go_simp; first | (refine hK _ ?_; clear hK K) | (refine ⟨_, fun _ _ => rfl, hK _ ?_⟩; clear hK K) | (apply Exists.intro; refine ⟨fun wq hq => ?_, hK _ ?_⟩; (focus (first  | (obtain ⟨t0, t1, t2⟩ := HE.out _ hq; go_simp; try with_reducible rfl))); clear hK K))
     refine wpQuiet_nil ?_
     intro w4 M4
     have PP := HP.out _ M4
     clear HP HE
     go_wp2_with fail
     refine PP.mono ?_; rintro e w5 ⟨rfl, fv5, m5, X5, F5⟩
     go_wp2_with fail
     go_meet
     have M14 := GG.out.1.trans' (Mod.mono M4 (T := FootB tb ab (.slice (some ⟨lb, 0, none⟩) σ.length c) fv σ) fun _ h => h.elim)
     exact ⟨_, fv5, _, _, m5, by rw [StB.set_ne _ _ hif]; exact e1i, StB.set_self .., by rw [StB.set_ne _ _ (Ne.symm hft)]; exact e1t, fun x h1 h2 h3 => by rw [StB.set_ne _ _ h2]; exact e1o x h1 h2 h3, by simpa using e1l, M14.trans X5 GG.out.2, fun x hx => (F5 x hx).elim (GG.out.2 x) fun q => .inr (Nat.le_trans M14.size q)⟩
    case rest =>
     replace hsh := hcut
     go_upto_region 5 with fail
     go_cut [] (fun W => ShJ wb tb ab (.slice (some ⟨lb, 0, none⟩) σ.length c) fv σ root deg room many S i f t (l.take k ++ l.drop (k + 1), ks) (lt ++ xk :: lf, kt ++ kf) W)
     case first =>
      obtain ⟨W1, hW1⟩ : ∃ W, W = wc := ⟨_, rfl⟩
      subst hW1
      obtain ⟨S1, fv1, σ1, free1, m1, e1i, e1f, e1t, e1o, e1l, M1, F1⟩ := hsh
      obtain ⟨bf, hbf, hnf, qf0, qf1, qf2, qf3⟩ := m1.nodeF e1i
      obtain ⟨gf, hgf, -⟩ := hnf.segC (j := k) hk0.out
      have h0 : W1.ownsRow 0 38 5 (.slice (some ⟨gf, 0, none⟩) l.length bf.lc) l.length (l.flatMap encS) := by
       have := hnf.1
       rw [show bf.v false = .slice bf.la bf.ln bf.lc from rfl, hnf.ln, hgf] at this
       exact this
      have DD := delSg h0 (one_segs _) k hk0.out (by have := hz.out; omega)
      rw [hgf] at qf0
      clear h0
      have HH := hid (fun (W : World) (q : Mod (fun j => (bf.v false).ownBlock = some j) W1 W) => m1.hdr hbf false q hbf)
      have GG := hid (And.intro m1 (And.intro M1 (And.intro F1 hnf)))
      have hgb := hid (show (bf.v false).ownBlock = some gf by rw [show bf.v false = .slice bf.la bf.ln bf.lc from rfl, hgf]; rfl)
      clear m1 hnf M1 F1
      go_wp2_with fail
      refine DD.mono ?_; rintro e w13 ⟨rfl, own13, M13'⟩
      have M13 : Mod (fun j => (bf.v false).ownBlock = some j) W1 w13 := M13'.mono fun j hj => .inl (by rw [hgb.out, hj])
      obtain ⟨y0, y1, y2, y3⟩ := HH.out _ M13
      have NB := GG.out.2.2.2.newL (l' := l.take k ++ l.drop (k + 1)) M13 own13 ((by rw [(flat5_cut l k (by have := hk0.out; omega)).1, (flat5_cut l (k + 1) hk0.out).2]; simp)) ((by have := hk0.out; simp; omega))
      obtain ⟨m14, X14, F14⟩ := GG.out.1.setF (x := false) hbf M13 (some ⟨gf, 0, none⟩) _ bf.lc (l.take k ++ l.drop (k + 1)) (ks) NB (fun k e => .inl (by rw [hgb.out]; exact e)) 0 rfl
      try simp only [Nat.add_zero] at m14 X14
      have fin := hid (ShJ.setI (S := S) (vt := (lt ++ xk :: lf, kt ++ kf)) m14 e1f e1t e1o (Ne.symm hif) (Ne.symm hit) (by simp [e1l]) (shj_next GG.out.2.1 GG.out.2.2.1 (Mod.refl _ _) X14 F14))
      go_wp2_with fail
      go_meet
      exact fin.out
     case rest =>
      replace hsh := hcut
      obtain ⟨W1, hW1⟩ : ∃ W, W = wc := ⟨_, rfl⟩
      subst hW1
      obtain ⟨S1, fv1, σ1, free1, m1, e1i, e1f, e1t, e1o, e1l, M1, F1⟩ := hsh
      obtain ⟨bf, hbf, hnf, qf0, qf1, qf2, qf3⟩ := m1.nodeF e1i
      have hk2 : k + 1 < ks.length := by omega
      obtain ⟨gf, hgf, -⟩ := hnf.kidC (j := k + 1) hk2
      have h0 : W1.ownsRow 0 3 1 (.slice (some ⟨gf, 0, none⟩) ks.length bf.kc) ks.length (numsV ks) := by
       have := hnf.2
       rw [show bf.v true = .slice bf.ka bf.kn bf.kc from rfl, hnf.kn, hgf] at this
       exact this
      have DD := delIt h0 (one_nums _) (k + 1) hk2 (by have := hz.out; omega)
      rw [show (((k + 1 : Nat) : Int)) + 1 = (k : Int) + 2 by omega, show (((k + 1 : Nat) : Int)) = (k : Int) + 1 by omega] at DD
      rw [hgf] at qf1
      clear h0
      have HH := hid (fun (W : World) (q : Mod (fun j => (bf.v true).ownBlock = some j) W1 W) => m1.hdr hbf true q hbf)
      have GG := hid (And.intro m1 (And.intro M1 (And.intro F1 hnf)))
      have hgb := hid (show (bf.v true).ownBlock = some gf by rw [show bf.v true = .slice bf.ka bf.kn bf.kc from rfl, hgf]; rfl)
      clear m1 hnf M1 F1
      go_wp2_with fail
      refine DD.mono ?_; rintro e w13 ⟨rfl, own13, M13'⟩
      have M13 : Mod (fun j => (bf.v true).ownBlock = some j) W1 w13 := M13'.mono fun j hj => .inl (by rw [hgb.out, hj])
      obtain ⟨y0, y1, y2, y3⟩ := HH.out _ M13
      have NB := GG.out.2.2.2.newK (ks' := ks.take (k + 1) ++ ks.drop (k + 2)) M13 own13 ((by simp [numsV])) ((by have := hk2; simp; omega))
      obtain ⟨m14, X14, F14⟩ := GG.out.1.setF (x := true) hbf M13 (some ⟨gf, 0, none⟩) _ bf.kc ((l.take k ++ l.drop (k + 1))) (ks.take (k + 1) ++ ks.drop (k + 2)) NB (fun k e => .inl (by rw [hgb.out]; exact e)) 1 rfl
      try simp only [Nat.add_zero] at m14 X14
      have fin := hid (ShJ.setI (S := S) (vt := (lt ++ xk :: lf, kt ++ kf)) m14 e1f e1t e1o (Ne.symm hif) (Ne.symm hit) (by simp [e1l]) (shj_next GG.out.2.1 GG.out.2.2.1 (Mod.refl _ _) X14 F14))
      go_wp2_with fail
      go_end0
      have fo := fin.out
      obtain ⟨S', fv', σ', free', q1, q2, q3, q4, q5, q6, q7, q8⟩ := fo
      have M0' := M0.out
      refine ⟨rfl, S', fv', σ', free', q1, q2, q3, q4, q5, q6, (M0'.mono fun _ h => h.elim).trans' q7, fun x hx => (q8 x hx).imp id fun q => Nat.le_trans M0'.size q⟩
end
open Go Go.RowKit
theorem Sub.pair {d : Nat} {S : StB'} {g lo i k : Nat} {L l : List Sg} {ks F : List Nat} (hs : Sub d S (g + 1) lo i L F) (hi : S i = some (l, ks)) (hnd : F.Nodup) (hk : k < l.length) :
  ∃ (f t : Nat) (la lb : List Sg) (ka kb : List Nat), ks[k]? = some f ∧ ks[k + 1]? = some t ∧ i ≠ f ∧ i ≠ t ∧ f ≠ t ∧ S f = some (la, ka) ∧ S t = some (lb, kb) ∧ d - 1 ≤ la.length ∧ la.length ≤ 2 * d - 1 ∧ d - 1 ≤ lb.length ∧ lb.length ≤ 2 * d - 1 ∧ (g = 0 → ka = [] ∧ kb = []) ∧ (0 < g → ka.length = la.length + 1 ∧ kb.length = lb.length + 1) := by
 obtain ⟨C1, a, b, C2, q1, q2, q3, q4, q5, q6, q7, q8, q9, q10, q11⟩ := hs.two hi k hk
 obtain ⟨la, ka, ha, _⟩ := q5.node
 obtain ⟨lb, kb, hb, _⟩ := q6.node
 obtain ⟨a1, a2, a3, a4⟩ := q5.lens ha
 obtain ⟨b1, b2, b3, b4⟩ := q6.lens hb
 have nd := hnd
 rw [q9] at nd
 have nd0 := List.nodup_cons.1 nd
 have k1 := List.nodup_append.1 nd0.2
 have k2 := List.nodup_append.1 k1.2.1
 refine ⟨a.i, b.i, la, lb, ka, kb, ?_, ?_, fun e => nd0.1 (by rw [e]; simp [q5.mem]), fun e => nd0.1 (by rw [e]; simp [q6.mem]), fun e => k2.2.2 a.i q5.mem a.i (by rw [e]; simp [q6.mem]) rfl, ha, hb, a1, a2, b1, b2, fun h => ⟨a3 h, b3 h⟩, fun h => ⟨a4 h, b4 h⟩⟩
 ·rw [q1, List.getElem?_append_right (by simp; omega)]; simp [q2]
 ·rw [q1, List.getElem?_append_right (by simp; omega)]; simp [q2]
section
variable {w w' : World} {tb ab : Nat} {lv fv : Value} {σ : List (Option Bn)} {free : List Int} {root room many : Int} {S : StB} {d : Nat}
def FatQ (w : World) (tb ab : Nat) (lv fv : Value) (σ : List (Option Bn)) (root room many : Int) (S : StB) (d g lo i k : Nat) (L l : List Sg) (F : List Nat) (k' : Nat) (w' : World) : Prop :=
 ∃ (S' : StB) (fv' : Value) (σ' : List (Option Bn)) (free' : List Int) (F' : List Nat) (l' : List Sg) (ks' : List Nat) (kt : Nat) (lt : List Sg) (kk : List Nat), MemB w' tb ab lv fv' σ' free' root (d : Int) room many S' ∧ S' i = some (l', ks') ∧ Sub d S' (g + 1) lo i L F' ∧ Chg S S' F F' ∧
  ks'[k']? = some kt ∧ S' kt = some (lt, kk) ∧ d ≤ lt.length ∧ SameP l k l' k' ∧ Mod (FootB tb ab lv fv σ) w w' ∧ ∀ x, FootB tb ab lv fv' σ' x → FootB tb ab lv fv σ x ∨ w.heap.size ≤ x
theorem fat_left (h : MemB w tb ab lv fv σ free root (d : Int) room many S) (hd : 2 ≤ d ∧ d ≤ 64) {g lo i k : Nat} {L l : List Sg} {ks F : List Nat} (hs : Sub d S (g + 1) lo i L F) (hr : Srt L) (hi : S i = some (l, ks)) (hnd : F.Nodup) (hk : k < l.length)
  {f t : Nat} {la lb : List Sg} {ka kb : List Nat} (hf0 : ks[k]? = some f) (ht0 : ks[k + 1]? = some t) (hf : S f = some (la, ka)) (ht : S t = some (lb, kb)) (hla : d ≤ la.length) (hlb : lb.length < d) :
  Calls Tryz.prog 142 #[.pointer (some ⟨tb, 0, none⟩), .int .i64 i, .int .i64 ((k : Int) + 1), .bool true] w fun e w' => e = .returned (.tuple #[]) ∧ FatQ w tb ab lv fv σ root room many S d g lo i (k + 1) L l F (k + 1) w' := by
 obtain ⟨f', t', la', lb', ka', kb', p1, p2, p3, p4, p5, p6, p7, p8, p9, p10, p11, p12, p13⟩ := hs.pair hi hnd hk
 rw [hf0] at p1; cases p1
 rw [ht0] at p2; cases p2
 rw [hf] at p6; cases p6
 rw [ht] at p7; cases p7
 obtain ⟨i1, i2, i3, i4⟩ := hs.lens hi
 have i5 := i4 (by omega)
 obtain ⟨l0, y, rfl⟩ : ∃ l0 y, la = l0 ++ [y] := by
  rcases List.eq_nil_or_concat la with rfl | ⟨l0, y, rfl⟩
  ·simp at hla; omega
  ·exact ⟨l0, y, by simp⟩
 simp only [List.length_append, List.length_cons, List.length_nil] at hla p9
 obtain ⟨k0, kq, rfl, e0, e1⟩ : ∃ k0 kq, ka = k0 ++ kq ∧ (g = 0 → k0 = [] ∧ kq = []) ∧ (0 < g → kq.length = 1 ∧ k0.length = l0.length + 1) := by
  refine ⟨ka.take (l0.length + 1), ka.drop (l0.length + 1), (List.take_append_drop _ _).symm, fun h => ?_, fun h => ?_⟩
  ·rw [(p12 h).1]; simp
  ·have := (p13 h).1
   simp at this
   exact ⟨by simp; omega, by simp; omega⟩
 refine (shiftLZ h hi hf ht hf0 ht0 hk p3 p4 p5 ⟨by omega, by omega, by omega, by omega⟩ ?_).mono ?_
 ·by_cases hg : g = 0
  ·exact .inl ⟨(e0 hg).1, (e0 hg).2, (p12 hg).2⟩
  ·have hg : 0 < g := by omega
   obtain ⟨q, hq⟩ : ∃ q, kq = [q] := by
    match kq, (e1 hg).1 with
    | [q], _ => exact ⟨q, rfl⟩
   exact .inr ⟨q, hq, (e1 hg).2, by have := (p13 hg).2; omega⟩
 ·rintro e w' ⟨rfl, S', σ', m', s1, s2, s3, s4, _, M', F'⟩
  obtain ⟨F2, r1, r2, r3⟩ := hs.moveR (S' := S') hi hnd hk hf0 ht0 hf ht (fun h => (e0 h).2) (fun h => (e1 h).1) (by omega) (by omega) (by omega) s1 s2 s3 s4
  exact ⟨rfl, S', fv, σ', free, F2, _, ks, t, _, _, m', s1, r1, r2, ht0, s3, by simp; omega, SameP.left (hr.sublist (hs.row hi)) hk (r3 hr), M', F'⟩
theorem fat_right (h : MemB w tb ab lv fv σ free root (d : Int) room many S) (hd : 2 ≤ d ∧ d ≤ 64) {g lo i k : Nat} {L l : List Sg} {ks F : List Nat} (hs : Sub d S (g + 1) lo i L F) (hr : Srt L) (hi : S i = some (l, ks)) (hnd : F.Nodup) (hk : k < l.length)
  {f t : Nat} {la lb : List Sg} {ka kb : List Nat} (hf0 : ks[k]? = some f) (ht0 : ks[k + 1]? = some t) (hf : S f = some (la, ka)) (ht : S t = some (lb, kb)) (hla : la.length < d) (hlb : d ≤ lb.length) :
  Calls Tryz.prog 142 #[.pointer (some ⟨tb, 0, none⟩), .int .i64 i, .int .i64 (k : Int), .bool false] w fun e w' => e = .returned (.tuple #[]) ∧ FatQ w tb ab lv fv σ root room many S d g lo i k L l F k w' := by
 obtain ⟨f', t', la', lb', ka', kb', p1, p2, p3, p4, p5, p6, p7, p8, p9, p10, p11, p12, p13⟩ := hs.pair hi hnd hk
 rw [hf0] at p1; cases p1
 rw [ht0] at p2; cases p2
 rw [hf] at p6; cases p6
 rw [ht] at p7; cases p7
 obtain ⟨i1, i2, i3, i4⟩ := hs.lens hi
 have i5 := i4 (by omega)
 cases lb with
 | nil => simp at hlb; omega
 | cons y l0 =>
  simp only [List.length_cons] at hlb p11
  obtain ⟨kq, k0, rfl, e0, e1⟩ : ∃ kq k0, kb = kq ++ k0 ∧ (g = 0 → k0 = [] ∧ kq = []) ∧ (0 < g → kq.length = 1 ∧ k0.length ≤ 201) := by
   refine ⟨kb.take 1, kb.drop 1, (List.take_append_drop _ _).symm, fun h => ?_, fun h => ?_⟩
   ·rw [(p12 h).2]; simp
   ·have := (p13 h).2
    simp at this
    exact ⟨by simp; omega, by simp; omega⟩
  refine (shiftRZ h hi ht hf hf0 ht0 hk p4 p3 (Ne.symm p5) ⟨by omega, by omega, by omega, by omega⟩ ?_).mono ?_
  ·by_cases hg : g = 0
   ·exact .inl ⟨(e0 hg).1, (e0 hg).2, (p12 hg).1⟩
   ·have hg : 0 < g := by omega
    obtain ⟨q, hq⟩ : ∃ q, kq = [q] := by
     match kq, (e1 hg).1 with
     | [q], _ => exact ⟨q, rfl⟩
    exact .inr ⟨q, hq, (e1 hg).2, by have := (p13 hg).1; omega⟩
  ·rintro e w' ⟨rfl, S', σ', m', s1, s2, s3, s4, _, M', F'⟩
   obtain ⟨F2, r1, r2, r3⟩ := hs.moveL (S' := S') hi hnd hk hf0 ht0 hf ht (fun h => (e0 h).2) (fun h => (e1 h).1) (by omega) (by omega) (by omega) s1 s3 s2 (fun x h1 h2 h3 => s4 x h1 h3 h2)
   exact ⟨rfl, S', fv, σ', free, F2, _, ks, f, _, _, m', s1, r1, r2, hf0, s3, by simp; omega, SameP.right (hr.sublist (hs.row hi)) hk (r3 hr), M', F'⟩
theorem fat_join (h : MemB w tb ab lv fv σ free root (d : Int) room many S) (hd : 2 ≤ d ∧ d ≤ 64) {g lo i k : Nat} {L l : List Sg} {ks F : List Nat} (hs : Sub d S (g + 1) (lo + 1) i L F) (hr : Srt L) (hi : S i = some (l, ks)) (hnd : F.Nodup) (hk : k < l.length)
  {f t : Nat} {la lb : List Sg} {ka kb : List Nat} (hf0 : ks[k]? = some f) (ht0 : ks[k + 1]? = some t) (hf : S f = some (la, ka)) (ht : S t = some (lb, kb)) (hla : la.length < d) (hlb : lb.length < d) :
  Calls Tryz.prog 132 #[.pointer (some ⟨tb, 0, none⟩), .int .i64 i, .int .i64 (k : Int)] w fun e w' => e = .returned (.tuple #[]) ∧ FatQ w tb ab lv fv σ root room many S d g lo i k L l F k w' ∧ FatQ w tb ab lv fv σ root room many S d g lo i (k + 1) L l F k w' := by
 obtain ⟨f', t', la', lb', ka', kb', p1, p2, p3, p4, p5, p6, p7, p8, p9, p10, p11, p12, p13⟩ := hs.pair hi hnd hk
 rw [hf0] at p1; cases p1
 rw [ht0] at p2; cases p2
 rw [hf] at p6; cases p6
 rw [ht] at p7; cases p7
 obtain ⟨i1, i2, i3, i4⟩ := hs.lens hi
 have i5 := i4 (by omega)
 have hkk : ka.length ≤ 201 ∧ kb.length ≤ 201 := by
  by_cases hg : g = 0
  ·rw [(p12 hg).1, (p12 hg).2]; simp
  ·have := p13 (by omega); omega
 refine (joinZ h hi ht hf hf0 ht0 hk p4 p3 (Ne.symm p5) (by omega) ⟨by omega, by omega, by omega, by omega, hkk.2, hkk.1⟩).mono ?_
 rintro e w' ⟨rfl, S', fv', σ', free', m', s1, s2, s3, s4, _, M', F'⟩
 obtain ⟨F2, r1, r2⟩ := (hs.low (Nat.le_succ lo)).joined (S' := S') hi hnd hk hf0 ht0 hf ht i1 (by omega) (by omega) s1 s3 s2 (fun x h1 h2 h3 => s4 x h1 h3 h2)
 have hkx : (ks.take (k + 1) ++ ks.drop (k + 2))[k]? = some f := by
  rw [List.getElem?_append_left (by simp; omega), List.getElem?_take, if_pos (by omega)]; exact hf0
 have hsl := hr.sublist (hs.row hi)
 exact ⟨rfl, ⟨S', fv', σ', free', F2, _, _, f, _, _, m', s1, r1, r2, hkx, s3, by simp; omega, SameP.join hsl hk, M', F'⟩, ⟨S', fv', σ', free', F2, _, _, f, _, _, m', s1, r1, r2, hkx, s3, by simp; omega, SameP.join2 hsl hk, M', F'⟩⟩
end
end Go.Proofs.Bo
