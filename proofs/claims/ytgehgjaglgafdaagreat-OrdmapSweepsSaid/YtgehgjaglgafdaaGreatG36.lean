import Derived.Test.YtgehgjaglgafdaaGreatG35
import Derived.Test.YtgehgjaglgafdaaGreatG28
set_option linter.unusedVariables false
set_option linter.unusedSimpArgs false
namespace Go.Proofs.Bo
open Go Go.RowKit
section
variable {w w' : World} {tb ab : Nat} {lv fv : Value} {σ : List (Option Bn)} {free : List Int} {root room many : Int} {S : StB} {d : Nat}
def DropX (w w0 : World) (tb ab : Nat) (lv fv : Value) (σ : List (Option Bn)) (root room many : Int) (d : Nat) (T : List Sg) (H r0 : Nat) (g : Nat) (i : Value) (W : World) : Prop :=
 ∃ (r : Nat) (cs ca : Int) (S' : StB) (fv' : Value) (σ' : List (Option Bn)) (free' : List Int), i = .int .i64 r ∧ MemB W tb ab lv fv' σ' free' root (d : Int) room many S' ∧ DropAt d S' T H r0 (kx cs ca) g r ∧ fit64 ca ∧ W.heap[w.heap.size]? = some (.cells #[.int .i64 cs, .int .i64 ca] 34 (0, 0)) ∧
  Mod (FootB tb ab lv fv σ) w W ∧ w0.heap.size ≤ W.heap.size ∧ ∀ x, FootB tb ab lv fv' σ' x → FootB tb ab lv fv σ x ∨ w0.heap.size ≤ x
def DropR (w : World) (tb ab : Nat) (lv fv : Value) (σ : List (Option Bn)) (root room many : Int) (d : Nat) (T : List Sg) (H r0 : Nat) (w' : World) : Prop :=
 ∃ (S' : StB) (fv' : Value) (σ' : List (Option Bn)) (free' : List Int) (F' : List Nat), MemB w' tb ab lv fv' σ' free' root (d : Int) room many S' ∧ Sub d S' H 0 r0 T F' ∧ Alls S' F' ∧ Mod (FootB tb ab lv fv σ) w w' ∧ ∀ x, FootB tb ab lv fv' σ' x → FootB tb ab lv fv σ x ∨ w.heap.size ≤ x
theorem Sub.kidRow {S : StB} {g lo lo' i k t : Nat} {L l Lk : List Sg} {ks F Fk : List Nat} (hs : Sub d S (g + 1) lo i L F) (hi : S i = some (l, ks)) (hr : Row L) (hk : k ≤ l.length) (ht : ks[k]? = some t) (hk2 : Sub d S g lo' t Lk Fk) : Row Lk := by
 obtain ⟨C1, a, C2, q1, q2, q3, q4, q5, q6, q7, q8, q9, q10⟩ := hs.one hi k hk
 have e : ks[k]? = some a.i := by rw [q1]; exact (take_mid (by simpa using q2)).2.2
 rw [ht] at e
 obtain rfl : t = a.i := by injection e
 rw [(hk2.det q5).1]
 exact hr.sub (by rw [q7]; exact (List.sublist_append_left _ _).trans (List.sublist_append_right _ _))
attribute [local irreducible] wpQuiet in
set_option maxHeartbeats 4000000 in
set_option maxRecDepth 100000 in
theorem dropZ (h : MemB w tb ab lv fv σ free root (d : Int) room many S) (hd : 2 ≤ d ∧ d ≤ 64) {H r0 : Nat} {L : List Sg} {F0 : List Nat} (hS0 : Sub d S H 1 r0 L F0) (hA0 : Alls S F0) (hr0 : Row L) (cs ca : Int) (hf : fit64 ca) (hk0 : hasK (kx cs ca) L = true) :
  Calls Tryz.prog 120 #[.pointer (some ⟨tb, 0, none⟩), .int .i64 r0, .agg #[.int .i64 cs, .int .i64 ca]] w fun e w' => e = .returned (.tuple #[]) ∧ DropR w tb ab lv fv σ root room many d (delL (kx cs ca) L) H r0 w' := by
 obtain ⟨l0, ks0, hSr0, _⟩ := hS0.node
 obtain ⟨b0, hb0, _⟩ := h.live hSr0
 obtain ⟨lb, c, rfl⟩ := h.lbS hb0
 obtain ⟨w0, hw0, c0, M0⟩ := boxC w cs ca
 obtain ⟨T, hT⟩ : ∃ T, delL (kx cs ca) L = T := ⟨_, rfl⟩
 rw [hT]
 have nfb := hid (fun x (hx : FootB tb ab (.slice (some ⟨lb, 0, none⟩) σ.length c) fv σ x) => h.lt hx)
 have hcb := hid (blkl c0)
 have start := hid (show DropX w w0 tb ab (.slice (some ⟨lb, 0, none⟩) σ.length c) fv σ root room many d T H r0 H (.int .i64 r0) w0 from
  ⟨r0, cs, ca, S, fv, σ, free, rfl, h.mod0 M0, ⟨[], [], L, [], [], F0, 0, hA0.nil, hS0, Hole.root _ _ _ _ _, hr0, hk0, by simpa using hT.symm⟩, hf, c0, M0.mono fun _ h => h.elim, Nat.le_refl _, fun x hx => .inl hx⟩)
 have hsz0 := hid M0.size
 clear h hS0 hA0 hr0 hf hk0 hT hSr0 hb0 c0 M0
 go_enter Tryz.func120, Tryz.ntmps120
 go_wp2_with fail
 go_loopg [1] H (fun g i W => DropX w w0 tb ab (.slice (some ⟨lb, 0, none⟩) σ.length c) fv σ root room many d T H r0 g i W)
 case atStart => exact start.out
 case round =>
  clear start hw0
  obtain ⟨r, cs, ca, S', fv', σ', free', rfl, m, hat, hf, c0, M, hsz, Fo⟩ := hrel
  have hat0 := hid hat
  obtain ⟨A, B, Li, Fl, Fr, F, lo, hAll, hs, hH, hr, hc, hT⟩ := hat
  obtain ⟨l, ks, hSr, hl1, hl2, -⟩ := hs.node
  obtain ⟨b, hb, hn⟩ := m.live hSr
  have hrl : Row l := hr.sub (hs.row hSr)
  have hndF : F.Nodup := (List.nodup_append.1 (List.nodup_append.1 hAll.1).2.1).1
  have PA := atM m hb
  have PP := placeM m hb hn hrl (by omega) cs ca hf
  obtain ⟨cc, fc⟩ := blkc c0
  have ncb : ¬ FootB tb ab (.slice (some ⟨lb, 0, none⟩) σ.length c) fv' σ' w.heap.size := fun e => (Fo _ e).elim (fun q => by have := nfb.out _ q; omega) fun q => by have := hcb.out; omega
  obtain ⟨k, hk⟩ : ∃ k, posL (kx cs ca) l = k := ⟨_, rfl⟩
  have hkl := posL_le (kx cs ca) l
  rw [hk] at PP hkl
  cases hK : hasK (kx cs ca) l
  ·rw [hK] at PP
   cases gk with
   | zero =>
    exfalso
    obtain ⟨_, e, _⟩ := hs.leaf hSr 0
    rw [e, hK] at hc
    cases hc
   | succ g =>
    have hfat := hid (fun (W : World) (q : Mod (fun _ => False) wr W) => (fatZ (m.mod0 q) hd hs hr.1 hSr hndF hkl).mono fun e w' ⟨k', h1, h2⟩ => (⟨k', h1, h2.drop hk hK⟩ : ∃ k' : Nat, e = Ending.returned (.int .i64 (k' : Int)) ∧ DropQ W tb ab (.slice (some ⟨lb, 0, none⟩) σ.length c) fv' σ' root room many S' d g lo r (kx cs ca) Li F k' w'))
    have fin := hid (fun (W : World) (q : Mod (fun _ => False) wr W) (k' : Nat) (W2 : World) (hq : DropQ W tb ab (.slice (some ⟨lb, 0, none⟩) σ.length c) fv' σ' root room many S' d g lo r (kx cs ca) Li F k' W2) => show ∃ (S2 : StB) (fv2 : Value) (σ2 : List (Option Bn)) (free2 : List Int) (l2 : List Sg) (ks2 : List Nat) (kt : Nat), MemB W2 tb ab (.slice (some ⟨lb, 0, none⟩) σ.length c) fv2 σ2 free2 root (d : Int) room many S2 ∧ S2 r = some (l2, ks2) ∧ ks2[k']? = some kt ∧ DropAt d S2 T H r0 (kx cs ca) g kt ∧ ∀ W3, Mod (fun _ => False) W2 W3 → DropX w w0 tb ab (.slice (some ⟨lb, 0, none⟩) σ.length c) fv σ root room many d T H r0 g (.int .i64 (kt : Int)) W3 from by
     obtain ⟨S2, fv2, σ2, free2, F2, l2, ks2, kt, lt, kk, q1, q2, q3, q4, q5, q6, q7, q8, q9, q10, q11⟩ := hq
     obtain ⟨a1, a2⟩ := q4.all hAll (fun x hx => q3.live x hx)
     have D := DropAt.down hd.1 a1 q3 (hH.keep a2) hr hc hT q2 q9 (by rw [q8]; exact q5) q6 q7
     have N2 := (M.trans' (q.mono (T := FootB tb ab (.slice (some ⟨lb, 0, none⟩) σ.length c) fv σ) fun _ h => h.elim)).trans q10 (fun x hx => (Fo x hx).imp id fun h => Nat.le_trans hsz0.out h)
     have hz := Nat.le_trans (Nat.le_trans hsz q.size) q10.size
     exact ⟨S2, fv2, σ2, free2, l2, ks2, kt, q1, q2, q5, D, fun W3 q3' => ⟨kt, cs, ca, S2, fv2, σ2, free2, rfl, q1.mod0 q3', D, hf, (q3'.heap (q10.heap (q.heap c0 fun h => h) ncb) fun h => h), N2.trans' (q3'.mono fun _ h => h.elim), Nat.le_trans hz q3'.size, fun x hx => (q11 x hx).elim (Fo x) fun h => .inr (Nat.le_trans (Nat.le_trans hsz q.size) h)⟩⟩)
    clear hat0 hAll hs hH hr hc hT hSr hl1 hl2 hn m hrl hndF M Fo ncb hf hsz c0
    replace hk := hid hk
    replace hkl := hid hkl
    go_wp2_with fail
    refine PA.mono ?_; rintro e w2 ⟨rfl, hw2⟩; subst hw2
    go_wp2_with fail
    refine PP.mono ?_; rintro e w3 ⟨rfl, M3⟩
    clear PA PP cc fc
    go_wp2_with fail
    refine cq_region (by kernel_rfl) (by kernel_rfl) ?_
    iterate 22 (refine wpQuiet_step (fun K hK => ?_); go_simp; first | (refine hK _ ?_; clear hK K) | (refine ⟨_, fun _ _ => rfl, hK _ ?_⟩; clear hK K) | (apply Exists.intro; refine ⟨fun wq hq => ?_, hK _ ?_⟩; (focus (first  | (skip; go_simp; try with_reducible rfl))); clear hK K))
    refine wpQuiet_nil ?_
    intro w4 M4
    go_wp2_with fail
    refine cq_region (by kernel_rfl) (by kernel_rfl) ?_
    iterate 23 (refine wpQuiet_step (fun K hK => ?_); go_simp; first | (refine hK _ ?_; clear hK K) | (refine ⟨_, fun _ _ => rfl, hK _ ?_⟩; clear hK K) | (apply Exists.intro; refine ⟨fun wq hq => ?_, hK _ ?_⟩; (focus (first  | (skip; go_simp; try with_reducible rfl))); clear hK K))
    refine wpQuiet_nil ?_
    intro w5 M5
    have M35 := (M3.trans' M4).trans' M5
    have PF := hfat.out _ M35
    go_wp2_with fail
    refine PF.mono ?_; rintro e w6 ⟨k', rfl, hq⟩
    obtain ⟨S2, fv2, σ2, free2, l2, ks2, kt, m2, e2, hkt, hD, hX⟩ := fin.out _ M35 _ _ hq
    obtain ⟨b2, hb2, hn2, z0, z1, z2, z3⟩ := m2.nodeF e2
    obtain ⟨ht2, hkt2⟩ := List.getElem?_eq_some_iff.1 hkt
    obtain ⟨gk, hgk, yk⟩ := hn2.kidC ht2
    rw [hkt2] at yk
    rw [hgk] at z1
    have PA2 := atM m2 hb2
    have hX' := hid (hX w6 (Mod.refl _ _))
    have hkI : (k' : Int) < ks2.length := by omega
    clear hq m2 e2 hkt hD hX hn2 ht2 hkt2 hfat fin PF
    go_wp2_with fail
    refine PA2.mono ?_; rintro e w7 ⟨rfl, hw7⟩; subst hw7
    go_wp2_with fail
    go_roundg g
    case measure => omega
    case rel => exact hX'.out
  ·rw [hK] at PP
   obtain ⟨hp, hpe⟩ := (hasK_pos hrl.1).1 hK
   simp only [hk] at hp hpe
   have hkI : (k : Int) < l.length := by omega
   have hadd : IntKind.i64.wrap ((k : Int) + 1) = (k : Int) + 1 := by rw [IntKind.wrap_i64]; omega
   have hk10 : (0 : Int) ≤ (k : Int) + 1 := by omega
   have hll : l.length ≤ 200 := by omega
   cases gk with
   | zero =>
    obtain rfl := (hs.lens hSr).2.2.1 rfl
    have mm := hid m
    have hnn := hid hn
    have fin := hid (fun (S2 : StB) (e1 : S2 r = some (l.take k ++ l.drop (k + 1), [])) (e2 : ∀ x, x ≠ r → S2 x = S' x) => hat0.out.leaf hSr hp hpe e1 e2)
    have HM := hid (And.intro M (And.intro hsz Fo))
    clear hat0 hAll hs hH hr hc hT hSr hl1 hl2 hn m hrl hndF M Fo ncb hf hsz hpe
    replace hk := hid hk
    replace hkl := hid hkl
    replace hp := hid hp
    replace hll := hid hll
    go_wp2_with fail
    refine PA.mono ?_; rintro e w2 ⟨rfl, hw2⟩; subst hw2
    go_wp2_with fail
    refine PP.mono ?_; rintro e w3 ⟨rfl, M3⟩
    have m3 := mm.out.mod0 M3
    have hn3 : NodeB w3 b l [] := hnn.out.keep fun x k e => M3.block k (hnn.out.lt e) fun h => h
    have PL := leafM m3 hb hn3
    rw [show decide (([] : List Nat) = []) = true from rfl] at PL
    obtain ⟨gf, hgf, -⟩ := hn3.segC (j := k) hp.out
    have h0 : w3.ownsRow 0 38 5 (.slice (some ⟨gf, 0, none⟩) l.length b.lc) l.length (l.flatMap encS) := by
     have := hn3.1
     rw [show b.v false = .slice b.la b.ln b.lc from rfl, hn3.ln, hgf] at this
     exact this
    have DD := delSg h0 (one_segs _) k hp.out (by have := hll.out; omega)
    obtain ⟨q0, q1, q2, q3⟩ := m3.cells hb
    rw [hn3.ln, hgf] at q0
    have HH := hid (fun (W : World) (q : Mod (fun j => (b.v false).ownBlock = some j) w3 W) => m3.hdr hb false q hb)
    have G := hid (And.intro m3 hn3)
    have hgb := hid (show (b.v false).ownBlock = some gf by rw [show b.v false = .slice b.la b.ln b.lc from rfl, hgf]; rfl)
    clear h0 m3 hn3 PA PP cc fc
    go_wp2_with fail
    refine PL.mono ?_; rintro e w4 ⟨rfl, hw4⟩; subst hw4
    go_wp2_with fail
    refine DD.mono ?_; rintro e w13 ⟨rfl, own13, M13'⟩
    have M13 : Mod (fun j => (b.v false).ownBlock = some j) w4 w13 := M13'.mono fun j hj => .inl (by rw [hgb.out, hj])
    obtain ⟨y0, y1, y2, y3⟩ := HH.out _ M13
    have NB := G.out.2.newL (l' := l.take k ++ l.drop (k + 1)) M13 own13 (by rw [(flat5_cut l k (by have := hp.out; omega)).1, (flat5_cut l (k + 1) hp.out).2]; simp) (by have := hp.out; simp; omega)
    obtain ⟨m14, X14, F14⟩ := G.out.1.setF (x := false) hb M13 (some ⟨gf, 0, none⟩) _ b.lc (l.take k ++ l.drop (k + 1)) [] NB (fun k e => .inl (by rw [hgb.out]; exact e)) 0 rfl
    simp only [Nat.add_zero] at m14 X14
    obtain ⟨F1, s1, s2⟩ := fin.out _ (StB.set_self ..) (fun x hx => StB.set_ne _ _ hx)
    have N14 := (HM.out.1.trans' (M3.mono (T := FootB tb ab (.slice (some ⟨lb, 0, none⟩) σ.length c) fv σ) fun _ h => h.elim)).trans X14 (fun x hx => (HM.out.2.2 x hx).imp id fun h => Nat.le_trans hsz0.out h)
    have z1 := Nat.le_trans HM.out.2.1 M3.size
    have fin2 := hid (show DropR w tb ab (.slice (some ⟨lb, 0, none⟩) σ.length c) fv σ root room many d T H r0 _ from ⟨_, fv', _, free', F1, m14, s1, s2, N14, fun x hx => (F14 x hx).elim (fun q => (HM.out.2.2 x q).imp id fun h => Nat.le_trans hsz0.out h) fun q => .inr (Nat.le_trans hsz0.out (Nat.le_trans z1 q))⟩)
    clear m14 X14 F14 s1 s2 N14 z1
    go_wp2_with fail
    (try simp only [Exit.inBlock, Exit.then])
    refine bodyPost_ret (results_none rfl _ _ _) rfl ?_
    exact ⟨rfl, fin2.out⟩
   | succ g =>
    obtain ⟨t1, t2, lt1, lt2, kk1, kk2, p1, p2, p3, p4, p5, p6, p7, p8, p9, p10, p11, p12, p13⟩ := hs.pair hSr hndF hp
    obtain ⟨b1, hb1, hn1⟩ := m.live p6
    obtain ⟨b2, hb2, hn2⟩ := m.live p7
    have hks := (hs.lens hSr).2.2.2 (by omega)
    have hkI1 : (k : Int) < ks.length := by omega
    have hkI2 : (k : Int) + 1 < ks.length := by omega
    obtain ⟨u1, u1'⟩ := List.getElem?_eq_some_iff.1 p1
    obtain ⟨u2, u2'⟩ := List.getElem?_eq_some_iff.1 p2
    obtain ⟨gk, hgk, -⟩ := hn.kidC u1
    obtain ⟨gl, hgl, -⟩ := hn.segC hp
    have HB : ∀ (W : World), CM wr W → (∀ j, W.cell? ⟨tb, j, none⟩ = #[.pointer (some ⟨ab, 0, none⟩), .int .i64 root, .int .i64 (d : Int), .int .i64 room, .int .i64 many][j]?) ∧ W.cell? ⟨lb, r * 3 + 1, none⟩ = some (.slice (some ⟨gk, 0, none⟩) ks.length b.kc) ∧ W.cell? ⟨gk, k, none⟩ = some (.int .i64 (t1 : Int)) ∧ W.cell? ⟨gk, k + 1, none⟩ = some (.int .i64 (t2 : Int)) ∧
      W.cell? ⟨lb, t1 * 3, none⟩ = some (.slice b1.la lt1.length b1.lc) ∧ W.cell? ⟨lb, t2 * 3, none⟩ = some (.slice b2.la lt2.length b2.lc) ∧ W.cell? ⟨lb, r * 3, none⟩ = some (.slice (some ⟨gl, 0, none⟩) l.length b.lc) := by
     intro W q
     obtain ⟨z0, z1, _⟩ := (m.mod0 q).cells hb
     have hn' : NodeB W b l ks := hn.keep fun x k e => Mod.block q k (hn.lt e) fun h => h
     obtain ⟨g1, hg1, v1⟩ := hn'.kidC u1
     obtain ⟨g2, hg2, v2⟩ := hn'.kidC u2
     rw [hgk] at hg1 hg2; cases hg1; cases hg2
     rw [u1'] at v1
     rw [u2'] at v2
     rw [hgk, hn.kn] at z1
     rw [hgl, hn.ln] at z0
     obtain ⟨y1, _⟩ := (m.mod0 q).cells hb1
     obtain ⟨y2, _⟩ := (m.mod0 q).cells hb2
     rw [hn1.ln] at y1
     rw [hn2.ln] at y2
     exact ⟨(blkc (m.mod0 q).t).1, z1, v1, v2, y1, y2, z0⟩
    replace HB := hid HB
    have HA1 := hid (fun (W : World) (q : CM wr W) => (atM (m.mod0 q) hb1).mono fun e w'' ⟨h1, h2⟩ => (⟨h1, by rw [h2]; exact q⟩ : e = Ending.returned (.pointer (some ⟨lb, t1 * 3, none⟩)) ∧ CM wr w''))
    have HA2 := hid (fun (W : World) (q : CM wr W) => (atM (m.mod0 q) hb2).mono fun e w'' ⟨h1, h2⟩ => (⟨h1, by rw [h2]; exact q⟩ : e = Ending.returned (.pointer (some ⟨lb, t2 * 3, none⟩)) ∧ CM wr w''))
    have HL := hid (fun (W : World) (q : CM wr W) => leafM (m.mod0 q) hb (hn.keep (w' := W) fun x k e => Mod.block q k (hn.lt e) fun h => h))
    rw [show decide (ks = []) = false from decide_eq_false (by intro e; rw [e] at hks; simp at hks)] at HL
    have put : ∀ (W : World) (s : Sg), Mod (fun _ => False) wr W → (∀ j, j < 5 → (∃ u, W.cell? ⟨gl, k * 5 + j, none⟩ = some u) ∧ W.frozen? ⟨gl, k * 5 + j, none⟩ = false) ∧ MemB (((((W.setCell ⟨gl, k * 5, none⟩ (.int .i64 s.ls)).setCell ⟨gl, k * 5 + 1, none⟩ (.int .i64 s.la)).setCell ⟨gl, k * 5 + 2, none⟩ (.int .i64 s.hs)).setCell ⟨gl, k * 5 + 3, none⟩ (.int .i64 s.ha)).setCell ⟨gl, k * 5 + 4, none⟩ (.int .i64 s.v)) tb ab (.slice (some ⟨lb, 0, none⟩) σ.length c) fv' σ' free' root (d : Int) room many (S'.set r (some (l.set k s, ks))) ∧
      Mod (FootB tb ab (.slice (some ⟨lb, 0, none⟩) σ.length c) fv' σ') W (((((W.setCell ⟨gl, k * 5, none⟩ (.int .i64 s.ls)).setCell ⟨gl, k * 5 + 1, none⟩ (.int .i64 s.la)).setCell ⟨gl, k * 5 + 2, none⟩ (.int .i64 s.hs)).setCell ⟨gl, k * 5 + 3, none⟩ (.int .i64 s.ha)).setCell ⟨gl, k * 5 + 4, none⟩ (.int .i64 s.v)) := by
     intro W s q
     have hn' : NodeB W b l ks := hn.keep fun x k e => q.block k (hn.lt e) fun h => h
     obtain ⟨z1, z2⟩ := hn'.put5 hp s hgl
     exact ⟨hn'.segF hp hgl, (m.mod0 q).inRow hb z2 z1⟩
    replace put := hid put
    have hpred : d ≤ lt1.length → ∃ (Lk : List Sg) (Fk : List Nat) (s : Sg), Sub d S' g d t1 Lk Fk ∧ endS false Lk = some s ∧ fit64 s.la ∧ DropAt d (S'.set r (some (l.set k s, ks))) T H r0 (ky s) g t1 := by
     intro h1
     obtain ⟨Lk, Fk, hLk, _⟩ := DropAt.pred hd.1 hAll hs hH hr hT hSr hp hpe l[k] (StB.set_self S' r _) (fun x hx => StB.set_ne S' _ hx) p1 p6 h1
     have hrk := hs.kidRow hSr hr hkl p1 hLk
     obtain ⟨s, hes⟩ : ∃ s, endS false Lk = some s := by
      cases he : endS false Lk with
      | some s => exact ⟨s, rfl⟩
      | none =>
       simp only [endS, Bool.false_eq_true, if_false, List.getLast?_eq_none_iff] at he
       exact absurd he (hLk.ne (by omega) hd.1)
     obtain ⟨Lk2, Fk2, hLk2, hD⟩ := DropAt.pred hd.1 hAll hs hH hr hT hSr hp hpe s (StB.set_self S' r _) (fun x hx => StB.set_ne S' _ hx) p1 p6 h1
     obtain ⟨rfl, rfl⟩ := hLk.det hLk2
     have hmem : s ∈ Lk := by simp only [endS, Bool.false_eq_true, if_false] at hes; exact List.mem_of_getLast? hes
     exact ⟨Lk, Fk, s, hLk, hes, (hrk.2 s hmem).2, hD hes⟩
    have hsucc : d ≤ lt2.length → ∃ (Lk : List Sg) (Fk : List Nat) (s : Sg), Sub d S' g d t2 Lk Fk ∧ endS true Lk = some s ∧ fit64 s.la ∧ DropAt d (S'.set r (some (l.set k s, ks))) T H r0 (ky s) g t2 := by
     intro h1
     obtain ⟨Lk, Fk, hLk, _⟩ := DropAt.succ hd.1 hAll hs hH hr hT hSr hp hpe l[k] (StB.set_self S' r _) (fun x hx => StB.set_ne S' _ hx) p2 p7 h1
     have hrk := hs.kidRow hSr hr hp p2 hLk
     obtain ⟨s, hes⟩ : ∃ s, endS true Lk = some s := by
      cases he : endS true Lk with
      | some s => exact ⟨s, rfl⟩
      | none =>
       simp only [endS, if_true, List.head?_eq_none_iff] at he
       exact absurd he (hLk.ne (by omega) hd.1)
     obtain ⟨Lk2, Fk2, hLk2, hD⟩ := DropAt.succ hd.1 hAll hs hH hr hT hSr hp hpe s (StB.set_self S' r _) (fun x hx => StB.set_ne S' _ hx) p2 p7 h1
     obtain ⟨rfl, rfl⟩ := hLk.det hLk2
     have hmem : s ∈ Lk := by simp only [endS, if_true] at hes; exact List.mem_of_head? hes
     exact ⟨Lk, Fk, s, hLk, hes, (hrk.2 s hmem).2, hD hes⟩
    have hjoin : ¬ d ≤ lt1.length → ¬ d ≤ lt2.length → ∀ W, Mod (fun _ => False) wr W → Calls Tryz.prog 132 #[.pointer (some ⟨tb, 0, none⟩), .int .i64 r, .int .i64 (k : Int)] W fun e w' => e = .returned (.tuple #[]) ∧ DropQ W tb ab (.slice (some ⟨lb, 0, none⟩) σ.length c) fv' σ' root room many S' d g lo r (kx cs ca) Li F k w' := fun h1 h2 W q =>
     drop_join (m.mod0 q) hd hs hr.1 hSr hndF hp hk hpe p1 p2 p6 p7 (by omega) (by omega)
    replace hjoin := hid hjoin
    have fin := hid (fun (W : World) (q : Mod (fun _ => False) wr W) (k' : Nat) (W2 : World) (hq : DropQ W tb ab (.slice (some ⟨lb, 0, none⟩) σ.length c) fv' σ' root room many S' d g lo r (kx cs ca) Li F k' W2) => show ∃ (S2 : StB) (fv2 : Value) (σ2 : List (Option Bn)) (free2 : List Int) (l2 : List Sg) (ks2 : List Nat) (kt : Nat), MemB W2 tb ab (.slice (some ⟨lb, 0, none⟩) σ.length c) fv2 σ2 free2 root (d : Int) room many S2 ∧ S2 r = some (l2, ks2) ∧ ks2[k']? = some kt ∧ DropAt d S2 T H r0 (kx cs ca) g kt ∧ ∀ W3, Mod (fun _ => False) W2 W3 → DropX w w0 tb ab (.slice (some ⟨lb, 0, none⟩) σ.length c) fv σ root room many d T H r0 g (.int .i64 (kt : Int)) W3 from by
     obtain ⟨S2, fv2, σ2, free2, F2, l2, ks2, kt, lt, kk, q1, q2, q3, q4, q5, q6, q7, q8, q9, q10, q11⟩ := hq
     obtain ⟨a1, a2⟩ := q4.all hAll (fun x hx => q3.live x hx)
     have D := DropAt.down hd.1 a1 q3 (hH.keep a2) hr hc hT q2 q9 (by rw [q8]; exact q5) q6 q7
     have N2 := (M.trans' (q.mono (T := FootB tb ab (.slice (some ⟨lb, 0, none⟩) σ.length c) fv σ) fun _ h => h.elim)).trans q10 (fun x hx => (Fo x hx).imp id fun h => Nat.le_trans hsz0.out h)
     have hz := Nat.le_trans (Nat.le_trans hsz q.size) q10.size
     exact ⟨S2, fv2, σ2, free2, l2, ks2, kt, q1, q2, q5, D, fun W3 q3' => ⟨kt, cs, ca, S2, fv2, σ2, free2, rfl, q1.mod0 q3', D, hf, (q3'.heap (q10.heap (q.heap c0 fun h => h) ncb) fun h => h), N2.trans' (q3'.mono fun _ h => h.elim), Nat.le_trans hz q3'.size, fun x hx => (q11 x hx).elim (Fo x) fun h => .inr (Nat.le_trans (Nat.le_trans hsz q.size) h)⟩⟩)
    replace hpred := hid hpred
    replace hsucc := hid hsucc
    have mm := hid m
    have HM := hid (And.intro M (And.intro hsz Fo))
    have c0h := hid c0
    have ncb0 := hid ncb
    have hgk0 := hid hgk
    have u1h := hid (show ∃ h : k < ks.length, ks[k] = t1 from ⟨u1, u1'⟩)
    have u2h := hid (show ∃ h : k + 1 < ks.length, ks[k + 1] = t2 from ⟨u2, u2'⟩)
    have HAa := hid (fun (W : World) (q : CM wr W) => atM (m.mod0 q) hb1)
    have HAb := hid (fun (W : World) (q : CM wr W) => atM (m.mod0 q) hb2)
    clear hat0 hAll hs hH hr hc hT hSr hl1 hl2 hn m hrl hndF M Fo ncb hf hsz hpe p1 p2 p3 p4 p5 p6 p7 p8 p9 p10 p11 p12 p13 hn1 hn2 hks u1' u2' hgk hgl HA1 HA2 c0
    replace hk := hid hk
    replace hkl := hid hkl
    replace hp := hid hp
    replace hll := hid hll
    go_wp2_with fail
    refine PA.mono ?_; rintro e w2 ⟨rfl, hw2⟩; subst hw2
    go_wp2_with fail
    refine PP.mono ?_; rintro e w3 ⟨rfl, M3⟩
    clear PA PP cc fc
    go_wp2_with fail
    refine (HL.out _ M3).mono ?_; rintro e w4 ⟨rfl, hw4⟩; subst hw4
    clear HL
    have HA1' := hid (fun (W : World) (q : CM w4 W) => (HAa.out W (M3.trans' q)).mono fun e w'' ⟨h1, h2⟩ => (⟨h1, by rw [h2]; exact q⟩ : e = Ending.returned (.pointer (some ⟨lb, t1 * 3, none⟩)) ∧ CM w4 w''))
    go_wp2_with fail
    by_cases h1 : d ≤ lt1.length
    ·have hdd : decide ((lt1.length : Int) ≥ (d : Int)) = true := decide_eq_true (by omega)
     replace h1 := hid h1
     refine cq_region (by kernel_rfl) (by kernel_rfl) ?_
     iterate 22 (refine wpQuiet_step (fun K hK => ?_); go_simp; first | (refine hK _ ?_; clear hK K) | (refine ⟨_, fun _ _ => rfl, hK _ ?_⟩; clear hK K) | (apply Exists.intro; refine ⟨fun wq hq => ?_, hK _ ?_⟩; (focus (first | (go_at_call 114; exact HA1'.out _ hq) | (obtain ⟨z0, z1, z2, z3, z4, z5, z6⟩ := HB.out _ (Mod.trans' M3 hq); go_simp; try with_reducible rfl))); clear hK K))
     refine wpQuiet_nil ?_
     intro w5 M5
     have M35 := M3.trans' M5
     clear HA1' HAa HAb
     obtain ⟨Lk, Fk, s, hLk, hes, hfs, hD⟩ := hpred.out h1.out
     obtain ⟨z0, z1, z2, z3, z4, z5, z6⟩ := HB.out _ M35
     have EP := endZ_last (mm.out.mod0 M35) hd hLk (by omega) hes
     replace hD := hid hD
     replace hfs := hid hfs
     clear hLk hes
     go_wp2_with fail
     refine EP.mono ?_; rintro e w6 ⟨rfl, M6⟩
     obtain ⟨v7, W7, g7, k7, x7, X7, N7⟩ := put5z w6 s
     obtain ⟨dz, ez⟩ := blkc x7
     have M37 := (M35.trans' M6).trans' N7
     clear z0 z1 z2 z3 z4 z5 z6 EP
     dsimp only [encS]
     go_wp2_with fail
     clear dz ez g7 k7 x7
     have HE := hid (fun (W : World) (q : CM W7 W) => And.intro (HB.out W (M37.trans' q)) (blkc (Mod.heap q X7 fun h => h)).1)
     simp only [encS] at HE X7
     refine cq_tail 7 (by kernel_rfl) (by kernel_rfl) ?_
     simp only [List.take_succ_cons, List.take_zero, List.drop_succ_cons, List.drop_zero]
     iterate 7 (refine wpQuiet_step (fun K hK => ?_); go_simp; first | (refine hK _ ?_; clear hK K) | (refine ⟨_, fun _ _ => rfl, hK _ ?_⟩; clear hK K) | (apply Exists.intro; refine ⟨fun wq hq => ?_, hK _ ?_⟩; (focus (first  | (obtain ⟨⟨z0, z1, z2, z3, z4, z5, z6⟩, z7⟩ := HE.out _ hq; go_simp; try with_reducible rfl))); clear hK K))
     refine wpQuiet_nil ?_
     intro w8 M8
     have M38 := M37.trans' M8
     obtain ⟨hfr, m9, X9⟩ := put.out w8 s M38
     obtain ⟨⟨v0, y0⟩, f0⟩ := hfr 0 (by omega)
     obtain ⟨⟨v1, y1⟩, f1⟩ := hfr 1 (by omega)
     obtain ⟨⟨v2, y2⟩, f2⟩ := hfr 2 (by omega)
     obtain ⟨⟨v3, y3⟩, f3⟩ := hfr 3 (by omega)
     obtain ⟨⟨v4, y4⟩, f4⟩ := hfr 4 (by omega)
     simp only [Nat.add_zero] at y0 f0
     have X8 := hid (Mod.heap M8 X7 fun h => h)
     replace m9 := hid m9
     replace X9 := hid X9
     clear hfr HE X7
     go_wp2_with fail
     obtain ⟨w9, hw9⟩ : ∃ w9, (((((w8.setCell ⟨gl, k * 5, none⟩ (.int .i64 s.ls)).setCell ⟨gl, k * 5 + 1, none⟩ (.int .i64 s.la)).setCell ⟨gl, k * 5 + 2, none⟩ (.int .i64 s.hs)).setCell ⟨gl, k * 5 + 3, none⟩ (.int .i64 s.ha)).setCell ⟨gl, k * 5 + 4, none⟩ (.int .i64 s.v)) = w9 := ⟨_, rfl⟩
     rw [hw9] at m9 X9 ⊢
     clear hw9 y0 y1 y2 y3 y4 f0 f1 f2 f3 f4
     have nsb : ¬ FootB tb ab (.slice (some ⟨lb, 0, none⟩) σ.length c) fv' σ' w6.heap.size := fun e => by
      have a := mm.out.lt e; have b := (M35.trans' M6).size; omega
     have hs9 := X9.out.heap X8.out nsb
     have hc9 := X9.out.heap (M38.heap c0h.out fun h => h) ncb0.out
     have n9 : NodeB w9 b (l.set k s) ks := by
      obtain ⟨l', ks', a1, a2⟩ := m9.out.node r b hb
      rw [StB.set_self] at a1; cases a1; exact a2
     have HF := hid (fun (W : World) (q : CM w9 W) => And.intro (blkc (Mod.heap q hs9 fun h => h)).1 (And.intro (blkc (Mod.heap q hc9 fun h => h)) (And.intro (m9.out.mod0 q) (n9.keep (w' := W) fun x k e => Mod.block q k (n9.lt e) fun h => h))))
     have HG : ∀ (W : World), CM w9 W → W.cell? ⟨lb, r * 3 + 1, none⟩ = some (.slice (some ⟨gk, 0, none⟩) ks.length b.kc) ∧ W.cell? ⟨gk, k, none⟩ = some (.int .i64 (t1 : Int)) := by
      intro W q
      obtain ⟨_, _, a1, a2⟩ := HF.out W q
      obtain ⟨_, a3, _⟩ := a1.cells hb
      rw [a2.kn, hgk0.out] at a3
      obtain ⟨g5, hg5, a4⟩ := a2.kidC u1
      rw [hgk0.out] at hg5; cases hg5
      obtain ⟨_, e5⟩ := u1h.out
      rw [e5] at a4
      exact ⟨a3, a4⟩
     replace HG := hid HG
     clear hs9 n9
     refine cq_tail 11 (by kernel_rfl) (by kernel_rfl) ?_
     simp only [List.take_succ_cons, List.take_zero, List.drop_succ_cons, List.drop_zero]
     iterate 11 (refine wpQuiet_step (fun K hK => ?_); go_simp; first | (refine hK _ ?_; clear hK K) | (refine ⟨_, fun _ _ => rfl, hK _ ?_⟩; clear hK K) | (apply Exists.intro; refine ⟨fun wq hq => ?_, hK _ ?_⟩; (focus (first  | (obtain ⟨z0, ⟨z1, z2⟩, -⟩ := HF.out _ hq; obtain ⟨z3, z4⟩ := HG.out _ hq; go_simp; try with_reducible rfl))); clear hK K))
     refine wpQuiet_nil ?_
     intro w10 M10
     obtain ⟨_, ⟨z1, z2⟩, m10, _⟩ := HF.out _ M10
     have c10 := Mod.heap M10 hc9 fun h => h
     have fin10 := hid (show DropX w w0 tb ab (.slice (some ⟨lb, 0, none⟩) σ.length c) fv σ root room many d T H r0 g (.int .i64 (t1 : Int)) ((w10.setCell ⟨w.heap.size, 0, none⟩ (.int .i64 s.ls)).setCell ⟨w.heap.size, 1, none⟩ (.int .i64 s.la)) from by
      have Mc : Mod (fun x => x = w.heap.size) w10 ((w10.setCell ⟨w.heap.size, 0, none⟩ (.int .i64 s.ls)).setCell ⟨w.heap.size, 1, none⟩ (.int .i64 s.la)) := Mod.setCell (S := fun x => x = w.heap.size) (p := ⟨w.heap.size, 1, none⟩) (Mod.setCell (S := fun x => x = w.heap.size) (p := ⟨w.heap.size, 0, none⟩) (Mod.refl _ _) (.inl rfl) _) (.inl rfl) _
      have N := ((HM.out.1.trans' (M38.mono (T := FootB tb ab (.slice (some ⟨lb, 0, none⟩) σ.length c) fv σ) fun _ h => h.elim)).trans X9.out (fun x hx => (HM.out.2.2 x hx).imp id fun h => Nat.le_trans hsz0.out h)).trans' (Mod.mono M10 fun _ h => h.elim)
      refine ⟨_, s.ls, s.la, _, fv', σ', free', rfl, m10.mod Mc (fun x hx e => ncb0.out (e ▸ hx)), hD.out, hfs.out, by simpa using heap_setCell_same _ w.heap.size 1 _ 34 (.int .i64 s.la) (heap_setCell_same w10 w.heap.size 0 _ 34 (.int .i64 s.ls) c10), N.trans Mc (fun x hx => .inr (by rw [show x = w.heap.size from hx]; exact Nat.le_refl _)), ?_, HM.out.2.2⟩
      exact Nat.le_trans HM.out.2.1 (Nat.le_trans M38.size (Nat.le_trans X9.out.size (Nat.le_trans (Mod.size M10) Mc.size))))
     clear m10 c10 hc9
     go_wp2_with fail
     go_roundg g
     case measure => omega
     case rel => exact fin10.out
    ·have hdd : decide ((lt1.length : Int) ≥ (d : Int)) = false := decide_eq_false (by omega)
     replace h1 := hid h1
     refine cq_region (by kernel_rfl) (by kernel_rfl) ?_
     iterate 22 (refine wpQuiet_step (fun K hK => ?_); go_simp; first | (refine hK _ ?_; clear hK K) | (refine ⟨_, fun _ _ => rfl, hK _ ?_⟩; clear hK K) | (apply Exists.intro; refine ⟨fun wq hq => ?_, hK _ ?_⟩; (focus (first | (go_at_call 114; exact HA1'.out _ hq) | (obtain ⟨z0, z1, z2, z3, z4, z5, z6⟩ := HB.out _ (Mod.trans' M3 hq); go_simp; try with_reducible rfl))); clear hK K))
     refine wpQuiet_nil ?_
     intro w4' M4'
     have M34 := M3.trans' M4'
     have HA2' := hid (fun (W : World) (q : CM w4' W) => (HAb.out W (M34.trans' q)).mono fun e w'' ⟨h1, h2⟩ => (⟨h1, by rw [h2]; exact q⟩ : e = Ending.returned (.pointer (some ⟨lb, t2 * 3, none⟩)) ∧ CM w4' w''))
     clear HA1' HAa HAb
     go_wp2_with fail
     by_cases h2 : d ≤ lt2.length
     ·have hdd2 : decide ((lt2.length : Int) ≥ (d : Int)) = true := decide_eq_true (by omega)
      replace h2 := hid h2
      refine cq_region (by kernel_rfl) (by kernel_rfl) ?_
      iterate 23 (refine wpQuiet_step (fun K hK => ?_); go_simp; first | (refine hK _ ?_; clear hK K) | (refine ⟨_, fun _ _ => rfl, hK _ ?_⟩; clear hK K) | (apply Exists.intro; refine ⟨fun wq hq => ?_, hK _ ?_⟩; (focus (first | (go_at_call 114; exact HA2'.out _ hq) | (obtain ⟨z0, z1, z2, z3, z4, z5, z6⟩ := HB.out _ (Mod.trans' M34 hq); go_simp; try with_reducible rfl))); clear hK K))
      refine wpQuiet_nil ?_
      intro w5 M5
      have M35 := M34.trans' M5
      clear HA2'
      obtain ⟨Lk, Fk, s, hLk, hes, hfs, hD⟩ := hsucc.out h2.out
      obtain ⟨z0, z1, z2, z3, z4, z5, z6⟩ := HB.out _ M35
      have EP := endZ_first (mm.out.mod0 M35) hd hLk (by omega) hes
      replace hD := hid hD
      replace hfs := hid hfs
      clear hLk hes
      go_wp2_with fail
      refine EP.mono ?_; rintro e w6 ⟨rfl, M6⟩
      obtain ⟨v7, W7, g7, k7, x7, X7, N7⟩ := put5z w6 s
      obtain ⟨dz, ez⟩ := blkc x7
      have M37 := (M35.trans' M6).trans' N7
      clear z0 z1 z2 z3 z4 z5 z6 EP
      dsimp only [encS]
      go_wp2_with fail
      clear dz ez g7 k7 x7
      have HE := hid (fun (W : World) (q : CM W7 W) => And.intro (HB.out W (M37.trans' q)) (blkc (Mod.heap q X7 fun h => h)).1)
      simp only [encS] at HE X7
      refine cq_tail 7 (by kernel_rfl) (by kernel_rfl) ?_
      simp only [List.take_succ_cons, List.take_zero, List.drop_succ_cons, List.drop_zero]
      iterate 7 (refine wpQuiet_step (fun K hK => ?_); go_simp; first | (refine hK _ ?_; clear hK K) | (refine ⟨_, fun _ _ => rfl, hK _ ?_⟩; clear hK K) | (apply Exists.intro; refine ⟨fun wq hq => ?_, hK _ ?_⟩; (focus (first  | (obtain ⟨⟨z0, z1, z2, z3, z4, z5, z6⟩, z7⟩ := HE.out _ hq; go_simp; try with_reducible rfl))); clear hK K))
      refine wpQuiet_nil ?_
      intro w8 M8
      have M38 := M37.trans' M8
      obtain ⟨hfr, m9, X9⟩ := put.out w8 s M38
      obtain ⟨⟨v0, y0⟩, f0⟩ := hfr 0 (by omega)
      obtain ⟨⟨v1, y1⟩, f1⟩ := hfr 1 (by omega)
      obtain ⟨⟨v2, y2⟩, f2⟩ := hfr 2 (by omega)
      obtain ⟨⟨v3, y3⟩, f3⟩ := hfr 3 (by omega)
      obtain ⟨⟨v4, y4⟩, f4⟩ := hfr 4 (by omega)
      simp only [Nat.add_zero] at y0 f0
      have X8 := hid (Mod.heap M8 X7 fun h => h)
      replace m9 := hid m9
      replace X9 := hid X9
      clear hfr HE X7
      go_wp2_with fail
      obtain ⟨w9, hw9⟩ : ∃ w9, (((((w8.setCell ⟨gl, k * 5, none⟩ (.int .i64 s.ls)).setCell ⟨gl, k * 5 + 1, none⟩ (.int .i64 s.la)).setCell ⟨gl, k * 5 + 2, none⟩ (.int .i64 s.hs)).setCell ⟨gl, k * 5 + 3, none⟩ (.int .i64 s.ha)).setCell ⟨gl, k * 5 + 4, none⟩ (.int .i64 s.v)) = w9 := ⟨_, rfl⟩
      rw [hw9] at m9 X9 ⊢
      clear hw9 y0 y1 y2 y3 y4 f0 f1 f2 f3 f4
      have nsb : ¬ FootB tb ab (.slice (some ⟨lb, 0, none⟩) σ.length c) fv' σ' w6.heap.size := fun e => by
       have a := mm.out.lt e; have b := (M35.trans' M6).size; omega
      have hs9 := X9.out.heap X8.out nsb
      have hc9 := X9.out.heap (M38.heap c0h.out fun h => h) ncb0.out
      have n9 : NodeB w9 b (l.set k s) ks := by
       obtain ⟨l', ks', a1, a2⟩ := m9.out.node r b hb
       rw [StB.set_self] at a1; cases a1; exact a2
      have HF := hid (fun (W : World) (q : CM w9 W) => And.intro (blkc (Mod.heap q hs9 fun h => h)).1 (And.intro (blkc (Mod.heap q hc9 fun h => h)) (And.intro (m9.out.mod0 q) (n9.keep (w' := W) fun x k e => Mod.block q k (n9.lt e) fun h => h))))
      have HG : ∀ (W : World), CM w9 W → W.cell? ⟨lb, r * 3 + 1, none⟩ = some (.slice (some ⟨gk, 0, none⟩) ks.length b.kc) ∧ W.cell? ⟨gk, k + 1, none⟩ = some (.int .i64 (t2 : Int)) := by
       intro W q
       obtain ⟨_, _, a1, a2⟩ := HF.out W q
       obtain ⟨_, a3, _⟩ := a1.cells hb
       rw [a2.kn, hgk0.out] at a3
       obtain ⟨g5, hg5, a4⟩ := a2.kidC u2
       rw [hgk0.out] at hg5; cases hg5
       obtain ⟨_, e5⟩ := u2h.out
       rw [e5] at a4
       exact ⟨a3, a4⟩
      replace HG := hid HG
      clear hs9 n9
      refine cq_tail 12 (by kernel_rfl) (by kernel_rfl) ?_
      simp only [List.take_succ_cons, List.take_zero, List.drop_succ_cons, List.drop_zero]
      iterate 12 (refine wpQuiet_step (fun K hK => ?_); go_simp; first | (refine hK _ ?_; clear hK K) | (refine ⟨_, fun _ _ => rfl, hK _ ?_⟩; clear hK K) | (apply Exists.intro; refine ⟨fun wq hq => ?_, hK _ ?_⟩; (focus (first  | (obtain ⟨z0, ⟨z1, z2⟩, -⟩ := HF.out _ hq; obtain ⟨z3, z4⟩ := HG.out _ hq; go_simp; try with_reducible rfl))); clear hK K))
      refine wpQuiet_nil ?_
      intro w10 M10
      obtain ⟨_, ⟨z1, z2⟩, m10, _⟩ := HF.out _ M10
      have c10 := Mod.heap M10 hc9 fun h => h
      have fin10 := hid (show DropX w w0 tb ab (.slice (some ⟨lb, 0, none⟩) σ.length c) fv σ root room many d T H r0 g (.int .i64 (t2 : Int)) ((w10.setCell ⟨w.heap.size, 0, none⟩ (.int .i64 s.ls)).setCell ⟨w.heap.size, 1, none⟩ (.int .i64 s.la)) from by
       have Mc : Mod (fun x => x = w.heap.size) w10 ((w10.setCell ⟨w.heap.size, 0, none⟩ (.int .i64 s.ls)).setCell ⟨w.heap.size, 1, none⟩ (.int .i64 s.la)) := Mod.setCell (S := fun x => x = w.heap.size) (p := ⟨w.heap.size, 1, none⟩) (Mod.setCell (S := fun x => x = w.heap.size) (p := ⟨w.heap.size, 0, none⟩) (Mod.refl _ _) (.inl rfl) _) (.inl rfl) _
       have N := ((HM.out.1.trans' (M38.mono (T := FootB tb ab (.slice (some ⟨lb, 0, none⟩) σ.length c) fv σ) fun _ h => h.elim)).trans X9.out (fun x hx => (HM.out.2.2 x hx).imp id fun h => Nat.le_trans hsz0.out h)).trans' (Mod.mono M10 fun _ h => h.elim)
       refine ⟨_, s.ls, s.la, _, fv', σ', free', rfl, m10.mod Mc (fun x hx e => ncb0.out (e ▸ hx)), hD.out, hfs.out, by simpa using heap_setCell_same _ w.heap.size 1 _ 34 (.int .i64 s.la) (heap_setCell_same w10 w.heap.size 0 _ 34 (.int .i64 s.ls) c10), N.trans Mc (fun x hx => .inr (by rw [show x = w.heap.size from hx]; exact Nat.le_refl _)), ?_, HM.out.2.2⟩
       exact Nat.le_trans HM.out.2.1 (Nat.le_trans M38.size (Nat.le_trans X9.out.size (Nat.le_trans (Mod.size M10) Mc.size))))
      clear m10 c10 hc9
      go_wp2_with fail
      go_roundg g
      case measure => omega
      case rel => exact fin10.out
     ·have hdd2 : decide ((lt2.length : Int) ≥ (d : Int)) = false := decide_eq_false (by omega)
      replace h2 := hid h2
      refine cq_region (by kernel_rfl) (by kernel_rfl) ?_
      iterate 23 (refine wpQuiet_step (fun K hK => ?_); go_simp; first | (refine hK _ ?_; clear hK K) | (refine ⟨_, fun _ _ => rfl, hK _ ?_⟩; clear hK K) | (apply Exists.intro; refine ⟨fun wq hq => ?_, hK _ ?_⟩; (focus (first | (go_at_call 114; exact HA2'.out _ hq) | (obtain ⟨z0, z1, z2, z3, z4, z5, z6⟩ := HB.out _ (Mod.trans' M34 hq); go_simp; try with_reducible rfl))); clear hK K))
      refine wpQuiet_nil ?_
      intro w5 M5
      have M35 := M34.trans' M5
      clear HA2'
      have PJ := hjoin.out h1.out h2.out _ M35
      go_wp2_with fail
      refine PJ.mono ?_; rintro e w6 ⟨rfl, hq⟩
      obtain ⟨S2, fv2, σ2, free2, l2, ks2, kt, m2, e2, hkt, hD, hX⟩ := fin.out _ M35 _ _ hq
      obtain ⟨b2', hb2', hn2', z0, z1, z2, z3⟩ := m2.nodeF e2
      obtain ⟨ht2, hkt2⟩ := List.getElem?_eq_some_iff.1 hkt
      obtain ⟨gk', hgk', yk⟩ := hn2'.kidC ht2
      rw [hkt2] at yk
      rw [hgk'] at z1
      have PA2 := atM m2 hb2'
      have hX' := hid (hX w6 (Mod.refl _ _))
      have hkI' : (k : Int) < ks2.length := by omega
      clear hq m2 e2 hkt hD hX hn2' ht2 hkt2 fin PJ
      go_wp2_with fail
      refine PA2.mono ?_; rintro e w7 ⟨rfl, hw7⟩; subst hw7
      go_wp2_with fail
      go_roundg g
      case measure => omega
      case rel => exact hX'.out
end
end Go.Proofs.Bo
