import Derived.Test.YtofgoehkahcajaaGreatShG
import Derived.Test.YtofgoehkahcajaaGreatSwap7
import Derived.Test.YtofgoehkahcajaaGreatDrop7
set_option linter.unusedVariables false
set_option linter.unusedSimpArgs false
namespace Go.Proofs.Bo
open Go Go.RowKit

/-- The root behind a key's taking: it stays if it has a segment. -/
theorem root_some {d : Nat} {S : StB} {H r0 : Nat} {T l : List Sg} {ks F : List Nat} (hs : Sub d S H 0 r0 T F) (hA : Alls S F) (hi : S r0 = some (l, ks)) (hl : l ≠ []) : PT d S r0 T := by
  have : 0 < l.length := List.length_pos_iff.2 hl
  exact .inr ⟨r0, H, F, rfl, hs.raise hi this, hA.1, hA.2⟩
/-- It has none and is a leaf: the tree is empty. -/
theorem root_leaf {d : Nat} {S : StB} {H r0 : Nat} {T : List Sg} {F : List Nat} (hs : Sub d S H 0 r0 T F) (hA : Alls S F) (hi : S r0 = some ([], [])) : PT d (S.set r0 none) (-1) T := by
  cases H with
  | zero =>
    obtain ⟨q1, q2, _⟩ := hs
    rw [hi] at q1; cases q1
    subst q2
    refine .inl ⟨rfl, rfl, fun i => ?_⟩
    by_cases e : i = r0
    · subst e; exact StB.set_self ..
    · rw [StB.set_ne _ _ e]
      refine Classical.byContradiction fun h => ?_
      have := (hA.2 i).2 h
      simp at this
      exact e this
  | succ H =>
    have := (hs.lens hi).2.2.2 (by omega)
    simp at this
/-- It has none and one child: this is the root. -/
theorem root_kid {d : Nat} (hd : 2 ≤ d) {S : StB} {H r0 : Nat} {T : List Sg} {ks F : List Nat} (hs : Sub d S H 0 r0 T F) (hA : Alls S F) (hi : S r0 = some ([], ks)) (hk : ks ≠ []) : ∃ (h0 : 0 < ks.length), PT d (S.set r0 none) (ks[0] : Nat) T := by
  cases H with
  | zero => exact absurd ((hs.lens hi).2.2.1 rfl) hk
  | succ H =>
    obtain ⟨l, cs, q1, q2, q3, q4, q5, q6, q7⟩ := hs
    rw [hi] at q1
    have e1 : [] = l := by injection q1 with q1; exact (Prod.mk.inj q1).1
    have e2 : ks = cs.map Ch.i := by injection q1 with q1; exact (Prod.mk.inj q1).2
    subst e1 e2
    match cs, q4 with
    | [c], _ =>
      have hc := q5 c (by simp)
      have hF : F = r0 :: c.F := by rw [q7]; simp
      rw [hF] at hA
      have nd := List.nodup_cons.1 hA.1
      refine ⟨by simp, .inr ⟨c.i, H, c.F, rfl, ?_, nd.2, fun i => ?_⟩⟩
      · have e : T = c.L := by rw [q6]; simp [inter, post]
        rw [e]
        exact (hc.low (by omega)).keep fun j hj => StB.set_ne _ _ fun e => nd.1 (e ▸ hj)
      · by_cases e : i = r0
        · subst e
          rw [StB.set_self]
          exact ⟨fun h => absurd h nd.1, fun h => absurd rfl h⟩
        · rw [StB.set_ne _ _ e, ← hA.2 i, List.mem_cons]
          exact ⟨.inr, fun h => h.resolve_left e⟩
end Go.Proofs.Bo
set_option linter.unusedVariables false
set_option linter.unusedSimpArgs false
namespace Go.Proofs.Bo
open Go Go.RowKit
section
variable {w w' : World} {tb ab : Nat} {lv fv : Value} {σ : List (Option Bn)} {free : List Int} {root room many : Int} {S : StB} {d : Nat} {L : List Sg}

set_option maxHeartbeats 2000000 in
theorem delBZ_no (h : MemB w tb ab lv fv σ free root (d : Int) room many S) (hd : 2 ≤ d ∧ d ≤ 64) (hT : PT d S root L) (hr : Row L) (cs ca : Int) (hf : fit64 ca) (hk : hasK (kx cs ca) L = false) :
    Calls Tryz.prog 24 #[.pointer (some ⟨tb, 0, none⟩), .agg #[.int .i64 cs, .int .i64 ca]] w fun e w' => e = .returned (.bool false) ∧ Mod (fun _ => False) w w' := by
  obtain ⟨w0, hw0, b0, M0⟩ := boxC w cs ca
  obtain ⟨d0, e0⟩ := blkc b0
  have HC := canonZ cs ca w0
  replace hk := hid hk
  go_enter Tryz.func24, Tryz.ntmps24
  go_wp2_with fail
  refine HC.mono ?_; rintro e w1 ⟨rfl, M1⟩
  clear d0 e0 hw0 HC
  replace b0 := M1.heap b0 fun h => h
  obtain ⟨d0, e0⟩ := blkc b0
  obtain ⟨w2, hw2, b2, M2⟩ : ∃ w2, (w1.setCell ⟨w.heap.size, 0, none⟩ (.int .i64 (canS cs ca))).setCell ⟨w.heap.size, 1, none⟩ (.int .i64 (canA cs ca)) = w2 ∧ w2.heap[w.heap.size]? = some (.cells #[.int .i64 (canS cs ca), .int .i64 (canA cs ca)] 26 (0, 0)) ∧ Mod (fun x => x = w.heap.size) w1 w2 :=
    ⟨_, rfl, by simpa using heap_setCell_same _ w.heap.size 1 _ 26 (.int .i64 (canA cs ca)) (heap_setCell_same w1 w.heap.size 0 _ 26 (.int .i64 (canS cs ca)) b0), Mod.setCell (S := fun x => x = w.heap.size) (p := ⟨w.heap.size, 1, none⟩) (Mod.setCell (S := fun x => x = w.heap.size) (p := ⟨w.heap.size, 0, none⟩) (Mod.refl _ _) (.inl rfl) _) (.inl rfl) _⟩
  have N2 : Mod (fun _ => False) w w2 := (M0.trans' M1).trans M2 fun x hx => .inr (by rw [show x = w.heap.size from hx]; exact Nat.le_refl _)
  have m2 := h.mod0 N2
  have HG := getBZ m2 hd.2 hT hr (cs := canS cs ca) (ca := canA cs ca) (can_fit hf)
  have hgh := get_has (kx (canS cs ca) (canA cs ca)) L
  obtain ⟨o, ho⟩ : ∃ o, getS (kx (canS cs ca) (canA cs ca)) L = o := ⟨_, rfl⟩
  rw [ho] at HG hgh
  rw [kx_can, hk.out] at hgh
  unfold optS at HG
  rw [hgh] at HG
  generalize oS o = so at HG
  clear hgh ho
  replace N2 := hid N2
  go_upto_region 2 with fail
  clear d0 e0 hw2 b0
  obtain ⟨d0, e0⟩ := blkc b2
  go_wp2_with fail
  refine HG.mono ?_; rintro e w3 ⟨rfl, M3⟩
  obtain ⟨u4, W4, g4, k4, x4, X4, N4⟩ := put5z w3 so
  obtain ⟨dz, ez⟩ := blkc x4
  go_wp2_with fail
  go_ret
  exact ⟨rfl, (N2.out.trans' M3).trans' N4⟩

set_option maxHeartbeats 4000000 in
theorem delBZ_yes (h : MemB w tb ab lv fv σ free root (d : Int) room many S) (hd : 2 ≤ d ∧ d ≤ 64) (hT : PT d S root L) (hr : Row L) (hm : 0 < many ∧ many ≤ 65536) (cs ca : Int) (hf : fit64 ca) (hk : hasK (kx cs ca) L = true) :
    Calls Tryz.prog 24 #[.pointer (some ⟨tb, 0, none⟩), .agg #[.int .i64 cs, .int .i64 ca]] w fun e w' => e = .returned (.bool true) ∧ PutQ7 w tb ab lv fv σ d room (many - 1) (delL (kx cs ca) L) w' := by
  rcases hT with ⟨_, rfl, _⟩ | ⟨r0, H, F0, rfl, hS0, hnd, hall⟩
  · simp [hasK] at hk
  have hT : PT d S (r0 : Int) L := .inr ⟨r0, H, F0, rfl, hS0, hnd, hall⟩
  have hA0 : Alls S F0 := ⟨hnd, hall⟩
  obtain ⟨T, hTd⟩ : ∃ T, delL (kx cs ca) L = T := ⟨_, rfl⟩
  rw [hTd]
  replace hTd := hid hTd
  obtain ⟨w0, hw0, b0, M0⟩ := boxC w cs ca
  obtain ⟨d0, e0⟩ := blkc b0
  have HC := canonZ cs ca w0
  replace hk := hid hk
  go_enter Tryz.func24, Tryz.ntmps24
  go_wp2_with fail
  refine HC.mono ?_; rintro e w1 ⟨rfl, M1⟩
  clear d0 e0 hw0 HC
  replace b0 := M1.heap b0 fun h => h
  obtain ⟨d0, e0⟩ := blkc b0
  obtain ⟨w2, hw2, b2, M2⟩ : ∃ w2, (w1.setCell ⟨w.heap.size, 0, none⟩ (.int .i64 (canS cs ca))).setCell ⟨w.heap.size, 1, none⟩ (.int .i64 (canA cs ca)) = w2 ∧ w2.heap[w.heap.size]? = some (.cells #[.int .i64 (canS cs ca), .int .i64 (canA cs ca)] 26 (0, 0)) ∧ Mod (fun x => x = w.heap.size) w1 w2 :=
    ⟨_, rfl, by simpa using heap_setCell_same _ w.heap.size 1 _ 26 (.int .i64 (canA cs ca)) (heap_setCell_same w1 w.heap.size 0 _ 26 (.int .i64 (canS cs ca)) b0), Mod.setCell (S := fun x => x = w.heap.size) (p := ⟨w.heap.size, 1, none⟩) (Mod.setCell (S := fun x => x = w.heap.size) (p := ⟨w.heap.size, 0, none⟩) (Mod.refl _ _) (.inl rfl) _) (.inl rfl) _⟩
  have N2 : Mod (fun _ => False) w w2 := (M0.trans' M1).trans M2 fun x hx => .inr (by rw [show x = w.heap.size from hx]; exact Nat.le_refl _)
  have m2 := h.mod0 N2
  have HG := getBZ m2 hd.2 hT hr (cs := canS cs ca) (ca := canA cs ca) (can_fit hf)
  have hgh := get_has (kx (canS cs ca) (canA cs ca)) L
  obtain ⟨o, ho⟩ : ∃ o, getS (kx (canS cs ca) (canA cs ca)) L = o := ⟨_, rfl⟩
  rw [ho] at HG hgh
  rw [kx_can, hk.out] at hgh
  unfold optS at HG
  rw [hgh] at HG
  generalize oS o = so at HG
  clear hgh ho
  replace N2 := hid N2
  go_upto_region 2 with fail
  clear d0 e0 hw2 b0
  obtain ⟨d0, e0⟩ := blkc b2
  go_wp2_with fail
  refine HG.mono ?_; rintro e w3 ⟨rfl, M3⟩
  obtain ⟨u4, W4, g4, k4, x4, X4, N4⟩ := put5z w3 so
  obtain ⟨dz, ez⟩ := blkc x4
  have N34 := M3.trans' N4
  have PD := hid (fun (W : World) (q : CM W4 W) => dropZ ((m2.mod0 N34).mod0 q) hd hS0 hA0 hr (canS cs ca) (canA cs ca) (can_fit hf) (by rw [kx_can]; exact hk.out))
  have HB := hid (fun (W : World) (q : CM W4 W) => And.intro (blkc ((m2.mod0 N34).mod0 q).t) (blkc (Mod.heap q (N34.heap b2 fun h => h) fun h => h)))
  have N04 := hid (N2.out.trans' N34)
  have hroot : ((r0 : Int) == -1) = false := by simp
  clear N2
  go_upto_region 5 with fail
  clear dz ez g4 k4 x4 d0 e0 HG
  refine cq_tail 6 (by kernel_rfl) (by kernel_rfl) ?_
  simp only [List.take_succ_cons, List.take_zero, List.drop_succ_cons, List.drop_zero]
  iterate 6 (refine wpQuiet_step (fun K hK => ?_); go_simp; first | (refine hK _ ?_; clear hK K) | (refine ⟨_, fun _ _ => rfl, hK _ ?_⟩; clear hK K) | (apply Exists.intro; refine ⟨fun wq hq => ?_, hK _ ?_⟩; (focus (first  | (obtain ⟨⟨z0, z1⟩, z2, z3⟩ := HB.out _ hq; go_simp; try with_reducible rfl))); clear hK K))
  refine wpQuiet_nil ?_
  intro w5 M5
  have PP := PD.out _ M5
  clear PD HB
  go_wp2_with fail
  refine PP.mono ?_; rintro e w6 ⟨rfl, S6, fv6, σ6, free6, F6, m6, hS6, hA6, M6, Fo6⟩
  rw [kx_can, hTd.out] at hS6
  have N05 := hid (N04.out.trans' M5)
  have hw1 : IntKind.i64.wrap (many - 1) = many - 1 := by rw [IntKind.wrap_i64]; omega
  -- one less
  have m7 := m6.setT (r0 : Int) (many - 1) (w' := w6.setCell ⟨tb, 4, none⟩ (.int .i64 (many - 1))) (by simpa using heap_setCell_same w6 tb 4 _ 90 (.int .i64 (many - 1)) m6.t) ((Mod.refl (fun k => k = tb) w6).setCell (p := ⟨tb, 4, none⟩) (.inl rfl) _)
  have M7 : Mod (FootB tb ab lv fv6 σ6) w6 (w6.setCell ⟨tb, 4, none⟩ (.int .i64 (many - 1))) := (Mod.refl _ w6).setCell (p := ⟨tb, 4, none⟩) (.inl (.inl rfl)) _
  obtain ⟨c0, f0⟩ := blkc m6.t
  obtain ⟨l, ks, hSr, hl1, hl2, hks⟩ := hS6.node
  obtain ⟨b, hb, hn, q0, q1, q2, q3⟩ : ∃ b, σ6[r0]? = some (some b) ∧ NodeB (w6.setCell ⟨tb, 4, none⟩ (.int .i64 (many - 1))) b l ks ∧ True ∧ True ∧ True ∧ True := by
    obtain ⟨b, hb, hn⟩ := m7.live hSr
    exact ⟨b, hb, hn, trivial, trivial, trivial, trivial⟩
  obtain ⟨lb, c, rfl⟩ := m7.lbS hb
  have PA := atM m7 hb
  obtain ⟨y0, y1, y2, y3⟩ := m7.cells hb
  rw [hn.ln] at y0
  have FF : ∀ x, FootB tb ab (.slice (some ⟨lb, 0, none⟩) σ6.length c) fv6 σ6 x → FootB tb ab (.slice (some ⟨lb, 0, none⟩) σ6.length c) fv σ x ∨ w.heap.size ≤ x := fun x hx => (Fo6 x hx).imp id fun q => Nat.le_trans N05.out.size q
  have MM := hid ((((N05.out.mono (T := FootB tb ab (.slice (some ⟨lb, 0, none⟩) σ6.length c) fv σ) fun _ h => h.elim).trans' M6)).trans M7 FF)
  have FFh := hid FF
  have m7h := hid m7
  cases l with
  | cons a l1 =>
    have R := hid (root_some hS6 hA6 hSr (by simp))
    have e1 : (((a :: l1).length : Int) == 0) = false := by simp; omega
    generalize (a :: l1).length = len at y0 e1
    clear m7 hn hS6 hA6 hSr hl1 hl2 hks FF M7 M6 Fo6 m6
    go_wp2_with fail
    refine PA.mono ?_; rintro e w8 ⟨rfl, hw8⟩; rw [← hw8] at y0 y1 y2 y3
    have h8 := hid hw8
    clear hw8
    go_wp2_with fail
    go_ret
    exact ⟨rfl, _, _, fv6, σ6, free6, r0, by rw [h8.out]; exact m7h.out, R.out, by rw [h8.out]; exact MM.out, FFh.out⟩
  | nil =>
    simp only [List.length_nil] at y0
    have hnh := hid hn
    have hS := hid hSr
    have hs6 := hid (And.intro hS6 hA6)
    clear m7 hn hS6 hA6 hSr hl1 hl2 hks FF M7 M6 Fo6 m6
    go_wp2_with fail
    refine PA.mono ?_; rintro e w8 ⟨rfl, hw8⟩; rw [← hw8] at y0 y1 y2 y3
    have h8 := hid hw8
    clear hw8
    have m8 : MemB w8 tb ab (.slice (some ⟨lb, 0, none⟩) σ6.length c) fv6 σ6 free6 (r0 : Int) (d : Int) room (many - 1) S6 := by rw [h8.out]; exact m7h.out
    clear c0 f0
    obtain ⟨c1, f1⟩ := blkc m8.t
    have n8 : NodeB w8 b [] ks := by rw [h8.out]; exact hnh.out
    have m9 := m8.setT (-1) (many - 1) (w' := w8.setCell ⟨tb, 1, none⟩ (.int .i64 (-1))) (by simpa using heap_setCell_same w8 tb 1 _ 90 (.int .i64 (-1)) m8.t) ((Mod.refl (fun k => k = tb) w8).setCell (p := ⟨tb, 1, none⟩) (.inl rfl) _)
    have M9 := hid (show Mod (FootB tb ab (.slice (some ⟨lb, 0, none⟩) σ6.length c) fv6 σ6) w8 (w8.setCell ⟨tb, 1, none⟩ (.int .i64 (-1))) from (Mod.refl _ w8).setCell (p := ⟨tb, 1, none⟩) (.inl (.inl rfl)) _)
    obtain ⟨b9, hb9, hn9⟩ := m9.live hS.out
    have PL := leafM m9 hb9 hn9
    have hbb : b9 = b := by rw [hb] at hb9; injection hb9 with hb9; injection hb9 with hb9; exact hb9.symm
    subst hbb
    cases ks with
    | nil =>
      rw [show decide (([] : List Nat) = []) = true from rfl] at PL
      have R := hid (root_leaf hs6.out.1 hs6.out.2 hS.out)
      have PF := hid (afreeM m9 hb9)
      have m9h := hid m9
      obtain ⟨c2, f2⟩ := blkc m9.t
      clear hn9 m8 n8 m9
      go_wp2_with fail
      refine PL.mono ?_; rintro e w10 ⟨rfl, hw10⟩; subst hw10
      go_wp2_with fail
      refine PF.out.mono ?_; rintro e w11 ⟨rfl, fv', m11, X11, F11⟩
      have N8 : Mod (FootB tb ab (.slice (some ⟨lb, 0, none⟩) σ6.length c) fv σ) w w8 := by rw [h8.out]; exact MM.out
      have N9 := N8.trans M9.out FFh.out
      have fin := hid (show PutQ7 w tb ab (.slice (some ⟨lb, 0, none⟩) σ6.length c) fv σ d room (many - 1) T w11 from ⟨_, _, fv', _, _, _, m11, R.out, N9.trans X11 FFh.out, fun x hx => (F11 x hx).elim (FFh.out x) fun q => .inr (Nat.le_trans N9.size q)⟩)
      clear m11 X11 F11
      go_wp2_with fail
      go_ret
      exact ⟨rfl, fin.out⟩
    | cons k0 kr =>
      rw [show decide (k0 :: kr = ([] : List Nat)) = false from rfl] at PL
      obtain ⟨hk0, R⟩ := root_kid hd.1 hs6.out.1 hs6.out.2 hS.out (by simp)
      replace R := hid R
      obtain ⟨gk, hgk, yk⟩ := hn9.kidC (j := 0) (by simp)
      obtain ⟨x0, x1, x2, x3⟩ := m9.cells hb9
      rw [hn9.kn, hgk] at x1
      simp only [List.getElem_cons_zero] at yk
      have hlI : (0 : Int) < ((k0 :: kr).length : Int) := by simp
      have m10 := m9.setT (k0 : Int) (many - 1) (w' := (w8.setCell ⟨tb, 1, none⟩ (.int .i64 (-1))).setCell ⟨tb, 1, none⟩ (.int .i64 (k0 : Int))) (by simpa using heap_setCell_same _ tb 1 _ 90 (.int .i64 (k0 : Int)) m9.t) ((Mod.refl (fun k => k = tb) _).setCell (p := ⟨tb, 1, none⟩) (.inl rfl) _)
      have M10 := hid (show Mod (FootB tb ab (.slice (some ⟨lb, 0, none⟩) σ6.length c) fv6 σ6) (w8.setCell ⟨tb, 1, none⟩ (.int .i64 (-1))) ((w8.setCell ⟨tb, 1, none⟩ (.int .i64 (-1))).setCell ⟨tb, 1, none⟩ (.int .i64 (k0 : Int))) from (Mod.refl _ _).setCell (p := ⟨tb, 1, none⟩) (.inl (.inl rfl)) _)
      have PF := hid (afreeM m10 hb9)
      obtain ⟨c2, f2⟩ := blkc m9.t
      obtain ⟨c3, f3⟩ := blkc m10.t
      generalize (k0 :: kr).length = len at x1 hlI
      clear hn9 m8 n8 m9 m10
      go_wp2_with fail
      refine PL.mono ?_; rintro e w10 ⟨rfl, hw10⟩; subst hw10
      go_wp2_with fail
      refine PF.out.mono ?_; rintro e w11 ⟨rfl, fv', m11, X11, F11⟩
      have N8 : Mod (FootB tb ab (.slice (some ⟨lb, 0, none⟩) σ6.length c) fv σ) w w8 := by rw [h8.out]; exact MM.out
      have N9 := (N8.trans M9.out FFh.out).trans M10.out FFh.out
      have fin := hid (show PutQ7 w tb ab (.slice (some ⟨lb, 0, none⟩) σ6.length c) fv σ d room (many - 1) T w11 from ⟨_, _, fv', _, _, _, m11, R.out, N9.trans X11 FFh.out, fun x hx => (F11 x hx).elim (FFh.out x) fun q => .inr (Nat.le_trans N9.size q)⟩)
      clear m11 X11 F11
      go_wp2_with fail
      go_ret
      exact ⟨rfl, fin.out⟩
end
end Go.Proofs.Bo
