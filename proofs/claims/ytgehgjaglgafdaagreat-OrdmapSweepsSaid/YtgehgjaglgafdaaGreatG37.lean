import Derived.Test.YtgehgjaglgafdaaGreatG30
import Derived.Test.YtgehgjaglgafdaaGreatG36
import Derived.Test.YtgehgjaglgafdaaGreatG22
import Derived.Test.YtgehgjaglgafdaaGreatG29
import Derived.Test.YtgehgjaglgafdaaGreatG27
import Derived.Test.YtgehgjaglgafdaaGreatG01
import Derived.Test.YtgehgjaglgafdaaGreatG04
set_option linter.unusedVariables false
set_option linter.unusedSimpArgs false
namespace Go.Proofs.Bo
open Go Go.RowKit
section
variable {w w' : World} {tb ab : Nat} {lv fv : Value} {σ : List (Option Bn)} {free : List Int} {root room many : Int} {S : StB} {d : Nat} {L : List Sg}
set_option maxHeartbeats 2000000 in
theorem delBZ_no (h : MemB w tb ab lv fv σ free root (d : Int) room many S) (hd : 2 ≤ d ∧ d ≤ 64) (hT : PT d S root L) (hr : Row L) (cs ca : Int) (hf : fit64 ca) (hk : hasK (kx cs ca) L = false) :
  Calls Tryz.prog 102 #[.pointer (some ⟨tb, 0, none⟩), .agg #[.int .i64 cs, .int .i64 ca]] w fun e w' => e = .returned (.bool false) ∧ Mod (fun _ => False) w w' := by
 obtain ⟨w0, hw0, b0, M0⟩ := boxC w cs ca
 obtain ⟨d0, e0⟩ := blkc b0
 have HC := canonZ cs ca w0
 replace hk := hid hk
 go_enter Tryz.func102, Tryz.ntmps102
 go_wp2_with fail
 refine HC.mono ?_; rintro e w1 ⟨rfl, M1⟩
 clear d0 e0 hw0 HC
 replace b0 := M1.heap b0 fun h => h
 obtain ⟨d0, e0⟩ := blkc b0
 obtain ⟨w2, hw2, b2, M2⟩ : ∃ w2, (w1.setCell ⟨w.heap.size, 0, none⟩ (.int .i64 (canS cs ca))).setCell ⟨w.heap.size, 1, none⟩ (.int .i64 (canA cs ca)) = w2 ∧ w2.heap[w.heap.size]? = some (.cells #[.int .i64 (canS cs ca), .int .i64 (canA cs ca)] 34 (0, 0)) ∧ Mod (fun x => x = w.heap.size) w1 w2 :=
  ⟨_, rfl, by simpa using heap_setCell_same _ w.heap.size 1 _ 34 (.int .i64 (canA cs ca)) (heap_setCell_same w1 w.heap.size 0 _ 34 (.int .i64 (canS cs ca)) b0), Mod.setCell (S := fun x => x = w.heap.size) (p := ⟨w.heap.size, 1, none⟩) (Mod.setCell (S := fun x => x = w.heap.size) (p := ⟨w.heap.size, 0, none⟩) (Mod.refl _ _) (.inl rfl) _) (.inl rfl) _⟩
 have N2 : Mod (fun _ => False) w w2 := (M0.trans' M1).trans M2 fun x hx => .inr (by rw [show x = w.heap.size from hx]; exact Nat.le_refl _)
 have m2 := h.mod0 N2
 have HG := getBZ m2 hd.2 hT hr (cs := canS cs ca) (ca := canA cs ca) (can_fit hf)
 have hgh := get_has (kx (canS cs ca) (canA cs ca)) L
 obtain ⟨o, ho⟩ : ∃ o, getS (kx (canS cs ca) (canA cs ca)) L = o := ⟨_, rfl⟩
 rw [ho] at HG hgh
 rw [kx_can, hk.out] at hgh
 unfold optS at HG
 rw [hgh] at HG
 generalize oS o = so at HG
 clear hgh ho
 replace N2 := hid N2
 go_upto_region 2 with fail
 clear d0 e0 hw2 b0
 obtain ⟨d0, e0⟩ := blkc b2
 go_wp2_with fail
 refine HG.mono ?_; rintro e w3 ⟨rfl, M3⟩
 obtain ⟨u4, W4, g4, k4, x4, X4, N4⟩ := put5z w3 so
 obtain ⟨dz, ez⟩ := blkc x4
 go_wp2_with fail
 go_ret
 exact ⟨rfl, (N2.out.trans' M3).trans' N4⟩
set_option maxHeartbeats 4000000 in
theorem delBZ_yes (h : MemB w tb ab lv fv σ free root (d : Int) room many S) (hd : 2 ≤ d ∧ d ≤ 64) (hT : PT d S root L) (hr : Row L) (hm : 0 < many ∧ many ≤ 65536) (cs ca : Int) (hf : fit64 ca) (hk : hasK (kx cs ca) L = true) :
  Calls Tryz.prog 102 #[.pointer (some ⟨tb, 0, none⟩), .agg #[.int .i64 cs, .int .i64 ca]] w fun e w' => e = .returned (.bool true) ∧ PutQ7 w tb ab lv fv σ d room (many - 1) (delL (kx cs ca) L) w' := by
 rcases hT with ⟨_, rfl, _⟩ | ⟨r0, H, F0, rfl, hS0, hnd, hall⟩
 ·simp [hasK] at hk
 have hT : PT d S (r0 : Int) L := .inr ⟨r0, H, F0, rfl, hS0, hnd, hall⟩
 have hA0 : Alls S F0 := ⟨hnd, hall⟩
 obtain ⟨T, hTd⟩ : ∃ T, delL (kx cs ca) L = T := ⟨_, rfl⟩
 rw [hTd]
 replace hTd := hid hTd
 obtain ⟨w0, hw0, b0, M0⟩ := boxC w cs ca
 obtain ⟨d0, e0⟩ := blkc b0
 have HC := canonZ cs ca w0
 replace hk := hid hk
 go_enter Tryz.func102, Tryz.ntmps102
 go_wp2_with fail
 refine HC.mono ?_; rintro e w1 ⟨rfl, M1⟩
 clear d0 e0 hw0 HC
 replace b0 := M1.heap b0 fun h => h
 obtain ⟨d0, e0⟩ := blkc b0
 obtain ⟨w2, hw2, b2, M2⟩ : ∃ w2, (w1.setCell ⟨w.heap.size, 0, none⟩ (.int .i64 (canS cs ca))).setCell ⟨w.heap.size, 1, none⟩ (.int .i64 (canA cs ca)) = w2 ∧ w2.heap[w.heap.size]? = some (.cells #[.int .i64 (canS cs ca), .int .i64 (canA cs ca)] 34 (0, 0)) ∧ Mod (fun x => x = w.heap.size) w1 w2 :=
  ⟨_, rfl, by simpa using heap_setCell_same _ w.heap.size 1 _ 34 (.int .i64 (canA cs ca)) (heap_setCell_same w1 w.heap.size 0 _ 34 (.int .i64 (canS cs ca)) b0), Mod.setCell (S := fun x => x = w.heap.size) (p := ⟨w.heap.size, 1, none⟩) (Mod.setCell (S := fun x => x = w.heap.size) (p := ⟨w.heap.size, 0, none⟩) (Mod.refl _ _) (.inl rfl) _) (.inl rfl) _⟩
 have N2 : Mod (fun _ => False) w w2 := (M0.trans' M1).trans M2 fun x hx => .inr (by rw [show x = w.heap.size from hx]; exact Nat.le_refl _)
 have m2 := h.mod0 N2
 have HG := getBZ m2 hd.2 hT hr (cs := canS cs ca) (ca := canA cs ca) (can_fit hf)
 have hgh := get_has (kx (canS cs ca) (canA cs ca)) L
 obtain ⟨o, ho⟩ : ∃ o, getS (kx (canS cs ca) (canA cs ca)) L = o := ⟨_, rfl⟩
 rw [ho] at HG hgh
 rw [kx_can, hk.out] at hgh
 unfold optS at HG
 rw [hgh] at HG
 generalize oS o = so at HG
 clear hgh ho
 replace N2 := hid N2
 go_upto_region 2 with fail
 clear d0 e0 hw2 b0
 obtain ⟨d0, e0⟩ := blkc b2
 go_wp2_with fail
 refine HG.mono ?_; rintro e w3 ⟨rfl, M3⟩
 obtain ⟨u4, W4, g4, k4, x4, X4, N4⟩ := put5z w3 so
 obtain ⟨dz, ez⟩ := blkc x4
 have N34 := M3.trans' N4
 have PD := hid (fun (W : World) (q : CM W4 W) => dropZ ((m2.mod0 N34).mod0 q) hd hS0 hA0 hr (canS cs ca) (canA cs ca) (can_fit hf) (by rw [kx_can]; exact hk.out))
 have HB := hid (fun (W : World) (q : CM W4 W) => And.intro (blkc ((m2.mod0 N34).mod0 q).t) (blkc (Mod.heap q (N34.heap b2 fun h => h) fun h => h)))
 have N04 := hid (N2.out.trans' N34)
 have hroot : ((r0 : Int) == -1) = false := by simp
 clear N2
 go_upto_region 5 with fail
 clear dz ez g4 k4 x4 d0 e0 HG
 refine cq_tail 6 (by kernel_rfl) (by kernel_rfl) ?_
 simp only [List.take_succ_cons, List.take_zero, List.drop_succ_cons, List.drop_zero]
 iterate 6 (refine wpQuiet_step (fun K hK => ?_); go_simp; first | (refine hK _ ?_; clear hK K) | (refine ⟨_, fun _ _ => rfl, hK _ ?_⟩; clear hK K) | (apply Exists.intro; refine ⟨fun wq hq => ?_, hK _ ?_⟩; (focus (first  | (obtain ⟨⟨z0, z1⟩, z2, z3⟩ := HB.out _ hq; go_simp; try with_reducible rfl))); clear hK K))
 refine wpQuiet_nil ?_
 intro w5 M5
 have PP := PD.out _ M5
 clear PD HB
 go_wp2_with fail
 refine PP.mono ?_; rintro e w6 ⟨rfl, S6, fv6, σ6, free6, F6, m6, hS6, hA6, M6, Fo6⟩
 rw [kx_can, hTd.out] at hS6
 have N05 := hid (N04.out.trans' M5)
 have hw1 : IntKind.i64.wrap (many - 1) = many - 1 := by rw [IntKind.wrap_i64]; omega
 have m7 := m6.setT (r0 : Int) (many - 1) (w' := w6.setCell ⟨tb, 4, none⟩ (.int .i64 (many - 1))) (by simpa using heap_setCell_same w6 tb 4 _ 111 (.int .i64 (many - 1)) m6.t) ((Mod.refl (fun k => k = tb) w6).setCell (p := ⟨tb, 4, none⟩) (.inl rfl) _)
 have M7 : Mod (FootB tb ab lv fv6 σ6) w6 (w6.setCell ⟨tb, 4, none⟩ (.int .i64 (many - 1))) := (Mod.refl _ w6).setCell (p := ⟨tb, 4, none⟩) (.inl (.inl rfl)) _
 obtain ⟨c0, f0⟩ := blkc m6.t
 obtain ⟨l, ks, hSr, hl1, hl2, hks⟩ := hS6.node
 obtain ⟨b, hb, hn, q0, q1, q2, q3⟩ : ∃ b, σ6[r0]? = some (some b) ∧ NodeB (w6.setCell ⟨tb, 4, none⟩ (.int .i64 (many - 1))) b l ks ∧ True ∧ True ∧ True ∧ True := by
  obtain ⟨b, hb, hn⟩ := m7.live hSr
  exact ⟨b, hb, hn, trivial, trivial, trivial, trivial⟩
 obtain ⟨lb, c, rfl⟩ := m7.lbS hb
 have PA := atM m7 hb
 obtain ⟨y0, y1, y2, y3⟩ := m7.cells hb
 rw [hn.ln] at y0
 have FF : ∀ x, FootB tb ab (.slice (some ⟨lb, 0, none⟩) σ6.length c) fv6 σ6 x → FootB tb ab (.slice (some ⟨lb, 0, none⟩) σ6.length c) fv σ x ∨ w.heap.size ≤ x := fun x hx => (Fo6 x hx).imp id fun q => Nat.le_trans N05.out.size q
 have MM := hid ((((N05.out.mono (T := FootB tb ab (.slice (some ⟨lb, 0, none⟩) σ6.length c) fv σ) fun _ h => h.elim).trans' M6)).trans M7 FF)
 have FFh := hid FF
 have m7h := hid m7
 cases l with
 | cons a l1 =>
  have R := hid (root_some hS6 hA6 hSr (by simp))
  have e1 : (((a :: l1).length : Int) == 0) = false := by simp; omega
  generalize (a :: l1).length = len at y0 e1
  clear m7 hn hS6 hA6 hSr hl1 hl2 hks FF M7 M6 Fo6 m6
  go_wp2_with fail
  refine PA.mono ?_; rintro e w8 ⟨rfl, hw8⟩; rw [← hw8] at y0 y1 y2 y3
  have h8 := hid hw8
  clear hw8
  go_wp2_with fail
  go_ret
  exact ⟨rfl, _, _, fv6, σ6, free6, r0, by rw [h8.out]; exact m7h.out, R.out, by rw [h8.out]; exact MM.out, FFh.out⟩
 | nil =>
  simp only [List.length_nil] at y0
  have hnh := hid hn
  have hS := hid hSr
  have hs6 := hid (And.intro hS6 hA6)
  clear m7 hn hS6 hA6 hSr hl1 hl2 hks FF M7 M6 Fo6 m6
  go_wp2_with fail
  refine PA.mono ?_; rintro e w8 ⟨rfl, hw8⟩; rw [← hw8] at y0 y1 y2 y3
  have h8 := hid hw8
  clear hw8
  have m8 : MemB w8 tb ab (.slice (some ⟨lb, 0, none⟩) σ6.length c) fv6 σ6 free6 (r0 : Int) (d : Int) room (many - 1) S6 := by rw [h8.out]; exact m7h.out
  clear c0 f0
  obtain ⟨c1, f1⟩ := blkc m8.t
  have n8 : NodeB w8 b [] ks := by rw [h8.out]; exact hnh.out
  have m9 := m8.setT (-1) (many - 1) (w' := w8.setCell ⟨tb, 1, none⟩ (.int .i64 (-1))) (by simpa using heap_setCell_same w8 tb 1 _ 111 (.int .i64 (-1)) m8.t) ((Mod.refl (fun k => k = tb) w8).setCell (p := ⟨tb, 1, none⟩) (.inl rfl) _)
  have M9 := hid (show Mod (FootB tb ab (.slice (some ⟨lb, 0, none⟩) σ6.length c) fv6 σ6) w8 (w8.setCell ⟨tb, 1, none⟩ (.int .i64 (-1))) from (Mod.refl _ w8).setCell (p := ⟨tb, 1, none⟩) (.inl (.inl rfl)) _)
  obtain ⟨b9, hb9, hn9⟩ := m9.live hS.out
  have PL := leafM m9 hb9 hn9
  have hbb : b9 = b := by rw [hb] at hb9; injection hb9 with hb9; injection hb9 with hb9; exact hb9.symm
  subst hbb
  cases ks with
  | nil =>
   rw [show decide (([] : List Nat) = []) = true from rfl] at PL
   have R := hid (root_leaf hs6.out.1 hs6.out.2 hS.out)
   have PF := hid (afreeM m9 hb9)
   have m9h := hid m9
   obtain ⟨c2, f2⟩ := blkc m9.t
   clear hn9 m8 n8 m9
   go_wp2_with fail
   refine PL.mono ?_; rintro e w10 ⟨rfl, hw10⟩; subst hw10
   go_wp2_with fail
   refine PF.out.mono ?_; rintro e w11 ⟨rfl, fv', m11, X11, F11⟩
   have N8 : Mod (FootB tb ab (.slice (some ⟨lb, 0, none⟩) σ6.length c) fv σ) w w8 := by rw [h8.out]; exact MM.out
   have N9 := N8.trans M9.out FFh.out
   have fin := hid (show PutQ7 w tb ab (.slice (some ⟨lb, 0, none⟩) σ6.length c) fv σ d room (many - 1) T w11 from ⟨_, _, fv', _, _, _, m11, R.out, N9.trans X11 FFh.out, fun x hx => (F11 x hx).elim (FFh.out x) fun q => .inr (Nat.le_trans N9.size q)⟩)
   clear m11 X11 F11
   go_wp2_with fail
   go_ret
   exact ⟨rfl, fin.out⟩
  | cons k0 kr =>
   rw [show decide (k0 :: kr = ([] : List Nat)) = false from rfl] at PL
   obtain ⟨hk0, R⟩ := root_kid hd.1 hs6.out.1 hs6.out.2 hS.out (by simp)
   replace R := hid R
   obtain ⟨gk, hgk, yk⟩ := hn9.kidC (j := 0) (by simp)
   obtain ⟨x0, x1, x2, x3⟩ := m9.cells hb9
   rw [hn9.kn, hgk] at x1
   simp only [List.getElem_cons_zero] at yk
   have hlI : (0 : Int) < ((k0 :: kr).length : Int) := by simp
   have m10 := m9.setT (k0 : Int) (many - 1) (w' := (w8.setCell ⟨tb, 1, none⟩ (.int .i64 (-1))).setCell ⟨tb, 1, none⟩ (.int .i64 (k0 : Int))) (by simpa using heap_setCell_same _ tb 1 _ 111 (.int .i64 (k0 : Int)) m9.t) ((Mod.refl (fun k => k = tb) _).setCell (p := ⟨tb, 1, none⟩) (.inl rfl) _)
   have M10 := hid (show Mod (FootB tb ab (.slice (some ⟨lb, 0, none⟩) σ6.length c) fv6 σ6) (w8.setCell ⟨tb, 1, none⟩ (.int .i64 (-1))) ((w8.setCell ⟨tb, 1, none⟩ (.int .i64 (-1))).setCell ⟨tb, 1, none⟩ (.int .i64 (k0 : Int))) from (Mod.refl _ _).setCell (p := ⟨tb, 1, none⟩) (.inl (.inl rfl)) _)
   have PF := hid (afreeM m10 hb9)
   obtain ⟨c2, f2⟩ := blkc m9.t
   obtain ⟨c3, f3⟩ := blkc m10.t
   generalize (k0 :: kr).length = len at x1 hlI
   clear hn9 m8 n8 m9 m10
   go_wp2_with fail
   refine PL.mono ?_; rintro e w10 ⟨rfl, hw10⟩; subst hw10
   go_wp2_with fail
   refine PF.out.mono ?_; rintro e w11 ⟨rfl, fv', m11, X11, F11⟩
   have N8 : Mod (FootB tb ab (.slice (some ⟨lb, 0, none⟩) σ6.length c) fv σ) w w8 := by rw [h8.out]; exact MM.out
   have N9 := (N8.trans M9.out FFh.out).trans M10.out FFh.out
   have fin := hid (show PutQ7 w tb ab (.slice (some ⟨lb, 0, none⟩) σ6.length c) fv σ d room (many - 1) T w11 from ⟨_, _, fv', _, _, _, m11, R.out, N9.trans X11 FFh.out, fun x hx => (F11 x hx).elim (FFh.out x) fun q => .inr (Nat.le_trans N9.size q)⟩)
   clear m11 X11 F11
   go_wp2_with fail
   go_ret
   exact ⟨rfl, fin.out⟩
end
open Go Go.RowKit
theorem Row.filter7 {l : List Sg} (h : Row l) (p : Sg → Bool) : Row (l.filter p) := ⟨h.1.sublist List.filter_sublist, fun s hs => h.2 s (List.mem_filter.1 hs).1⟩
theorem Row.ins7 {l : List Sg} (h : Row l) {s : Sg} (hs : KeyOK s) : Row (insL s l) := by
 unfold insL
 refine ⟨List.pairwise_append.2 ⟨h.1.sublist List.filter_sublist, List.pairwise_cons.2 ⟨fun x hx => by simpa using (List.mem_filter.1 hx).2, h.1.sublist List.filter_sublist⟩, fun a ha b hb => ?_⟩, fun x hx => ?_⟩
 ·have h1 : ky a < ky s := by simpa using (List.mem_filter.1 ha).2
  rcases List.mem_cons.1 hb with rfl | hb
  ·exact h1
  ·have h2 : ky s < ky b := by simpa using (List.mem_filter.1 hb).2
   omega
 ·rcases List.mem_append.1 hx with hx | hx
  ·exact h.2 x (List.mem_filter.1 hx).1
  ·rcases List.mem_cons.1 hx with rfl | hx
   ·exact hs
   ·exact h.2 x (List.mem_filter.1 hx).1
theorem ins_len_new {s : Sg} {l : List Sg} (h : hasK (ky s) l = false) : (insL s l).length = l.length + 1 := by
 have key : ∀ l : List Sg, hasK (ky s) l = false → (l.filter (fun x => decide (ky x < ky s))).length + (l.filter (fun x => decide (ky s < ky x))).length = l.length := by
  intro l
  induction l with
  | nil => simp
  | cons x l ih =>
   intro h
   have h1 : ky x ≠ ky s := hasK_none h x (by simp)
   have h2 := ih (by unfold hasK at h ⊢; simp at h ⊢; exact h.2)
   by_cases hx : ky x < ky s
   ·have h3 : ¬ ky s < ky x := by omega
    simp [hx, h3]; omega
   ·have h3 : ky s < ky x := by omega
    simp [hx, h3]; omega
 have := key l h
 unfold insL
 simp; omega
theorem ins_len_old {s : Sg} {l : List Sg} (hr : Row l) (h : hasK (ky s) l = true) : (insL s l).length = l.length := by
 obtain ⟨A, x, B, rfl, hx⟩ := hasK_split h
 have h1 := hr.1
 have ha : ∀ y ∈ A, ky y < ky s := fun y hy => by rw [← hx]; exact (List.pairwise_append.1 h1).2.2 y hy x (by simp)
 have hb : ∀ y ∈ B, ky s < ky y := fun y hy => by rw [← hx]; exact (List.pairwise_cons.1 (List.pairwise_append.1 h1).2.1).1 y hy
 rw [ins_old hx ha hb]
 simp
theorem del_len {k : Int} {l : List Sg} (hr : Row l) (h : hasK k l = true) : (delL k l).length + 1 = l.length := by
 obtain ⟨A, x, B, rfl, hx⟩ := hasK_split h
 rw [(del_split hr hx).1]
 simp; omega
theorem sum_hi (m : Nat) (ps : List (List Sg)) (h : ∀ p ∈ ps, p.length + 1 ≤ m) : sumL ps + ps.length ≤ ps.length * m := by
 induction ps with
 | nil => simp [sumL]
 | cons p ps ih =>
  have h1 := h p (by simp)
  have h2 := ih fun q hq => h q (by simp [hq])
  have e : sumL (p :: ps) = p.length + sumL ps := by simp [sumL]
  rw [e, List.length_cons, Nat.succ_mul]
  omega
theorem Sub.hi {d : Nat} (hd : 2 ≤ d) {S : StB'} : ∀ {h lo i : Nat} {L : List Sg} {F : List Nat}, Sub d S h lo i L F → L.length + 1 ≤ (2 * d) ^ (h + 1)
 | 0, lo, i, L, F, ⟨h1, h2, h3, h4⟩ => by simp; omega
 | h + 1, lo, i, L, F, ⟨l, cs, h1, h2, h3, h4, h5, h6, h7⟩ => by
  have key := sum_hi ((2 * d) ^ (h + 1)) (cs.map Ch.L) (by
   intro p hp
   obtain ⟨c, hc, rfl⟩ := List.mem_map.1 hp
   exact Sub.hi hd (h5 c hc))
  have hlen := inter_len l (cs.map Ch.L) (by simpa using h4)
  rw [List.length_map, h4] at key
  have h8 : (l.length + 1) * (2 * d) ^ (h + 1) ≤ (2 * d) * (2 * d) ^ (h + 1) := Nat.mul_le_mul_right _ (by omega)
  rw [h6, hlen, Nat.pow_succ _ (h + 1), Nat.mul_comm _ (2 * d)]
  omega
theorem can_pos7 {s a : Int} (h : canS s a = s ∧ canA s a = a) (hs : 0 < s) : s = 1 ∧ a = 0 := by
 unfold canS canA at h
 grind
def BB (X : Nat → Prop) (w : World) (tb : Nat) (d : Nat) (room : Int) (l : List Sg) : Prop :=
 ∃ (ab : Nat) (lv fv : Value) (σ : List (Option Bn)) (free : List Int) (root : Int) (S : StB), MemB w tb ab lv fv σ free root (d : Int) room (l.length : Int) S ∧ PT d S root l ∧ Row l ∧ (2 ≤ d ∧ d ≤ 64) ∧ (l.length : Int) ≤ room ∧ room ≤ 4096 ∧ ∀ k, FootB tb ab lv fv σ k → X k
section
variable {w w' : World} {tb d : Nat} {room : Int} {l : List Sg} {X Y : Nat → Prop}
theorem BB.mod {R : Nat → Prop} (h : BB X w tb d room l) (hm : Mod R w w') (hs : ∀ k, X k → k < w.heap.size → ¬ R k) : BB X w' tb d room l := by
 obtain ⟨ab, lv, fv, σ, free, root, S, h1, h2, h3, h4, h5, h6, h7⟩ := h
 exact ⟨ab, lv, fv, σ, free, root, S, h1.mod hm fun k hk => hs k (h7 k hk) (h1.lt hk), h2, h3, h4, h5, h6, h7⟩
theorem BB.mod0 (h : BB X w tb d room l) (hm : Mod (fun _ => False) w w') : BB X w' tb d room l := h.mod hm fun _ _ _ h => h
theorem BB.mono (h : BB X w tb d room l) (hs : ∀ k, X k → k < w.heap.size → Y k) : BB Y w tb d room l := by
 obtain ⟨ab, lv, fv, σ, free, root, S, h1, h2, h3, h4, h5, h6, h7⟩ := h
 exact ⟨ab, lv, fv, σ, free, root, S, h1, h2, h3, h4, h5, h6, fun k hk => hs k (h7 k hk) (h1.lt hk)⟩
theorem bb_bound (h : BB X w tb d room l) : (l.length : Int) ≤ room ∧ room ≤ 4096 := by
 obtain ⟨ab, lv, fv, σ, free, root, S, h1, h2, h3, h4, h5, h6, h7⟩ := h
 exact ⟨h5, h6⟩
theorem bb_row (h : BB X w tb d room l) : Row l := by
 obtain ⟨ab, lv, fv, σ, free, root, S, h1, h2, h3, h4, h5, h6, h7⟩ := h
 exact h3
def PutP7 (X : Nat → Prop) (w : World) (tb d : Nat) (room : Int) (l : List Sg) (s : Sg) (e : Ending) (w' : World) : Prop :=
 e = .returned (.int .i64 (putE room s l)) ∧ BB (fun k => X k ∨ w.heap.size ≤ k) w' tb d room (putL room s l) ∧ Mod X w w'
theorem bb_put (h : BB X w tb d room l) (s : Sg) (hf : fit64 s.la) : Calls Tryz.prog 110 #[.pointer (some ⟨tb, 0, none⟩), .agg (encS s).toArray] w fun e w' => PutP7 X w tb d room l s e w' := by
 have h0 := h
 obtain ⟨ab, lv, fv, σ, free, root, S, h1, h2, h3, h4, h5, h6, h7⟩ := h
 have hgrow : ∀ {w' : World} {L : List Sg}, Row L → (L.length : Int) ≤ room → PutQ7 w tb ab lv fv σ d room (L.length : Int) L w' → BB (fun k => X k ∨ w.heap.size ≤ k) w' tb d room L ∧ Mod X w w' := by
  rintro w' L hL hl ⟨S', lv', fv', σ', free', root', T1, T2, T3, T4⟩
  exact ⟨⟨ab, lv', fv', σ', free', root', S', T1, T2, hL, h4, hl, h6, fun k hk => (T4 k hk).imp (h7 k) id⟩, T3.mono fun i hi => .inl (h7 i hi)⟩
 have hsame : ∀ {w' : World}, Mod (fun _ => False) w w' → BB (fun k => X k ∨ w.heap.size ≤ k) w' tb d room l ∧ Mod X w w' := fun m =>
  ⟨(h0.mod0 m).mono fun k hk _ => .inl hk, m.mono fun _ h => h.elim⟩
 unfold PutP7 putE putL
 by_cases hc : canS s.ls s.la = s.ls ∧ canA s.ls s.la = s.la
 ·by_cases hs : 0 < s.ls
  ·have hk : okB s = false := decide_eq_false fun h => by have := h.2.2; omega
   rw [hk]
   refine (putBZ_arg2 h1 h4 h2 h3 s hf (can_pos7 hc hs)).mono ?_
   rintro e w' ⟨rfl, hm⟩
   exact ⟨rfl, hsame hm⟩
  ·have hk' : okKey s.ls s.la := ⟨hc.1, hc.2, by omega⟩
   have hk : okB s = true := by unfold okB; simpa using hk'
   rw [hk]
   simp only [if_true]
   by_cases ho : hasK (ky s) l = true
   ·rw [ho]
    refine (putBZ_old h1 h4 h2 h3 s hf hk' ho).mono ?_
    rintro e w' ⟨rfl, hq⟩
    have hlen : (insL s l).length = l.length := ins_len_old h3 ho
    simp only [if_true]
    exact ⟨trivial, hgrow (h3.ins7 ⟨hk', hf⟩) (by rw [hlen]; exact h5) (by rw [hlen]; exact hq)⟩
   ·replace ho : hasK (ky s) l = false := by simpa using ho
    rw [ho]
    simp only [Bool.false_eq_true, if_false]
    by_cases hz : room ≤ l.length
    ·rw [if_pos hz, if_pos hz]
     refine (putBZ_full h1 h4 h2 h3 s hf hk' ho hz).mono ?_
     rintro e w' ⟨rfl, hm⟩
     exact ⟨rfl, hsame hm⟩
    ·rw [if_neg hz, if_neg hz]
     refine (putBZ_new h1 h4 h2 h3 s hf hk' ho (by omega) h5 (by omega)).mono ?_
     rintro e w' ⟨rfl, hq⟩
     have hlen : (insL s l).length = l.length + 1 := ins_len_new ho
     exact ⟨rfl, hgrow (h3.ins7 ⟨hk', hf⟩) (by rw [hlen]; omega) (by rw [hlen]; simpa using hq)⟩
 ·have hk : okB s = false := decide_eq_false fun h => hc ⟨h.1, h.2.1⟩
  rw [hk]
  refine (putBZ_arg1 h1 h4 h2 h3 s hf hc).mono ?_
  rintro e w' ⟨rfl, hm⟩
  exact ⟨rfl, hsame hm⟩
def DelP7 (X : Nat → Prop) (w : World) (tb d : Nat) (room : Int) (l : List Sg) (k : Int) (e : Ending) (w' : World) : Prop :=
 e = .returned (.bool (hasK k l)) ∧ BB (fun k => X k ∨ w.heap.size ≤ k) w' tb d room (delL k l) ∧ Mod X w w'
theorem bb_del (h : BB X w tb d room l) (cs ca : Int) (hf : fit64 ca) : Calls Tryz.prog 102 #[.pointer (some ⟨tb, 0, none⟩), .agg #[.int .i64 cs, .int .i64 ca]] w fun e w' => DelP7 X w tb d room l (kx cs ca) e w' := by
 have h0 := h
 obtain ⟨ab, lv, fv, σ, free, root, S, h1, h2, h3, h4, h5, h6, h7⟩ := h
 unfold DelP7
 by_cases ho : hasK (kx cs ca) l = true
 ·rw [ho]
  have hl := del_len h3 ho
  refine (delBZ_yes h1 h4 h2 h3 (by omega) cs ca hf ho).mono ?_
  rintro e w' ⟨rfl, S', lv', fv', σ', free', root', T1, T2, T3, T4⟩
  rw [show (l.length : Int) - 1 = ((delL (kx cs ca) l).length : Int) by omega] at T1
  exact ⟨rfl, ⟨ab, lv', fv', σ', free', root', S', T1, T2, h3.filter7 _, h4, by omega, h6, fun k hk => (T4 k hk).imp (h7 k) id⟩, T3.mono fun i hi => .inl (h7 i hi)⟩
 ·replace ho : hasK (kx cs ca) l = false := by simpa using ho
  rw [ho, del_none ho]
  refine (delBZ_no h1 h4 h2 h3 cs ca hf ho).mono ?_
  rintro e w' ⟨rfl, hm⟩
  exact ⟨rfl, (h0.mod0 hm).mono fun k hk _ => .inl hk, hm.mono fun _ h => h.elim⟩
theorem pt_nil (d : Nat) : PT d (fun _ => none) (-1) [] := .inl ⟨rfl, rfl, fun _ => rfl⟩
theorem row_nil7 : Row [] := ⟨List.Pairwise.nil, fun s hs => by simp at hs⟩
theorem bb_clear (h : BB X w tb d room l) : Calls Tryz.prog 101 #[.pointer (some ⟨tb, 0, none⟩)] w fun e w' => e = .returned (.tuple #[]) ∧ BB (fun k => X k ∨ w.heap.size ≤ k) w' tb d room [] ∧ Mod X w w' := by
 obtain ⟨ab, lv, fv, σ, free, root, S, h1, h2, h3, h4, h5, h6, h7⟩ := h
 refine (clearBZ h1).mono ?_
 rintro e w' ⟨rfl, T1, hm⟩
 refine ⟨rfl, ⟨ab, _, _, [], [], -1, _, T1, pt_nil d, row_nil7, h4, by simp; omega, h6, fun k hk => .inl (h7 k ?_)⟩, hm.mono fun i hi => .inl (h7 i hi)⟩
 rcases footB_nil hk with rfl | rfl
 ·exact .inl rfl
 ·exact .inr (.inl (.inl rfl))
theorem bb_len (h : BB X w tb d room l) : Calls Tryz.prog 108 #[.pointer (some ⟨tb, 0, none⟩)] w fun e w' => e = .returned (.int .i64 l.length) ∧ Mod (fun _ => False) w w' := by
 obtain ⟨ab, lv, fv, σ, free, root, S, h1, h2, h3, h4, h5, h6, h7⟩ := h
 exact lenBZ h1
theorem bb_room (h : BB X w tb d room l) : Calls Tryz.prog 111 #[.pointer (some ⟨tb, 0, none⟩)] w fun e w' => e = .returned (.int .i64 room) ∧ Mod (fun _ => False) w w' := by
 obtain ⟨ab, lv, fv, σ, free, root, S, h1, h2, h3, h4, h5, h6, h7⟩ := h
 exact roomBZ h1
theorem bb_degree (h : BB X w tb d room l) : Calls Tryz.prog 54 #[.pointer (some ⟨tb, 0, none⟩)] w fun e w' => e = .returned (.int .i64 (d : Int)) ∧ Mod (fun _ => False) w w' := by
 obtain ⟨ab, lv, fv, σ, free, root, S, h1, h2, h3, h4, h5, h6, h7⟩ := h
 exact degBZ h1
theorem bb_floor (h : BB X w tb d room l) (cs ca : Int) (hf : fit64 ca) : Calls Tryz.prog 104 #[.pointer (some ⟨tb, 0, none⟩), .agg #[.int .i64 cs, .int .i64 ca]] w fun e w' => e = .returned (optS (nearS false true (kx cs ca) l)) ∧ Mod (fun _ => False) w w' := by
 obtain ⟨ab, lv, fv, σ, free, root, S, h1, h2, h3, h4, h5, h6, h7⟩ := h
 exact floorBZ h1 h4.2 h2 h3 hf
theorem bb_lower (h : BB X w tb d room l) (cs ca : Int) (hf : fit64 ca) : Calls Tryz.prog 109 #[.pointer (some ⟨tb, 0, none⟩), .agg #[.int .i64 cs, .int .i64 ca]] w fun e w' => e = .returned (optS (nearS false false (kx cs ca) l)) ∧ Mod (fun _ => False) w w' := by
 obtain ⟨ab, lv, fv, σ, free, root, S, h1, h2, h3, h4, h5, h6, h7⟩ := h
 exact lowerBZ h1 h4.2 h2 h3 hf
theorem bb_ceil (h : BB X w tb d room l) (cs ca : Int) (hf : fit64 ca) : Calls Tryz.prog 99 #[.pointer (some ⟨tb, 0, none⟩), .agg #[.int .i64 cs, .int .i64 ca]] w fun e w' => e = .returned (optS (nearS true true (kx cs ca) l)) ∧ Mod (fun _ => False) w w' := by
 obtain ⟨ab, lv, fv, σ, free, root, S, h1, h2, h3, h4, h5, h6, h7⟩ := h
 exact ceilBZ h1 h4.2 h2 h3 hf
theorem bb_high (h : BB X w tb d room l) (cs ca : Int) (hf : fit64 ca) : Calls Tryz.prog 106 #[.pointer (some ⟨tb, 0, none⟩), .agg #[.int .i64 cs, .int .i64 ca]] w fun e w' => e = .returned (optS (nearS true false (kx cs ca) l)) ∧ Mod (fun _ => False) w w' := by
 obtain ⟨ab, lv, fv, σ, free, root, S, h1, h2, h3, h4, h5, h6, h7⟩ := h
 exact highBZ h1 h4.2 h2 h3 hf
theorem bb_get (h : BB X w tb d room l) (cs ca : Int) (hf : fit64 ca) : Calls Tryz.prog 105 #[.pointer (some ⟨tb, 0, none⟩), .agg #[.int .i64 cs, .int .i64 ca]] w fun e w' => e = .returned (optS (getS (kx cs ca) l)) ∧ Mod (fun _ => False) w w' := by
 obtain ⟨ab, lv, fv, σ, free, root, S, h1, h2, h3, h4, h5, h6, h7⟩ := h
 exact getBZ h1 h4.2 h2 h3 hf
theorem bb_first (h : BB X w tb d room l) : Calls Tryz.prog 103 #[.pointer (some ⟨tb, 0, none⟩)] w fun e w' => e = .returned (optS l.head?) ∧ Mod (fun _ => False) w w' := by
 obtain ⟨ab, lv, fv, σ, free, root, S, h1, h2, h3, h4, h5, h6, h7⟩ := h
 exact firstBZ h1 h4.2 h2 h3
theorem bb_last (h : BB X w tb d room l) : Calls Tryz.prog 107 #[.pointer (some ⟨tb, 0, none⟩)] w fun e w' => e = .returned (optS l.getLast?) ∧ Mod (fun _ => False) w w' := by
 obtain ⟨ab, lv, fv, σ, free, root, S, h1, h2, h3, h4, h5, h6, h7⟩ := h
 exact lastBZ h1 h4.2 h2 h3
theorem bb_new (hd : 2 ≤ d ∧ d ≤ 64) (h0 : 0 ≤ room ∧ room ≤ 4096) (w : World) : Calls Tryz.prog 63 #[.int .i64 (d : Int), .int .i64 room] w fun e w' => ∃ tb, e = .returned (.tuple #[.pointer (some ⟨tb, 0, none⟩), .int .i64 0]) ∧ BB (fun k => w.heap.size ≤ k) w' tb d room [] ∧ w.heap.size ≤ tb ∧ Mod (fun _ => False) w w' := by
 refine (newBZ (d : Int) room (by omega) h0 w).mono ?_
 rintro e w' ⟨tb, rfl, T1, hz, hm⟩
 refine ⟨tb, rfl, ⟨_, _, _, [], [], -1, _, T1, pt_nil d, row_nil7, hd, by simp; omega, h0.2, fun k hk => ?_⟩, hz, hm⟩
 rcases footB_nil hk with rfl | rfl
 ·exact hz
 ·exact Nat.le_refl _
end
end Go.Proofs.Bo
