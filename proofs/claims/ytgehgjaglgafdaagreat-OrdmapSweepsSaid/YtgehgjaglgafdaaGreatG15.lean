import Derived.Test.YtgehgjaglgafdaaGreatG14
import Derived.Test.YtgehgjaglgafdaaGreatG09
import Derived.Deep.DeepCutAuto
import Derived.BigQuiet
set_option linter.unusedVariables false
set_option linter.unusedSimpArgs false
namespace Go.Proofs.Bo
open Go Go.RowKit
section
variable {w w' : World} {tb ab N : Nat} {lv fv : Value} {room : Int} {free : List Int} {t : T}
set_option maxHeartbeats 4000000 in
set_option maxRecDepth 100000 in
theorem sinkZ {c : Ctx} {X : T} {n lb cp : Nat} (h : TS w tb ab (.slice (some ⟨lb, 0, none⟩) N cp) fv room N free (plug c X)) (ho : SinkO c X n) :
  Calls Tryz.prog 175 #[.pointer (some ⟨tb, 0, none⟩), .int .i64 X.ix, .int .i64 (cix c)] w fun e w' => e = .returned (.tuple #[]) ∧ RiseQ w tb ab (.slice (some ⟨lb, 0, none⟩) N cp) fv room N free (plug c X).toL w' := by
 obtain ⟨L, hL⟩ : ∃ L, (plug c X).toL = L := ⟨_, rfl⟩
 rw [hL]
 replace hL := hid hL
 go_enter Tryz.func175, Tryz.ntmps175
 go_wp2_with fail
 go_loopg [1, 2] (2 * c.length + (if X.red then 0 else 1)) (fun g v1 v2 W => SinkR w tb ab (.slice (some ⟨lb, 0, none⟩) N cp) fv room N free L g v1 v2 W)
 case atStart => exact ⟨c, X, n, rfl, rfl, rfl, h, ho, hL.out, Mod.refl _ _⟩
 case round =>
  clear hL ho h
  clear c X n
  obtain ⟨c, X, n, hg0, rfl, rfl, h, ho, hL, hM⟩ := hrel
  replace hg0 := hid hg0
  by_cases hx : c = [] ∨ X.red = true
  ·-- the loop's end
   have hF := hid (sinkE0 ho hx)
   replace hL := hid hL
   cases X with
   | E =>
    obtain rfl : c = [] := by
     rcases hx with e | e
     ·exact e
     ·cases e
    simp only [cix, T.ix_E]
    go_wp2_with fail
    go_end0
    exact ⟨rfl, _, h, hF.out, hL.out, hM⟩
   | N i b s l r =>
    obtain ⟨k, rfl⟩ := h.nat (i := i) ((mem_plug ..).2 (.inr (by simp [T.ids])))
    have R := redZ h
    have hN := h.node
    have A := hN.at'
    have c8 := hN.c8
    have f8 := hN.f8
    clear hN
    obtain ⟨h2, M2⟩ := h.recol false
    have hend := hid (show RiseQ w tb ab (.slice (some ⟨lb, 0, none⟩) N cp) fv room N free L _ from ⟨_, h2, hF.out, (toL_congr c (by rfl)).trans hL.out, hM.trans' M2⟩)
    have hk0 : ((k : Int) != -1) = true := by simp
    simp only [T.ix, T.red] at R hx ⊢
    clear h ho h2 M2 hF hL hM
    rcases hx with rfl | rfl
    ·simp only [cix]
     go_wp2_with fail
     refine A.mono ?_; rintro e w' ⟨rfl, hw⟩; subst hw
     go_wp2_with fail
     go_end0
     exact ⟨rfl, hend.out⟩
    ·by_cases hc : cix c = -1
     ·rw [hc]
      go_wp2_with fail
      refine A.mono ?_; rintro e w' ⟨rfl, hw⟩; subst hw
      go_wp2_with fail
      go_end0
      exact ⟨rfl, hend.out⟩
     ·have hc0 : (cix c != -1) = true := by simpa using hc
      replace hc := hid hc
      go_wp2_with fail
      refine R.mono ?_; rintro e w' ⟨rfl, hw⟩; subst hw
      go_wp2_with fail
      refine A.mono ?_; rintro e w' ⟨rfl, hw⟩; subst hw
      go_wp2_with fail
      go_end0
      exact ⟨rfl, hend.out⟩
  ·obtain ⟨hc, hX⟩ : c ≠ [] ∧ X.red = false := by
    constructor
    ·exact fun e => hx (.inl e)
    ·cases hr : X.red with
     | false => rfl
     | true => exact absurd (.inr hr) hx
   clear hx
   cases c with
   | nil => exact absurd rfl hc
   | cons a c =>
   obtain ⟨d, p, b, sp, o⟩ := a
   obtain ⟨h1, h2, hoE, h4⟩ := sink_sib ho hX
   replace h4 := hid h4
   obtain ⟨kp, rfl⟩ := h.nat (i := p) ((mem_plug ..).2 (.inl (by simp [cids])))
   have R := redZ h
   rw [hX] at R
   have hg1 : gk = 2 * (c.length + 1) + 1 := by rw [hg0.out, hX]; rfl
   clear hg0
   replace hg1 := hid hg1
   have S := sideZ (a := ⟨d, kp, b, sp, o⟩) (c := c) h (fun _ => hoE)
   have hP := h.node_mk (c := c) (d := d) (k := kp)
   have AP := hP.at'
   have p5 := hP.c5
   have p6 := hP.c6
   have RO := redZ h.flip
   clear hP hc
   have hp0 : ((kp : Int) != -1) = true := by simp
   simp only [cix]
   cases d
   all_goals
    simp only [di, if_true, if_false, Bool.false_eq_true] at p5 p6 S
    go_wp2_with fail
    refine R.mono ?_; rintro e w' ⟨rfl, hw⟩; subst hw
    go_wp2_with fail
    refine S.mono ?_; rintro e w' ⟨rfl, hw⟩; subst hw
    go_wp2_with fail
    refine AP.mono ?_; rintro e w' ⟨rfl, hw⟩; subst hw
    go_wp2_with fail
    refine RO.mono ?_; rintro e w' ⟨rfl, hw⟩; subst hw
    clear R S RO p5 p6 h1 h2 h4
    go_upto_if 33 with fail
   ·go_cut [7] (fun v7 W => SinkC w tb ab (.slice (some ⟨lb, 0, none⟩) N cp) fv room N free L gk false kp X v7 W)
    case first =>
     obtain ⟨kw, ow, sw, A, B, rfl⟩ : ∃ kw ow sw A B, o = T.mk false kw ow sw A B := by
      cases o with
      | E => exact absurd rfl hoE
      | N i b s l r => exact ⟨_, _, _, _, _, T.N_mk _ _ _ _ _ false⟩
     clear hoE
     rw [ix_mk, red_mk]
     obtain ⟨kw, rfl⟩ := h.nat (i := kw) ((mem_plug ..).2 (.inl (by simp [cids, T.mk, T.ids])))
     cases ow
     ·have hK := hid (sink_black ho hX)
      replace hL := hid hL
      clear ho hX hp0 AP
      go_wp2_with fail
      go_meet
      exact ⟨c, b, sp, kw, sw, A, B, n, by rw [hg1.out]; split <;> omega, rfl, h, hK.out, hL.out, hM⟩
     ·obtain ⟨rfl, ka, sa, x, y, rfl, hK⟩ := sink_red ho hX
      obtain ⟨ka, rfl⟩ := h.nat (i := ka) ((mem_plug ..).2 (.inl (by simp [cids, T.mk, T.ids])))
      obtain ⟨P1, P2, P3, P4, P5, P6⟩ := sinkP h
      replace hK := hid hK
      have hL2 := hid ((toL_sinkA (b := false) (b' := true) (b1 := true) (b1' := false)).trans hL)
      simp only [di, if_true, if_false, Bool.false_eq_true] at P6
      clear ho hX hL h
      go_wp2_with fail
      refine P1.mono ?_; rintro e w' ⟨rfl, hw⟩; subst hw
      go_wp2_with fail
      refine AP.mono ?_; rintro e w' ⟨rfl, hw⟩; subst hw
      go_wp2_with fail
      refine P6.mono ?_; rintro e w3 ⟨rfl, h3, M3⟩
      clear P1 P2 P3 P4 P5 P6 AP
      have hP := TS.node_mk (c := ⟨false, kw, false, sw, B⟩ :: c) (d := false) (k := kp) h3
      have AP := hP.at'
      have p5 := hP.c6
      clear hP
      simp only [ix_mk, if_true, if_false, Bool.false_eq_true] at p5
      go_wp2_with fail
      refine AP.mono ?_; rintro e w' ⟨rfl, hw⟩; subst hw
      go_wp2_with fail
      go_meet
      exact ⟨⟨false, kw, false, sw, B⟩ :: c, true, sp, ka, sa, x, y, n, by rw [hg1.out]; simp only [List.length_cons, if_true]; omega, rfl, h3, hK.out, hL2.out, hM.trans' M3⟩
    case rest =>
     clear h hM hL ho hX hoE AP hp0
     obtain ⟨c1, b, sp, k, s, A, B, n, hg, rfl, h, hK, hL, hM⟩ := hcut
     replace hg := hid hg
     replace hK := hid hK
     replace hL := hid hL
     have H := fun n => (TS.node_mk (c := ⟨!false, kp, b, sp, X⟩ :: c1) (d := false) (k := k) (h.flip.drewN n)).at'
     have hN := TS.node_mk (c := ⟨!false, kp, b, sp, X⟩ :: c1) (d := false) (k := k) h.flip
     have k5 := hN.c5
     have k6 := hN.c6
     clear hN
     simp only [if_true, if_false, Bool.false_eq_true] at k5 k6
     go_wp2_with fail
     go_quiet ((go_at_call 169; exact Calls.quiet_of_same (H _)))
     clear H k5 k6
     replace h := h.drewN nq
     replace hM := hM.drewN nq
     generalize wc.drewN nq = W at h hM ⊢
     have RA := redZ (c := ⟨false, k, false, s, B⟩ :: ⟨!false, kp, b, sp, X⟩ :: c1) (X := A) h.flip
     have RB := redZ (c := ⟨!false, k, false, s, A⟩ :: ⟨!false, kp, b, sp, X⟩ :: c1) (X := B) h.flip.flip
     go_wp2_with fail
     refine RA.mono ?_; rintro e w' ⟨rfl, hw⟩; subst hw
     by_cases hB : B.red = true
     ·by_cases hA : A.red = true
      ·rw [hA]
       replace hA := hid hA
       obtain ⟨kf, sf, F1, F2, rfl⟩ : ∃ i s l r, B = .N i true s l r := by
        cases B with
        | E => cases hB
        | N i b s l r => rw [T.red_N] at hB; subst hB; exact ⟨_, _, _, _, rfl⟩
       obtain ⟨kf, rfl⟩ := h.nat (i := kf) ((mem_plug ..).2 (.inl (by simp [cids, T.mk, T.ids])))
       simp only [T.red_N, T.ix_N] at RB hB ⊢
       clear hB
       go_wp2_with fail
       refine RB.mono ?_; rintro e w' ⟨rfl, hw⟩; subst hw
       clear RA RB
       obtain ⟨F1', F2', F3', F4', F5', F6', F7', F8', F9', F10', F11', F12'⟩ := sinkF h
       replace hK := hid (sink_3 (d := false) (p := kp) (w := k) (sp := sp) (sw := s) hK.out)
       replace hL := hid ((toL_sinkF (b1 := b) (b2 := false) (b3 := false)).trans hL.out)
       simp only [di, if_true, if_false, Bool.false_eq_true] at F12'
       clear h
       go_wp2_with fail
       refine F1'.mono ?_; rintro e w' ⟨rfl, hw⟩; subst hw
       go_wp2_with fail
       refine F2'.mono ?_; rintro e w' ⟨rfl, hw⟩; subst hw
       clear F1' F2'
       go_wp2_with fail
       refine F6'.mono ?_; rintro e w' ⟨rfl, hw⟩; subst hw
       go_wp2_with fail
       refine F7'.mono ?_; rintro e w' ⟨rfl, hw⟩; subst hw
       clear F6' F7'
       go_wp2_with fail
       refine F12'.mono ?_; rintro e w3 ⟨rfl, h3, M3⟩
       clear F12'
       go_wp2_with fail
       (try simp only [Exit.inBlock, Exit.then]); refine bodyPost_ret (results_none rfl _ _ _) rfl ?_
       exact ⟨rfl, _, h3, hK.out, hL.out, hM.trans' M3⟩
      ·replace hA : A.red = false := by simpa using hA
       rw [hA]
       replace hA := hid hA
       obtain ⟨kf, sf, F1, F2, rfl⟩ : ∃ i s l r, B = .N i true s l r := by
        cases B with
        | E => cases hB
        | N i b s l r => rw [T.red_N] at hB; subst hB; exact ⟨_, _, _, _, rfl⟩
       obtain ⟨kf, rfl⟩ := h.nat (i := kf) ((mem_plug ..).2 (.inl (by simp [cids, T.mk, T.ids])))
       simp only [T.red_N, T.ix_N] at RB hB ⊢
       clear hB
       go_wp2_with fail
       refine RB.mono ?_; rintro e w' ⟨rfl, hw⟩; subst hw
       go_wp2_with fail
       refine RB.mono ?_; rintro e w' ⟨rfl, hw⟩; subst hw
       clear RA RB
       obtain ⟨F1', F2', F3', F4', F5', F6', F7', F8', F9', F10', F11', F12'⟩ := sinkF h
       replace hK := hid (sink_3 (d := false) (p := kp) (w := k) (sp := sp) (sw := s) hK.out)
       replace hL := hid ((toL_sinkF (b1 := b) (b2 := false) (b3 := false)).trans hL.out)
       simp only [di, if_true, if_false, Bool.false_eq_true] at F12'
       clear h
       go_wp2_with fail
       refine F1'.mono ?_; rintro e w' ⟨rfl, hw⟩; subst hw
       go_wp2_with fail
       refine F2'.mono ?_; rintro e w' ⟨rfl, hw⟩; subst hw
       clear F1' F2'
       go_wp2_with fail
       refine F6'.mono ?_; rintro e w' ⟨rfl, hw⟩; subst hw
       go_wp2_with fail
       refine F7'.mono ?_; rintro e w' ⟨rfl, hw⟩; subst hw
       clear F6' F7'
       go_wp2_with fail
       refine F12'.mono ?_; rintro e w3 ⟨rfl, h3, M3⟩
       clear F12'
       go_wp2_with fail
       (try simp only [Exit.inBlock, Exit.then]); refine bodyPost_ret (results_none rfl _ _ _) rfl ?_
       exact ⟨rfl, _, h3, hK.out, hL.out, hM.trans' M3⟩
     ·replace hB : B.red = false := by simpa using hB
      by_cases hA : A.red = true
      ·rw [hA]
       rw [hB] at RB
       obtain ⟨ka, sa, A1, A2, rfl⟩ : ∃ i s x y, A = T.mk false i true s x y := by
        cases A with
        | E => cases hA
        | N i b s l r => rw [T.red_N] at hA; subst hA; exact ⟨_, _, _, _, T.N_mk _ _ _ _ _ false⟩
       obtain ⟨ka, rfl⟩ := h.nat (i := ka) ((mem_plug ..).2 (.inl (by simp [cids, T.mk, T.ids])))
       rw [ix_mk]
       obtain ⟨G1, G2, G3, G4, G5, G6, G7⟩ := sinkG h
       replace hK := hid (sink_2 (w := k) (sw := s) hK.out hB)
       replace hL := hid ((toL_sinkG (b' := b) (b1 := false) (b2 := true)).trans hL.out)
       replace hB := hid hB
       replace hA := hid hA
       simp only [di, Bool.not_false, Bool.not_true, if_true, if_false, Bool.false_eq_true] at G7
       clear h
       go_wp2_with fail
       refine RB.mono ?_; rintro e w' ⟨rfl, hw⟩; subst hw
       go_wp2_with fail
       refine G1.mono ?_; rintro e w' ⟨rfl, hw⟩; subst hw
       go_wp2_with fail
       refine G2.mono ?_; rintro e w' ⟨rfl, hw⟩; subst hw
       clear G1 G2 RA RB
       go_wp2_with fail
       refine G7.mono ?_; rintro e w3 ⟨rfl, h, M3⟩
       clear G7 G3 G4 G5 G6
       replace hM := hM.trans' M3
       clear M3
       rw [show T.mk false k true s A2 B = .N k true s A2 B from rfl] at h hK hL
       obtain ⟨F1', F2', F3', F4', F5', F6', F7', F8', F9', F10', F11', F12'⟩ := sinkF h
       replace hK := hid (sink_3 (d := false) (p := kp) (w := ka) (sp := sp) (sw := sa) hK.out)
       replace hL := hid ((toL_sinkF (b1 := b) (b2 := false) (b3 := false)).trans hL.out)
       simp only [di, if_true, if_false, Bool.false_eq_true] at F12'
       clear h
       go_wp2_with fail
       refine F1'.mono ?_; rintro e w' ⟨rfl, hw⟩; subst hw
       go_wp2_with fail
       refine F2'.mono ?_; rintro e w' ⟨rfl, hw⟩; subst hw
       clear F1' F2'
       go_wp2_with fail
       refine F6'.mono ?_; rintro e w' ⟨rfl, hw⟩; subst hw
       go_wp2_with fail
       refine F7'.mono ?_; rintro e w' ⟨rfl, hw⟩; subst hw
       clear F6' F7'
       go_wp2_with fail
       refine F12'.mono ?_; rintro e w3 ⟨rfl, h3, M3⟩
       clear F12'
       go_wp2_with fail
       (try simp only [Exit.inBlock, Exit.then]); refine bodyPost_ret (results_none rfl _ _ _) rfl ?_
       exact ⟨rfl, _, h3, hK.out, hL.out, hM.trans' M3⟩
      ·replace hA : A.red = false := by simpa using hA
       obtain ⟨m, hO⟩ := sink_1 (d := false) (p := kp) (w := k) (sp := sp) (sw := s) hK.out hA hB
       rw [hA]
       rw [hB] at RB
       replace hA := hid hA
       replace hB := hid hB
       replace hO := hid hO
       have hN := TS.node_mk (c := ⟨!false, kp, b, sp, X⟩ :: c1) (d := false) (k := k) h.flip
       have AK := hN.at'
       have k8 := hN.c8
       have f8 := hN.f8
       clear hN
       obtain ⟨h2, M2⟩ := TS.recol_mk (c := ⟨!false, kp, b, sp, X⟩ :: c1) (d := false) (k := k) h.flip true
       replace h2 := h2.flip
       simp only [Bool.not_not] at h2
       go_wp2_with fail
       refine RB.mono ?_; rintro e w' ⟨rfl, hw⟩; subst hw
       go_wp2_with fail
       refine AK.mono ?_; rintro e w' ⟨rfl, hw⟩; subst hw
       go_wp2_with fail
       have HP := fun n => (TS.node_mk (c := c1) (d := false) (k := kp) (h2.drewN n)).at'
       have p7 := (TS.node_mk (c := c1) (d := false) (k := kp) h2).c7
       clear RA RB AK k8 f8
       go_quiet ((go_at_call 169; exact Calls.quiet_of_same (HP _)))
       go_wp2_with fail
       go_roundg (2 * c1.length + (if b then 0 else 1))
       case measure => exact hg.out
       case rel => exact ⟨c1, T.mk false kp b sp X (T.mk false k true s A B), m, by rw [red_mk], by rw [ix_mk], rfl, h2.drewN _, hO.out, (toL_congr c1 (by simp [toL_mk])).trans hL.out, (hM.trans' M2).drewN _⟩
   ·go_cut [7] (fun v7 W => SinkC w tb ab (.slice (some ⟨lb, 0, none⟩) N cp) fv room N free L gk true kp X v7 W)
    case first =>
     obtain ⟨kw, ow, sw, A, B, rfl⟩ : ∃ kw ow sw A B, o = T.mk true kw ow sw A B := by
      cases o with
      | E => exact absurd rfl hoE
      | N i b s l r => exact ⟨_, _, _, _, _, T.N_mk _ _ _ _ _ true⟩
     clear hoE
     rw [ix_mk, red_mk]
     obtain ⟨kw, rfl⟩ := h.nat (i := kw) ((mem_plug ..).2 (.inl (by simp [cids, T.mk, T.ids])))
     cases ow
     ·have hK := hid (sink_black ho hX)
      replace hL := hid hL
      clear ho hX hp0 AP
      go_wp2_with fail
      go_meet
      exact ⟨c, b, sp, kw, sw, A, B, n, by rw [hg1.out]; split <;> omega, rfl, h, hK.out, hL.out, hM⟩
     ·obtain ⟨rfl, ka, sa, x, y, rfl, hK⟩ := sink_red ho hX
      obtain ⟨ka, rfl⟩ := h.nat (i := ka) ((mem_plug ..).2 (.inl (by simp [cids, T.mk, T.ids])))
      obtain ⟨P1, P2, P3, P4, P5, P6⟩ := sinkP h
      replace hK := hid hK
      have hL2 := hid ((toL_sinkA (b := false) (b' := true) (b1 := true) (b1' := false)).trans hL)
      simp only [di, if_true, if_false, Bool.false_eq_true] at P6
      clear ho hX hL h
      go_wp2_with fail
      refine P1.mono ?_; rintro e w' ⟨rfl, hw⟩; subst hw
      go_wp2_with fail
      refine AP.mono ?_; rintro e w' ⟨rfl, hw⟩; subst hw
      go_wp2_with fail
      refine P6.mono ?_; rintro e w3 ⟨rfl, h3, M3⟩
      clear P1 P2 P3 P4 P5 P6 AP
      have hP := TS.node_mk (c := ⟨true, kw, false, sw, B⟩ :: c) (d := true) (k := kp) h3
      have AP := hP.at'
      have p5 := hP.c5
      clear hP
      simp only [ix_mk, if_true, if_false, Bool.false_eq_true] at p5
      go_wp2_with fail
      refine AP.mono ?_; rintro e w' ⟨rfl, hw⟩; subst hw
      go_wp2_with fail
      go_meet
      exact ⟨⟨true, kw, false, sw, B⟩ :: c, true, sp, ka, sa, x, y, n, by rw [hg1.out]; simp only [List.length_cons, if_true]; omega, rfl, h3, hK.out, hL2.out, hM.trans' M3⟩
    case rest =>
     clear h hM hL ho hX hoE AP hp0
     obtain ⟨c1, b, sp, k, s, A, B, n, hg, rfl, h, hK, hL, hM⟩ := hcut
     replace hg := hid hg
     replace hK := hid hK
     replace hL := hid hL
     have H := fun n => (TS.node_mk (c := ⟨!true, kp, b, sp, X⟩ :: c1) (d := true) (k := k) (h.flip.drewN n)).at'
     have hN := TS.node_mk (c := ⟨!true, kp, b, sp, X⟩ :: c1) (d := true) (k := k) h.flip
     have k5 := hN.c5
     have k6 := hN.c6
     clear hN
     simp only [if_true, if_false, Bool.false_eq_true] at k5 k6
     go_wp2_with fail
     go_quiet ((go_at_call 169; exact Calls.quiet_of_same (H _)))
     clear H k5 k6
     replace h := h.drewN nq
     replace hM := hM.drewN nq
     generalize wc.drewN nq = W at h hM ⊢
     have RA := redZ (c := ⟨true, k, false, s, B⟩ :: ⟨!true, kp, b, sp, X⟩ :: c1) (X := A) h.flip
     have RB := redZ (c := ⟨!true, k, false, s, A⟩ :: ⟨!true, kp, b, sp, X⟩ :: c1) (X := B) h.flip.flip
     go_wp2_with fail
     refine RA.mono ?_; rintro e w' ⟨rfl, hw⟩; subst hw
     by_cases hB : B.red = true
     ·by_cases hA : A.red = true
      ·rw [hA]
       replace hA := hid hA
       obtain ⟨kf, sf, F1, F2, rfl⟩ : ∃ i s l r, B = .N i true s l r := by
        cases B with
        | E => cases hB
        | N i b s l r => rw [T.red_N] at hB; subst hB; exact ⟨_, _, _, _, rfl⟩
       obtain ⟨kf, rfl⟩ := h.nat (i := kf) ((mem_plug ..).2 (.inl (by simp [cids, T.mk, T.ids])))
       simp only [T.red_N, T.ix_N] at RB hB ⊢
       clear hB
       go_wp2_with fail
       refine RB.mono ?_; rintro e w' ⟨rfl, hw⟩; subst hw
       clear RA RB
       obtain ⟨F1', F2', F3', F4', F5', F6', F7', F8', F9', F10', F11', F12'⟩ := sinkF h
       replace hK := hid (sink_3 (d := true) (p := kp) (w := k) (sp := sp) (sw := s) hK.out)
       replace hL := hid ((toL_sinkF (b1 := b) (b2 := false) (b3 := false)).trans hL.out)
       simp only [di, if_true, if_false, Bool.false_eq_true] at F12'
       clear h
       go_wp2_with fail
       refine F1'.mono ?_; rintro e w' ⟨rfl, hw⟩; subst hw
       go_wp2_with fail
       refine F2'.mono ?_; rintro e w' ⟨rfl, hw⟩; subst hw
       clear F1' F2'
       go_wp2_with fail
       refine F6'.mono ?_; rintro e w' ⟨rfl, hw⟩; subst hw
       go_wp2_with fail
       refine F7'.mono ?_; rintro e w' ⟨rfl, hw⟩; subst hw
       clear F6' F7'
       go_wp2_with fail
       refine F12'.mono ?_; rintro e w3 ⟨rfl, h3, M3⟩
       clear F12'
       go_wp2_with fail
       (try simp only [Exit.inBlock, Exit.then]); refine bodyPost_ret (results_none rfl _ _ _) rfl ?_
       exact ⟨rfl, _, h3, hK.out, hL.out, hM.trans' M3⟩
      ·replace hA : A.red = false := by simpa using hA
       rw [hA]
       replace hA := hid hA
       obtain ⟨kf, sf, F1, F2, rfl⟩ : ∃ i s l r, B = .N i true s l r := by
        cases B with
        | E => cases hB
        | N i b s l r => rw [T.red_N] at hB; subst hB; exact ⟨_, _, _, _, rfl⟩
       obtain ⟨kf, rfl⟩ := h.nat (i := kf) ((mem_plug ..).2 (.inl (by simp [cids, T.mk, T.ids])))
       simp only [T.red_N, T.ix_N] at RB hB ⊢
       clear hB
       go_wp2_with fail
       refine RB.mono ?_; rintro e w' ⟨rfl, hw⟩; subst hw
       go_wp2_with fail
       refine RB.mono ?_; rintro e w' ⟨rfl, hw⟩; subst hw
       clear RA RB
       obtain ⟨F1', F2', F3', F4', F5', F6', F7', F8', F9', F10', F11', F12'⟩ := sinkF h
       replace hK := hid (sink_3 (d := true) (p := kp) (w := k) (sp := sp) (sw := s) hK.out)
       replace hL := hid ((toL_sinkF (b1 := b) (b2 := false) (b3 := false)).trans hL.out)
       simp only [di, if_true, if_false, Bool.false_eq_true] at F12'
       clear h
       go_wp2_with fail
       refine F1'.mono ?_; rintro e w' ⟨rfl, hw⟩; subst hw
       go_wp2_with fail
       refine F2'.mono ?_; rintro e w' ⟨rfl, hw⟩; subst hw
       clear F1' F2'
       go_wp2_with fail
       refine F6'.mono ?_; rintro e w' ⟨rfl, hw⟩; subst hw
       go_wp2_with fail
       refine F7'.mono ?_; rintro e w' ⟨rfl, hw⟩; subst hw
       clear F6' F7'
       go_wp2_with fail
       refine F12'.mono ?_; rintro e w3 ⟨rfl, h3, M3⟩
       clear F12'
       go_wp2_with fail
       (try simp only [Exit.inBlock, Exit.then]); refine bodyPost_ret (results_none rfl _ _ _) rfl ?_
       exact ⟨rfl, _, h3, hK.out, hL.out, hM.trans' M3⟩
     ·replace hB : B.red = false := by simpa using hB
      by_cases hA : A.red = true
      ·rw [hA]
       rw [hB] at RB
       obtain ⟨ka, sa, A1, A2, rfl⟩ : ∃ i s x y, A = T.mk true i true s x y := by
        cases A with
        | E => cases hA
        | N i b s l r => rw [T.red_N] at hA; subst hA; exact ⟨_, _, _, _, T.N_mk _ _ _ _ _ true⟩
       obtain ⟨ka, rfl⟩ := h.nat (i := ka) ((mem_plug ..).2 (.inl (by simp [cids, T.mk, T.ids])))
       rw [ix_mk]
       obtain ⟨G1, G2, G3, G4, G5, G6, G7⟩ := sinkG h
       replace hK := hid (sink_2 (w := k) (sw := s) hK.out hB)
       replace hL := hid ((toL_sinkG (b' := b) (b1 := false) (b2 := true)).trans hL.out)
       replace hB := hid hB
       replace hA := hid hA
       simp only [di, Bool.not_false, Bool.not_true, if_true, if_false, Bool.false_eq_true] at G7
       clear h
       go_wp2_with fail
       refine RB.mono ?_; rintro e w' ⟨rfl, hw⟩; subst hw
       go_wp2_with fail
       refine G1.mono ?_; rintro e w' ⟨rfl, hw⟩; subst hw
       go_wp2_with fail
       refine G2.mono ?_; rintro e w' ⟨rfl, hw⟩; subst hw
       clear G1 G2 RA RB
       go_wp2_with fail
       refine G7.mono ?_; rintro e w3 ⟨rfl, h, M3⟩
       clear G7 G3 G4 G5 G6
       replace hM := hM.trans' M3
       clear M3
       rw [show T.mk true k true s A2 B = .N k true s B A2 from rfl] at h hK hL
       obtain ⟨F1', F2', F3', F4', F5', F6', F7', F8', F9', F10', F11', F12'⟩ := sinkF h
       replace hK := hid (sink_3 (d := true) (p := kp) (w := ka) (sp := sp) (sw := sa) hK.out)
       replace hL := hid ((toL_sinkF (b1 := b) (b2 := false) (b3 := false)).trans hL.out)
       simp only [di, if_true, if_false, Bool.false_eq_true] at F12'
       clear h
       go_wp2_with fail
       refine F1'.mono ?_; rintro e w' ⟨rfl, hw⟩; subst hw
       go_wp2_with fail
       refine F2'.mono ?_; rintro e w' ⟨rfl, hw⟩; subst hw
       clear F1' F2'
       go_wp2_with fail
       refine F6'.mono ?_; rintro e w' ⟨rfl, hw⟩; subst hw
       go_wp2_with fail
       refine F7'.mono ?_; rintro e w' ⟨rfl, hw⟩; subst hw
       clear F6' F7'
       go_wp2_with fail
       refine F12'.mono ?_; rintro e w3 ⟨rfl, h3, M3⟩
       clear F12'
       go_wp2_with fail
       (try simp only [Exit.inBlock, Exit.then]); refine bodyPost_ret (results_none rfl _ _ _) rfl ?_
       exact ⟨rfl, _, h3, hK.out, hL.out, hM.trans' M3⟩
      ·replace hA : A.red = false := by simpa using hA
       obtain ⟨m, hO⟩ := sink_1 (d := true) (p := kp) (w := k) (sp := sp) (sw := s) hK.out hA hB
       rw [hA]
       rw [hB] at RB
       replace hA := hid hA
       replace hB := hid hB
       replace hO := hid hO
       have hN := TS.node_mk (c := ⟨!true, kp, b, sp, X⟩ :: c1) (d := true) (k := k) h.flip
       have AK := hN.at'
       have k8 := hN.c8
       have f8 := hN.f8
       clear hN
       obtain ⟨h2, M2⟩ := TS.recol_mk (c := ⟨!true, kp, b, sp, X⟩ :: c1) (d := true) (k := k) h.flip true
       replace h2 := h2.flip
       simp only [Bool.not_not] at h2
       go_wp2_with fail
       refine RB.mono ?_; rintro e w' ⟨rfl, hw⟩; subst hw
       go_wp2_with fail
       refine AK.mono ?_; rintro e w' ⟨rfl, hw⟩; subst hw
       go_wp2_with fail
       have HP := fun n => (TS.node_mk (c := c1) (d := true) (k := kp) (h2.drewN n)).at'
       have p7 := (TS.node_mk (c := c1) (d := true) (k := kp) h2).c7
       clear RA RB AK k8 f8
       go_quiet ((go_at_call 169; exact Calls.quiet_of_same (HP _)))
       go_wp2_with fail
       go_roundg (2 * c1.length + (if b then 0 else 1))
       case measure => exact hg.out
       case rel => exact ⟨c1, T.mk true kp b sp X (T.mk true k true s A B), m, by rw [red_mk], by rw [ix_mk], rfl, h2.drewN _, hO.out, (toL_congr c1 (by simp [toL_mk])).trans hL.out, (hM.trans' M2).drewN _⟩
end
end Go.Proofs.Bo
