import Derived.Test.YtofgoehkahcajaaGreatTSG
set_option linter.unusedVariables false
set_option linter.unusedSimpArgs false
namespace Go.Proofs.Bo
open Go Go.RowKit

section
variable {w w' : World} {tb ab N : Nat} {lv fv : Value} {room : Int} {free : List Int} {t : T}

/-- The tree's own cells. -/
theorem TS.root (h : TS w tb ab lv fv room N free t) : w.cell? ⟨tb, 1, none⟩ = some (.int .i64 t.ix) ∧ w.cell? ⟨tb, 0, none⟩ = some (.pointer (some ⟨ab, 0, none⟩)) ∧ w.frozen? ⟨tb, 1, none⟩ = false := by
  obtain ⟨root, σ, m, hh, _⟩ := h
  obtain ⟨a, b⟩ := blkc m.t
  rw [hh.root] at a
  exact ⟨by rw [a]; rfl, by rw [a]; rfl, b 1⟩

theorem Fine.root {t : T} (h : Fine t) : t.black = t := by
  cases t with
  | E => rfl
  | N i b s l r => have := h.1; simp only [T.red] at this; subst this; rfl

set_option maxHeartbeats 2000000 in
set_option maxRecDepth 100000 in
theorem riseZ {c : Ctx} {n k : Nat} {s : Sg} {l r : T} {lb cp : Nat} (h : TS w tb ab (.slice (some ⟨lb, 0, none⟩) N cp) fv room N free (plug c (.N k true s l r))) (hb : RBT l n ∧ RBT r n ∧ l.red = false ∧ r.red = false ∧ RBC c n) :
    Calls Tryz.prog 33 #[.pointer (some ⟨tb, 0, none⟩), .int .i64 k] w fun e w' => e = .returned (.tuple #[]) ∧ RiseQ w tb ab (.slice (some ⟨lb, 0, none⟩) N cp) fv room N free (plug c (.N k true s l r)).toL w' := by
  obtain ⟨L, hL⟩ : ∃ L, (plug c (.N k true s l r)).toL = L := ⟨_, rfl⟩
  rw [hL]
  replace hL := hid hL
  go_enter Tryz.func33, Tryz.ntmps33
  go_wp2_with fail
  go_loopg [1] c.length (fun g vi W => RiseR w tb ab (.slice (some ⟨lb, 0, none⟩) N cp) fv room N free L g vi W)
  case atStart => exact ⟨c, n, k, s, l, r, rfl, rfl, h, hb, hL.out, Mod.refl _ _⟩
  case round =>
    clear hL hb h
    clear n s l r
    obtain ⟨c, n, k, s, l, r, rfl, rfl, h, ⟨b1, b2, b3, b4, b5⟩, hL, hM⟩ := hrel
    replace b3 := hid b3
    replace b4 := hid b4
    replace hL := hid hL
    have hN := h.node
    have nd1 := hN
    have A := nd1.at'
    have c7 := nd1.c7
    clear nd1 hN
    have R := redC h
    go_wp2_with fail
    refine A.mono ?_; rintro e w' ⟨rfl, hw⟩; subst hw
    go_wp2_with fail
    refine R.mono ?_; rintro e w' ⟨rfl, hw⟩; subst hw
    by_cases hc : cred c = true
    · match c, hc with
      | ⟨ad, p, ared, sa, ao⟩ :: c, hc =>
      obtain rfl : ared = true := hc
      match c, b5 with
      | [], b5 => exact absurd rfl b5.2.2.1
      | ⟨bd, q, bred, sb, bo⟩ :: c, b5 =>
      obtain ⟨b6, b7⟩ := b5
      simp only [if_true, cred] at b7
      obtain ⟨b7, _, rfl, b8⟩ := b7
      obtain ⟨b8, b9⟩ := b8
      simp only [Bool.false_eq_true, if_false] at b8 b9
      replace b7 := hid b7
      obtain ⟨kp, rfl⟩ := h.nat (i := p) ((mem_plug ..).2 (.inl (by simp [cids])))
      obtain ⟨kq, rfl⟩ := h.nat (i := q) ((mem_plug ..).2 (.inl (by simp [cids])))
      have hP := h.node_mk (c := ⟨bd, kq, false, sb, bo⟩ :: c) (d := ad) (k := kp)
      have hQ := h.node_mk (c := c) (d := bd) (k := kq)
      have nd2 := hP
      have AP := nd2.at'
      have p7 := nd2.c7
      have p8 := nd2.c8
      have fp := nd2.f8
      clear nd2 hP
      have nd3 := hQ
      have AQ := nd3.at'
      have q5 := nd3.c5
      have q6 := nd3.c6
      have fq := nd3.f8
      clear nd3 hQ
      have S := sideZ (a := ⟨bd, kq, false, sb, bo⟩) (c := c) (X := T.mk ad kp true sa (.N k true s l r) ao) h (by cases ad <;> simp [T.mk])
      have RU := redZ (c := ⟨!bd, kq, false, sb, T.mk ad kp true sa (.N k true s l r) ao⟩ :: c) (X := bo) (TS.flip (a := ⟨bd, kq, false, sb, bo⟩) (c := c) (X := T.mk ad kp true sa (.N k true s l r) ao) h)
      simp only [ix_mk] at S
      simp only [cix] at c7 p7
      by_cases hu : bo.red = true
      · obtain ⟨u, us, ul, ur, rfl⟩ : ∃ u us ul ur, bo = .N u true us ul ur := by
          cases bo with
          | E => cases hu
          | N u b us ul ur => simp only [T.red] at hu; subst hu; exact ⟨_, _, _, _, rfl⟩
        obtain ⟨ku, rfl⟩ := h.nat (i := u) ((mem_plug ..).2 (.inl (by simp [cids, T.ids])))
        clear hu
        have AU := (TS.node (TS.flip (a := ⟨bd, kq, false, sb, .N ku true us ul ur⟩) (c := c) h)).at'
        obtain ⟨h1, M1⟩ := TS.recol_mk (c := ⟨bd, kq, false, sb, .N ku true us ul ur⟩ :: c) (d := ad) h false
        have h1' := TS.flip (a := ⟨bd, kq, false, sb, .N ku true us ul ur⟩) (c := c) h1
        have nd4 := h1'.node
        have u8 := nd4.c8
        have fu := nd4.f8
        clear nd4
        obtain ⟨h2, M2⟩ := h1'.recol false
        have h2' := TS.flip (a := ⟨!bd, kq, false, sb, T.mk ad kp false sa (.N k true s l r) ao⟩) (c := c) h2
        simp only [Bool.not_not] at h2'
        have nd5 := TS.node_mk (c := c) (d := bd) h2'
        have g8 := nd5.c8
        have fg := nd5.f8
        clear nd5
        obtain ⟨h3, M3⟩ := TS.recol_mk (c := c) (d := bd) h2' true
        have hE := hid (riseE1 (c := c) (ad := ad) (bd := bd) (p := kp) (q := kq) (sa := sa) (sb := sb) b1 b2 b3.out b4.out b6 b7.out b8 b9 h3 hL.out)
        have hMM := ((hM.trans' M1).trans' M2).trans' M3
        clear h1 h1' h2 h2' h3 M1 M2 M3 hM b1 b2 b5 b6 b8 b9 h
        cases bd
        all_goals
          simp only [di, if_true, if_false, Bool.false_eq_true] at q5 q6 S
          go_wp2_with fail
          refine A.mono ?_; rintro e w' ⟨rfl, hw⟩; subst hw
          go_wp2_with fail
          refine AP.mono ?_; rintro e w' ⟨rfl, hw⟩; subst hw
          go_wp2_with fail
          refine S.mono ?_; rintro e w' ⟨rfl, hw⟩; subst hw
          go_wp2_with fail
          refine AQ.mono ?_; rintro e w' ⟨rfl, hw⟩; subst hw
          go_wp2_with fail
          refine RU.mono ?_; rintro e w' ⟨rfl, hw⟩; subst hw
          simp only [T.red, T.ix]
          go_wp2_with fail
          refine AP.mono ?_; rintro e w' ⟨rfl, hw⟩; subst hw
          go_wp2_with fail
          refine AU.mono ?_; rintro e w' ⟨rfl, hw⟩; subst hw
          go_wp2_with fail
          refine AQ.mono ?_; rintro e w' ⟨rfl, hw⟩; subst hw
          go_wp2_with fail
          go_roundg c.length
          case measure => simp only [List.length_cons]; omega
          case rel => exact hE.out _ hMM
      · have hu : bo.red = false := by simpa using hu
        have S2 := sideZ (a := ⟨ad, kp, true, sa, ao⟩) (c := ⟨bd, kq, false, sb, bo⟩ :: c) (X := .N k true s l r) h (by intro e; cases e)
        by_cases had : ad = bd
        · subst had
          have P := riseP h
          obtain ⟨P1, P2, P3, P4, P5, P6, P7⟩ := P
          have hE := hid (riseE2 (N := N) (room := room) (free := free) (c := c) (d := ad) (p := kp) (q := kq) (sp := sa) (sb := sb) b1 b2 b3.out b4.out b6 b7.out hu b8 b9 hL.out hM)
          clear h hM b1 b2 b5 b6 b8 b9 p8 fp fq
          cases ad
          all_goals
            simp only [di, if_true, if_false, Bool.false_eq_true, Bool.not_false, Bool.not_true] at q5 q6 S S2 P7
            go_wp2_with fail
            refine A.mono ?_; rintro e w' ⟨rfl, hw⟩; subst hw
            go_wp2_with fail
            refine AP.mono ?_; rintro e w' ⟨rfl, hw⟩; subst hw
            go_wp2_with fail
            refine S.mono ?_; rintro e w' ⟨rfl, hw⟩; subst hw
            go_wp2_with fail
            refine AQ.mono ?_; rintro e w' ⟨rfl, hw⟩; subst hw
            go_wp2_with fail
            refine RU.mono ?_; rintro e w' ⟨rfl, hw⟩; subst hw
            rw [hu]
            go_wp2_with fail
            refine S2.mono ?_; rintro e w' ⟨rfl, hw⟩; subst hw
            go_wp2_with fail
            refine P1.mono ?_; rintro e w' ⟨rfl, hw⟩; subst hw
            go_wp2_with fail
            refine P2.mono ?_; rintro e w' ⟨rfl, hw⟩; subst hw
            go_wp2_with fail
            refine P7.mono ?_; rintro e w' ⟨rfl, h4, M4⟩
            go_wp2_with fail
            go_roundg (c.length + 1)
            case measure => simp only [List.length_cons]; omega
            case rel => exact hE.out _ h4 M4
        · obtain rfl : ad = !bd := by cases ad <;> cases bd <;> first | rfl | exact absurd rfl had
          have h' := h
          rw [plug_cons] at h'
          dsimp only at h'
          rw [mk_not, Bool.not_not, T.N_mk _ _ _ _ _ bd] at h'
          have R2 := rotZ h'
          have hE := hid (riseE3 (N := N) (room := room) (free := free) (c := c) (d := bd) (k := k) (p := kp) (q := kq) (s := s) (sp := sa) (sb := sb) b1 b2 b3.out b4.out b6 b7.out hu b8 b9 hL.out hM)
          clear h h' hM b1 b2 b5 b6 b8 b9 p8 fp fq
          cases bd
          all_goals
            simp only [di, if_true, if_false, Bool.false_eq_true, Bool.not_false, Bool.not_true] at q5 q6 S S2 R2 hE
            go_wp2_with fail
            refine A.mono ?_; rintro e w' ⟨rfl, hw⟩; subst hw
            go_wp2_with fail
            refine AP.mono ?_; rintro e w' ⟨rfl, hw⟩; subst hw
            go_wp2_with fail
            refine S.mono ?_; rintro e w' ⟨rfl, hw⟩; subst hw
            go_wp2_with fail
            refine AQ.mono ?_; rintro e w' ⟨rfl, hw⟩; subst hw
            go_wp2_with fail
            refine RU.mono ?_; rintro e w' ⟨rfl, hw⟩; subst hw
            rw [hu]
            go_wp2_with fail
            refine S2.mono ?_; rintro e w' ⟨rfl, hw⟩; subst hw
            go_wp2_with fail
            refine R2.mono ?_; rintro e w' ⟨rfl, h4, M4⟩
            obtain ⟨⟨P1, P2, P3, P4, P5, P6, P7⟩, hF⟩ := hE.out _ h4 M4
            replace hF := hid hF
            clear hE h4 M4 AP AQ S RU S2 R2
            go_wp2_with fail
            refine P1.mono ?_; rintro e w' ⟨rfl, hw⟩; subst hw
            go_wp2_with fail
            refine P2.mono ?_; rintro e w' ⟨rfl, hw⟩; subst hw
            go_wp2_with fail
            refine P7.mono ?_; rintro e w' ⟨rfl, h4, M4⟩
            go_wp2_with fail
            go_roundg (c.length + 1)
            case measure => simp only [List.length_cons]; omega
            case rel => exact hF.out _ h4 M4
    · have hc : cred c = false := by simpa using hc
      obtain ⟨i0, b0, s0, l0, r0, hw0⟩ : ∃ i1 b1 s1 l1 r1, plug c (.N k true s l r) = .N i1 b1 s1 l1 r1 := by
        rcases hp : plug c (.N k true s l r) with _ | ⟨i, b, s', l', r'⟩
        · have := toL_plug c (.N k true s l r); rw [hp] at this; simp [T.toL] at this
        · exact ⟨i, b, s', l', r', rfl⟩
      have hfin := hid (riseE4 b1 b2 b3.out b4.out b5 hc hL.out hw0)
      rw [hw0] at h
      replace hw0 := hid hw0
      obtain ⟨k0, rfl⟩ := h.nat (i := i0) (by simp [T.ids])
      obtain ⟨d1, _, e1⟩ := h.root
      have nd6 := TS.node (c := []) h
      have A0 := nd6.at'
      have r8 := nd6.c8
      have f8 := nd6.f8
      clear nd6
      obtain ⟨h2, M2⟩ := TS.recol (c := []) h false
      simp only [T.ix] at d1
      clear h b1 b2 b5
      go_wp2_with fail
      refine A0.mono ?_; rintro e w' ⟨rfl, hw⟩; subst hw
      go_wp2_with fail
      go_end0
      exact ⟨rfl, _, h2, hfin.out.1, hfin.out.2, hM.trans' M2⟩
end
end Go.Proofs.Bo
