import Derived.Test.YtniemignjlanaaaNear
set_option linter.unusedVariables false
namespace Go.Proofs.Bo
open Go Go.RowKit

section
variable {w w' : World} {tb ab N : Nat} {lv fv : Value} {room : Int} {free : List Int} {t : T}

/-- Which node is beside one: on the right (d), or on the left. pre, post: the segments ahead of the place, and behind it. -/
def NextQ (t : T) (d : Bool) (pre post : List Sg) (s : Sg) (v : Int) : Prop :=
  (v = -1 ∧ (if d then post else pre) = []) ∨ ∃ c' j b' s' l' r', v = j ∧ t = plug c' (.N j b' s' l' r') ∧ if d then cpre c' ++ l'.toL = pre ++ [s] else r'.toL ++ cpost c' = s :: post
def NextR (w : World) (t : T) (d : Bool) (pre post : List Sg) (s : Sg) (g : Nat) (v1 v8 : Value) (W : World) : Prop :=
  ∃ c1 X, g = c1.length ∧ v1 = .int .i64 X.ix ∧ v8 = .int .i64 (cix c1) ∧ t = plug c1 X ∧ X ≠ .E ∧ (if d then cpre c1 ++ X.toL = pre ++ [s] else X.toL ++ cpost c1 = s :: post) ∧ CM w W
def NextP (w : World) (t : T) (d : Bool) (pre post : List Sg) (s : Sg) (e : Ending) (w' : World) : Prop := (∃ v, e = .returned (.int .i64 v) ∧ NextQ t d pre post s v) ∧ Mod (fun _ => False) w w'


set_option maxHeartbeats 2000000 in
theorem nextZ_false {c : Ctx} {k : Nat} {b : Bool} {s : Sg} {l r : T} (h : TS w tb ab lv fv room N free (plug c (.N k b s l r))) :
    Calls Try.prog 79 #[.pointer (some ⟨tb, 0, none⟩), .int .i64 k, .int .i64 0] w fun e w' => NextP w (plug c (.N k b s l r)) false (cpre c ++ l.toL) (r.toL ++ cpost c) s e w' := by
  obtain ⟨lb, hN⟩ := h.node'
  have A := hN.at'
  have c5 := hN.c5
  have c7 := hN.c7
  clear hN
  by_cases hkE : l = .E
  · subst hkE
    rw [T.ix_E] at c5
    have hall := hid (toL_focus c k b s .E r)
    obtain ⟨t0, ht0⟩ : ∃ t0, plug c (.N k b s .E r) = t0 := ⟨_, rfl⟩
    have h' := h
    rw [ht0] at h' hall ⊢
    replace ht0 := hid ht0
    go_enter Try.func79, Try.ntmps79
    go_wp2_with fail
    refine A.mono ?_; rintro e w' ⟨rfl, hw⟩; subst hw
    go_wp2_with fail
    refine A.mono ?_; rintro e w' ⟨rfl, hw⟩; subst hw
    clear A c5
    go_wp2_with fail
    clear c7
    go_loopg [1, 8] c.length (fun g v1 v8 W => NextR w' t0 false (cpre c ++ T.toL .E) (T.toL r ++ cpost c) s g v1 v8 W)
    case atStart => exact ⟨c, _, rfl, rfl, rfl, ht0.out.symm, by simp, by simp [T.toL], Mod.refl _ _⟩
    case round =>
      clear h
      obtain ⟨c1, X, hg, rfl, rfl, rfl, hX, hrel, M⟩ := hrel
      replace hg := hid hg
      replace hrel := hid hrel
      replace h' := h'.mod0 M
      cases c1 with
      | nil =>
        rw [cix_nil]
        go_wp2_with fail
        go_ret
        refine ⟨⟨_, rfl, .inl ⟨rfl, ?_⟩⟩, M⟩
        have e := hrel.out
        have e2 := hall.out
        simp only [plug, cpre, cpost, List.append_nil, List.nil_append, if_true, if_false, Bool.false_eq_true] at e e2 ⊢
        rw [e] at e2
        have e3 := congrArg List.length e2
        simp only [List.length_append, List.length_cons, List.length_nil] at e3
        exact List.eq_nil_of_length_eq_zero (by simp only [List.length_append]; omega)
      | cons a c1 =>
        obtain ⟨ad, p, ared, sa, ao⟩ := a
        have S := sideZ (a := ⟨ad, p, ared, sa, ao⟩) (c := c1) h' (fun e => absurd e hX)
        obtain ⟨kp, rfl⟩ := h'.nat (i := p) ((mem_plug ..).2 (.inl (by simp [cids])))
        have hp0 : ((kp : Int) != -1) = true := by simp
        obtain ⟨lb, cp, rfl⟩ := h'.lb (by intro e; have := congrArg T.toL e; rw [plug_cons, toL_plug, toL_mk] at this; cases ad <;> simp [T.toL] at this)
        have HA := hid (fun (w1 : World) (M1 : CM wr w1) => (TS.node_mk (c := c1) (d := ad) (h'.mod0 M1)).at'.mono fun e w2 ⟨h1, h2⟩ => (⟨h1, by rw [h2]; exact M1⟩ : e = Ending.returned (.pointer (some ⟨lb, kp * 10, none⟩)) ∧ CM wr w2))
        have HL := hid (fun (w1 : World) (M1 : CM wr w1) => (TS.node_mk (c := c1) (d := ad) (h'.mod0 M1)).c7)
        rw [cix_cons]
        cases ad
        · simp only [di, if_false, Bool.false_eq_true] at S
          go_wp2_with fail
          refine S.mono ?_; rintro e w2 ⟨rfl, hw⟩; subst hw
          clear S
          go_wp2_with fail
          refine cq_region (by kernel_rfl) (by kernel_rfl) ?_
          iterate 9 (refine wpQuiet_step (fun K hK => ?_); go_simp; first | (refine hK _ ?_; clear hK K) | (refine ⟨_, fun _ _ => rfl, hK _ ?_⟩; clear hK K) | (apply Exists.intro; refine ⟨fun wq hq => ?_, hK _ ?_⟩; (focus (first | (go_at_call 46; exact HA.out _ hq) | (have q7 := HL.out _ hq; go_simp; try with_reducible rfl))); clear hK K))
          refine wpQuiet_nil ?_
          intro w3 M3
          clear HA HL
          go_wp2_with fail
          go_roundg c1.length
          case measure => rw [hg.out]; simp
          case rel => exact ⟨c1, T.mk false kp ared sa X ao, rfl, by rw [ix_mk], rfl, rfl, (by intro e; cases e), by have e := hrel.out; simp only [cpre, cpost, toL_mk, if_true, if_false, Bool.false_eq_true] at e ⊢; simpa using e, Mod.trans' M M3⟩
        · simp only [di, if_true] at S
          go_wp2_with fail
          refine S.mono ?_; rintro e w2 ⟨rfl, hw⟩; subst hw
          clear S
          go_wp2_with fail
          go_ret
          exact ⟨⟨_, rfl, .inr ⟨c1, _, ared, sa, ao, X, rfl, rfl, by have e := hrel.out; simp only [cpost, if_true, if_false, Bool.false_eq_true] at e ⊢; simpa using e⟩⟩, M⟩
  · have hk : ∃ j : Nat, l.ix = j := by
      cases l with
      | E => exact absurd rfl hkE
      | N i2 _ _ _ _ => exact h.nat (i := i2) ((mem_plug ..).2 (.inr (by simp [T.ids])))
    obtain ⟨kk, hk⟩ := hk
    have hk1 : ((kk : Int) != -1) = true := by simp
    have hE := endZ (c := ⟨false, k, b, s, r⟩ :: c) (X := l) (by
      have h' : TS w tb ab lv fv room N free (plug c (T.mk false k b s l r)) := h
      rw [mk_plug] at h'; exact h') true
    simp only [di, if_true, if_false, Bool.false_eq_true] at hE
    rw [hk] at hE c5
    replace hk := hid hk
    replace hkE := hid hkE
    clear c7 h
    go_enter Try.func79, Try.ntmps79
    go_wp2_with fail
    refine A.mono ?_; rintro e w' ⟨rfl, hw⟩; subst hw
    go_wp2_with fail
    refine hE.mono ?_; rintro e w' ⟨⟨v, rfl, hq⟩, hw⟩; subst hw
    clear hE
    go_wp2_with fail
    go_ret
    replace hkE := hkE.out
    · rcases hq with ⟨e, _⟩ | ⟨F, j, b2, s2, l2, r2, hv, hFr, _, hx⟩
      · exact absurd e hkE
      · subst hv
        obtain ⟨rfl, hpost⟩ := hx rfl
        exact ⟨⟨_, rfl, .inr ⟨F ++ ⟨false, k, b, s, r⟩ :: c, _, b2, s2, l2, .E, rfl, by rw [plug_app, ← hFr]; rfl, by simp [cpost_app, hpost, cpost, T.toL]⟩⟩, Mod.refl _ _⟩

set_option maxHeartbeats 2000000 in
theorem nextZ_true {c : Ctx} {k : Nat} {b : Bool} {s : Sg} {l r : T} (h : TS w tb ab lv fv room N free (plug c (.N k b s l r))) :
    Calls Try.prog 79 #[.pointer (some ⟨tb, 0, none⟩), .int .i64 k, .int .i64 1] w fun e w' => NextP w (plug c (.N k b s l r)) true (cpre c ++ l.toL) (r.toL ++ cpost c) s e w' := by
  obtain ⟨lb, hN⟩ := h.node'
  have A := hN.at'
  have c6 := hN.c6
  have c7 := hN.c7
  clear hN
  by_cases hkE : r = .E
  · subst hkE
    rw [T.ix_E] at c6
    have hall := hid (toL_focus c k b s l .E)
    obtain ⟨t0, ht0⟩ : ∃ t0, plug c (.N k b s l .E) = t0 := ⟨_, rfl⟩
    have h' := h
    rw [ht0] at h' hall ⊢
    replace ht0 := hid ht0
    go_enter Try.func79, Try.ntmps79
    go_wp2_with fail
    refine A.mono ?_; rintro e w' ⟨rfl, hw⟩; subst hw
    go_wp2_with fail
    refine A.mono ?_; rintro e w' ⟨rfl, hw⟩; subst hw
    clear A c6
    go_wp2_with fail
    clear c7
    go_loopg [1, 8] c.length (fun g v1 v8 W => NextR w' t0 true (cpre c ++ T.toL l) (T.toL .E ++ cpost c) s g v1 v8 W)
    case atStart => exact ⟨c, _, rfl, rfl, rfl, ht0.out.symm, by simp, by simp [T.toL], Mod.refl _ _⟩
    case round =>
      clear h
      obtain ⟨c1, X, hg, rfl, rfl, rfl, hX, hrel, M⟩ := hrel
      replace hg := hid hg
      replace hrel := hid hrel
      replace h' := h'.mod0 M
      cases c1 with
      | nil =>
        rw [cix_nil]
        go_wp2_with fail
        go_ret
        refine ⟨⟨_, rfl, .inl ⟨rfl, ?_⟩⟩, M⟩
        have e := hrel.out
        have e2 := hall.out
        simp only [plug, cpre, cpost, List.append_nil, List.nil_append, if_true, if_false, Bool.false_eq_true] at e e2 ⊢
        rw [e] at e2
        have e3 := congrArg List.length e2
        simp only [List.length_append, List.length_cons, List.length_nil] at e3
        exact List.eq_nil_of_length_eq_zero (by simp only [List.length_append]; omega)
      | cons a c1 =>
        obtain ⟨ad, p, ared, sa, ao⟩ := a
        have S := sideZ (a := ⟨ad, p, ared, sa, ao⟩) (c := c1) h' (fun e => absurd e hX)
        obtain ⟨kp, rfl⟩ := h'.nat (i := p) ((mem_plug ..).2 (.inl (by simp [cids])))
        have hp0 : ((kp : Int) != -1) = true := by simp
        obtain ⟨lb, cp, rfl⟩ := h'.lb (by intro e; have := congrArg T.toL e; rw [plug_cons, toL_plug, toL_mk] at this; cases ad <;> simp [T.toL] at this)
        have HA := hid (fun (w1 : World) (M1 : CM wr w1) => (TS.node_mk (c := c1) (d := ad) (h'.mod0 M1)).at'.mono fun e w2 ⟨h1, h2⟩ => (⟨h1, by rw [h2]; exact M1⟩ : e = Ending.returned (.pointer (some ⟨lb, kp * 10, none⟩)) ∧ CM wr w2))
        have HL := hid (fun (w1 : World) (M1 : CM wr w1) => (TS.node_mk (c := c1) (d := ad) (h'.mod0 M1)).c7)
        rw [cix_cons]
        cases ad
        · simp only [di, if_false, Bool.false_eq_true] at S
          go_wp2_with fail
          refine S.mono ?_; rintro e w2 ⟨rfl, hw⟩; subst hw
          clear S
          go_wp2_with fail
          go_ret
          exact ⟨⟨_, rfl, .inr ⟨c1, _, ared, sa, X, ao, rfl, rfl, by have e := hrel.out; simp only [cpre, if_true, if_false, Bool.false_eq_true] at e ⊢; simpa using e⟩⟩, M⟩
        · simp only [di, if_true] at S
          go_wp2_with fail
          refine S.mono ?_; rintro e w2 ⟨rfl, hw⟩; subst hw
          clear S
          go_wp2_with fail
          refine cq_region (by kernel_rfl) (by kernel_rfl) ?_
          iterate 9 (refine wpQuiet_step (fun K hK => ?_); go_simp; first | (refine hK _ ?_; clear hK K) | (refine ⟨_, fun _ _ => rfl, hK _ ?_⟩; clear hK K) | (apply Exists.intro; refine ⟨fun wq hq => ?_, hK _ ?_⟩; (focus (first | (go_at_call 46; exact HA.out _ hq) | (have q7 := HL.out _ hq; go_simp; try with_reducible rfl))); clear hK K))
          refine wpQuiet_nil ?_
          intro w3 M3
          clear HA HL
          go_wp2_with fail
          go_roundg c1.length
          case measure => rw [hg.out]; simp
          case rel => exact ⟨c1, T.mk true kp ared sa X ao, rfl, by rw [ix_mk], rfl, rfl, (by intro e; cases e), by have e := hrel.out; simp only [cpre, cpost, toL_mk, if_true, if_false, Bool.false_eq_true] at e ⊢; simpa using e, Mod.trans' M M3⟩
  · have hk : ∃ j : Nat, r.ix = j := by
      cases r with
      | E => exact absurd rfl hkE
      | N i2 _ _ _ _ => exact h.nat (i := i2) ((mem_plug ..).2 (.inr (by simp [T.ids])))
    obtain ⟨kk, hk⟩ := hk
    have hk1 : ((kk : Int) != -1) = true := by simp
    have hE := endZ (c := ⟨true, k, b, s, l⟩ :: c) (X := r) (by
      have h' : TS w tb ab lv fv room N free (plug c (T.mk true k b s r l)) := h
      rw [mk_plug] at h'; exact h') false
    simp only [di, if_true, if_false, Bool.false_eq_true] at hE
    rw [hk] at hE c6
    replace hk := hid hk
    replace hkE := hid hkE
    clear c7 h
    go_enter Try.func79, Try.ntmps79
    go_wp2_with fail
    refine A.mono ?_; rintro e w' ⟨rfl, hw⟩; subst hw
    go_wp2_with fail
    refine hE.mono ?_; rintro e w' ⟨⟨v, rfl, hq⟩, hw⟩; subst hw
    clear hE
    go_wp2_with fail
    go_ret
    replace hkE := hkE.out
    · rcases hq with ⟨e, _⟩ | ⟨F, j, b2, s2, l2, r2, hv, hFr, hx, _⟩
      · exact absurd e hkE
      · subst hv
        obtain ⟨rfl, hpre⟩ := hx rfl
        exact ⟨⟨_, rfl, .inr ⟨F ++ ⟨true, k, b, s, l⟩ :: c, _, b2, s2, .E, r2, rfl, by rw [plug_app, ← hFr]; rfl, by simp [cpre_app, hpre, cpre, T.toL]⟩⟩, Mod.refl _ _⟩
end
end Go.Proofs.Bo
