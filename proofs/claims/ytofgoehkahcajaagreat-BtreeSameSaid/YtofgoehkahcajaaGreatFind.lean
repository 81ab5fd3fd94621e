import Derived.Test.YtofgoehkahcajaaGreatTSG
import Derived.Test.YtofgoehkahcajaaGreatRise
import Derived.Test.YtofgoehkahcajaaGreatRTG
import Derived.Test.YtofgoehkahcajaaGreatCut
set_option linter.unusedVariables false
set_option linter.unusedSimpArgs false
namespace Go.Proofs.Bo
open Go Go.RowKit

section
variable {w w' : World} {tb ab N : Nat} {lv fv : Value} {room : Int} {free : List Int} {t : T}

theorem TS.node' {k : Nat} {c : Ctx} {b : Bool} {s : Sg} {l r : T} (h : TS w tb ab lv fv room N free (plug c (.N k b s l r))) : ∃ lb, Node w tb lb k s l.ix r.ix (cix c) b := by
  obtain ⟨lb, cp, rfl⟩ := h.lb (by intro e; have := toL_focus c k b s l r; rw [e] at this; simp [T.toL] at this)
  exact ⟨lb, h.node⟩
theorem keyZ {c : Ctx} {k : Nat} {b : Bool} {s : Sg} {l r : T} (h : TS w tb ab lv fv room N free (plug c (.N k b s l r))) :
    Calls Tryz.prog 64 #[.pointer (some ⟨tb, 0, none⟩), .int .i64 k] w fun e w' => e = .returned (.agg #[.int .i64 s.ls, .int .i64 s.la]) ∧ Mod (fun _ => False) w w' := by
  obtain ⟨root, σ, m, hh, _⟩ := h
  obtain ⟨k', e, hk⟩ := nod_some hh.at
  obtain rfl : k = k' := by omega
  exact keyT m hk

theorem plug_app : ∀ (F c : Ctx) (t : T), plug (F ++ c) t = plug c (plug F t)
  | [], _, _ => rfl
  | a :: F, c, t => by simp only [List.cons_append, plug]; exact plug_app F c _
theorem cpre_app : ∀ (F c : Ctx), cpre (F ++ c) = cpre c ++ cpre F
  | [], _ => by simp [cpre]
  | a :: F, c => by simp only [List.cons_append, cpre]; rw [cpre_app F c, List.append_assoc]
theorem cpost_app : ∀ (F c : Ctx), cpost (F ++ c) = cpost F ++ cpost c
  | [], _ => by simp [cpost]
  | a :: F, c => by simp only [List.cons_append, cpost]; rw [cpost_app F c, List.append_assoc]

/-- 'end'. -/
def EndQ (X : T) (d : Bool) (v : Int) : Prop :=
  (X = .E ∧ v = -1) ∨ ∃ F i b s l r, v = i ∧ X = plug F (.N i b s l r) ∧ (d = false → l = .E ∧ cpre F = []) ∧ (d = true → r = .E ∧ cpost F = [])
def EndR (w : World) (X : T) (d : Bool) (g : Nat) (v1 : Value) (W : World) : Prop :=
  ∃ F Y, g = Y.size ∧ v1 = .int .i64 Y.ix ∧ X = plug F Y ∧ (X ≠ .E → Y ≠ .E) ∧ (X = .E → Y = .E) ∧ (d = false → cpre F = []) ∧ (d = true → cpost F = []) ∧ W = w
def EndP (w : World) (X : T) (d : Bool) (e : Ending) (w' : World) : Prop := (∃ v, e = .returned (.int .i64 v) ∧ EndQ X d v) ∧ w' = w

set_option maxHeartbeats 1000000 in
theorem endZ {c : Ctx} {X : T} (h : TS w tb ab lv fv room N free (plug c X)) (d : Bool) :
    Calls Tryz.prog 35 #[.pointer (some ⟨tb, 0, none⟩), .int .i64 X.ix, .int .i64 (di d)] w fun e w' => EndP w X d e w' := by
  go_enter Tryz.func35, Tryz.ntmps35
  go_wp2_with fail
  go_loopg [1] X.size (fun g v1 W => EndR w X d g v1 W)
  case atStart => exact ⟨[], X, rfl, rfl, rfl, id, id, fun _ => rfl, fun _ => rfl, rfl⟩
  case round =>
    obtain ⟨F, Y, hg, rfl, hp, h1, h2, h3, h4, hw⟩ := hrel
    subst hw
    replace hg := hid hg
    replace h3 := hid h3
    replace h4 := hid h4
    cases Y with
    | E =>
      have hX : X = .E := by
        by_cases e : X = .E
        · exact e
        · exact absurd rfl (h1 e)
      clear hp
      rw [T.ix_E]
      go_wp2_with fail
      go_ret
      subst hX
      exact ⟨⟨_, rfl, .inl ⟨rfl, rfl⟩⟩, rfl⟩
    | N i b s l r =>
      have hX : X ≠ .E := fun e => by have := h2 e; cases this
      rw [hp, ← plug_app] at h
      replace hp := hid hp
      obtain ⟨k, rfl⟩ := h.nat (i := i) ((mem_plug ..).2 (.inr (by simp [T.ids])))
      obtain ⟨lb, hN⟩ := h.node'
      have A := hN.at'
      have c5 := hN.c5
      have c6 := hN.c6
      clear hN
      rw [T.ix_N]
      have hk0 : ((k : Int) != -1) = true := by simp
      cases d
      · simp only [di, if_false, Bool.false_eq_true]
        cases l with
        | E =>
          rw [T.ix_E] at c5
          clear h
          go_wp2_with fail
          refine A.mono ?_; rintro e w' ⟨rfl, hw⟩; subst hw
          go_wp2_with fail
          go_ret
          exact ⟨⟨_, rfl, .inr ⟨F, k, b, s, .E, r, rfl, hp.out, fun _ => ⟨rfl, h3.out (by simp)⟩, (fun e => by cases e)⟩⟩, rfl⟩
        | N i2 b2 s2 l2 r2 =>
          obtain ⟨k2, rfl⟩ := h.nat (i := i2) ((mem_plug ..).2 (.inr (by simp [T.ids])))
          have hk2 : ((k2 : Int) != -1) = true := by simp
          rw [T.ix_N] at c5
          clear h
          go_wp2_with fail
          refine A.mono ?_; rintro e w' ⟨rfl, hw⟩; subst hw
          go_wp2_with fail
          refine A.mono ?_; rintro e w' ⟨rfl, hw⟩; subst hw
          go_wp2_with fail
          go_roundg (T.N k2 b2 s2 l2 r2).size
          case measure => rw [hg.out]; simp only [T.size]; omega
          case rel => exact ⟨⟨false, k, b, s, r⟩ :: F, .N k2 b2 s2 l2 r2, rfl, rfl, hp.out, fun _ => by simp, fun e => absurd e hX, fun _ => by simp [cpre, h3.out (by simp)], (fun e => by cases e), rfl⟩
      · simp only [di, if_true]
        cases r with
        | E =>
          rw [T.ix_E] at c6
          clear h
          go_wp2_with fail
          refine A.mono ?_; rintro e w' ⟨rfl, hw⟩; subst hw
          go_wp2_with fail
          go_ret
          exact ⟨⟨_, rfl, .inr ⟨F, k, b, s, l, .E, rfl, hp.out, (fun e => by cases e), fun _ => ⟨rfl, h4.out (by simp)⟩⟩⟩, rfl⟩
        | N i2 b2 s2 l2 r2 =>
          obtain ⟨k2, rfl⟩ := h.nat (i := i2) ((mem_plug ..).2 (.inr (by simp [T.ids])))
          have hk2 : ((k2 : Int) != -1) = true := by simp
          rw [T.ix_N] at c6
          clear h
          go_wp2_with fail
          refine A.mono ?_; rintro e w' ⟨rfl, hw⟩; subst hw
          go_wp2_with fail
          refine A.mono ?_; rintro e w' ⟨rfl, hw⟩; subst hw
          go_wp2_with fail
          go_roundg (T.N k2 b2 s2 l2 r2).size
          case measure => rw [hg.out]; simp only [T.size]; omega
          case rel => exact ⟨⟨true, k, b, s, l⟩ :: F, .N k2 b2 s2 l2 r2, rfl, rfl, hp.out, fun _ => by simp, fun e => absurd e hX, (fun e => by cases e), fun _ => by simp [cpost, h4.out (by simp)], rfl⟩

/-- What 'find' tells. -/
def FindQ (t : T) (kc : Int) (v p d : Int) : Prop :=
  ∃ c X, t = plug c X ∧ v = X.ix ∧ p = cix c ∧ d = cside c ∧ (∀ s ∈ cpre c, ky s < kc) ∧ (∀ s ∈ cpost c, kc < ky s) ∧ (X = .E ∨ ∃ i b s l r, X = .N i b s l r ∧ ky s = kc)
def FindR (w : World) (tb ab N : Nat) (lv fv : Value) (room : Int) (free : List Int) (t : T) (kc cs ca : Int) (g : Nat) (v7 v8 v9 : Value) (W : World) : Prop :=
  ∃ c X, g = X.size ∧ t = plug c X ∧ v7 = .int .i64 X.ix ∧ v8 = .int .i64 (cix c) ∧ v9 = .int .i64 (cside c) ∧ (∀ s ∈ cpre c, ky s < kc) ∧ (∀ s ∈ cpost c, kc < ky s) ∧
    TS W tb ab lv fv room N free t ∧ W.heap[w.heap.size]? = some (.cells #[.int .i64 cs, .int .i64 ca] 26 (0, 0)) ∧ Mod (fun _ => False) w W
def FindP (w : World) (t : T) (kc : Int) (e : Ending) (w' : World) : Prop := (∃ v p d, e = .returned (.tuple #[.int .i64 v, .int .i64 p, .int .i64 d]) ∧ FindQ t kc v p d) ∧ Mod (fun _ => False) w w'

set_option maxHeartbeats 2000000 in
theorem findZ (h : TS w tb ab lv fv room N free t) (hr : Row t.toL) (cs ca : Int) (hf : fit64 ca) :
    Calls Tryz.prog 30 #[.pointer (some ⟨tb, 0, none⟩), .agg #[.int .i64 cs, .int .i64 ca]] w fun e w' => FindP w t (kx cs ca) e w' := by
  obtain ⟨w0, hw0⟩ : ∃ w0, w.alloc (.cells #[.int .i64 cs, .int .i64 ca] 26) = w0 := ⟨_, rfl⟩
  have b0 : w0.heap[w.heap.size]? = some (.cells #[.int .i64 cs, .int .i64 ca] 26 (0, 0)) := by rw [← hw0]; exact alloc_0 _ _
  have M0 : Mod (fun _ => False) w w0 := by rw [← hw0]; exact (Mod.refl _ _).alloc _
  replace h := h.mod0 M0
  have d1 := h.root.1
  replace hr := hid hr
  replace hf := hid hf
  replace b0 := hid b0
  have hkc := hid (rfl : kx cs ca = kx cs ca)
  go_enter Tryz.func30, Tryz.ntmps30
  go_wp2_with fail
  go_loopg [7, 8, 9] t.size (fun g v7 v8 v9 W => FindR w tb ab N lv fv room free t (kx cs ca) cs ca g v7 v8 v9 W)
  case atStart => exact ⟨[], t, rfl, rfl, rfl, rfl, rfl, by simp [cpre], by simp [cpost], h, b0.out, M0⟩
  case round =>
    clear h b0 M0 d1 hw0
    obtain ⟨c, X, hg, rfl, rfl, rfl, rfl, h1, h2, h, b0, M⟩ := hrel
    replace hg := hid hg
    replace h1 := hid h1
    replace h2 := hid h2
    cases X with
    | E =>
      clear b0
      rw [T.ix_E]
      go_wp2_with fail
      refine bodyPost_ret (v := .tuple #[.int .i64 (-1), .int .i64 (cix c), .int .i64 (cside c)]) (by simp [results, Tryz.results30, go_sem]) rfl ⟨⟨_, _, _, rfl, c, .E, rfl, rfl, rfl, rfl, h1.out, h2.out, .inl rfl⟩, M⟩
    | N i b s l r =>
      obtain ⟨k, rfl⟩ := h.nat (i := i) ((mem_plug ..).2 (.inr (by simp [T.ids])))
      have hs : s ∈ (plug c (.N k b s l r)).toL := toL_sub (by simp [T.toL])
      have hks := (hr.out.2 s hs).2
      have hk0 : ((k : Int) != -1) = true := by simp
      rw [T.ix_N]
      obtain ⟨d0, e0⟩ := blkc b0
      replace b0 := hid b0
      have HK := hid (fun (w1 : World) (M' : Mod (fun _ => False) wr w1) => keyZ (h.mod0 M'))
      have HC := hid (fun (w1 : World) => compareZ (s := cs) (a := ca) (s' := s.ls) (a' := s.la) hf.out hks w1)
      rcases Int.lt_trichotomy (kx cs ca) (ky s) with hlt | heq | hgt
      · rw [show cmpI (kx cs ca) (kx s.ls s.la) = -1 from cmpI_lt hlt] at HC
        replace hlt := hid hlt
        go_wp2_with fail
        go_region_held3 (fun w' => w'.cell? ⟨w.heap.size, 0, none⟩ = some (.int .i64 cs) ∧ w'.cell? ⟨w.heap.size, 1, none⟩ = some (.int .i64 ca)) (first | exact ⟨d3 0, d3 1⟩ | exact ⟨d2 0, d2 1⟩ | exact ⟨d0 0, d0 1⟩)
          (first
          | (go_at_call 64; refine (HK.out _ (Mod.refl _ _).drew).mono ?_; rintro e w1 ⟨rfl, M1⟩; replace M1 := M1.of_drew; obtain ⟨d2, e2⟩ := blkc (M1.heap b0.out fun h => h))
          | (go_at_call 63; refine (HC.out _).mono ?_; rintro e w2 ⟨rfl, M2⟩; obtain ⟨d3, e3⟩ := blkc (M2.heap (M1.heap b0.out fun h => h) fun h => h)))
        clear HK HC d0 e0 d2 e2 d3 e3
        replace M1 := M1.trans' M2
        clear M2
        replace h := h.mod0 M1
        obtain ⟨lb, hN⟩ := h.node'
        have A := hN.at'
        have c5 := hN.c5
        clear hN
        go_wp2_with fail
        refine A.mono ?_; rintro e w' ⟨rfl, hw⟩; subst hw
        go_wp2_with fail
        go_roundg l.size
        case measure => rw [hg.out]; simp only [T.size]; omega
        case rel =>
          refine ⟨⟨false, k, b, s, r⟩ :: c, l, rfl, rfl, rfl, rfl, rfl, by simpa [cpre] using h1.out, ?_, h, M1.heap b0.out (fun h => h), M.trans' M1⟩
          intro x hx
          simp only [cpost, Bool.false_eq_true, if_false, List.cons_append, List.mem_cons, List.mem_append] at hx
          rcases hx with rfl | hx | hx
          · exact hlt.out
          · have := hr.out.focus.2 x (by simp [hx]); have := hlt.out; omega
          · exact h2.out x hx
      · rw [show cmpI (kx cs ca) (kx s.ls s.la) = 0 from cmpI_eq heq] at HC
        replace heq := hid heq
        go_wp2_with fail
        go_region_held3 (fun w' => w'.cell? ⟨w.heap.size, 0, none⟩ = some (.int .i64 cs) ∧ w'.cell? ⟨w.heap.size, 1, none⟩ = some (.int .i64 ca)) (first | exact ⟨d3 0, d3 1⟩ | exact ⟨d2 0, d2 1⟩ | exact ⟨d0 0, d0 1⟩)
          (first
          | (go_at_call 64; refine (HK.out _ (Mod.refl _ _).drew).mono ?_; rintro e w1 ⟨rfl, M1⟩; replace M1 := M1.of_drew; obtain ⟨d2, e2⟩ := blkc (M1.heap b0.out fun h => h))
          | (go_at_call 63; refine (HC.out _).mono ?_; rintro e w2 ⟨rfl, M2⟩; obtain ⟨d3, e3⟩ := blkc (M2.heap (M1.heap b0.out fun h => h) fun h => h)))
        clear HK HC d0 e0 d2 e2 d3 e3
        replace M1 := M1.trans' M2
        clear M2
        go_wp2_with fail
        refine bodyPost_ret (v := .tuple #[.int .i64 k, .int .i64 (cix c), .int .i64 (cside c)]) (by simp [results, Tryz.results30, go_sem]) rfl ⟨⟨_, _, _, rfl, c, .N k b s l r, rfl, rfl, rfl, rfl, h1.out, h2.out, .inr ⟨_, _, _, _, _, rfl, heq.out.symm⟩⟩, M.trans' M1⟩
      · rw [show cmpI (kx cs ca) (kx s.ls s.la) = 1 from cmpI_gt hgt] at HC
        replace hgt := hid hgt
        go_wp2_with fail
        go_region_held3 (fun w' => w'.cell? ⟨w.heap.size, 0, none⟩ = some (.int .i64 cs) ∧ w'.cell? ⟨w.heap.size, 1, none⟩ = some (.int .i64 ca)) (first | exact ⟨d3 0, d3 1⟩ | exact ⟨d2 0, d2 1⟩ | exact ⟨d0 0, d0 1⟩)
          (first
          | (go_at_call 64; refine (HK.out _ (Mod.refl _ _).drew).mono ?_; rintro e w1 ⟨rfl, M1⟩; replace M1 := M1.of_drew; obtain ⟨d2, e2⟩ := blkc (M1.heap b0.out fun h => h))
          | (go_at_call 63; refine (HC.out _).mono ?_; rintro e w2 ⟨rfl, M2⟩; obtain ⟨d3, e3⟩ := blkc (M2.heap (M1.heap b0.out fun h => h) fun h => h)))
        clear HK HC d0 e0 d2 e2 d3 e3
        replace M1 := M1.trans' M2
        clear M2
        replace h := h.mod0 M1
        obtain ⟨lb, hN⟩ := h.node'
        have A := hN.at'
        have c6 := hN.c6
        clear hN
        go_wp2_with fail
        refine A.mono ?_; rintro e w' ⟨rfl, hw⟩; subst hw
        go_wp2_with fail
        go_roundg r.size
        case measure => rw [hg.out]; simp only [T.size]; omega
        case rel =>
          refine ⟨⟨true, k, b, s, l⟩ :: c, r, rfl, rfl, rfl, rfl, rfl, ?_, by simpa [cpost] using h2.out, h, M1.heap b0.out (fun h => h), M.trans' M1⟩
          intro x hx
          simp only [cpre, if_true, List.mem_append, List.mem_cons, List.not_mem_nil, or_false] at hx
          rcases hx with hx | hx | rfl
          · exact h1.out x hx
          · have := hr.out.focus.1 x (by simp [hx]); have := hgt.out; omega
          · exact hgt.out
end
end Go.Proofs.Bo
