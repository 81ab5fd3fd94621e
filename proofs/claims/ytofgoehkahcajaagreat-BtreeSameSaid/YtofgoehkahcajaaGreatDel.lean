import Derived.Test.YtofgoehkahcajaaGreatPut
import Derived.Test.YtofgoehkahcajaaGreatSink
set_option linter.unusedVariables false
set_option linter.unusedSimpArgs false
namespace Go.Proofs.Bo
open Go Go.RowKit

section
variable {w w' : World} {tb ab N : Nat} {lv fv : Value} {room : Int} {free : List Int} {t : T}

theorem del_fine {c : Ctx} {d b : Bool} {k : Int} {y : Sg} {X : T} (h : Fine (plug c (T.mk d k b y X .E))) :
    (b = true → Fine (plug c X)) ∧ (b = false → X.red = true → Fine (plug c X.black)) ∧ (b = false → X.red = false → SinkO c X 0) := by
  obtain ⟨n, h1, h2, h3⟩ := fine_split c _ h
  rw [rbt_mk] at h2
  rw [red_mk] at h3
  refine ⟨?_, ?_, ?_⟩
  · rintro rfl
    simp only [if_true, RBT] at h2
    obtain ⟨e1, -, e3, rfl⟩ := h2
    exact fine_plug c X 0 h1 e3 fun _ => e1
  · rintro rfl hX
    simp only [Bool.false_eq_true, if_false, RBT] at h2
    obtain ⟨m, rfl, e1, rfl⟩ := h2
    refine fine_plug c X.black 1 h1 ?_ fun _ => red_black X
    cases X with
    | E => cases hX
    | N i b s l r =>
      rw [T.red_N] at hX; subst hX
      simp only [RBT, if_true] at e1
      simp only [T.black, RBT, Bool.false_eq_true, if_false]
      exact ⟨0, rfl, e1.2.2.1, e1.2.2.2⟩
  · rintro rfl hX
    simp only [Bool.false_eq_true, if_false, RBT] at h2
    obtain ⟨m, rfl, e1, rfl⟩ := h2
    exact ⟨h1, .inl ⟨hX, e1⟩⟩

def DelNo (w : World) (e : Ending) (w' : World) : Prop := e = .returned (.bool false) ∧ Mod (fun _ => False) w w'

set_option maxHeartbeats 1000000 in
set_option maxRecDepth 100000 in
theorem delZ_no (h : TS w tb ab lv fv room N free t) (hr : Row t.toL) (cs ca : Int) (hf : fit64 ca) (ho : hasK (kx cs ca) t.toL = false) :
    Calls Tryz.prog 8 #[.pointer (some ⟨tb, 0, none⟩), .agg #[.int .i64 cs, .int .i64 ca]] w fun e w' => DelNo w e w' := by
  obtain ⟨w0, hw0, b0, M0⟩ := boxC w cs ca
  obtain ⟨d0, e0⟩ := blkc b0
  replace h := h.mod0 M0
  replace hr := hid hr
  replace ho := hid ho
  have hf2 := hid (can_fit (s := cs) hf)
  have HC := canonZ cs ca w0
  go_enter Tryz.func8, Tryz.ntmps8
  go_wp2_with fail
  refine HC.mono ?_; rintro e w1 ⟨rfl, M1⟩
  clear HC d0 e0 b0 hw0
  replace h := h.mod0 M1
  have HF := (findZ h hr.out _ _ hf2.out).mono (find_kx t cs ca w1)
  go_wp2_with fail
  refine HF.mono ?_
  rintro e w2 ⟨⟨v, p, d, rfl, c, X, rfl, rfl, rfl, rfl, h1, h2, h3⟩, M2⟩
  obtain rfl := find_new ho.out h3
  clear h1 h2 h3 HF
  rw [T.ix_E]
  go_wp2_with fail
  go_ret
  exact ⟨rfl, (M0.trans' M1).trans' M2⟩

/-- What is to be taken: a node with a child at the most. -/
def DelC (w : World) (tb ab : Nat) (lv fv : Value) (room : Int) (N : Nat) (free : List Int) (L : List Sg) (v5 : Value) (W : World) : Prop :=
  ∃ (c : Ctx) (d : Bool) (k : Nat) (b : Bool) (y : Sg) (X : T), v5 = .int .i64 k ∧ TS W tb ab lv fv room N free (plug c (T.mk d k b y X .E)) ∧ Fine (plug c (T.mk d k b y X .E)) ∧ (plug c X).toL = L ∧ Mod (TF tb ab lv fv) w W
def DelYes (w : World) (tb ab : Nat) (lv fv : Value) (room : Int) (L : List Sg) (e : Ending) (w' : World) : Prop :=
  e = .returned (.bool true) ∧ ∃ lv' fv' N' free' t', TS w' tb ab lv' fv' room N' free' t' ∧ Fine t' ∧ t'.toL = L ∧ Mod (TF tb ab lv fv) w w' ∧ ∀ b, TF tb ab lv' fv' b → TF tb ab lv fv b ∨ w.heap.size ≤ b

theorem del_focus {c : Ctx} {i : Int} {b : Bool} {y : Sg} {l r : T} {k : Int} (hr : Row (plug c (.N i b y l r)).toL) (hy : ky y = k) : delL k (plug c (.N i b y l r)).toL = (cpre c ++ l.toL) ++ (r.toL ++ cpost c) := by
  obtain ⟨h1, h2⟩ := hr.focus
  rw [toL_focus]
  exact del_old hy (fun x hx => by have := h1 x hx; omega) (fun x hx => by have := h2 x hx; omega)

/-- The arena takes a node's place back. -/
theorem afreeZ {root : Int} {σ : List (Option Nd)} (h : TM w tb ab lv fv room root σ free) {k : Nat} {v : Nd} (hv : nod σ k = some v) :
    Calls Tryz.prog 37 #[.pointer (some ⟨ab, 0, none⟩), .int .i64 k] w fun e w' => ∃ (fv' : Value) (σ' : List (Option Nd)) (free' : List Int), e = .returned (.bool true) ∧
      TM w' tb ab lv fv' room root σ' free' ∧ (∀ j, nod σ' j = if j = (k : Int) then none else nod σ j) ∧ σ'.length = σ.length ∧ Mod (Foot ab lv fv) w w' ∧ (∀ b, Foot ab lv fv' b → Foot ab lv fv b ∨ w.heap.size ≤ b) := by
  obtain ⟨k', e, hk⟩ := nod_some hv
  obtain rfl : k = k' := by omega
  refine (freeN_yes h.a hk).mono ?_
  rintro e w' ⟨rfl, fv', A, M, F⟩
  exact ⟨fv', _, _, rfl, ⟨M.heap h.t h.ne, A⟩, nod_set (List.getElem?_eq_some_iff.1 hk).1 _, by simp, M, F⟩

/-- 'hang' and 'Free' as one. -/
theorem del_cut {c : Ctx} {d b : Bool} {k : Nat} {y : Sg} {X : T} (h : TS w tb ab lv fv room N free (plug c (T.mk d k b y X .E))) :
    Calls Tryz.prog 36 #[.pointer (some ⟨tb, 0, none⟩), .int .i64 X.ix, .int .i64 (cix c), .int .i64 k] w fun e w1 => e = .returned (.tuple #[]) ∧ w1.cell? ⟨tb, 0, none⟩ = some (.pointer (some ⟨ab, 0, none⟩)) ∧ Mod (TF tb ab lv fv) w w1 ∧
      Calls Tryz.prog 37 #[.pointer (some ⟨ab, 0, none⟩), .int .i64 k] w1 fun e w' => e = .returned (.bool true) ∧ Mod (TF tb ab lv fv) w w' ∧ ∃ fv' free', TS w' tb ab lv fv' room N free' (plug c X) ∧ (∀ b, TF tb ab lv fv' b → TF tb ab lv fv b ∨ w.heap.size ≤ b) := by
  obtain ⟨root, σ, m, hh, rfl⟩ := h
  have hm := fun j => (ids_mk d (k : Int) b y X .E).mem_iff (a := j)
  have hX : Is1 σ X.ix := hh.is1 fun j hj => (mem_plug ..).2 (.inr ((hm j).2 (by simp [hj])))
  have hc : Is1 σ (cix c) := hh.is1c fun j hj => (mem_plug ..).2 (.inl hj)
  refine (hangT m X.ix (cix c) k hX hc).mono ?_
  rintro e w1 ⟨rfl, m1, M1⟩
  obtain ⟨v, hv⟩ := ex_hang ⟨_, hh.at_mk⟩ X.ix (cix c) k
  refine ⟨rfl, (by obtain ⟨a, _⟩ := blkc m1.t; rw [a]; rfl), M1, (afreeZ m1 hv).mono ?_⟩
  rintro e w2 ⟨fv', σ', free', rfl, m2, g, hl, M2, F⟩
  refine ⟨rfl, M1.trans M2 fun i h => .inl (.inr h), fv', free', ⟨_, σ', m2, hh.cut g, ?_⟩, ?_⟩
  · rw [hl]; unfold hangS; simp only [modN_length]
  · rintro j (rfl | hj)
    · exact .inl (.inl rfl)
    · rcases F j hj with hx | hx
      · exact .inl (.inr hx)
      · exact .inr (Nat.le_trans M1.size hx)

set_option maxHeartbeats 4000000 in
set_option maxRecDepth 100000 in
theorem delZ_yes (h : TS w tb ab lv fv room N free t) (hr : Row t.toL) (hF : Fine t) (cs ca : Int) (hf : fit64 ca) (ho : hasK (kx cs ca) t.toL = true) :
    Calls Tryz.prog 8 #[.pointer (some ⟨tb, 0, none⟩), .agg #[.int .i64 cs, .int .i64 ca]] w fun e w' => DelYes w tb ab lv fv room (delL (kx cs ca) t.toL) e w' := by
  obtain ⟨w0, hw0, b0, M0⟩ := boxC w cs ca
  obtain ⟨d0, e0⟩ := blkc b0
  replace h := h.mod0 M0
  replace hr := hid hr
  replace ho := hid ho
  replace hF := hid hF
  have hf2 := hid (can_fit (s := cs) hf)
  have HC := canonZ cs ca w0
  go_enter Tryz.func8, Tryz.ntmps8
  go_wp2_with fail
  refine HC.mono ?_; rintro e w1 ⟨rfl, M1⟩
  clear HC d0 e0 b0 hw0
  replace h := h.mod0 M1
  have HF := (findZ h hr.out _ _ hf2.out).mono (find_kx t cs ca w1)
  go_wp2_with fail
  refine HF.mono ?_
  rintro e w2 ⟨⟨v, p, d, rfl, c, X, rfl, rfl, rfl, rfl, h1, h2, h3⟩, M2⟩
  obtain ⟨i, b, y, l, r, rfl, hy⟩ := find_old ho.out h1 h2 h3
  clear h1 h2 h3 HF ho
  replace h := h.mod0 M2
  replace M0 := (M0.trans' M1).trans' M2
  clear M1 M2
  have hdel := hid (del_focus hr.out hy)
  replace hy := hid hy
  obtain ⟨k, rfl⟩ := h.nat (i := i) ((mem_plug ..).2 (.inr (by simp [T.ids])))
  have hk0 : ((k : Int) == -1) = false := by simp
  rw [T.ix_N]
  obtain ⟨lb, cp, rfl⟩ := h.lb (by intro e; have := toL_focus c k b y l r; rw [e] at this; simp [T.toL] at this)
  have hN := h.node
  have A := hN.at'
  have c5 := hN.c5
  have c6 := hN.c6
  clear hN
  obtain ⟨tw, htw⟩ : ∃ tw, (l.ix != -1 && r.ix != -1) = tw := ⟨_, rfl⟩
  replace htw := hid htw
  go_upto_region 4 with fail
  go_cut [38] (fun v W => v = .bool tw ∧ W = w2)
  case first =>
    cases hl : (l.ix != -1)
    · obtain rfl : tw = false := by rw [← htw.out, hl]; rfl
      go_wp2_with fail
      refine A.mono ?_; rintro e w' ⟨rfl, hw⟩; subst hw
      go_wp2_with fail
      go_meet
      exact ⟨rfl, rfl⟩
    · obtain rfl : tw = (r.ix != -1) := by rw [← htw.out, hl]; rfl
      clear htw
      go_wp2_with fail
      refine A.mono ?_; rintro e w' ⟨rfl, hw⟩; subst hw
      go_wp2_with fail
      refine A.mono ?_; rintro e w' ⟨rfl, hw⟩; subst hw
      go_wp2_with fail
      go_meet
      exact ⟨rfl, rfl⟩
  case rest =>
    obtain ⟨rfl, hw⟩ := hcut
    subst hw
    go_upto_if 38 with fail
    go_cut [5] (fun v W => DelC w tb ab (.slice (some ⟨lb, 0, none⟩) N cp) fv room N free (delL (kx cs ca) (plug c (.N k b y l r)).toL) v W)
    case first =>
      cases tw
      · have hfin := hid (show DelC w tb ab (.slice (some ⟨lb, 0, none⟩) N cp) fv room N free (delL (kx cs ca) (plug c (.N k b y l r)).toL) (.int .i64 k) wc by
          have M0' : Mod (TF tb ab (.slice (some ⟨lb, 0, none⟩) N cp) fv) w wc := M0.mono fun _ h => h.elim
          have e := htw.out
          by_cases hl : l = .E
          · subst hl
            refine ⟨c, true, k, b, y, r, rfl, h, hF.out, ?_, M0'⟩
            rw [hdel.out, toL_plug]; simp [T.toL]
          · have hr0 : r = .E := by
              cases r with
              | E => rfl
              | N i2 _ _ _ _ =>
                exfalso
                cases l with
                | E => exact hl rfl
                | N i1 _ _ _ _ =>
                  obtain ⟨j1, rfl⟩ := h.nat (i := i1) ((mem_plug ..).2 (.inr (by simp [T.ids])))
                  obtain ⟨j2, rfl⟩ := h.nat (i := i2) ((mem_plug ..).2 (.inr (by simp [T.ids])))
                  simp only [T.ix_N] at e
                  have e1 : ((j1 : Int) != -1) = true := by simp
                  have e2 : ((j2 : Int) != -1) = true := by simp
                  rw [e1, e2] at e; cases e
            subst hr0
            refine ⟨c, false, k, b, y, l, rfl, h, hF.out, ?_, M0'⟩
            rw [hdel.out, toL_plug]; simp [T.toL])
        clear h A c5 c6
        go_wp2_with fail
        go_meet
        exact hfin.out
      · have e := htw.out
        have hrE : r ≠ .E := by
          rintro rfl
          rw [T.ix_E] at e; simp at e
        have hEnd := endZ (c := ⟨true, k, b, y, l⟩ :: c) (X := r) (by
          have h' : TS wc tb ab (.slice (some ⟨lb, 0, none⟩) N cp) fv room N free (plug c (T.mk true k b y r l)) := h
          rw [mk_plug] at h'; exact h') false
        clear htw e c5
        simp only [di, if_false, Bool.false_eq_true] at hEnd
        go_wp2_with fail
        refine A.mono ?_; rintro e w' ⟨rfl, hw⟩; subst hw
        go_wp2_with fail
        refine hEnd.mono ?_; rintro e w' ⟨⟨v, rfl, hq⟩, hw⟩; subst hw
        clear hEnd
        rcases hq with ⟨e, _⟩ | ⟨F, j0, b2, s2, l2, r2, hv, hFr, hx, _⟩
        · exact absurd e hrE
        subst hv
        obtain ⟨rfl, hpre⟩ := hx rfl
        replace hFr := hid hFr
        clear hrE
        have h2 : TS w' tb ab (.slice (some ⟨lb, 0, none⟩) N cp) fv room N free (plug (F ++ ⟨true, k, b, y, l⟩ :: c) (.N v b2 s2 .E r2)) := by
          rw [plug_app, ← hFr.out]; exact h
        obtain ⟨j, rfl⟩ := h2.nat (i := v) ((mem_plug ..).2 (.inr (by simp [T.ids])))
        have hN2 := h2.node
        have A2 := hN2.at'
        have z0 := hN2.c0
        have z1 := hN2.c1
        have z2 := hN2.c2
        have z3 := hN2.c3
        have z4 := hN2.c4
        clear hN2 h2
        obtain ⟨root, σ, m, hh, hlen⟩ := h
        subst hlen
        obtain ⟨W, hW, T1, MW⟩ := m.set0 ⟨_, hh.at⟩ s2
        have hh1 := hh.reseg s2
        have hfin := hid (show DelC w tb ab (.slice (some ⟨lb, 0, none⟩) σ.length cp) fv room σ.length free (delL (kx cs ca) (plug c (.N k b y l r)).toL) (.int .i64 j) W by
          have e2 : plug (F ++ ⟨true, k, b, s2, l⟩ :: c) (T.mk true j b2 s2 r2 .E) = plug c (.N k b s2 l r) := by
            rw [plug_app, hFr.out]; rfl
          refine ⟨F ++ ⟨true, k, b, s2, l⟩ :: c, true, j, b2, s2, r2, rfl, ?_, ?_, ?_, (M0.mono fun _ h => h.elim).trans' MW⟩
          · rw [e2]; exact ⟨_, _, T1, hh1, modN_length ..⟩
          · rw [e2]; exact fine_reseg hF.out
          · rw [hdel.out, toL_plug, cpre_app, cpost_app, hFr.out, toL_plug, hpre]; simp [cpre, cpost, T.toL])
        obtain ⟨q0, f0⟩ := m.cell' hh.at (j := 0) rfl
        obtain ⟨q1, f1⟩ := m.cell' hh.at (j := 1) rfl
        obtain ⟨q2, f2⟩ := m.cell' hh.at (j := 2) rfl
        obtain ⟨q3, f3⟩ := m.cell' hh.at (j := 3) rfl
        obtain ⟨q4, f4⟩ := m.cell' hh.at (j := 4) rfl
        simp only [Nat.add_zero] at q0 f0
        replace hpre := hid hpre
        replace hh1 := hid hh1
        clear m hh T1
        go_wp2_with fail
        refine A.mono ?_; rintro e w' ⟨rfl, hw⟩; subst hw
        go_wp2_with fail
        refine A2.mono ?_; rintro e w' ⟨rfl, hw⟩; subst hw
        go_wp2_with fail
        go_meet
        exact hfin.out
    case rest =>
      clear h A c5 c6 htw hdel hF hr
      obtain ⟨c1, d, k1, b1, y1, X, rfl, h, hF, hL, M⟩ := hcut
      replace hF := hid hF
      replace hL := hid hL
      have hN := h.node_mk
      have A := hN.at'
      have z0 := hN.c0
      have z1 := hN.c1
      have z2 := hN.c2
      have z3 := hN.c3
      have z4 := hN.c4
      have z5 := hN.c5
      have z6 := hN.c6
      have z7 := hN.c7
      have z8 := hN.c8
      clear hN
      obtain ⟨u5, hu5⟩ : ∃ u5, (if d then T.E.ix else X.ix) = u5 := ⟨_, rfl⟩
      obtain ⟨u6, hu6⟩ : ∃ u6, (if d then X.ix else T.E.ix) = u6 := ⟨_, rfl⟩
      rw [hu5] at z5
      rw [hu6] at z6
      replace hu5 := hid hu5
      replace hu6 := hid hu6
      obtain ⟨W1, hW1⟩ : ∃ W1, wc.alloc (.cells #[.int .i64 y1.ls, .int .i64 y1.la, .int .i64 y1.hs, .int .i64 y1.ha, .int .i64 y1.v, .int .i64 u5, .int .i64 u6, .int .i64 (cix c1), .bool b1] 62) = W1 := ⟨_, rfl⟩
      have MW : Mod (fun _ => False) wc W1 := by rw [← hW1]; exact (Mod.refl _ _).alloc _
      have bn : W1.heap[wc.heap.size]? = some (.cells #[.int .i64 y1.ls, .int .i64 y1.la, .int .i64 y1.hs, .int .i64 y1.ha, .int .i64 y1.v, .int .i64 u5, .int .i64 u6, .int .i64 (cix c1), .bool b1] 62 (0, 0)) := by rw [← hW1]; exact alloc_0 _ _
      have hlt := fun j hj => h.lt (k := j) hj
      have hnt : ∀ j, TF tb ab (.slice (some ⟨lb, 0, none⟩) N cp) fv j → j ≠ wc.heap.size := by
        intro j hj e; have := hlt j hj; omega
      obtain ⟨nb, hnb⟩ : ∃ nb, wc.heap.size = nb := ⟨_, rfl⟩
      rw [hnb] at bn hnt
      replace hlt := hid hlt
      replace hnt := hid hnt
      obtain ⟨n0, e0⟩ := blkc bn
      go_wp2_with fail
      refine A.mono ?_; rintro e w' ⟨rfl, hw⟩; subst hw
      go_upto_if 69 with fail
      replace hnb := hid hnb
      go_cut [10] (fun v W => v = .int .i64 X.ix ∧ W = W1)
      case first =>
        have hk : u5 = X.ix ∨ (u5 = -1 ∧ u6 = X.ix) := by
          have e5 := hu5.out
          have e6 := hu6.out
          cases d
          · left; rw [← e5]; rfl
          · right; rw [← e5, ← e6]; exact ⟨rfl, rfl⟩
        have hX0 : X.ix = -1 ∨ (X.ix == -1) = false := by
          cases X with
          | E => exact .inl rfl
          | N i2 _ _ _ _ =>
            obtain ⟨j2, rfl⟩ := h.nat (i := i2) ((mem_plug ..).2 (.inr ((ids_mk ..).mem_iff.2 (by simp [T.ids]))))
            right; rw [T.ix_N]; simp
        have hX6 : X.ix = -1 → u6 = -1 := by
          intro e
          rw [← hu6.out, T.ix_E, e]
          split <;> rfl
        replace hX6 := hid hX6
        rcases hk with rfl | ⟨rfl, rfl⟩
        · rcases hX0 with e | e
          · have e6 := hX6.out e
            rw [e] at n0 ⊢
            rw [e6] at n0
            replace e := hid e
            replace e6 := hid e6
            clear z0 z1 z2 z3 z4 z5 z6 z7 z8 bn A
            go_wp2_with fail
            go_meet
            exact ⟨by rw [e.out], rfl⟩
          · clear z0 z1 z2 z3 z4 z5 z6 z7 z8 bn A
            go_wp2_with fail
            go_meet
            exact ⟨rfl, rfl⟩
        · clear hX0 z0 z1 z2 z3 z4 z5 z6 z7 z8 bn A
          go_wp2_with fail
          go_meet
          exact ⟨rfl, rfl⟩
      case rest =>
        obtain ⟨rfl, hw⟩ := hcut
        subst hw
        clear z0 z1 z2 z3 z4 z5 z6 z7 z8 A hW1
        have HC := del_cut (h.mod0 MW)
        replace M := M.trans' (MW.mono fun _ h => h.elim)
        go_wp2_with fail
        refine HC.mono ?_; rintro e w1 ⟨rfl, q0, M1, HC2⟩
        clear HC
        have bn1 := M1.heap bn fun e => hnt.out _ e rfl
        obtain ⟨n1, e1⟩ := blkc bn1
        clear n0 e0
        go_wp2_with fail
        refine HC2.mono ?_; rintro e w2 ⟨rfl, M2, fv', free', h2, hfoot⟩
        clear HC2 n1 e1 bn1 q0 M1
        have bn2 := M2.heap bn fun e => hnt.out _ e rfl
        obtain ⟨n2, e2⟩ := blkc bn2
        clear bn2 bn
        have hbl : ∀ i, TF tb ab (.slice (some ⟨lb, 0, none⟩) N cp) fv' i → TF tb ab (.slice (some ⟨lb, 0, none⟩) N cp) fv i ∨ w.heap.size ≤ i := fun i hi => by
          rcases hfoot i hi with hx | hx
          · exact .inl hx
          · exact .inr (Nat.le_trans M.size hx)
        replace M := M.trans' M2
        clear M2 hfoot
        replace hbl := hid hbl
        obtain ⟨f1, f2, f3⟩ := del_fine hF.out
        replace f1 := hid f1
        replace f2 := hid f2
        replace f3 := hid f3
        clear h
        cases b1
        · have RX := redZ h2
          by_cases hX : X.red = true
          · obtain ⟨kx, xs, xl, xr, rfl⟩ : ∃ u us ul ur, X = .N u true us ul ur := by
              cases X with
              | E => cases hX
              | N u b us ul ur => rw [T.red_N] at hX; subst hX; exact ⟨_, _, _, _, rfl⟩
            obtain ⟨kx, rfl⟩ := h2.nat (i := kx) ((mem_plug ..).2 (.inr (by simp [T.ids])))
            have hN := h2.node
            have A := hN.at'
            have c8 := hN.c8
            have f8 := hN.f8
            clear hN hX
            obtain ⟨h3, M3⟩ := h2.recol false
            have hL3 := hid ((toL_congr c1 (show (T.N (kx : Int) false xs xl xr).toL = (T.N (kx : Int) true xs xl xr).toL from rfl)).trans hL.out)
            have hF3 := hid (f2.out (by simp) rfl)
            have RX : Calls Tryz.prog 38 #[.pointer (some ⟨tb, 0, none⟩), .int .i64 (kx : Int)] w2 fun e w' => e = .returned (.bool true) ∧ w' = w2 := RX
            try rw [T.ix_N]
            clear h2
            go_wp2_with fail
            refine RX.mono ?_; rintro e w' ⟨rfl, hw⟩; subst hw
            go_wp2_with fail
            refine A.mono ?_; rintro e w' ⟨rfl, hw⟩; subst hw
            go_wp2_with fail
            go_ret
            exact ⟨rfl, _, _, _, _, _, h3, hF3.out, hL3.out, M.trans M3 fun i hi => hbl.out i hi, hbl.out⟩
          · have hX : X.red = false := by simpa using hX
            rw [hX] at RX
            have SZ := sinkZ h2 (f3.out (by simp) hX)
            replace hX := hid hX
            clear h2
            go_wp2_with fail
            refine RX.mono ?_; rintro e w' ⟨rfl, hw⟩; subst hw
            go_wp2_with fail
            refine SZ.mono ?_; rintro e w3 ⟨rfl, t', h3, F3, L3, M3⟩
            clear SZ
            go_wp2_with fail
            go_ret
            exact ⟨rfl, _, _, _, _, _, h3, F3, L3.trans hL.out, M.trans M3 fun i hi => hbl.out i hi, hbl.out⟩
        · go_wp2_with fail
          go_ret
          exact ⟨rfl, _, _, _, _, _, h2, f1.out (by simp), hL.out, M, hbl.out⟩
end
end Go.Proofs.Bo
