import Derived.Test.YtgehgjaglgafdaaGreatG11
import Derived.Test.YtgehgjaglgafdaaGreatG15
import Derived.Test.YtgehgjaglgafdaaGreatG14
import Derived.Test.YtgehgjaglgafdaaGreatG04
import Derived.Test.YtgehgjaglgafdaaGreatG03
set_option linter.unusedVariables false
set_option linter.unusedSimpArgs false
namespace Go.Proofs.Bo
open Go Go.RowKit
section
variable {w w' : World} {tb ab N : Nat} {lv fv : Value} {room : Int} {free : List Int} {t : T}
theorem del_fine {c : Ctx} {d b : Bool} {k : Int} {y : Sg} {X : T} (h : Fine (plug c (T.mk d k b y X .E))) :
  (b = true → Fine (plug c X)) ∧ (b = false → X.red = true → Fine (plug c X.black)) ∧ (b = false → X.red = false → SinkO c X 0) := by
 obtain ⟨n, h1, h2, h3⟩ := fine_split c _ h
 rw [rbt_mk] at h2
 rw [red_mk] at h3
 refine ⟨?_, ?_, ?_⟩
 ·rintro rfl
  simp only [if_true, RBT] at h2
  obtain ⟨e1, -, e3, rfl⟩ := h2
  exact fine_plug c X 0 h1 e3 fun _ => e1
 ·rintro rfl hX
  simp only [Bool.false_eq_true, if_false, RBT] at h2
  obtain ⟨m, rfl, e1, rfl⟩ := h2
  refine fine_plug c X.black 1 h1 ?_ fun _ => red_black X
  cases X with
  | E => cases hX
  | N i b s l r =>
   rw [T.red_N] at hX; subst hX
   simp only [RBT, if_true] at e1
   simp only [T.black, RBT, Bool.false_eq_true, if_false]
   exact ⟨0, rfl, e1.2.2.1, e1.2.2.2⟩
 ·rintro rfl hX
  simp only [Bool.false_eq_true, if_false, RBT] at h2
  obtain ⟨m, rfl, e1, rfl⟩ := h2
  exact ⟨h1, .inl ⟨hX, e1⟩⟩
def DelNo (w : World) (e : Ending) (w' : World) : Prop := e = .returned (.bool false) ∧ Mod (fun _ => False) w w'
set_option maxHeartbeats 1000000 in
set_option maxRecDepth 100000 in
theorem delZ_no (h : TS w tb ab lv fv room N free t) (hr : Row t.toL) (cs ca : Int) (hf : fit64 ca) (ho : hasK (kx cs ca) t.toL = false) :
  Calls Tryz.prog 153 #[.pointer (some ⟨tb, 0, none⟩), .agg #[.int .i64 cs, .int .i64 ca]] w fun e w' => DelNo w e w' := by
 obtain ⟨w0, hw0, b0, M0⟩ := boxC w cs ca
 obtain ⟨d0, e0⟩ := blkc b0
 replace h := h.mod0 M0
 replace hr := hid hr
 replace ho := hid ho
 have hf2 := hid (can_fit (s := cs) hf)
 have HC := canonZ cs ca w0
 go_enter Tryz.func153, Tryz.ntmps153
 go_wp2_with fail
 refine HC.mono ?_; rintro e w1 ⟨rfl, M1⟩
 clear HC d0 e0 b0 hw0
 replace h := h.mod0 M1
 have HF := (findZ h hr.out _ _ hf2.out).mono (find_kx t cs ca w1)
 go_wp2_with fail
 refine HF.mono ?_
 rintro e w2 ⟨⟨v, p, d, rfl, c, X, rfl, rfl, rfl, rfl, h1, h2, h3⟩, M2⟩
 obtain rfl := find_new ho.out h3
 clear h1 h2 h3 HF
 rw [T.ix_E]
 go_wp2_with fail
 go_ret
 exact ⟨rfl, (M0.trans' M1).trans' M2⟩
def DelC (w : World) (tb ab : Nat) (lv fv : Value) (room : Int) (N : Nat) (free : List Int) (L : List Sg) (v5 : Value) (W : World) : Prop :=
 ∃ (c : Ctx) (d : Bool) (k : Nat) (b : Bool) (y : Sg) (X : T), v5 = .int .i64 k ∧ TS W tb ab lv fv room N free (plug c (T.mk d k b y X .E)) ∧ Fine (plug c (T.mk d k b y X .E)) ∧ (plug c X).toL = L ∧ Mod (TF tb ab lv fv) w W
def DelYes (w : World) (tb ab : Nat) (lv fv : Value) (room : Int) (L : List Sg) (e : Ending) (w' : World) : Prop :=
 e = .returned (.bool true) ∧ ∃ lv' fv' N' free' t', TS w' tb ab lv' fv' room N' free' t' ∧ Fine t' ∧ t'.toL = L ∧ Mod (TF tb ab lv fv) w w' ∧ ∀ b, TF tb ab lv' fv' b → TF tb ab lv fv b ∨ w.heap.size ≤ b
theorem del_focus {c : Ctx} {i : Int} {b : Bool} {y : Sg} {l r : T} {k : Int} (hr : Row (plug c (.N i b y l r)).toL) (hy : ky y = k) : delL k (plug c (.N i b y l r)).toL = (cpre c ++ l.toL) ++ (r.toL ++ cpost c) := by
 obtain ⟨h1, h2⟩ := hr.focus
 rw [toL_focus]
 exact del_old hy (fun x hx => by have := h1 x hx; omega) (fun x hx => by have := h2 x hx; omega)
theorem afreeZ {root : Int} {σ : List (Option Nd)} (h : TM w tb ab lv fv room root σ free) {k : Nat} {v : Nd} (hv : nod σ k = some v) :
  Calls Tryz.prog 174 #[.pointer (some ⟨ab, 0, none⟩), .int .i64 k] w fun e w' => ∃ (fv' : Value) (σ' : List (Option Nd)) (free' : List Int), e = .returned (.bool true) ∧
   TM w' tb ab lv fv' room root σ' free' ∧ (∀ j, nod σ' j = if j = (k : Int) then none else nod σ j) ∧ σ'.length = σ.length ∧ Mod (Foot ab lv fv) w w' ∧ (∀ b, Foot ab lv fv' b → Foot ab lv fv b ∨ w.heap.size ≤ b) := by
 obtain ⟨k', e, hk⟩ := nod_some hv
 obtain rfl : k = k' := by omega
 refine (freeN_yes h.a hk).mono ?_
 rintro e w' ⟨rfl, fv', A, M, F⟩
 exact ⟨fv', _, _, rfl, ⟨M.heap h.t h.ne, A⟩, nod_set (List.getElem?_eq_some_iff.1 hk).1 _, by simp, M, F⟩
theorem del_cut {c : Ctx} {d b : Bool} {k : Nat} {y : Sg} {X : T} (h : TS w tb ab lv fv room N free (plug c (T.mk d k b y X .E))) :
  Calls Tryz.prog 173 #[.pointer (some ⟨tb, 0, none⟩), .int .i64 X.ix, .int .i64 (cix c), .int .i64 k] w fun e w1 => e = .returned (.tuple #[]) ∧ w1.cell? ⟨tb, 0, none⟩ = some (.pointer (some ⟨ab, 0, none⟩)) ∧ Mod (TF tb ab lv fv) w w1 ∧
   Calls Tryz.prog 174 #[.pointer (some ⟨ab, 0, none⟩), .int .i64 k] w1 fun e w' => e = .returned (.bool true) ∧ Mod (TF tb ab lv fv) w w' ∧ ∃ fv' free', TS w' tb ab lv fv' room N free' (plug c X) ∧ (∀ b, TF tb ab lv fv' b → TF tb ab lv fv b ∨ w.heap.size ≤ b) := by
 obtain ⟨root, σ, m, hh, rfl⟩ := h
 have hm := fun j => (ids_mk d (k : Int) b y X .E).mem_iff (a := j)
 have hX : Is1 σ X.ix := hh.is1 fun j hj => (mem_plug ..).2 (.inr ((hm j).2 (by simp [hj])))
 have hc : Is1 σ (cix c) := hh.is1c fun j hj => (mem_plug ..).2 (.inl hj)
 refine (hangT m X.ix (cix c) k hX hc).mono ?_
 rintro e w1 ⟨rfl, m1, M1⟩
 obtain ⟨v, hv⟩ := ex_hang ⟨_, hh.at_mk⟩ X.ix (cix c) k
 refine ⟨rfl, (by obtain ⟨a, _⟩ := blkc m1.t; rw [a]; rfl), M1, (afreeZ m1 hv).mono ?_⟩
 rintro e w2 ⟨fv', σ', free', rfl, m2, g, hl, M2, F⟩
 refine ⟨rfl, M1.trans M2 fun i h => .inl (.inr h), fv', free', ⟨_, σ', m2, hh.cut g, ?_⟩, ?_⟩
 ·rw [hl]; unfold hangS; simp only [modN_length]
 ·rintro j (rfl | hj)
  ·exact .inl (.inl rfl)
  ·rcases F j hj with hx | hx
   ·exact .inl (.inr hx)
   ·exact .inr (Nat.le_trans M1.size hx)
set_option maxHeartbeats 4000000 in
set_option maxRecDepth 100000 in
theorem delZ_yes (h : TS w tb ab lv fv room N free t) (hr : Row t.toL) (hF : Fine t) (cs ca : Int) (hf : fit64 ca) (ho : hasK (kx cs ca) t.toL = true) :
  Calls Tryz.prog 153 #[.pointer (some ⟨tb, 0, none⟩), .agg #[.int .i64 cs, .int .i64 ca]] w fun e w' => DelYes w tb ab lv fv room (delL (kx cs ca) t.toL) e w' := by
 obtain ⟨w0, hw0, b0, M0⟩ := boxC w cs ca
 obtain ⟨d0, e0⟩ := blkc b0
 replace h := h.mod0 M0
 replace hr := hid hr
 replace ho := hid ho
 replace hF := hid hF
 have hf2 := hid (can_fit (s := cs) hf)
 have HC := canonZ cs ca w0
 go_enter Tryz.func153, Tryz.ntmps153
 go_wp2_with fail
 refine HC.mono ?_; rintro e w1 ⟨rfl, M1⟩
 clear HC d0 e0 b0 hw0
 replace h := h.mod0 M1
 have HF := (findZ h hr.out _ _ hf2.out).mono (find_kx t cs ca w1)
 go_wp2_with fail
 refine HF.mono ?_
 rintro e w2 ⟨⟨v, p, d, rfl, c, X, rfl, rfl, rfl, rfl, h1, h2, h3⟩, M2⟩
 obtain ⟨i, b, y, l, r, rfl, hy⟩ := find_old ho.out h1 h2 h3
 clear h1 h2 h3 HF ho
 replace h := h.mod0 M2
 replace M0 := (M0.trans' M1).trans' M2
 clear M1 M2
 have hdel := hid (del_focus hr.out hy)
 replace hy := hid hy
 obtain ⟨k, rfl⟩ := h.nat (i := i) ((mem_plug ..).2 (.inr (by simp [T.ids])))
 have hk0 : ((k : Int) == -1) = false := by simp
 rw [T.ix_N]
 obtain ⟨lb, cp, rfl⟩ := h.lb (by intro e; have := toL_focus c k b y l r; rw [e] at this; simp [T.toL] at this)
 have hN := h.node
 have A := hN.at'
 have c5 := hN.c5
 have c6 := hN.c6
 clear hN
 obtain ⟨tw, htw⟩ : ∃ tw, (l.ix != -1 && r.ix != -1) = tw := ⟨_, rfl⟩
 replace htw := hid htw
 go_upto_region 4 with fail
 go_cut [38] (fun v W => v = .bool tw ∧ W = w2)
 case first =>
  cases hl : (l.ix != -1)
  ·obtain rfl : tw = false := by rw [← htw.out, hl]; rfl
   go_wp2_with fail
   refine A.mono ?_; rintro e w' ⟨rfl, hw⟩; subst hw
   go_wp2_with fail
   go_meet
   exact ⟨rfl, rfl⟩
  ·obtain rfl : tw = (r.ix != -1) := by rw [← htw.out, hl]; rfl
   clear htw
   go_wp2_with fail
   refine A.mono ?_; rintro e w' ⟨rfl, hw⟩; subst hw
   go_wp2_with fail
   refine A.mono ?_; rintro e w' ⟨rfl, hw⟩; subst hw
   go_wp2_with fail
   go_meet
   exact ⟨rfl, rfl⟩
 case rest =>
  obtain ⟨rfl, hw⟩ := hcut
  subst hw
  go_upto_if 38 with fail
  go_cut [5] (fun v W => DelC w tb ab (.slice (some ⟨lb, 0, none⟩) N cp) fv room N free (delL (kx cs ca) (plug c (.N k b y l r)).toL) v W)
  case first =>
   cases tw
   ·have hfin := hid (show DelC w tb ab (.slice (some ⟨lb, 0, none⟩) N cp) fv room N free (delL (kx cs ca) (plug c (.N k b y l r)).toL) (.int .i64 k) wc by
     have M0' : Mod (TF tb ab (.slice (some ⟨lb, 0, none⟩) N cp) fv) w wc := M0.mono fun _ h => h.elim
     have e := htw.out
     by_cases hl : l = .E
     ·subst hl
      refine ⟨c, true, k, b, y, r, rfl, h, hF.out, ?_, M0'⟩
      rw [hdel.out, toL_plug]; simp [T.toL]
     ·have hr0 : r = .E := by
       cases r with
       | E => rfl
       | N i2 _ _ _ _ =>
        exfalso
        cases l with
        | E => exact hl rfl
        | N i1 _ _ _ _ =>
         obtain ⟨j1, rfl⟩ := h.nat (i := i1) ((mem_plug ..).2 (.inr (by simp [T.ids])))
         obtain ⟨j2, rfl⟩ := h.nat (i := i2) ((mem_plug ..).2 (.inr (by simp [T.ids])))
         simp only [T.ix_N] at e
         have e1 : ((j1 : Int) != -1) = true := by simp
         have e2 : ((j2 : Int) != -1) = true := by simp
         rw [e1, e2] at e; cases e
      subst hr0
      refine ⟨c, false, k, b, y, l, rfl, h, hF.out, ?_, M0'⟩
      rw [hdel.out, toL_plug]; simp [T.toL])
    clear h A c5 c6
    go_wp2_with fail
    go_meet
    exact hfin.out
   ·have e := htw.out
    have hrE : r ≠ .E := by
     rintro rfl
     rw [T.ix_E] at e; simp at e
    have hEnd := endZ (c := ⟨true, k, b, y, l⟩ :: c) (X := r) (by
     have h' : TS wc tb ab (.slice (some ⟨lb, 0, none⟩) N cp) fv room N free (plug c (T.mk true k b y r l)) := h
     rw [mk_plug] at h'; exact h') false
    clear htw e c5
    simp only [di, if_false, Bool.false_eq_true] at hEnd
    go_wp2_with fail
    refine A.mono ?_; rintro e w' ⟨rfl, hw⟩; subst hw
    go_wp2_with fail
    refine hEnd.mono ?_; rintro e w' ⟨⟨v, rfl, hq⟩, hw⟩; subst hw
    clear hEnd
    rcases hq with ⟨e, _⟩ | ⟨F, j0, b2, s2, l2, r2, hv, hFr, hx, _⟩
    ·exact absurd e hrE
    subst hv
    obtain ⟨rfl, hpre⟩ := hx rfl
    replace hFr := hid hFr
    clear hrE
    have h2 : TS w' tb ab (.slice (some ⟨lb, 0, none⟩) N cp) fv room N free (plug (F ++ ⟨true, k, b, y, l⟩ :: c) (.N v b2 s2 .E r2)) := by
     rw [plug_app, ← hFr.out]; exact h
    obtain ⟨j, rfl⟩ := h2.nat (i := v) ((mem_plug ..).2 (.inr (by simp [T.ids])))
    have hN2 := h2.node
    have A2 := hN2.at'
    have z0 := hN2.c0
    have z1 := hN2.c1
    have z2 := hN2.c2
    have z3 := hN2.c3
    have z4 := hN2.c4
    clear hN2 h2
    obtain ⟨root, σ, m, hh, hlen⟩ := h
    subst hlen
    obtain ⟨W, hW, T1, MW⟩ := m.set0 ⟨_, hh.at⟩ s2
    have hh1 := hh.reseg s2
    have hfin := hid (show DelC w tb ab (.slice (some ⟨lb, 0, none⟩) σ.length cp) fv room σ.length free (delL (kx cs ca) (plug c (.N k b y l r)).toL) (.int .i64 j) W by
     have e2 : plug (F ++ ⟨true, k, b, s2, l⟩ :: c) (T.mk true j b2 s2 r2 .E) = plug c (.N k b s2 l r) := by
      rw [plug_app, hFr.out]; rfl
     refine ⟨F ++ ⟨true, k, b, s2, l⟩ :: c, true, j, b2, s2, r2, rfl, ?_, ?_, ?_, (M0.mono fun _ h => h.elim).trans' MW⟩
     ·rw [e2]; exact ⟨_, _, T1, hh1, modN_length ..⟩
     ·rw [e2]; exact fine_reseg hF.out
     ·rw [hdel.out, toL_plug, cpre_app, cpost_app, hFr.out, toL_plug, hpre]; simp [cpre, cpost, T.toL])
    obtain ⟨q0, f0⟩ := m.cell' hh.at (j := 0) rfl
    obtain ⟨q1, f1⟩ := m.cell' hh.at (j := 1) rfl
    obtain ⟨q2, f2⟩ := m.cell' hh.at (j := 2) rfl
    obtain ⟨q3, f3⟩ := m.cell' hh.at (j := 3) rfl
    obtain ⟨q4, f4⟩ := m.cell' hh.at (j := 4) rfl
    simp only [Nat.add_zero] at q0 f0
    replace hpre := hid hpre
    replace hh1 := hid hh1
    clear m hh T1
    go_wp2_with fail
    refine A.mono ?_; rintro e w' ⟨rfl, hw⟩; subst hw
    go_wp2_with fail
    refine A2.mono ?_; rintro e w' ⟨rfl, hw⟩; subst hw
    go_wp2_with fail
    go_meet
    exact hfin.out
  case rest =>
   clear h A c5 c6 htw hdel hF hr
   obtain ⟨c1, d, k1, b1, y1, X, rfl, h, hF, hL, M⟩ := hcut
   replace hF := hid hF
   replace hL := hid hL
   have hN := h.node_mk
   have A := hN.at'
   have z0 := hN.c0
   have z1 := hN.c1
   have z2 := hN.c2
   have z3 := hN.c3
   have z4 := hN.c4
   have z5 := hN.c5
   have z6 := hN.c6
   have z7 := hN.c7
   have z8 := hN.c8
   clear hN
   obtain ⟨u5, hu5⟩ : ∃ u5, (if d then T.E.ix else X.ix) = u5 := ⟨_, rfl⟩
   obtain ⟨u6, hu6⟩ : ∃ u6, (if d then X.ix else T.E.ix) = u6 := ⟨_, rfl⟩
   rw [hu5] at z5
   rw [hu6] at z6
   replace hu5 := hid hu5
   replace hu6 := hid hu6
   obtain ⟨W1, hW1⟩ : ∃ W1, wc.alloc (.cells #[.int .i64 y1.ls, .int .i64 y1.la, .int .i64 y1.hs, .int .i64 y1.ha, .int .i64 y1.v, .int .i64 u5, .int .i64 u6, .int .i64 (cix c1), .bool b1] 127) = W1 := ⟨_, rfl⟩
   have MW : Mod (fun _ => False) wc W1 := by rw [← hW1]; exact (Mod.refl _ _).alloc _
   have bn : W1.heap[wc.heap.size]? = some (.cells #[.int .i64 y1.ls, .int .i64 y1.la, .int .i64 y1.hs, .int .i64 y1.ha, .int .i64 y1.v, .int .i64 u5, .int .i64 u6, .int .i64 (cix c1), .bool b1] 127 (0, 0)) := by rw [← hW1]; exact alloc_0 _ _
   have hlt := fun j hj => h.lt (k := j) hj
   have hnt : ∀ j, TF tb ab (.slice (some ⟨lb, 0, none⟩) N cp) fv j → j ≠ wc.heap.size := by
    intro j hj e; have := hlt j hj; omega
   obtain ⟨nb, hnb⟩ : ∃ nb, wc.heap.size = nb := ⟨_, rfl⟩
   rw [hnb] at bn hnt
   replace hlt := hid hlt
   replace hnt := hid hnt
   obtain ⟨n0, e0⟩ := blkc bn
   go_wp2_with fail
   refine A.mono ?_; rintro e w' ⟨rfl, hw⟩; subst hw
   go_upto_if 69 with fail
   replace hnb := hid hnb
   go_cut [10] (fun v W => v = .int .i64 X.ix ∧ W = W1)
   case first =>
    have hk : u5 = X.ix ∨ (u5 = -1 ∧ u6 = X.ix) := by
     have e5 := hu5.out
     have e6 := hu6.out
     cases d
     ·left; rw [← e5]; rfl
     ·right; rw [← e5, ← e6]; exact ⟨rfl, rfl⟩
    have hX0 : X.ix = -1 ∨ (X.ix == -1) = false := by
     cases X with
     | E => exact .inl rfl
     | N i2 _ _ _ _ =>
      obtain ⟨j2, rfl⟩ := h.nat (i := i2) ((mem_plug ..).2 (.inr ((ids_mk ..).mem_iff.2 (by simp [T.ids]))))
      right; rw [T.ix_N]; simp
    have hX6 : X.ix = -1 → u6 = -1 := by
     intro e
     rw [← hu6.out, T.ix_E, e]
     split <;> rfl
    replace hX6 := hid hX6
    rcases hk with rfl | ⟨rfl, rfl⟩
    ·rcases hX0 with e | e
     ·have e6 := hX6.out e
      rw [e] at n0 ⊢
      rw [e6] at n0
      replace e := hid e
      replace e6 := hid e6
      clear z0 z1 z2 z3 z4 z5 z6 z7 z8 bn A
      go_wp2_with fail
      go_meet
      exact ⟨by rw [e.out], rfl⟩
     ·clear z0 z1 z2 z3 z4 z5 z6 z7 z8 bn A
      go_wp2_with fail
      go_meet
      exact ⟨rfl, rfl⟩
    ·clear hX0 z0 z1 z2 z3 z4 z5 z6 z7 z8 bn A
     go_wp2_with fail
     go_meet
     exact ⟨rfl, rfl⟩
   case rest =>
    obtain ⟨rfl, hw⟩ := hcut
    subst hw
    clear z0 z1 z2 z3 z4 z5 z6 z7 z8 A hW1
    have HC := del_cut (h.mod0 MW)
    replace M := M.trans' (MW.mono fun _ h => h.elim)
    go_wp2_with fail
    refine HC.mono ?_; rintro e w1 ⟨rfl, q0, M1, HC2⟩
    clear HC
    have bn1 := M1.heap bn fun e => hnt.out _ e rfl
    obtain ⟨n1, e1⟩ := blkc bn1
    clear n0 e0
    go_wp2_with fail
    refine HC2.mono ?_; rintro e w2 ⟨rfl, M2, fv', free', h2, hfoot⟩
    clear HC2 n1 e1 bn1 q0 M1
    have bn2 := M2.heap bn fun e => hnt.out _ e rfl
    obtain ⟨n2, e2⟩ := blkc bn2
    clear bn2 bn
    have hbl : ∀ i, TF tb ab (.slice (some ⟨lb, 0, none⟩) N cp) fv' i → TF tb ab (.slice (some ⟨lb, 0, none⟩) N cp) fv i ∨ w.heap.size ≤ i := fun i hi => by
     rcases hfoot i hi with hx | hx
     ·exact .inl hx
     ·exact .inr (Nat.le_trans M.size hx)
    replace M := M.trans' M2
    clear M2 hfoot
    replace hbl := hid hbl
    obtain ⟨f1, f2, f3⟩ := del_fine hF.out
    replace f1 := hid f1
    replace f2 := hid f2
    replace f3 := hid f3
    clear h
    cases b1
    ·have RX := redZ h2
     by_cases hX : X.red = true
     ·obtain ⟨kx, xs, xl, xr, rfl⟩ : ∃ u us ul ur, X = .N u true us ul ur := by
       cases X with
       | E => cases hX
       | N u b us ul ur => rw [T.red_N] at hX; subst hX; exact ⟨_, _, _, _, rfl⟩
      obtain ⟨kx, rfl⟩ := h2.nat (i := kx) ((mem_plug ..).2 (.inr (by simp [T.ids])))
      have hN := h2.node
      have A := hN.at'
      have c8 := hN.c8
      have f8 := hN.f8
      clear hN hX
      obtain ⟨h3, M3⟩ := h2.recol false
      have hL3 := hid ((toL_congr c1 (show (T.N (kx : Int) false xs xl xr).toL = (T.N (kx : Int) true xs xl xr).toL from rfl)).trans hL.out)
      have hF3 := hid (f2.out (by simp) rfl)
      have RX : Calls Tryz.prog 165 #[.pointer (some ⟨tb, 0, none⟩), .int .i64 (kx : Int)] w2 fun e w' => e = .returned (.bool true) ∧ w' = w2 := RX
      try rw [T.ix_N]
      clear h2
      go_wp2_with fail
      refine RX.mono ?_; rintro e w' ⟨rfl, hw⟩; subst hw
      go_wp2_with fail
      refine A.mono ?_; rintro e w' ⟨rfl, hw⟩; subst hw
      go_wp2_with fail
      go_ret
      exact ⟨rfl, _, _, _, _, _, h3, hF3.out, hL3.out, M.trans M3 fun i hi => hbl.out i hi, hbl.out⟩
     ·have hX : X.red = false := by simpa using hX
      rw [hX] at RX
      have SZ := sinkZ h2 (f3.out (by simp) hX)
      replace hX := hid hX
      clear h2
      go_wp2_with fail
      refine RX.mono ?_; rintro e w' ⟨rfl, hw⟩; subst hw
      go_wp2_with fail
      refine SZ.mono ?_; rintro e w3 ⟨rfl, t', h3, F3, L3, M3⟩
      clear SZ
      go_wp2_with fail
      go_ret
      exact ⟨rfl, _, _, _, _, _, h3, F3, L3.trans hL.out, M.trans M3 fun i hi => hbl.out i hi, hbl.out⟩
    ·go_wp2_with fail
     go_ret
     exact ⟨rfl, _, _, _, _, _, h2, f1.out (by simp), hL.out, M, hbl.out⟩
end
open Go Go.RowKit
theorem Row.filter {l : List Sg} (h : Row l) (p : Sg → Bool) : Row (l.filter p) := ⟨h.1.sublist List.filter_sublist, fun s hs => h.2 s (List.mem_filter.1 hs).1⟩
theorem Row.ins {l : List Sg} (h : Row l) {s : Sg} (hs : KeyOK s) : Row (insL s l) := by
 unfold insL
 refine ⟨List.pairwise_append.2 ⟨h.1.sublist List.filter_sublist, List.pairwise_cons.2 ⟨fun x hx => by simpa using (List.mem_filter.1 hx).2, h.1.sublist List.filter_sublist⟩, fun a ha b hb => ?_⟩, fun x hx => ?_⟩
 ·have h1 : ky a < ky s := by simpa using (List.mem_filter.1 ha).2
  rcases List.mem_cons.1 hb with rfl | hb
  ·exact h1
  ·have h2 : ky s < ky b := by simpa using (List.mem_filter.1 hb).2
   omega
 ·rcases List.mem_append.1 hx with hx | hx
  ·exact h.2 x (List.mem_filter.1 hx).1
  ·rcases List.mem_cons.1 hx with rfl | hx
   ·exact hs
   ·exact h.2 x (List.mem_filter.1 hx).1
theorem can_pos {s a : Int} (h : canS s a = s ∧ canA s a = a) (hs : 0 < s) : s = 1 ∧ a = 0 := by
 unfold canS canA at h
 grind
section
variable {w w' : World} {tb : Nat} {room : Int} {l : List Sg} {X : Nat → Prop}
theorem rb_bound (h : RB X w tb room l) : (l.length : Int) ≤ room ∧ room ≤ 65536 := by
 obtain ⟨ab, N, lv, fv, free, t, h1, h2, h3, rfl, h5⟩ := h
 have := h1.bound
 rw [size_toL]; omega
theorem rb_row (h : RB X w tb room l) : Row l := by
 obtain ⟨ab, N, lv, fv, free, t, h1, h2, h3, rfl, h5⟩ := h
 exact h2
theorem rb_put (h : RB X w tb room l) (s : Sg) (hf : fit64 s.la) : Calls Tryz.prog 161 #[.pointer (some ⟨tb, 0, none⟩), .agg (encS s).toArray] w fun e w' => PutP X w tb room l s e w' := by
 have h0 := h
 obtain ⟨ab, N, lv, fv, free, t, h1, h2, h3, rfl, h5⟩ := h
 have hgrow : ∀ {w' : World} {L : List Sg}, Row L → Mod (TF tb ab lv fv) w w' → (∃ lv' fv' N' free' t', TS w' tb ab lv' fv' room N' free' t' ∧ Fine t' ∧ t'.toL = L ∧ ∀ b, TF tb ab lv' fv' b → TF tb ab lv fv b ∨ w.heap.size ≤ b) →
   RB (fun k => X k ∨ w.heap.size ≤ k) w' tb room L ∧ Mod X w w' := by
  rintro w' L hL hm ⟨lv', fv', N', free', t', T1, T2, T3, T4⟩
  exact ⟨⟨ab, N', lv', fv', free', t', T1, by rw [T3]; exact hL, T2, T3, fun k hk => (T4 k hk).imp (h5 k) id⟩, hm.mono fun i hi => .inl (h5 i hi)⟩
 have hsame : ∀ {w' : World}, Mod (fun _ => False) w w' → RB (fun k => X k ∨ w.heap.size ≤ k) w' tb room t.toL ∧ Mod X w w' := fun m =>
  ⟨(h0.mod0 m).mono fun k hk _ => .inl hk, m.mono fun _ h => h.elim⟩
 unfold PutP putE putL
 by_cases hc : canS s.ls s.la = s.ls ∧ canA s.ls s.la = s.la
 ·by_cases hs : 0 < s.ls
  ·have hk : okB s = false := decide_eq_false fun h => by have := h.2.2; omega
   rw [hk]
   refine (putZ_arg2 s (can_pos hc hs) w tb).mono ?_
   rintro e w' ⟨rfl, hm⟩
   exact ⟨rfl, hsame hm⟩
  ·have hk' : okKey s.ls s.la := ⟨hc.1, hc.2, by omega⟩
   have hk : okB s = true := by unfold okB; simpa using hk'
   rw [hk]
   simp only [if_true]
   by_cases ho : hasK (ky s) t.toL = true
   ·rw [ho]
    refine (putZ_old h1 h2 h3 s hk' hf ho).mono ?_
    rintro e w' ⟨rfl, t', T1, T2, T3, hm⟩
    exact ⟨rfl, hgrow (h2.ins ⟨hk', hf⟩) hm ⟨_, _, _, _, _, T1, T2, T3, fun b hb => .inl hb⟩⟩
   ·replace ho : hasK (ky s) t.toL = false := by simpa using ho
    rw [ho]
    simp only [Bool.false_eq_true, if_false]
    by_cases hz : room ≤ t.size
    ·rw [if_pos (by rw [size_toL]; exact hz), if_pos (by rw [size_toL]; exact hz)]
     refine (putZ_full h1 h2 h3 s hk' hf ho hz).mono ?_
     rintro e w' ⟨rfl, hm⟩
     exact ⟨rfl, hsame hm⟩
    ·rw [if_neg (by rw [size_toL]; exact hz), if_neg (by rw [size_toL]; exact hz)]
     refine (putZ_new h1 h2 h3 s hk' hf ho (by omega)).mono ?_
     rintro e w' ⟨rfl, lv', fv', N', free', t', T1, T2, T3, hm, T4⟩
     exact ⟨rfl, hgrow (h2.ins ⟨hk', hf⟩) hm ⟨_, _, _, _, _, T1, T2, T3, T4⟩⟩
 ·have hk : okB s = false := decide_eq_false fun h => hc ⟨h.1, h.2.1⟩
  rw [hk]
  refine (putZ_arg1 s hc w tb).mono ?_
  rintro e w' ⟨rfl, hm⟩
  exact ⟨rfl, hsame hm⟩
def DelP (X : Nat → Prop) (w : World) (tb : Nat) (room : Int) (l : List Sg) (k : Int) (e : Ending) (w' : World) : Prop :=
 e = .returned (.bool (hasK k l)) ∧ RB (fun k => X k ∨ w.heap.size ≤ k) w' tb room (delL k l) ∧ Mod X w w'
theorem rb_del (h : RB X w tb room l) (cs ca : Int) (hf : fit64 ca) : Calls Tryz.prog 153 #[.pointer (some ⟨tb, 0, none⟩), .agg #[.int .i64 cs, .int .i64 ca]] w fun e w' => DelP X w tb room l (kx cs ca) e w' := by
 have h0 := h
 obtain ⟨ab, N, lv, fv, free, t, h1, h2, h3, rfl, h5⟩ := h
 unfold DelP
 by_cases ho : hasK (kx cs ca) t.toL = true
 ·rw [ho]
  refine (delZ_yes h1 h2 h3 cs ca hf ho).mono ?_
  rintro e w' ⟨rfl, lv', fv', N', free', t', T1, T2, T3, hm, T4⟩
  exact ⟨rfl, ⟨ab, N', lv', fv', free', t', T1, by rw [T3]; exact h2.filter _, T2, T3, fun k hk => (T4 k hk).imp (h5 k) id⟩, hm.mono fun i hi => .inl (h5 i hi)⟩
 ·replace ho : hasK (kx cs ca) t.toL = false := by simpa using ho
  rw [ho, del_none ho]
  refine (delZ_no h1 h2 cs ca hf ho).mono ?_
  rintro e w' ⟨rfl, hm⟩
  exact ⟨rfl, (h0.mod0 hm).mono fun k hk _ => .inl hk, hm.mono fun _ h => h.elim⟩
theorem rb_clear (h : RB X w tb room l) : Calls Tryz.prog 152 #[.pointer (some ⟨tb, 0, none⟩)] w fun e w' => e = .returned (.tuple #[]) ∧ RB (fun k => X k ∨ w.heap.size ≤ k) w' tb room [] ∧ Mod X w w' := by
 obtain ⟨ab, N, lv, fv, free, t, h1, h2, h3, rfl, h5⟩ := h
 refine (clearTZ h1).mono ?_
 rintro e w' ⟨rfl, T1, hm⟩
 refine ⟨rfl, ⟨ab, 0, _, _, [], .E, T1, row_nil, fine_E, rfl, fun k hk => ?_⟩, hm.mono fun i hi => .inl (h5 i hi)⟩
 refine .inl (h5 k ?_)
 rcases hk with hk | hk | hk | hk
 ·exact .inl hk
 ·exact .inr (.inl hk)
 ·cases hk
 ·cases hk
theorem rb_len (h : RB X w tb room l) : Calls Tryz.prog 159 #[.pointer (some ⟨tb, 0, none⟩)] w fun e w' => e = .returned (.int .i64 l.length) ∧ Mod (fun _ => False) w w' := by
 obtain ⟨ab, N, lv, fv, free, t, h1, h2, h3, rfl, h5⟩ := h
 rw [size_toL]; exact lenTZ h1
theorem rb_room (h : RB X w tb room l) : Calls Tryz.prog 162 #[.pointer (some ⟨tb, 0, none⟩)] w fun e w' => e = .returned (.int .i64 room) ∧ Mod (fun _ => False) w w' := by
 obtain ⟨ab, N, lv, fv, free, t, h1, h2, h3, rfl, h5⟩ := h
 exact roomTZ h1
theorem rb_floor (h : RB X w tb room l) (cs ca : Int) (hf : fit64 ca) : Calls Tryz.prog 155 #[.pointer (some ⟨tb, 0, none⟩), .agg #[.int .i64 cs, .int .i64 ca]] w fun e w' => e = .returned (optS (nearS false true (kx cs ca) l)) ∧ Mod (fun _ => False) w w' := by
 obtain ⟨ab, N, lv, fv, free, t, h1, h2, h3, rfl, h5⟩ := h
 exact floorTZ h1 h2 hf
theorem rb_lower (h : RB X w tb room l) (cs ca : Int) (hf : fit64 ca) : Calls Tryz.prog 160 #[.pointer (some ⟨tb, 0, none⟩), .agg #[.int .i64 cs, .int .i64 ca]] w fun e w' => e = .returned (optS (nearS false false (kx cs ca) l)) ∧ Mod (fun _ => False) w w' := by
 obtain ⟨ab, N, lv, fv, free, t, h1, h2, h3, rfl, h5⟩ := h
 exact lowerTZ h1 h2 hf
theorem rb_ceil (h : RB X w tb room l) (cs ca : Int) (hf : fit64 ca) : Calls Tryz.prog 150 #[.pointer (some ⟨tb, 0, none⟩), .agg #[.int .i64 cs, .int .i64 ca]] w fun e w' => e = .returned (optS (nearS true true (kx cs ca) l)) ∧ Mod (fun _ => False) w w' := by
 obtain ⟨ab, N, lv, fv, free, t, h1, h2, h3, rfl, h5⟩ := h
 exact ceilTZ h1 h2 hf
theorem rb_high (h : RB X w tb room l) (cs ca : Int) (hf : fit64 ca) : Calls Tryz.prog 157 #[.pointer (some ⟨tb, 0, none⟩), .agg #[.int .i64 cs, .int .i64 ca]] w fun e w' => e = .returned (optS (nearS true false (kx cs ca) l)) ∧ Mod (fun _ => False) w w' := by
 obtain ⟨ab, N, lv, fv, free, t, h1, h2, h3, rfl, h5⟩ := h
 exact highTZ h1 h2 hf
theorem rb_get (h : RB X w tb room l) (cs ca : Int) (hf : fit64 ca) : Calls Tryz.prog 156 #[.pointer (some ⟨tb, 0, none⟩), .agg #[.int .i64 cs, .int .i64 ca]] w fun e w' => e = .returned (optS (getS (kx cs ca) l)) ∧ Mod (fun _ => False) w w' := by
 obtain ⟨ab, N, lv, fv, free, t, h1, h2, h3, rfl, h5⟩ := h
 exact getZ h1 h2 cs ca hf
theorem rb_first (h : RB X w tb room l) : Calls Tryz.prog 154 #[.pointer (some ⟨tb, 0, none⟩)] w fun e w' => e = .returned (optS l.head?) ∧ Mod (fun _ => False) w w' := by
 obtain ⟨ab, N, lv, fv, free, t, h1, h2, h3, rfl, h5⟩ := h
 exact firstTZ h1
theorem rb_last (h : RB X w tb room l) : Calls Tryz.prog 158 #[.pointer (some ⟨tb, 0, none⟩)] w fun e w' => e = .returned (optS l.getLast?) ∧ Mod (fun _ => False) w w' := by
 obtain ⟨ab, N, lv, fv, free, t, h1, h2, h3, rfl, h5⟩ := h
 exact lastTZ h1
theorem rb_new (h0 : 0 ≤ room) (h1 : room ≤ 4096) (w : World) : Calls Tryz.prog 62 #[.int .i64 room] w fun e w' => ∃ tb, e = .returned (.tuple #[.pointer (some ⟨tb, 0, none⟩), .int .i64 0]) ∧ RB (fun k => w.heap.size ≤ k) w' tb room [] ∧ w.heap.size ≤ tb ∧ Mod (fun _ => False) w w' := by
 refine (newTZ room h0 h1 w).mono ?_
 rintro e w' ⟨tb, rfl, T1, hz, hm⟩
 refine ⟨tb, rfl, ⟨_, _, _, _, _, _, T1, row_nil, fine_E, rfl, fun k hk => ?_⟩, hz, hm⟩
 rcases hk with rfl | rfl | hk | hk
 ·exact hz
 ·exact Nat.le_refl _
 ·cases hk
 ·cases hk
end
open Go Go.RowKit
def posL (k : Int) (l : List Sg) : Nat := (l.filter (fun x => decide (ky x < k))).length
theorem cmp1Z (s : Sg) (cs ca : Int) (hs : fit64 s.la) (hf : fit64 ca) (w : World) : Calls Tryz.prog 137 #[.agg #[.int .i64 s.ls, .int .i64 s.la, .int .i64 s.hs, .int .i64 s.ha, .int .i64 s.v], .agg #[.int .i64 cs, .int .i64 ca]] w fun e w' => e = .returned (.int .i64 (cmpI (ky s) (kx cs ca))) ∧ Mod (fun _ => False) w w' := by
 obtain ⟨w0, hw0, b0, b1, M0⟩ : ∃ w0, (w.alloc (.cells #[.int .i64 s.ls, .int .i64 s.la, .int .i64 s.hs, .int .i64 s.ha, .int .i64 s.v] 38)).alloc (.cells #[.int .i64 cs, .int .i64 ca] 34) = w0 ∧
   w0.heap[w.heap.size]? = some (.cells #[.int .i64 s.ls, .int .i64 s.la, .int .i64 s.hs, .int .i64 s.ha, .int .i64 s.v] 38 (0, 0)) ∧ w0.heap[w.heap.size + 1]? = some (.cells #[.int .i64 cs, .int .i64 ca] 34 (0, 0)) ∧ Mod (fun _ => False) w w0 :=
  ⟨_, rfl, alloc2_0 _ _ _, alloc2_1 _ _ _, ((Mod.refl _ _).alloc _).alloc _⟩
 obtain ⟨d0, e0⟩ := blkc b0
 obtain ⟨d1, e1⟩ := blkc b1
 have HC := compareZ (s := s.ls) (s' := cs) hs hf w0
 go_enter Tryz.func137, Tryz.ntmps137
 go_wp2_with fail
 refine HC.mono ?_
 rintro e w1 ⟨rfl, M1⟩
 go_wp2_with fail
 go_ret
 exact ⟨rfl, M0.trans' M1⟩
theorem posL_le (k : Int) (l : List Sg) : posL k l ≤ l.length := List.length_filter_le _ _
theorem posL_eq {k : Int} {l : List Sg} {i : Nat} (hi : i ≤ l.length) (h1 : ∀ j (hj : j < l.length), j < i → ky l[j] < k) (h2 : ∀ j (hj : j < l.length), i ≤ j → k ≤ ky l[j]) : posL k l = i := by
 unfold posL
 have e : l = l.take i ++ l.drop i := (List.take_append_drop i l).symm
 rw [e, List.filter_append, List.filter_eq_self.2, List.filter_eq_nil_iff.2]
 ·simp [hi]
 ·intro x hx
  obtain ⟨j, hj, rfl⟩ := List.mem_iff_getElem.1 hx
  have hj' : i + j < l.length := by simp at hj; omega
  rw [List.getElem_drop]
  have := h2 (i + j) hj' (by omega)
  simp; omega
 ·intro x hx
  obtain ⟨j, hj, rfl⟩ := List.mem_iff_getElem.1 hx
  have hj2 : j < i ∧ j < l.length := by simp at hj; omega
  rw [List.getElem_take]
  simpa using h1 j hj2.2 hj2.1
set_option maxHeartbeats 2000000 in
set_option maxRecDepth 100000 in
theorem bsfZ {w : World} {v : Value} {l : List Sg} (h : RowV w v l) (hr : Row l) (hlen : l.length ≤ 65536) (cs ca : Int) (hf : fit64 ca) :
  Calls Tryz.prog 136 #[v, .agg #[.int .i64 cs, .int .i64 ca], .func (.func 137) #[] #[]] w fun e w' => e = .returned (.tuple #[.int .i64 (posL (kx cs ca) l), .bool (hasK (kx cs ca) l)]) ∧ Mod (fun _ => False) w w' := by
 obtain ⟨A, c, rfl, hA⟩ := h.slice
 obtain ⟨w0, hw0, b0, M0⟩ := boxC w cs ca
 replace h := h.keep M0
 go_enter Tryz.func136, Tryz.ntmps136
 go_wp2_with fail
 go_loopw [9, 10] (fun i j W => ∃ p q : Nat, p ≤ q ∧ q ≤ l.length ∧ i = .int .i64 p ∧ j = .int .i64 q ∧ Mod (fun _ => False) w0 W ∧ (∀ t (ht : t < l.length), t < p → ky l[t] < kx cs ca) ∧ (∀ t (ht : t < l.length), q ≤ t → kx cs ca ≤ ky l[t])) (fun i j _ => (intOf j - intOf i).toNat)
 case atStart => exact ⟨0, l.length, by omega, by omega, rfl, rfl, Mod.refl _ _, by omega, by omega⟩
 case round =>
  obtain ⟨p, q, hpq, hql, rfl, rfl, M1, h1, h2⟩ := hrel
  by_cases hlt : p < q
  ·obtain ⟨g, rfl⟩ := hA (by omega)
   obtain ⟨m, hm⟩ : ∃ m, (p + q) / 2 = m := ⟨_, rfl⟩
   have hmp : p ≤ m ∧ m < q := by omega
   have hmq : (m : Int) < l.length := by omega
   have hml : m < l.length := by omega
   have hmI : ((p : Int) + q) / 2 = (m : Int) := by omega
   have hcs := fun (w' : World) (M : CM wr w') => (h.keep (M1.trans' M)).cells hml
   have hfm : fit64 l[m].la := (hr.2 l[m] (by simp)).2
   have hL : ky l[m] < kx cs ca → ∀ t (ht : t < l.length), t < m + 1 → ky l[t] < kx cs ca := fun e t ht htm => by
    by_cases e2 : t = m
    ·subst e2; exact e
    ·have := List.pairwise_iff_getElem.1 hr.1 t m ht hml (by omega); omega
   have hR : ¬ ky l[m] < kx cs ca → ∀ t (ht : t < l.length), m ≤ t → kx cs ca ≤ ky l[t] := fun e t ht htm => by
    by_cases e2 : t = m
    ·subst e2; omega
    ·have := List.pairwise_iff_getElem.1 hr.1 m t hml ht (by omega); omega
   generalize l[m] = s at hcs hfm hL hR
   have HC := hid (fun (w' : World) (M : CM wr w') => (cmp1Z s cs ca hfm hf w').mono fun e w'' ⟨h1, h2⟩ => (⟨h1, Mod.trans' M h2⟩ : e = Ending.returned (.int .i64 (cmpI (ky s) (kx cs ca))) ∧ CM wr w''))
   have HB := hid (fun (w' : World) (M : CM wr w') => And.intro (blkc (Mod.heap (M1.trans' M) b0 fun h => h)) (hcs w' M))
   have fin1 : ky s < kx cs ca → ∀ W, Mod (fun _ => False) wr W → ∃ p' q' : Nat, p' ≤ q' ∧ q' ≤ l.length ∧ Value.int .i64 ((m : Int) + 1) = .int .i64 p' ∧ Value.int .i64 (q : Int) = .int .i64 q' ∧ Mod (fun _ => False) w0 W ∧ (∀ t (ht : t < l.length), t < p' → ky l[t] < kx cs ca) ∧ (∀ t (ht : t < l.length), q' ≤ t → kx cs ca ≤ ky l[t]) :=
    fun e W M => ⟨m + 1, q, by omega, hql, by simp, rfl, M1.trans' M, hL e, h2⟩
   have fin2 : ¬ ky s < kx cs ca → ∀ W, Mod (fun _ => False) wr W → ∃ p' q' : Nat, p' ≤ q' ∧ q' ≤ l.length ∧ Value.int .i64 (p : Int) = .int .i64 p' ∧ Value.int .i64 (m : Int) = .int .i64 q' ∧ Mod (fun _ => False) w0 W ∧ (∀ t (ht : t < l.length), t < p' → ky l[t] < kx cs ca) ∧ (∀ t (ht : t < l.length), q' ≤ t → kx cs ca ≤ ky l[t]) :=
    fun e W M => ⟨p, m, by omega, by omega, rfl, rfl, M1.trans' M, h1, hR e⟩
   clear hcs hL hR h1 h2 hfm h M1
   replace hm := hid hm
   replace hr := hid hr
   obtain ⟨ls, la, hs, ha, sv⟩ := s
   by_cases e : ky ⟨ls, la, hs, ha, sv⟩ < kx cs ca
   ·have fin := hid (fin1 e)
    rw [cmpI_lt e] at HC
    clear fin1 fin2 e
    go_wp2_with fail
    refine cq_region (by kernel_rfl) (by kernel_rfl) ?_
    iterate 8 (refine wpQuiet_step (fun K hK => ?_); go_simp; first | (refine hK _ ?_; clear hK K) | (refine ⟨_, fun _ _ => rfl, hK _ ?_⟩; clear hK K) | (apply Exists.intro; refine ⟨fun wq hq => ?_, hK _ ?_⟩; (focus (first | (go_at_call 137; exact HC.out _ hq) | (obtain ⟨⟨t1, t2⟩, t3, t4, t5, t6, t7⟩ := HB.out _ hq; go_simp; try with_reducible rfl))); clear hK K))
    refine wpQuiet_nil ?_
    intro w2 M2
    clear HB HC
    go_wp2_with fail
    go_roundw
    case rel => exact fin.out _ M2
    case measure => simp [intOf]; omega
   ·have fin := hid (fin2 e)
    have e2 : ¬ cmpI (ky ⟨ls, la, hs, ha, sv⟩) (kx cs ca) < 0 := fun h => e (cmpI_neg.1 h)
    have e3 := cmpI_bd (ky ⟨ls, la, hs, ha, sv⟩) (kx cs ca)
    generalize cmpI (ky ⟨ls, la, hs, ha, sv⟩) (kx cs ca) = cv at HC e2 e3
    clear fin1 fin2 e
    go_wp2_with fail
    refine cq_region (by kernel_rfl) (by kernel_rfl) ?_
    iterate 8 (refine wpQuiet_step (fun K hK => ?_); go_simp; first | (refine hK _ ?_; clear hK K) | (refine ⟨_, fun _ _ => rfl, hK _ ?_⟩; clear hK K) | (apply Exists.intro; refine ⟨fun wq hq => ?_, hK _ ?_⟩; (focus (first | (go_at_call 137; exact HC.out _ hq) | (obtain ⟨⟨t1, t2⟩, t3, t4, t5, t6, t7⟩ := HB.out _ hq; go_simp; try with_reducible rfl))); clear hK K))
    refine wpQuiet_nil ?_
    intro w2 M2
    clear HB HC
    go_wp2_with fail
    go_roundw
    case rel => exact fin.out _ M2
    case measure => simp [intOf]; omega
  ·obtain rfl : p = q := by omega
   have hp := posL_eq hql h1 h2
   by_cases hpl : p < l.length
   ·obtain ⟨g, rfl⟩ := hA (by omega)
    have hcs := fun (w' : World) (M : CM wr w') => (h.keep (M1.trans' M)).cells hpl
    have hfm : fit64 l[p].la := (hr.2 l[p] (by simp)).2
    have hK : hasK (kx cs ca) l = decide (ky l[p] = kx cs ca) := by
     rw [Bool.eq_iff_iff]
     unfold hasK
     rw [List.any_eq_true]
     constructor
     ·rintro ⟨x, hx, ex⟩
      obtain ⟨j, hj, rfl⟩ := List.mem_iff_getElem.1 hx
      have ex : ky l[j] = kx cs ca := by simpa using ex
      have : j = p := by
       rcases Nat.lt_trichotomy j p with e | e | e
       ·have := h1 j hj e; omega
       ·exact e
       ·have := List.pairwise_iff_getElem.1 hr.1 p j hpl hj e
        have := h2 p hpl (Nat.le_refl _); omega
      subst this; simpa using ex
     ·intro ex
      exact ⟨l[p], by simp, by simpa using ex⟩
    generalize l[p] = s at hcs hfm hK
    have HC := hid (fun (w' : World) (M : CM wr w') => (cmp1Z s cs ca hfm hf w').mono fun e w'' ⟨h1, h2⟩ => (⟨h1, Mod.trans' M h2⟩ : e = Ending.returned (.int .i64 (cmpI (ky s) (kx cs ca))) ∧ CM wr w''))
    have HB := hid (fun (w' : World) (M : CM wr w') => And.intro (blkc (Mod.heap (M1.trans' M) b0 fun h => h)) (hcs w' M))
    have hK2 : hasK (kx cs ca) l = (cmpI (ky s) (kx cs ca) == 0) := by
     rw [hK, Bool.eq_iff_iff]; simp [cmpI_zero]
    generalize cmpI (ky s) (kx cs ca) = cv at HC hK2
    have MM := M0.trans' M1
    clear hcs h1 h2 hfm h M1 hlt hql hpq hK hr
    replace hp := hid hp
    replace hK2 := hid hK2
    have hpI : (p : Int) < l.length := by omega
    obtain ⟨ls, la, hs, ha, sv⟩ := s
    go_wp2_with fail
    refine cq_region (by kernel_rfl) (by kernel_rfl) ?_
    iterate 16 (refine wpQuiet_step (fun K hK => ?_); go_simp; first | (refine hK _ ?_; clear hK K) | (refine ⟨_, fun _ _ => rfl, hK _ ?_⟩; clear hK K) | (apply Exists.intro; refine ⟨fun wq hq => ?_, hK _ ?_⟩; (focus (first | (go_at_call 137; exact HC.out _ hq) | (obtain ⟨⟨t1, t2⟩, t3, t4, t5, t6, t7⟩ := HB.out _ hq; go_simp; try with_reducible rfl))); clear hK K))
    refine wpQuiet_nil ?_
    intro w2 M2
    go_wp2_with fail
    go_ret2
    exact ⟨by rw [hp.out, hK2.out]; rfl, MM.trans' M2⟩
   ·have hK : hasK (kx cs ca) l = false := by
     unfold hasK
     rw [List.any_eq_false]
     intro x hx
     obtain ⟨j, hj, rfl⟩ := List.mem_iff_getElem.1 hx
     have := h1 j hj (by omega)
     simp; omega
    have hpe : p = l.length := by omega
    have MM := M0.trans' M1
    clear h1 h2 h M1 hlt hql hpq hr
    replace hp := hid hp
    replace hK := hid hK
    subst hpe
    go_wp2_with fail
    go_quiet (fail)
    go_wp2_with fail
    go_ret2
    exact ⟨by rw [hp.out, hK.out]; rfl, MM.drewN _⟩
end Go.Proofs.Bo
