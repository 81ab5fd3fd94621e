import Derived.Test.YtgehgjaglgafdaaGreatG09
import Derived.Test.YtgehgjaglgafdaaGreatG01
import Derived.Test.YtgehgjaglgafdaaGreatG02
import Derived.Test.YtgehgjaglgafdaaGreatG00
set_option linter.unusedVariables false
set_option linter.unusedSimpArgs false
namespace Go.Proofs.Bo
def T.size : T → Nat | .E => 0 | .N _ _ _ l r => l.size + r.size + 1
theorem size_toL : ∀ t : T, t.toL.length = t.size
 | .E => rfl
 | .N _ _ _ l r => by simp [T.toL, T.size, size_toL l, size_toL r]; omega
theorem size_ids : ∀ t : T, t.ids.length = t.size
 | .E => rfl
 | .N _ _ _ l r => by simp [T.ids, T.size, size_ids l, size_ids r]
theorem size_mk (d : Bool) (i : Int) (b : Bool) (s : Sg) (x y : T) : (T.mk d i b s x y).size = x.size + y.size + 1 := by cases d <;> simp [T.mk, T.size]; omega
theorem size_plug_le : ∀ (c : Ctx) (t : T), c.length + t.size ≤ (plug c t).size
 | [], t => by simp [plug]
 | a :: c, t => by
  have := size_plug_le c (T.mk a.d a.i a.red a.s t a.o)
  rw [size_mk] at this
  rw [plug]; simp only [List.length_cons]; omega
def cside : Ctx → Int | [] => 0 | a :: _ => di a.d
theorem toL_focus (c : Ctx) (i : Int) (b : Bool) (s : Sg) (l r : T) : (plug c (.N i b s l r)).toL = (cpre c ++ l.toL) ++ s :: (r.toL ++ cpost c) := by
 rw [toL_plug]; simp [T.toL]
theorem toL_sub {c : Ctx} {t : T} {s : Sg} (h : s ∈ t.toL) : s ∈ (plug c t).toL := by rw [toL_plug]; simp [h]
theorem Row.focus {c : Ctx} {i : Int} {b : Bool} {s : Sg} {l r : T} (h : Row (plug c (.N i b s l r)).toL) : (∀ x ∈ cpre c ++ l.toL, ky x < ky s) ∧ ∀ x ∈ r.toL ++ cpost c, ky s < ky x := by
 have := h.1; rw [toL_focus] at this; exact this.app
open Go Go.RowKit
section
variable {w w' : World} {tb ab N : Nat} {lv fv : Value} {room : Int} {free : List Int} {t : T}
theorem TS.node' {k : Nat} {c : Ctx} {b : Bool} {s : Sg} {l r : T} (h : TS w tb ab lv fv room N free (plug c (.N k b s l r))) : ∃ lb, Node w tb lb k s l.ix r.ix (cix c) b := by
 obtain ⟨lb, cp, rfl⟩ := h.lb (by intro e; have := toL_focus c k b s l r; rw [e] at this; simp [T.toL] at this)
 exact ⟨lb, h.node⟩
theorem keyZ {c : Ctx} {k : Nat} {b : Bool} {s : Sg} {l r : T} (h : TS w tb ab lv fv room N free (plug c (.N k b s l r))) :
  Calls Tryz.prog 184 #[.pointer (some ⟨tb, 0, none⟩), .int .i64 k] w fun e w' => e = .returned (.agg #[.int .i64 s.ls, .int .i64 s.la]) ∧ Mod (fun _ => False) w w' := by
 obtain ⟨root, σ, m, hh, _⟩ := h
 obtain ⟨k', e, hk⟩ := nod_some hh.at
 obtain rfl : k = k' := by omega
 exact keyT m hk
theorem plug_app : ∀ (F c : Ctx) (t : T), plug (F ++ c) t = plug c (plug F t)
 | [], _, _ => rfl
 | a :: F, c, t => by simp only [List.cons_append, plug]; exact plug_app F c _
theorem cpre_app : ∀ (F c : Ctx), cpre (F ++ c) = cpre c ++ cpre F
 | [], _ => by simp [cpre]
 | a :: F, c => by simp only [List.cons_append, cpre]; rw [cpre_app F c, List.append_assoc]
theorem cpost_app : ∀ (F c : Ctx), cpost (F ++ c) = cpost F ++ cpost c
 | [], _ => by simp [cpost]
 | a :: F, c => by simp only [List.cons_append, cpost]; rw [cpost_app F c, List.append_assoc]
def EndQ (X : T) (d : Bool) (v : Int) : Prop :=
 (X = .E ∧ v = -1) ∨ ∃ F i b s l r, v = i ∧ X = plug F (.N i b s l r) ∧ (d = false → l = .E ∧ cpre F = []) ∧ (d = true → r = .E ∧ cpost F = [])
def EndR (w : World) (X : T) (d : Bool) (g : Nat) (v1 : Value) (W : World) : Prop :=
 ∃ F Y, g = Y.size ∧ v1 = .int .i64 Y.ix ∧ X = plug F Y ∧ (X ≠ .E → Y ≠ .E) ∧ (X = .E → Y = .E) ∧ (d = false → cpre F = []) ∧ (d = true → cpost F = []) ∧ W = w
def EndP (w : World) (X : T) (d : Bool) (e : Ending) (w' : World) : Prop := (∃ v, e = .returned (.int .i64 v) ∧ EndQ X d v) ∧ w' = w
set_option maxHeartbeats 1000000 in
theorem endZ {c : Ctx} {X : T} (h : TS w tb ab lv fv room N free (plug c X)) (d : Bool) :
  Calls Tryz.prog 172 #[.pointer (some ⟨tb, 0, none⟩), .int .i64 X.ix, .int .i64 (di d)] w fun e w' => EndP w X d e w' := by
 go_enter Tryz.func172, Tryz.ntmps172
 go_wp2_with fail
 go_loopg [1] X.size (fun g v1 W => EndR w X d g v1 W)
 case atStart => exact ⟨[], X, rfl, rfl, rfl, id, id, fun _ => rfl, fun _ => rfl, rfl⟩
 case round =>
  obtain ⟨F, Y, hg, rfl, hp, h1, h2, h3, h4, hw⟩ := hrel
  subst hw
  replace hg := hid hg
  replace h3 := hid h3
  replace h4 := hid h4
  cases Y with
  | E =>
   have hX : X = .E := by
    by_cases e : X = .E
    ·exact e
    ·exact absurd rfl (h1 e)
   clear hp
   rw [T.ix_E]
   go_wp2_with fail
   go_ret
   subst hX
   exact ⟨⟨_, rfl, .inl ⟨rfl, rfl⟩⟩, rfl⟩
  | N i b s l r =>
   have hX : X ≠ .E := fun e => by have := h2 e; cases this
   rw [hp, ← plug_app] at h
   replace hp := hid hp
   obtain ⟨k, rfl⟩ := h.nat (i := i) ((mem_plug ..).2 (.inr (by simp [T.ids])))
   obtain ⟨lb, hN⟩ := h.node'
   have A := hN.at'
   have c5 := hN.c5
   have c6 := hN.c6
   clear hN
   rw [T.ix_N]
   have hk0 : ((k : Int) != -1) = true := by simp
   cases d
   ·simp only [di, if_false, Bool.false_eq_true]
    cases l with
    | E =>
     rw [T.ix_E] at c5
     clear h
     go_wp2_with fail
     refine A.mono ?_; rintro e w' ⟨rfl, hw⟩; subst hw
     go_wp2_with fail
     go_ret
     exact ⟨⟨_, rfl, .inr ⟨F, k, b, s, .E, r, rfl, hp.out, fun _ => ⟨rfl, h3.out (by simp)⟩, (fun e => by cases e)⟩⟩, rfl⟩
    | N i2 b2 s2 l2 r2 =>
     obtain ⟨k2, rfl⟩ := h.nat (i := i2) ((mem_plug ..).2 (.inr (by simp [T.ids])))
     have hk2 : ((k2 : Int) != -1) = true := by simp
     rw [T.ix_N] at c5
     clear h
     go_wp2_with fail
     refine A.mono ?_; rintro e w' ⟨rfl, hw⟩; subst hw
     go_wp2_with fail
     refine A.mono ?_; rintro e w' ⟨rfl, hw⟩; subst hw
     go_wp2_with fail
     go_roundg (T.N k2 b2 s2 l2 r2).size
     case measure => rw [hg.out]; simp only [T.size]; omega
     case rel => exact ⟨⟨false, k, b, s, r⟩ :: F, .N k2 b2 s2 l2 r2, rfl, rfl, hp.out, fun _ => by simp, fun e => absurd e hX, fun _ => by simp [cpre, h3.out (by simp)], (fun e => by cases e), rfl⟩
   ·simp only [di, if_true]
    cases r with
    | E =>
     rw [T.ix_E] at c6
     clear h
     go_wp2_with fail
     refine A.mono ?_; rintro e w' ⟨rfl, hw⟩; subst hw
     go_wp2_with fail
     go_ret
     exact ⟨⟨_, rfl, .inr ⟨F, k, b, s, l, .E, rfl, hp.out, (fun e => by cases e), fun _ => ⟨rfl, h4.out (by simp)⟩⟩⟩, rfl⟩
    | N i2 b2 s2 l2 r2 =>
     obtain ⟨k2, rfl⟩ := h.nat (i := i2) ((mem_plug ..).2 (.inr (by simp [T.ids])))
     have hk2 : ((k2 : Int) != -1) = true := by simp
     rw [T.ix_N] at c6
     clear h
     go_wp2_with fail
     refine A.mono ?_; rintro e w' ⟨rfl, hw⟩; subst hw
     go_wp2_with fail
     refine A.mono ?_; rintro e w' ⟨rfl, hw⟩; subst hw
     go_wp2_with fail
     go_roundg (T.N k2 b2 s2 l2 r2).size
     case measure => rw [hg.out]; simp only [T.size]; omega
     case rel => exact ⟨⟨true, k, b, s, l⟩ :: F, .N k2 b2 s2 l2 r2, rfl, rfl, hp.out, fun _ => by simp, fun e => absurd e hX, (fun e => by cases e), fun _ => by simp [cpost, h4.out (by simp)], rfl⟩
def FindQ (t : T) (kc : Int) (v p d : Int) : Prop :=
 ∃ c X, t = plug c X ∧ v = X.ix ∧ p = cix c ∧ d = cside c ∧ (∀ s ∈ cpre c, ky s < kc) ∧ (∀ s ∈ cpost c, kc < ky s) ∧ (X = .E ∨ ∃ i b s l r, X = .N i b s l r ∧ ky s = kc)
def FindR (w : World) (tb ab N : Nat) (lv fv : Value) (room : Int) (free : List Int) (t : T) (kc cs ca : Int) (g : Nat) (v7 v8 v9 : Value) (W : World) : Prop :=
 ∃ c X, g = X.size ∧ t = plug c X ∧ v7 = .int .i64 X.ix ∧ v8 = .int .i64 (cix c) ∧ v9 = .int .i64 (cside c) ∧ (∀ s ∈ cpre c, ky s < kc) ∧ (∀ s ∈ cpost c, kc < ky s) ∧
  TS W tb ab lv fv room N free t ∧ W.heap[w.heap.size]? = some (.cells #[.int .i64 cs, .int .i64 ca] 34 (0, 0)) ∧ Mod (fun _ => False) w W
def FindP (w : World) (t : T) (kc : Int) (e : Ending) (w' : World) : Prop := (∃ v p d, e = .returned (.tuple #[.int .i64 v, .int .i64 p, .int .i64 d]) ∧ FindQ t kc v p d) ∧ Mod (fun _ => False) w w'
set_option maxHeartbeats 2000000 in
theorem findZ (h : TS w tb ab lv fv room N free t) (hr : Row t.toL) (cs ca : Int) (hf : fit64 ca) :
  Calls Tryz.prog 171 #[.pointer (some ⟨tb, 0, none⟩), .agg #[.int .i64 cs, .int .i64 ca]] w fun e w' => FindP w t (kx cs ca) e w' := by
 obtain ⟨w0, hw0⟩ : ∃ w0, w.alloc (.cells #[.int .i64 cs, .int .i64 ca] 34) = w0 := ⟨_, rfl⟩
 have b0 : w0.heap[w.heap.size]? = some (.cells #[.int .i64 cs, .int .i64 ca] 34 (0, 0)) := by rw [← hw0]; exact alloc_0 _ _
 have M0 : Mod (fun _ => False) w w0 := by rw [← hw0]; exact (Mod.refl _ _).alloc _
 replace h := h.mod0 M0
 have d1 := h.root.1
 replace hr := hid hr
 replace hf := hid hf
 replace b0 := hid b0
 have hkc := hid (rfl : kx cs ca = kx cs ca)
 go_enter Tryz.func171, Tryz.ntmps171
 go_wp2_with fail
 go_loopg [7, 8, 9] t.size (fun g v7 v8 v9 W => FindR w tb ab N lv fv room free t (kx cs ca) cs ca g v7 v8 v9 W)
 case atStart => exact ⟨[], t, rfl, rfl, rfl, rfl, rfl, by simp [cpre], by simp [cpost], h, b0.out, M0⟩
 case round =>
  clear h b0 M0 d1 hw0
  obtain ⟨c, X, hg, rfl, rfl, rfl, rfl, h1, h2, h, b0, M⟩ := hrel
  replace hg := hid hg
  replace h1 := hid h1
  replace h2 := hid h2
  cases X with
  | E =>
   clear b0
   rw [T.ix_E]
   go_wp2_with fail
   refine bodyPost_ret (v := .tuple #[.int .i64 (-1), .int .i64 (cix c), .int .i64 (cside c)]) (by simp [results, Tryz.results171, go_sem]) rfl ⟨⟨_, _, _, rfl, c, .E, rfl, rfl, rfl, rfl, h1.out, h2.out, .inl rfl⟩, M⟩
  | N i b s l r =>
   obtain ⟨k, rfl⟩ := h.nat (i := i) ((mem_plug ..).2 (.inr (by simp [T.ids])))
   have hs : s ∈ (plug c (.N k b s l r)).toL := toL_sub (by simp [T.toL])
   have hks := (hr.out.2 s hs).2
   have hk0 : ((k : Int) != -1) = true := by simp
   rw [T.ix_N]
   obtain ⟨d0, e0⟩ := blkc b0
   replace b0 := hid b0
   have HK := hid (fun (w1 : World) (M' : Mod (fun _ => False) wr w1) => keyZ (h.mod0 M'))
   have HC := hid (fun (w1 : World) => compareZ (s := cs) (a := ca) (s' := s.ls) (a' := s.la) hf.out hks w1)
   rcases Int.lt_trichotomy (kx cs ca) (ky s) with hlt | heq | hgt
   ·rw [show cmpI (kx cs ca) (kx s.ls s.la) = -1 from cmpI_lt hlt] at HC
    replace hlt := hid hlt
    go_wp2_with fail
    go_region_held3 (fun w' => w'.cell? ⟨w.heap.size, 0, none⟩ = some (.int .i64 cs) ∧ w'.cell? ⟨w.heap.size, 1, none⟩ = some (.int .i64 ca)) (first | exact ⟨d3 0, d3 1⟩ | exact ⟨d2 0, d2 1⟩ | exact ⟨d0 0, d0 1⟩)
     (first
     | (go_at_call 184; refine (HK.out _ (Mod.refl _ _).drew).mono ?_; rintro e w1 ⟨rfl, M1⟩; replace M1 := M1.of_drew; obtain ⟨d2, e2⟩ := blkc (M1.heap b0.out fun h => h))
     | (go_at_call 50; refine (HC.out _).mono ?_; rintro e w2 ⟨rfl, M2⟩; obtain ⟨d3, e3⟩ := blkc (M2.heap (M1.heap b0.out fun h => h) fun h => h)))
    clear HK HC d0 e0 d2 e2 d3 e3
    replace M1 := M1.trans' M2
    clear M2
    replace h := h.mod0 M1
    obtain ⟨lb, hN⟩ := h.node'
    have A := hN.at'
    have c5 := hN.c5
    clear hN
    go_wp2_with fail
    refine A.mono ?_; rintro e w' ⟨rfl, hw⟩; subst hw
    go_wp2_with fail
    go_roundg l.size
    case measure => rw [hg.out]; simp only [T.size]; omega
    case rel =>
     refine ⟨⟨false, k, b, s, r⟩ :: c, l, rfl, rfl, rfl, rfl, rfl, by simpa [cpre] using h1.out, ?_, h, M1.heap b0.out (fun h => h), M.trans' M1⟩
     intro x hx
     simp only [cpost, Bool.false_eq_true, if_false, List.cons_append, List.mem_cons, List.mem_append] at hx
     rcases hx with rfl | hx | hx
     ·exact hlt.out
     ·have := hr.out.focus.2 x (by simp [hx]); have := hlt.out; omega
     ·exact h2.out x hx
   ·rw [show cmpI (kx cs ca) (kx s.ls s.la) = 0 from cmpI_eq heq] at HC
    replace heq := hid heq
    go_wp2_with fail
    go_region_held3 (fun w' => w'.cell? ⟨w.heap.size, 0, none⟩ = some (.int .i64 cs) ∧ w'.cell? ⟨w.heap.size, 1, none⟩ = some (.int .i64 ca)) (first | exact ⟨d3 0, d3 1⟩ | exact ⟨d2 0, d2 1⟩ | exact ⟨d0 0, d0 1⟩)
     (first
     | (go_at_call 184; refine (HK.out _ (Mod.refl _ _).drew).mono ?_; rintro e w1 ⟨rfl, M1⟩; replace M1 := M1.of_drew; obtain ⟨d2, e2⟩ := blkc (M1.heap b0.out fun h => h))
     | (go_at_call 50; refine (HC.out _).mono ?_; rintro e w2 ⟨rfl, M2⟩; obtain ⟨d3, e3⟩ := blkc (M2.heap (M1.heap b0.out fun h => h) fun h => h)))
    clear HK HC d0 e0 d2 e2 d3 e3
    replace M1 := M1.trans' M2
    clear M2
    go_wp2_with fail
    refine bodyPost_ret (v := .tuple #[.int .i64 k, .int .i64 (cix c), .int .i64 (cside c)]) (by simp [results, Tryz.results171, go_sem]) rfl ⟨⟨_, _, _, rfl, c, .N k b s l r, rfl, rfl, rfl, rfl, h1.out, h2.out, .inr ⟨_, _, _, _, _, rfl, heq.out.symm⟩⟩, M.trans' M1⟩
   ·rw [show cmpI (kx cs ca) (kx s.ls s.la) = 1 from cmpI_gt hgt] at HC
    replace hgt := hid hgt
    go_wp2_with fail
    go_region_held3 (fun w' => w'.cell? ⟨w.heap.size, 0, none⟩ = some (.int .i64 cs) ∧ w'.cell? ⟨w.heap.size, 1, none⟩ = some (.int .i64 ca)) (first | exact ⟨d3 0, d3 1⟩ | exact ⟨d2 0, d2 1⟩ | exact ⟨d0 0, d0 1⟩)
     (first
     | (go_at_call 184; refine (HK.out _ (Mod.refl _ _).drew).mono ?_; rintro e w1 ⟨rfl, M1⟩; replace M1 := M1.of_drew; obtain ⟨d2, e2⟩ := blkc (M1.heap b0.out fun h => h))
     | (go_at_call 50; refine (HC.out _).mono ?_; rintro e w2 ⟨rfl, M2⟩; obtain ⟨d3, e3⟩ := blkc (M2.heap (M1.heap b0.out fun h => h) fun h => h)))
    clear HK HC d0 e0 d2 e2 d3 e3
    replace M1 := M1.trans' M2
    clear M2
    replace h := h.mod0 M1
    obtain ⟨lb, hN⟩ := h.node'
    have A := hN.at'
    have c6 := hN.c6
    clear hN
    go_wp2_with fail
    refine A.mono ?_; rintro e w' ⟨rfl, hw⟩; subst hw
    go_wp2_with fail
    go_roundg r.size
    case measure => rw [hg.out]; simp only [T.size]; omega
    case rel =>
     refine ⟨⟨true, k, b, s, l⟩ :: c, r, rfl, rfl, rfl, rfl, rfl, ?_, by simpa [cpost] using h2.out, h, M1.heap b0.out (fun h => h), M.trans' M1⟩
     intro x hx
     simp only [cpre, if_true, List.mem_append, List.mem_cons, List.not_mem_nil, or_false] at hx
     rcases hx with hx | hx | rfl
     ·exact h1.out x hx
     ·have := hr.out.focus.1 x (by simp [hx]); have := hgt.out; omega
     ·exact hgt.out
end
theorem nod_isSome {σ : List (Option Nd)} {k : Int} : (∃ n, nod σ k = some n) ↔ ∃ i : Nat, k = i ∧ i < σ.length ∧ σ[i]? ≠ some none := by
 constructor
 ·rintro ⟨n, h⟩
  obtain ⟨i, e, hi⟩ := nod_some h
  refine ⟨i, e, (List.getElem?_eq_some_iff.1 hi).1, ?_⟩
  rw [hi]; simp
 ·rintro ⟨i, rfl, hl, hn⟩
  cases hp : σ[i]? with
  | none => rw [List.getElem?_eq_none_iff] at hp; omega
  | some p =>
   cases p with
   | none => exact absurd hp hn
   | some n => exact ⟨n, nod_of hp⟩
theorem Holds.count {σ : List (Option Nd)} {root room : Int} {free : List Int} {t : T} (h : Holds σ root t) (ha : ArInv room σ free) : (t.size : Int) = (σ.length : Int) - free.length := by
 have hp : (t.ids ++ free).Perm ((List.range σ.length).map (fun i : Nat => (i : Int))) := by
  rw [List.perm_ext_iff_of_nodup]
  ·intro k
   rw [List.mem_append, List.mem_map, ha.mem]
   constructor
   ·rintro (hk | ⟨i, rfl, hi⟩)
    ·obtain ⟨i, rfl, hl, _⟩ := nod_isSome.1 (h.ex hk)
     exact ⟨i, List.mem_range.2 hl, rfl⟩
    ·exact ⟨i, List.mem_range.2 (List.getElem?_eq_some_iff.1 hi).1, rfl⟩
   ·rintro ⟨i, hi, rfl⟩
    rw [List.mem_range] at hi
    by_cases hn : σ[i]? = some none
    ·exact .inr ⟨i, rfl, hn⟩
    ·obtain ⟨n, hx⟩ := nod_isSome.2 ⟨i, rfl, hi, hn⟩
     exact .inl (h.just _ n hx)
  ·rw [List.nodup_append]
   refine ⟨h.nodup, ha.nodup, ?_⟩
   rintro a h1 b h2 rfl
   obtain ⟨i, e, hl, hn⟩ := nod_isSome.1 (h.ex h1)
   obtain ⟨j, e2, hj⟩ := (ha.mem _).1 h2
   obtain rfl : i = j := by omega
   exact hn hj
  ·rw [List.nodup_iff_pairwise_ne, List.pairwise_map]
   exact List.Pairwise.imp (fun h e => h (by omega)) List.nodup_range
 have := hp.length_eq
 rw [List.length_append, List.length_map, List.length_range, size_ids] at this
 omega
theorem nod_app {σ : List (Option Nd)} (n : Nd) (j : Int) : nod (σ ++ [some n]) j = if j = (σ.length : Int) then some n else nod σ j := by
 unfold nod
 by_cases h0 : 0 ≤ j
 ·obtain ⟨k, rfl⟩ := Int.eq_ofNat_of_zero_le h0
  simp only [h0, if_true, Int.toNat_natCast]
  by_cases e : k = σ.length
  ·subst e; simp
  ·rw [if_neg (by omega)]
   by_cases hl : k < σ.length
   ·rw [List.getElem?_append_left hl]
   ·rw [List.getElem?_eq_none (by simp; omega), List.getElem?_eq_none (by omega)]
 ·rw [if_neg h0, if_neg (by omega), if_neg h0]
theorem nod_set {σ : List (Option Nd)} {k : Nat} (hk : k < σ.length) (p : Option Nd) (j : Int) : nod (σ.set k p) j = if j = (k : Int) then p else nod σ j := by
 unfold nod
 by_cases h0 : 0 ≤ j
 ·obtain ⟨i, rfl⟩ := Int.eq_ofNat_of_zero_le h0
  simp only [h0, if_true, Int.toNat_natCast]
  by_cases e : i = k
  ·subst e; rw [List.getElem?_set_self hk]; simp
  ·rw [if_neg (by omega), List.getElem?_set_ne (Ne.symm e)]
 ·rw [if_neg h0, if_neg (by omega), if_neg h0]
theorem modN_modN (σ : List (Option Nd)) (k : Int) (f g : Nd → Nd) : modN (modN σ k f) k g = modN σ k (fun n => g (f n)) := by
 cases h : nod σ k with
 | none => unfold modN; simp [h]
 | some n =>
  have h2 : nod (pnod σ k (f n)) k = some (f n) := by rw [nod_pnod h, if_pos rfl]
  rw [modN_some h, modN_some h, modN_some h2]
  unfold pnod; rw [List.set_set]
end Go.Proofs.Bo
