import Derived.Test.YtgehgjaglgafdaaGreatG10
import Derived.Test.YtgehgjaglgafdaaGreatG09
import Derived.Test.YtgehgjaglgafdaaGreatG01
import Derived.Deep.RegionWith
import Derived.Deep.DeepCutAuto
set_option linter.unusedVariables false
set_option linter.unusedSimpArgs false
namespace Go.Proofs.Bo
open Go Go.RowKit
def RB (X : Nat → Prop) (w : World) (tb : Nat) (room : Int) (l : List Sg) : Prop :=
 ∃ (ab N : Nat) (lv fv : Value) (free : List Int) (t : T), TS w tb ab lv fv room N free t ∧ Row t.toL ∧ Fine t ∧ t.toL = l ∧ ∀ k, TF tb ab lv fv k → X k
def PutP (X : Nat → Prop) (w : World) (tb : Nat) (room : Int) (l : List Sg) (s : Sg) (e : Ending) (w' : World) : Prop :=
 e = .returned (.int .i64 (putE room s l)) ∧ RB (fun k => X k ∨ w.heap.size ≤ k) w' tb room (putL room s l) ∧ Mod X w w'
section
variable {w w' : World} {tb ab N : Nat} {lv fv : Value} {room : Int} {free : List Int} {t : T} {X : Nat → Prop}
theorem RB.mod {S : Nat → Prop} {l : List Sg} (h : RB X w tb room l) (hm : Mod S w w') (hs : ∀ k, X k → k < w.heap.size → ¬ S k) : RB X w' tb room l := by
 obtain ⟨ab, N, lv, fv, free, t, h1, h2, h3, h4, h5⟩ := h
 exact ⟨ab, N, lv, fv, free, t, h1.mod hm (fun k hk => hs k (h5 k hk) (h1.lt hk)), h2, h3, h4, h5⟩
theorem RB.mod0 {l : List Sg} (h : RB X w tb room l) (hm : Mod (fun _ => False) w w') : RB X w' tb room l := h.mod hm fun _ _ _ h => h
theorem RB.drewN {l : List Sg} (h : RB X w tb room l) (n : Nat) : RB X (w.drewN n) tb room l := h.mod0 ((Mod.refl _ _).drewN n)
theorem RB.mono {Y : Nat → Prop} {l : List Sg} (h : RB X w tb room l) (hXY : ∀ k, X k → k < w.heap.size → Y k) : RB Y w tb room l := by
 obtain ⟨ab, N, lv, fv, free, t, h1, h2, h3, h4, h5⟩ := h
 exact ⟨ab, N, lv, fv, free, t, h1, h2, h3, h4, fun k hk => hXY k (h5 k hk) (h1.lt hk)⟩
theorem find_kx (t : T) (cs ca : Int) (w : World) (e : Ending) (w' : World) (h : FindP w t (kx (canS cs ca) (canA cs ca)) e w') : FindP w t (kx cs ca) e w' := by rw [kx_can] at h; exact h
set_option maxHeartbeats 1000000 in
theorem putZ_arg1 (s : Sg) (hs : ¬ (canS s.ls s.la = s.ls ∧ canA s.ls s.la = s.la)) (w : World) (tb : Nat) :
  Calls Tryz.prog 161 #[.pointer (some ⟨tb, 0, none⟩), .agg (encS s).toArray] w fun e w' => e = .returned (.int .i64 1) ∧ Mod (fun _ => False) w w' := by
 obtain ⟨w0, hw0, b0, M0⟩ := boxS w s
 obtain ⟨d0, e0⟩ := blkc b0
 replace b0 := hid b0
 have HR := hid (fun w1 (M : CM w0 w1) => (rightZ s.ls s.la w1).mono fun e w' ⟨h1, h2⟩ => (⟨h1, Mod.trans' M h2⟩ : e = Ending.returned (.bool (decide (canS s.ls s.la = s.ls ∧ canA s.ls s.la = s.la))) ∧ CM w0 w'))
 have HL := hid (fun w1 (M : CM w0 w1) => (lastZ w1).mono fun e w' ⟨h1, h2⟩ => (⟨h1, Mod.trans' M h2⟩ : e = Ending.returned (.agg #[.int .i64 1, .int .i64 0]) ∧ CM w0 w'))
 have HB := hid (fun w1 (M : CM w0 w1) => blkc (Mod.heap M b0.out fun h => h))
 rw [decide_eq_false hs] at HR
 dsimp only [encS]
 go_enter Tryz.func161, Tryz.ntmps161
 go_upto_region 1 with fail
 go_cut [21] (fun v W => v = .bool true ∧ W.heap[w.heap.size]? = some (.cells #[.int .i64 s.ls, .int .i64 s.la, .int .i64 s.hs, .int .i64 s.ha, .int .i64 s.v] 38 (0, 0)) ∧ Mod (fun _ => False) w W)
 case first =>
  refine cq_region (by kernel_rfl) (by kernel_rfl) ?_
  iterate 12 (refine wpQuiet_step (fun K hK => ?_); go_simp; first | (refine hK _ ?_; clear hK K) | (refine ⟨_, fun _ _ => rfl, hK _ ?_⟩; clear hK K) | (apply Exists.intro; refine ⟨fun wq hq => ?_, hK _ ?_⟩; (focus (first | (go_at_call 122; exact HR.out _ hq) | (go_at_call 73; exact HL.out _ hq) | (obtain ⟨d1, e1⟩ := HB.out _ hq; go_simp; try with_reducible rfl))); clear hK K))
  refine wpQuiet_nil ?_
  intro w1 M1
  go_wp2_with fail
  go_meet
  exact ⟨rfl, Mod.heap M1 b0.out (fun h => h), M0.trans' M1⟩
 case rest =>
  obtain ⟨rfl, b1, M1⟩ := hcut
  go_wp2_with fail
  go_ret
  exact ⟨rfl, M1⟩
set_option maxHeartbeats 1000000 in
theorem putZ_arg2 (s : Sg) (hs : s.ls = 1 ∧ s.la = 0) (w : World) (tb : Nat) :
  Calls Tryz.prog 161 #[.pointer (some ⟨tb, 0, none⟩), .agg (encS s).toArray] w fun e w' => e = .returned (.int .i64 1) ∧ Mod (fun _ => False) w w' := by
 obtain ⟨ls, la, hs', ha', v'⟩ := s
 obtain ⟨rfl, rfl⟩ := hs
 obtain ⟨w0, hw0, b0, M0⟩ := boxS w ⟨1, 0, hs', ha', v'⟩
 obtain ⟨d0, e0⟩ := blkc b0
 replace b0 := hid b0
 have HR := hid (fun w1 (M : CM w0 w1) => (rightZ 1 0 w1).mono fun e w' ⟨h1, h2⟩ => (⟨h1, Mod.trans' M h2⟩ : e = Ending.returned (.bool (decide (canS 1 0 = 1 ∧ canA 1 0 = 0))) ∧ CM w0 w'))
 have HL := hid (fun w1 (M : CM w0 w1) => (lastZ w1).mono fun e w' ⟨h1, h2⟩ => (⟨h1, Mod.trans' M h2⟩ : e = Ending.returned (.agg #[.int .i64 1, .int .i64 0]) ∧ CM w0 w'))
 have HB := hid (fun w1 (M : CM w0 w1) => blkc (Mod.heap M b0.out fun h => h))
 rw [decide_eq_true (by decide)] at HR
 dsimp only [encS]
 go_enter Tryz.func161, Tryz.ntmps161
 go_upto_region 1 with fail
 go_cut [21] (fun v W => v = .bool true ∧ W.heap[w.heap.size]? = some (.cells #[.int .i64 1, .int .i64 0, .int .i64 hs', .int .i64 ha', .int .i64 v'] 38 (0, 0)) ∧ Mod (fun _ => False) w W)
 case first =>
  refine cq_region (by kernel_rfl) (by kernel_rfl) ?_
  iterate 12 (refine wpQuiet_step (fun K hK => ?_); go_simp; first | (refine hK _ ?_; clear hK K) | (refine ⟨_, fun _ _ => rfl, hK _ ?_⟩; clear hK K) | (apply Exists.intro; refine ⟨fun wq hq => ?_, hK _ ?_⟩; (focus (first | (go_at_call 122; exact HR.out _ hq) | (go_at_call 73; exact HL.out _ hq) | (obtain ⟨d1, e1⟩ := HB.out _ hq; go_simp; try with_reducible rfl))); clear hK K))
  refine wpQuiet_nil ?_
  intro w1 M1
  go_wp2_with fail
  go_meet
  exact ⟨rfl, Mod.heap M1 b0.out (fun h => h), M0.trans' M1⟩
 case rest =>
  obtain ⟨rfl, b1, M1⟩ := hcut
  go_wp2_with fail
  go_ret
  exact ⟨rfl, M1⟩
theorem TM.set0 {lb n c k : Nat} {root : Int} {σ : List (Option Nd)} (h : TM w tb ab (.slice (some ⟨lb, 0, none⟩) n c) fv room root σ free) (hp : ∃ v, nod σ k = some v) (s : Sg) :
  ∃ W, ((((w.setCell ⟨lb, k * 10, none⟩ (.int .i64 s.ls)).setCell ⟨lb, k * 10 + 1, none⟩ (.int .i64 s.la)).setCell ⟨lb, k * 10 + 2, none⟩ (.int .i64 s.hs)).setCell ⟨lb, k * 10 + 3, none⟩ (.int .i64 s.ha)).setCell ⟨lb, k * 10 + 4, none⟩ (.int .i64 s.v) = W ∧
   TM W tb ab (.slice (some ⟨lb, 0, none⟩) n c) fv room root (modN σ k (sN s)) free ∧ Mod (fun i => i = tb ∨ Foot ab (.slice (some ⟨lb, 0, none⟩) n c) fv i) w W := by
 refine ⟨_, rfl, ?_⟩
 obtain ⟨_, _, h1, m1⟩ := h.st hp 0 (.int .i64 s.ls) (fun n => { n with s := { n.s with ls := s.ls } }) (by omega) (fun _ => rfl)
 obtain ⟨_, _, h2, m2⟩ := h1.st (ex_modN hp _ _) 1 (.int .i64 s.la) (fun n => { n with s := { n.s with la := s.la } }) (by omega) (fun _ => rfl)
 obtain ⟨_, _, h3, m3⟩ := h2.st (ex_modN (ex_modN hp _ _) _ _) 2 (.int .i64 s.hs) (fun n => { n with s := { n.s with hs := s.hs } }) (by omega) (fun _ => rfl)
 obtain ⟨_, _, h4, m4⟩ := h3.st (ex_modN (ex_modN (ex_modN hp _ _) _ _) _ _) 3 (.int .i64 s.ha) (fun n => { n with s := { n.s with ha := s.ha } }) (by omega) (fun _ => rfl)
 obtain ⟨_, _, h5, m5⟩ := h4.st (ex_modN (ex_modN (ex_modN (ex_modN hp _ _) _ _) _ _) _ _) 4 (.int .i64 s.v) (fun n => { n with s := { n.s with v := s.v } }) (by omega) (fun _ => rfl)
 refine ⟨?_, (((m1.trans' m2).trans' m3).trans' m4).trans' m5⟩
 have e : modN (modN (modN (modN (modN σ k (fun n => { n with s := { n.s with ls := s.ls } })) k (fun n => { n with s := { n.s with la := s.la } })) k (fun n => { n with s := { n.s with hs := s.hs } })) k (fun n => { n with s := { n.s with ha := s.ha } })) k (fun n => { n with s := { n.s with v := s.v } }) = modN σ k (sN s) := by
  simp only [modN_modN]; rfl
 rw [e] at h5
 exact h5
theorem aputZ {root : Int} {σ : List (Option Nd)} (h : TM w tb ab lv fv room root σ free) (hr : (σ.length : Int) - free.length < room) (v : Nd) :
  Calls Tryz.prog 178 #[.pointer (some ⟨ab, 0, none⟩), .agg (encNd v).toArray] w fun e w' => ∃ (k : Nat) (lv' fv' : Value) (σ' : List (Option Nd)) (free' : List Int), e = .returned (.tuple #[.int .i64 k, .int .i64 0]) ∧
   TM w' tb ab lv' fv' room root σ' free' ∧ nod σ k = none ∧ (∀ j, nod σ' j = if j = (k : Int) then some v else nod σ j) ∧ Mod (Foot ab lv fv) w w' ∧ (∀ b, Foot ab lv' fv' b → Foot ab lv fv b ∨ w.heap.size ≤ b) := by
 rcases List.eq_nil_or_concat free with rfl | ⟨f', i, rfl⟩
 ·refine (putN_new h.a v (by simpa using hr)).mono ?_
  rintro e w' ⟨rfl, lv', A, M, F⟩
  refine ⟨σ.length, lv', fv, σ ++ [some v], [], rfl, ⟨M.heap h.t h.ne, A⟩, ?_, nod_app v, M, F⟩
  unfold nod; rw [if_pos (by omega)]; simp
 ·obtain ⟨k, rfl, hk⟩ := (h.a.inv.mem i).1 (by simp)
  have ha := h.a
  rw [List.concat_eq_append] at ha
  refine (putN_old ha v).mono ?_
  rintro e w' ⟨rfl, fv', A, M, F⟩
  refine ⟨k, lv, fv', σ.set k (some v), f', rfl, ⟨M.heap h.t h.ne, A⟩, ?_, nod_set (List.getElem?_eq_some_iff.1 hk).1 _, M, F⟩
  unfold nod; rw [if_pos (by omega)]; simp [hk]
def PutOld (w : World) (tb ab N : Nat) (lv fv : Value) (room : Int) (free : List Int) (L : List Sg) (e : Ending) (w' : World) : Prop :=
 e = .returned (.int .i64 0) ∧ ∃ t', TS w' tb ab lv fv room N free t' ∧ Fine t' ∧ t'.toL = L ∧ Mod (TF tb ab lv fv) w w'
def PutNew (w : World) (tb ab : Nat) (lv fv : Value) (room : Int) (L : List Sg) (e : Ending) (w' : World) : Prop :=
 e = .returned (.int .i64 0) ∧ ∃ lv' fv' N' free' t', TS w' tb ab lv' fv' room N' free' t' ∧ Fine t' ∧ t'.toL = L ∧ Mod (TF tb ab lv fv) w w' ∧ ∀ b, TF tb ab lv' fv' b → TF tb ab lv fv b ∨ w.heap.size ≤ b
def PutFull (w : World) (e : Ending) (w' : World) : Prop := e = .returned (.int .i64 50) ∧ Mod (fun _ => False) w w'
theorem find_old {c : Ctx} {X : T} {k : Int} (h : hasK k (plug c X).toL = true) (h1 : ∀ x ∈ cpre c, ky x < k) (h2 : ∀ x ∈ cpost c, k < ky x) (h3 : X = .E ∨ ∃ i b s l r, X = .N i b s l r ∧ ky s = k) : ∃ i b s l r, X = .N i b s l r ∧ ky s = k := by
 rcases h3 with rfl | h3
 ·rw [toL_plug] at h; simp only [T.toL, List.append_nil] at h; rw [has_new h1 h2] at h; cases h
 ·exact h3
theorem find_new {c : Ctx} {X : T} {k : Int} (h : hasK k (plug c X).toL = false) (h3 : X = .E ∨ ∃ i b s l r, X = .N i b s l r ∧ ky s = k) : X = .E := by
 rcases h3 with rfl | ⟨i, b, s, l, r, rfl, hk⟩
 ·rfl
 ·rw [toL_focus, has_old hk] at h; cases h
theorem ins_focus {c : Ctx} {i : Int} {b : Bool} {s y : Sg} {l r : T} (hr : Row (plug c (.N i b y l r)).toL) (hy : ky y = ky s) : insL s (plug c (.N i b y l r)).toL = (plug c (.N i b s l r)).toL := by
 obtain ⟨h1, h2⟩ := hr.focus
 rw [toL_focus, toL_focus]
 exact ins_old hy (fun x hx => by have := h1 x hx; omega) (fun x hx => by have := h2 x hx; omega)
theorem fine_reseg {c : Ctx} {i : Int} {b : Bool} {s y : Sg} {l r : T} (h : Fine (plug c (.N i b y l r))) : Fine (plug c (.N i b s l r)) := by
 obtain ⟨n, h1, h2, h3⟩ := fine_split c _ h
 exact fine_plug c _ n h1 h2 h3
set_option maxHeartbeats 2000000 in
theorem putZ_old (h : TS w tb ab lv fv room N free t) (hr : Row t.toL) (hF : Fine t) (s : Sg) (hk : okKey s.ls s.la) (hf : fit64 s.la) (ho : hasK (ky s) t.toL = true) :
  Calls Tryz.prog 161 #[.pointer (some ⟨tb, 0, none⟩), .agg (encS s).toArray] w fun e w' => PutOld w tb ab N lv fv room free (insL s t.toL) e w' := by
 obtain ⟨w0, hw0, b0, M0⟩ := boxS w s
 obtain ⟨d0, e0⟩ := blkc b0
 replace b0 := hid b0
 have HR := hid (fun w1 (M : CM w0 w1) => (rightZ s.ls s.la w1).mono fun e w' ⟨h1, h2⟩ => (⟨h1, Mod.trans' M h2⟩ : e = Ending.returned (.bool (decide (canS s.ls s.la = s.ls ∧ canA s.ls s.la = s.la))) ∧ CM w0 w'))
 have HL := hid (fun w1 (M : CM w0 w1) => (lastZ w1).mono fun e w' ⟨h1, h2⟩ => (⟨h1, Mod.trans' M h2⟩ : e = Ending.returned (.agg #[.int .i64 1, .int .i64 0]) ∧ CM w0 w'))
 have HB := hid (fun w1 (M : CM w0 w1) => blkc (Mod.heap M b0.out fun h => h))
 rw [decide_eq_true ⟨hk.1, hk.2.1⟩] at HR
 have hx1 : (s.ls == 1) = false := by have := hk.2.2; simp; omega
 replace hF := hid hF
 replace hr := hid hr
 replace hk := hid hk
 replace hf := hid hf
 replace ho := hid ho
 dsimp only [encS]
 go_enter Tryz.func161, Tryz.ntmps161
 go_upto_region 1 with fail
 go_cut [21] (fun v W => v = .bool false ∧ W.heap[w.heap.size]? = some (.cells #[.int .i64 s.ls, .int .i64 s.la, .int .i64 s.hs, .int .i64 s.ha, .int .i64 s.v] 38 (0, 0)) ∧ Mod (fun _ => False) w W)
 case first =>
  refine cq_region (by kernel_rfl) (by kernel_rfl) ?_
  iterate 12 (refine wpQuiet_step (fun K hK => ?_); go_simp; first | (refine hK _ ?_; clear hK K) | (refine ⟨_, fun _ _ => rfl, hK _ ?_⟩; clear hK K) | (apply Exists.intro; refine ⟨fun wq hq => ?_, hK _ ?_⟩; (focus (first | (go_at_call 122; exact HR.out _ hq) | (go_at_call 73; exact HL.out _ hq) | (obtain ⟨d1, e1⟩ := HB.out _ hq; go_simp; try with_reducible rfl))); clear hK K))
  refine wpQuiet_nil ?_
  intro w1 M1
  go_wp2_with fail
  go_meet
  exact ⟨rfl, Mod.heap M1 b0.out (fun h => h), M0.trans' M1⟩
 case rest =>
  clear HR HL HB d0 e0 M0 b0 hw0 hx1
  obtain ⟨rfl, b1, M1⟩ := hcut
  replace h := h.mod0 M1
  have HF := findZ h hr.out s.ls s.la hf.out
  obtain ⟨d0, e0⟩ := blkc b1
  replace b1 := hid b1
  go_wp2_with fail
  refine HF.mono ?_
  rintro e w2 ⟨⟨v, p, d, rfl, c, X, rfl, rfl, rfl, rfl, h1, h2, h3⟩, M2⟩
  clear HF d0 e0
  replace h := h.mod0 M2
  have b2 := M2.heap b1.out fun h => h
  replace M1 := M1.trans' M2
  clear M2 b1
  obtain ⟨i, b, y, l, r, rfl, hy⟩ := find_old ho.out h1 h2 h3
  clear h1 h2 h3
  have hins := hid (ins_focus hr.out hy)
  have hfin := hid (fine_reseg (s := s) hF.out)
  replace hy := hid hy
  obtain ⟨k, rfl⟩ := h.nat (i := i) ((mem_plug ..).2 (.inr (by simp [T.ids])))
  have hk0 : ((k : Int) != -1) = true := by simp
  rw [T.ix_N]
  obtain ⟨lb, cp, rfl⟩ := h.lb (by intro e; have := toL_focus c k b y l r; rw [e] at this; simp [T.toL] at this)
  have HA := hid (fun (w' : World) (M : CM w2 w') => (h.mod0 M).node.at'.mono fun e w'' ⟨h1, h2⟩ => (⟨h1, by rw [h2]; exact M⟩ : e = Ending.returned (.pointer (some ⟨lb, k * 10, none⟩)) ∧ CM w2 w''))
  have HB := hid (fun (w' : World) (M : CM w2 w') => blkc (Mod.heap M b2 fun h => h))
  replace b2 := hid b2
  go_wp2_with fail
  refine cq_tail 6 (by kernel_rfl) (by kernel_rfl) ?_
  simp only [List.take_succ_cons, List.take_zero, List.drop_succ_cons, List.drop_zero]
  iterate 6 (refine wpQuiet_step (fun K hK => ?_); go_simp; first | (refine hK _ ?_; clear hK K) | (refine ⟨_, fun _ _ => rfl, hK _ ?_⟩; clear hK K) | (apply Exists.intro; refine ⟨fun wq hq => ?_, hK _ ?_⟩; (focus (first | (go_at_call 169; exact HA.out _ hq) | (obtain ⟨d1, e1⟩ := HB.out _ hq; go_simp; try with_reducible rfl))); clear hK K))
  refine wpQuiet_nil ?_
  intro w3 M3
  clear HA HB
  replace h := h.mod0 M3
  obtain ⟨root, σ, m, hh, rfl⟩ := h
  obtain ⟨W, hW, T1, MW⟩ := m.set0 ⟨_, hh.at⟩ s
  have F := hid (show TS W tb ab (.slice (some ⟨lb, 0, none⟩) σ.length cp) fv room σ.length free (plug c (.N k b s l r)) from ⟨_, _, T1, hh.reseg s, modN_length ..⟩)
  obtain ⟨q0, f0⟩ := m.cell' hh.at (j := 0) rfl
  obtain ⟨q1, f1⟩ := m.cell' hh.at (j := 1) rfl
  obtain ⟨q2, f2⟩ := m.cell' hh.at (j := 2) rfl
  obtain ⟨q3, f3⟩ := m.cell' hh.at (j := 3) rfl
  obtain ⟨q4, f4⟩ := m.cell' hh.at (j := 4) rfl
  simp only [Nat.add_zero] at q0 f0
  clear m hh T1
  go_wp2_with fail
  go_ret
  exact ⟨rfl, _, F.out, hfin.out, hins.out.symm, ((M1.trans' M3).mono fun _ h => h.elim).trans' MW⟩
set_option maxHeartbeats 2000000 in
theorem putZ_full (h : TS w tb ab lv fv room N free t) (hr : Row t.toL) (hF : Fine t) (s : Sg) (hk : okKey s.ls s.la) (hf : fit64 s.la) (ho : hasK (ky s) t.toL = false) (hsz : room ≤ t.size) :
  Calls Tryz.prog 161 #[.pointer (some ⟨tb, 0, none⟩), .agg (encS s).toArray] w fun e w' => PutFull w e w' := by
 obtain ⟨w0, hw0, b0, M0⟩ := boxS w s
 obtain ⟨d0, e0⟩ := blkc b0
 replace b0 := hid b0
 have HR := hid (fun w1 (M : CM w0 w1) => (rightZ s.ls s.la w1).mono fun e w' ⟨h1, h2⟩ => (⟨h1, Mod.trans' M h2⟩ : e = Ending.returned (.bool (decide (canS s.ls s.la = s.ls ∧ canA s.ls s.la = s.la))) ∧ CM w0 w'))
 have HL := hid (fun w1 (M : CM w0 w1) => (lastZ w1).mono fun e w' ⟨h1, h2⟩ => (⟨h1, Mod.trans' M h2⟩ : e = Ending.returned (.agg #[.int .i64 1, .int .i64 0]) ∧ CM w0 w'))
 have HB := hid (fun w1 (M : CM w0 w1) => blkc (Mod.heap M b0.out fun h => h))
 rw [decide_eq_true ⟨hk.1, hk.2.1⟩] at HR
 have hx1 : (s.ls == 1) = false := by have := hk.2.2; simp; omega
 replace hF := hid hF
 replace hr := hid hr
 replace hk := hid hk
 replace hf := hid hf
 replace ho := hid ho
 dsimp only [encS]
 go_enter Tryz.func161, Tryz.ntmps161
 go_upto_region 1 with fail
 go_cut [21] (fun v W => v = .bool false ∧ W.heap[w.heap.size]? = some (.cells #[.int .i64 s.ls, .int .i64 s.la, .int .i64 s.hs, .int .i64 s.ha, .int .i64 s.v] 38 (0, 0)) ∧ Mod (fun _ => False) w W)
 case first =>
  refine cq_region (by kernel_rfl) (by kernel_rfl) ?_
  iterate 12 (refine wpQuiet_step (fun K hK => ?_); go_simp; first | (refine hK _ ?_; clear hK K) | (refine ⟨_, fun _ _ => rfl, hK _ ?_⟩; clear hK K) | (apply Exists.intro; refine ⟨fun wq hq => ?_, hK _ ?_⟩; (focus (first | (go_at_call 122; exact HR.out _ hq) | (go_at_call 73; exact HL.out _ hq) | (obtain ⟨d1, e1⟩ := HB.out _ hq; go_simp; try with_reducible rfl))); clear hK K))
  refine wpQuiet_nil ?_
  intro w1 M1
  go_wp2_with fail
  go_meet
  exact ⟨rfl, Mod.heap M1 b0.out (fun h => h), M0.trans' M1⟩
 case rest =>
  clear HR HL HB d0 e0 M0 b0 hw0 hx1
  obtain ⟨rfl, b1, M1⟩ := hcut
  replace h := h.mod0 M1
  have HF := findZ h hr.out s.ls s.la hf.out
  obtain ⟨d0, e0⟩ := blkc b1
  replace b1 := hid b1
  go_wp2_with fail
  refine HF.mono ?_
  rintro e w2 ⟨⟨v, p, d, rfl, c, X, rfl, rfl, rfl, rfl, h1, h2, h3⟩, M2⟩
  clear HF d0 e0
  replace h := h.mod0 M2
  have b2 := M2.heap b1.out fun h => h
  replace M1 := M1.trans' M2
  clear M2 b1
  obtain rfl := find_new ho.out h3
  clear h3
  have hrt := h.root
  have HT := hid (fun (w' : World) (M : CM w2 w') => And.intro (h.mod0 M).root.2.1 (blkc (Mod.heap M b2 fun h => h)))
  replace b2 := hid b2
  replace h1 := hid h1
  replace h2 := hid h2
  rw [T.ix_E]
  clear hrt
  go_wp2_with fail
  refine cq_mid 8 _ (by kernel_rfl) (by kernel_rfl) rfl rfl ?_
  simp only [List.take_succ_cons, List.take_zero, List.drop_succ_cons, List.drop_zero]
  iterate 8 (refine wpQuiet_step (fun K hK => ?_); go_simp; first | (refine hK _ ?_; clear hK K) | (refine ⟨_, fun _ _ => rfl, hK _ ?_⟩; clear hK K) | (apply Exists.intro; refine ⟨fun wq hq => ?_, hK _ ?_⟩; (focus (first  | (obtain ⟨t0, d1, e1⟩ := HT.out _ hq; go_simp; try with_reducible rfl))); clear hK K))
  refine wpQuiet_nil ?_
  intro w3 M3 K hK
  go_simp
  clear HT
  replace h := h.mod0 M3
  replace M1 := Mod.trans' M1 M3
  obtain ⟨root, σ, m, hh, rfl⟩ := h
  have hcnt := hh.count m.a.inv
  have HP := putN_full m.a ⟨s, -1, -1, cix c, true⟩ (by rw [← hcnt]; exact hsz)
  replace hcnt := hid hcnt
  dsimp only [encNd] at HP
  refine HP.mono ?_; rintro e w4 ⟨rfl, M4⟩
  clear HP
  refine hK _ _ ?_
  clear hK K
  iterate 5 (refine wpQuiet_step (fun K hK => ?_); go_simp; first | (refine hK _ ?_; clear hK K) | (refine ⟨_, fun _ _ => rfl, hK _ ?_⟩; clear hK K) | (apply Exists.intro; refine ⟨fun wq hq => ?_, hK _ ?_⟩; (focus (first  | (skip; go_simp; try with_reducible rfl))); clear hK K))
  refine wpQuiet_nil ?_
  intro w5 M5
  replace M4 := Mod.trans' M4 M5
  clear M5
  go_wp2_with fail
  go_ret
  exact ⟨rfl, M1.trans' M4⟩
set_option maxHeartbeats 2000000 in
theorem putZ_new (h : TS w tb ab lv fv room N free t) (hr : Row t.toL) (hF : Fine t) (s : Sg) (hk : okKey s.ls s.la) (hf : fit64 s.la) (ho : hasK (ky s) t.toL = false) (hsz : (t.size : Int) < room) :
  Calls Tryz.prog 161 #[.pointer (some ⟨tb, 0, none⟩), .agg (encS s).toArray] w fun e w' => PutNew w tb ab lv fv room (insL s t.toL) e w' := by
 obtain ⟨w0, hw0, b0, M0⟩ := boxS w s
 obtain ⟨d0, e0⟩ := blkc b0
 replace b0 := hid b0
 have HR := hid (fun w1 (M : CM w0 w1) => (rightZ s.ls s.la w1).mono fun e w' ⟨h1, h2⟩ => (⟨h1, Mod.trans' M h2⟩ : e = Ending.returned (.bool (decide (canS s.ls s.la = s.ls ∧ canA s.ls s.la = s.la))) ∧ CM w0 w'))
 have HL := hid (fun w1 (M : CM w0 w1) => (lastZ w1).mono fun e w' ⟨h1, h2⟩ => (⟨h1, Mod.trans' M h2⟩ : e = Ending.returned (.agg #[.int .i64 1, .int .i64 0]) ∧ CM w0 w'))
 have HB := hid (fun w1 (M : CM w0 w1) => blkc (Mod.heap M b0.out fun h => h))
 rw [decide_eq_true ⟨hk.1, hk.2.1⟩] at HR
 have hx1 : (s.ls == 1) = false := by have := hk.2.2; simp; omega
 replace hF := hid hF
 replace hr := hid hr
 replace hk := hid hk
 replace hf := hid hf
 replace ho := hid ho
 dsimp only [encS]
 go_enter Tryz.func161, Tryz.ntmps161
 go_upto_region 1 with fail
 go_cut [21] (fun v W => v = .bool false ∧ W.heap[w.heap.size]? = some (.cells #[.int .i64 s.ls, .int .i64 s.la, .int .i64 s.hs, .int .i64 s.ha, .int .i64 s.v] 38 (0, 0)) ∧ Mod (fun _ => False) w W)
 case first =>
  refine cq_region (by kernel_rfl) (by kernel_rfl) ?_
  iterate 12 (refine wpQuiet_step (fun K hK => ?_); go_simp; first | (refine hK _ ?_; clear hK K) | (refine ⟨_, fun _ _ => rfl, hK _ ?_⟩; clear hK K) | (apply Exists.intro; refine ⟨fun wq hq => ?_, hK _ ?_⟩; (focus (first | (go_at_call 122; exact HR.out _ hq) | (go_at_call 73; exact HL.out _ hq) | (obtain ⟨d1, e1⟩ := HB.out _ hq; go_simp; try with_reducible rfl))); clear hK K))
  refine wpQuiet_nil ?_
  intro w1 M1
  go_wp2_with fail
  go_meet
  exact ⟨rfl, Mod.heap M1 b0.out (fun h => h), M0.trans' M1⟩
 case rest =>
  clear HR HL HB d0 e0 M0 b0 hw0 hx1
  obtain ⟨rfl, b1, M1⟩ := hcut
  replace h := h.mod0 M1
  have HF := findZ h hr.out s.ls s.la hf.out
  obtain ⟨d0, e0⟩ := blkc b1
  replace b1 := hid b1
  go_wp2_with fail
  refine HF.mono ?_
  rintro e w2 ⟨⟨v, p, d, rfl, c, X, rfl, rfl, rfl, rfl, h1, h2, h3⟩, M2⟩
  clear HF d0 e0
  replace h := h.mod0 M2
  have b2 := M2.heap b1.out fun h => h
  replace M1 := M1.trans' M2
  clear M2 b1
  obtain rfl := find_new ho.out h3
  clear h3
  have hrt := h.root
  have HT := hid (fun (w' : World) (M : CM w2 w') => And.intro (h.mod0 M).root.2.1 (blkc (Mod.heap M b2 fun h => h)))
  replace b2 := hid b2
  replace h1 := hid h1
  replace h2 := hid h2
  rw [T.ix_E]
  clear hrt
  go_wp2_with fail
  refine cq_mid 8 _ (by kernel_rfl) (by kernel_rfl) rfl rfl ?_
  simp only [List.take_succ_cons, List.take_zero, List.drop_succ_cons, List.drop_zero]
  iterate 8 (refine wpQuiet_step (fun K hK => ?_); go_simp; first | (refine hK _ ?_; clear hK K) | (refine ⟨_, fun _ _ => rfl, hK _ ?_⟩; clear hK K) | (apply Exists.intro; refine ⟨fun wq hq => ?_, hK _ ?_⟩; (focus (first  | (obtain ⟨t0, d1, e1⟩ := HT.out _ hq; go_simp; try with_reducible rfl))); clear hK K))
  refine wpQuiet_nil ?_
  intro w3 M3 K hK
  go_simp
  clear HT
  replace h := h.mod0 M3
  replace M1 := Mod.trans' M1 M3
  obtain ⟨root, σ, m, hh, rfl⟩ := h
  have hcnt := hh.count m.a.inv
  have HP := aputZ m (by rw [← hcnt]; exact hsz) ⟨s, -1, -1, cix c, true⟩
  replace hcnt := hid hcnt
  dsimp only [encNd] at HP
  refine HP.mono ?_; rintro e w4 ⟨k, lv1, fv1, σ1, free1, rfl, m1, g1, g2, M4, hfoot⟩
  clear HP
  refine hK _ _ ?_
  clear hK K
  iterate 5 (refine wpQuiet_step (fun K hK => ?_); go_simp; first | (refine hK _ ?_; clear hK K) | (refine ⟨_, fun _ _ => rfl, hK _ ?_⟩; clear hK K) | (apply Exists.intro; refine ⟨fun wq hq => ?_, hK _ ?_⟩; (focus (first  | (skip; go_simp; try with_reducible rfl))); clear hK K))
  refine wpQuiet_nil ?_
  intro w5 M5
  replace m1 : TM w5 tb ab lv1 fv1 room root σ1 free1 := ⟨Mod.heap M5 m1.t (fun h => h), m1.a.mod M5 fun _ _ h => h⟩
  replace M4 := M4.trans' (Mod.mono M5 fun _ h => h.elim)
  clear M5
  generalize w5 = w4 at *
  have hleaf := hh.leaf (σ' := σ1) (k := k) (s := s) (by omega) g1 g2
  have hL : (plug c (.N k true s .E .E)).toL = insL s (plug c .E).toL := by
   rw [toL_focus, toL_plug]; simp only [T.toL, List.append_nil, List.nil_append]
   exact (ins_new h1.out h2.out).symm
  obtain ⟨n, hC, hE, _⟩ := fine_split c _ hF.out
  simp only [RBT] at hE
  subst hE
  replace hL := hid hL
  replace hfoot := hid hfoot
  replace g2 := hid g2
  have hk0 : ((k : Int) != -1) = true := by simp
  cases c with
  | nil =>
   obtain ⟨T2, M5⟩ := m1.setRoot k
   have R : TS (w4.setCell ⟨tb, 1, none⟩ (.int .i64 k)) tb ab lv1 fv1 room σ1.length free1 (plug [] (.N k true s .E .E)) := ⟨_, _, T2, hleaf, rfl⟩
   obtain ⟨lb, cp, rfl⟩ := R.lb (by simp [plug])
   have RZ := riseZ R ⟨rfl, rfl, rfl, rfl, hC⟩
   obtain ⟨q0, f0⟩ := blkc m1.t
   replace hleaf := hid hleaf
   clear hh m m1 T2 R
   simp only [cix]
   go_wp2_with fail
   refine RZ.mono ?_; rintro e w5 ⟨rfl, t', R', F', L', M6⟩
   clear RZ
   go_wp2_with fail
   go_ret
   refine ⟨rfl, _, _, _, _, t', R', F', L'.trans hL.out, (((M1.mono fun _ h => h.elim).trans (M4.mono fun _ h => .inl (.inr h)) fun _ h => .inl h).trans M5 fun i h => .inl (.inl h)).trans M6 fun i hi => ?_, fun b hb => ?_⟩
   ·rcases hi with rfl | hi
    ·exact .inl (.inl rfl)
    ·rcases hfoot.out i hi with hx | hx
     ·exact .inl (.inr hx)
     ·exact .inr (Nat.le_trans M1.size hx)
   ·rcases hb with rfl | hb
    ·exact .inl (.inl rfl)
    ·rcases hfoot.out b hb with hx | hx
     ·exact .inl (.inr hx)
     ·exact .inr (Nat.le_trans M1.size hx)
  | cons a c =>
   obtain ⟨d, i, b, sp, o⟩ := a
   obtain ⟨kp, rfl⟩ := Int.eq_ofNat_of_zero_le (hh.pos (k := i) ((mem_plug ..).2 (.inl (by simp [cids]))))
   have hex : ∃ v, nod σ1 (kp : Int) = some v := by
    obtain ⟨v, hv⟩ := hh.ex (k := (kp : Int)) ((mem_plug ..).2 (.inl (by simp [cids])))
    rw [g2.out]
    split
    ·exact ⟨_, rfl⟩
    ·exact ⟨v, hv⟩
   obtain ⟨vv, hvv⟩ := hex
   obtain ⟨lb, cp, rfl⟩ := m1.lb hvv
   have AT := atT' m1 ⟨vv, hvv⟩
   have hp0 : ((kp : Int) == -1) = false := by simp
   simp only [leafS] at hleaf
   cases d
   ·obtain ⟨_, q5, T2, M5⟩ := m1.st ⟨vv, hvv⟩ 5 (.int .i64 k) (fun n => n.setKid 0 k) (by omega) (fun _ => rfl)
    have q6 := (m1.cell' hvv (j := 5) rfl).1
    have R : TS (w4.setCell ⟨lb, kp * 10 + 5, none⟩ (.int .i64 k)) tb ab (.slice (some ⟨lb, 0, none⟩) σ1.length cp) fv1 room σ1.length free1 (plug (⟨false, kp, b, sp, o⟩ :: c) (.N k true s .E .E)) := ⟨_, _, T2, by
     have e : hangR root (k : Int) (kp : Int) = root := by unfold hangR; rw [if_neg (by omega)]
     simp only [cix] at hleaf
     rw [e] at hleaf
     exact hleaf, modN_length ..⟩
    have RZ := riseZ R ⟨rfl, rfl, rfl, rfl, hC⟩
    replace hleaf := hid hleaf
    clear hh m m1 T2 R
    simp only [cix, cside, di, if_true, if_false, Bool.false_eq_true]
    go_wp2_with fail
    refine AT.mono ?_; rintro e w5 ⟨rfl, hw⟩; subst hw
    clear AT
    go_wp2_with fail
    refine RZ.mono ?_; rintro e w5 ⟨rfl, t', R', F', L', M6⟩
    clear RZ
    go_wp2_with fail
    go_ret
    have hsub : ∀ j, TF tb ab (.slice (some ⟨lb, 0, none⟩) σ1.length cp) fv1 j → TF tb ab lv fv j ∨ w.heap.size ≤ j := by
     rintro j (rfl | hj)
     ·exact .inl (.inl rfl)
     ·rcases hfoot.out j hj with hx | hx
      ·exact .inl (.inr hx)
      ·exact .inr (Nat.le_trans M1.size hx)
    exact ⟨rfl, _, _, _, _, t', R', F', L'.trans hL.out, (((M1.mono fun _ h => h.elim).trans (M4.mono fun _ h => .inl (.inr h)) fun _ h => .inl h).trans M5 fun i h => hsub i h).trans M6 fun i hi => hsub i hi, hsub⟩
   ·obtain ⟨_, q5, T2, M5⟩ := m1.st ⟨vv, hvv⟩ 6 (.int .i64 k) (fun n => n.setKid 1 k) (by omega) (fun _ => rfl)
    have q6 := (m1.cell' hvv (j := 6) rfl).1
    have R : TS (w4.setCell ⟨lb, kp * 10 + 6, none⟩ (.int .i64 k)) tb ab (.slice (some ⟨lb, 0, none⟩) σ1.length cp) fv1 room σ1.length free1 (plug (⟨true, kp, b, sp, o⟩ :: c) (.N k true s .E .E)) := ⟨_, _, T2, by
     have e : hangR root (k : Int) (kp : Int) = root := by unfold hangR; rw [if_neg (by omega)]
     simp only [cix] at hleaf
     rw [e] at hleaf
     exact hleaf, modN_length ..⟩
    have RZ := riseZ R ⟨rfl, rfl, rfl, rfl, hC⟩
    replace hleaf := hid hleaf
    clear hh m m1 T2 R
    simp only [cix, cside, di, if_true, if_false, Bool.false_eq_true]
    go_wp2_with fail
    refine AT.mono ?_; rintro e w5 ⟨rfl, hw⟩; subst hw
    clear AT
    go_wp2_with fail
    refine RZ.mono ?_; rintro e w5 ⟨rfl, t', R', F', L', M6⟩
    clear RZ
    go_wp2_with fail
    go_ret
    have hsub : ∀ j, TF tb ab (.slice (some ⟨lb, 0, none⟩) σ1.length cp) fv1 j → TF tb ab lv fv j ∨ w.heap.size ≤ j := by
     rintro j (rfl | hj)
     ·exact .inl (.inl rfl)
     ·rcases hfoot.out j hj with hx | hx
      ·exact .inl (.inr hx)
      ·exact .inr (Nat.le_trans M1.size hx)
    exact ⟨rfl, _, _, _, _, t', R', F', L'.trans hL.out, (((M1.mono fun _ h => h.elim).trans (M4.mono fun _ h => .inl (.inr h)) fun _ h => .inl h).trans M5 fun i h => hsub i h).trans M6 fun i hi => hsub i hi, hsub⟩
end
open Go Go.RowKit
def rootS : T → Option Sg | .E => none | .N _ _ s _ _ => some s
section
variable {w w' : World} {tb ab N : Nat} {lv fv : Value} {room : Int} {free : List Int} {t : T}
theorem toldZ {c : Ctx} {X : T} (h : TS w tb ab lv fv room N free (plug c X)) : Calls Tryz.prog 176 #[.pointer (some ⟨tb, 0, none⟩), .int .i64 X.ix] w fun e w' => e = .returned (optS (rootS X)) ∧ Mod (fun _ => False) w w' := by
 obtain ⟨w0, hw0, b0, M0⟩ := boxZ w
 obtain ⟨d0, e0⟩ := blkc b0
 cases X with
 | E =>
  rw [T.ix_E]
  clear h
  go_enter Tryz.func176, Tryz.ntmps176
  go_wp2_with fail
  obtain ⟨b1, M1⟩ := store5 (a' := .int .i64 0) (b' := .int .i64 0) (c' := .int .i64 0) (d' := .int .i64 0) (e' := .int .i64 0) b0 (Nat.le_refl _) M0
  exact ret_row_tmp w.heap.size [.int .i64 0, .int .i64 0, .int .i64 0, .int .i64 0, .int .i64 0] rfl rfl b1 Tryz.underlying38 rfl (by kernel_rfl) rfl ⟨rfl, M1⟩
 | N i b s l r =>
  rw [T.ix_N]
  replace h := h.mod0 M0
  obtain ⟨k, rfl⟩ := h.nat (i := i) ((mem_plug ..).2 (.inr (by simp [T.ids])))
  obtain ⟨lb, hN⟩ := h.node'
  have A := hN.at'
  have z0 := hN.c0
  have z1 := hN.c1
  have z2 := hN.c2
  have z3 := hN.c3
  have z4 := hN.c4
  have hk0 : ((k : Int) == -1) = false := by simp
  clear hN h
  go_enter Tryz.func176, Tryz.ntmps176
  go_wp2_with fail
  refine A.mono ?_; rintro e w' ⟨rfl, hw⟩; subst hw
  go_wp2_with fail
  obtain ⟨b1, M1⟩ := store5 (a' := .int .i64 s.ls) (b' := .int .i64 s.la) (c' := .int .i64 s.hs) (d' := .int .i64 s.ha) (e' := .int .i64 s.v) b0 (Nat.le_refl _) M0
  exact ret_row_tmp w.heap.size [.int .i64 s.ls, .int .i64 s.la, .int .i64 s.hs, .int .i64 s.ha, .int .i64 s.v] rfl rfl b1 Tryz.underlying38 rfl (by kernel_rfl) rfl ⟨rfl, M1⟩
theorem get_focus {c : Ctx} {X : T} {k : Int} (h1 : ∀ x ∈ cpre c, ky x < k) (h2 : ∀ x ∈ cpost c, k < ky x) (h3 : X = .E ∨ ∃ i b s l r, X = .N i b s l r ∧ ky s = k) (hr : Row (plug c X).toL) : getS k (plug c X).toL = rootS X := by
 rcases h3 with rfl | ⟨i, b, s, l, r, rfl, hk⟩
 ·rw [toL_plug]
  unfold getS rootS
  rw [List.find?_eq_none]
  intro x hx
  simp only [T.toL, List.append_nil, List.mem_append] at hx
  rcases hx with hx | hx
  ·have := h1 x hx; simp; omega
  ·have := h2 x hx; simp; omega
 ·have hf := hr.focus.1
  rw [toL_focus]
  unfold getS rootS
  rw [List.find?_append, List.find?_eq_none.2 (by intro x hx; have := hf x hx; simp; omega)]
  simp [hk]
set_option maxHeartbeats 1000000 in
theorem getZ (h : TS w tb ab lv fv room N free t) (hr : Row t.toL) (cs ca : Int) (hf : fit64 ca) :
  Calls Tryz.prog 156 #[.pointer (some ⟨tb, 0, none⟩), .agg #[.int .i64 cs, .int .i64 ca]] w fun e w' => e = .returned (optS (getS (kx cs ca) t.toL)) ∧ Mod (fun _ => False) w w' := by
 obtain ⟨wa, hwa, ba, Ma⟩ := boxC w cs ca
 obtain ⟨w0, hw0, b0, M0⟩ := boxZ wa
 have hg := hid Ma.size
 have hgb := hid (blkl b0)
 replace ba := M0.heap ba fun h => h
 replace M0 := Ma.trans' M0
 clear Ma
 obtain ⟨d0, e0⟩ := blkc b0
 obtain ⟨d1, e1⟩ := blkc ba
 replace h := h.mod0 M0
 replace hr := hid hr
 have hf2 := hid (can_fit (s := cs) hf)
 have HC := canonZ cs ca w0
 go_enter Tryz.func156, Tryz.ntmps156
 go_wp2_with fail
 refine HC.mono ?_; rintro e w1 ⟨rfl, M1⟩
 clear HC d0 e0 d1 e1 ba hwa hw0
 replace h := h.mod0 M1
 have HF := (findZ h hr.out _ _ hf2.out).mono (find_kx t cs ca w1)
 go_wp2_with fail
 refine HF.mono ?_
 rintro e w2 ⟨⟨v, p, d, rfl, c, X, rfl, rfl, rfl, rfl, h1, h2, h3⟩, M2⟩
 clear HF
 replace h := h.mod0 M2
 have HT := toldZ h
 have ho := get_focus h1 h2 h3 hr.out
 obtain ⟨o, ho2⟩ : ∃ o, rootS X = o := ⟨_, rfl⟩
 rw [ho2] at HT ho
 replace ho := hid ho
 clear h1 h2 h3 ho2
 go_wp2_with fail
 refine HT.mono ?_; rintro e w3 ⟨rfl, M3⟩
 clear HT h
 unfold optS
 have b3 := (M1.trans' (M2.trans' M3)).heap b0 fun h => h
 replace M0 := M0.trans' (M1.trans' (M2.trans' M3))
 obtain ⟨d0, e0⟩ := blkc b3
 obtain ⟨s, hs⟩ : ∃ s, oS o = s := ⟨_, rfl⟩
 rw [hs]
 replace hs := hid hs
 go_wp2_with fail
 obtain ⟨b4, M4⟩ := store5 (a' := .int .i64 s.ls) (b' := .int .i64 s.la) (c' := .int .i64 s.hs) (d' := .int .i64 s.ha) (e' := .int .i64 s.v) b3 hg.out M0
 exact ret_row_tmp wa.heap.size [.int .i64 s.ls, .int .i64 s.la, .int .i64 s.hs, .int .i64 s.ha, .int .i64 s.v] rfl rfl b4 Tryz.underlying38 rfl (by kernel_rfl) rfl ⟨by rw [ho.out]; unfold optS; rw [hs.out]; rfl, M4⟩
theorem end_first {v : Int} (h : EndQ t false v) : ∃ c X, t = plug c X ∧ v = X.ix ∧ rootS X = t.toL.head? := by
 rcases h with ⟨rfl, rfl⟩ | ⟨F, i, b, s, l, r, rfl, rfl, h1, h2⟩
 ·exact ⟨[], .E, rfl, rfl, rfl⟩
 ·obtain ⟨rfl, e⟩ := h1 rfl
  exact ⟨F, _, rfl, rfl, by rw [toL_plug, e]; simp [rootS, T.toL]⟩
set_option maxHeartbeats 1000000 in
theorem firstTZ (h : TS w tb ab lv fv room N free t) :
  Calls Tryz.prog 154 #[.pointer (some ⟨tb, 0, none⟩)] w fun e w' => e = .returned (optS (t.toL.head?)) ∧ Mod (fun _ => False) w w' := by
 obtain ⟨w0, hw0, b0, M0⟩ := boxZ w
 obtain ⟨d0, e0⟩ := blkc b0
 replace h := h.mod0 M0
 have hE := endZ (c := []) (X := t) h false
 have hrt := h.root.1
 simp only [di, if_true, if_false, Bool.false_eq_true] at hE
 go_enter Tryz.func154, Tryz.ntmps154
 go_wp2_with fail
 refine hE.mono ?_; rintro e w' ⟨⟨v, rfl, hq⟩, hw⟩; subst hw
 obtain ⟨c, X, rfl, rfl, ho⟩ := end_first hq
 clear hE hq hrt
 have HT := toldZ h
 obtain ⟨o, ho2⟩ : ∃ o, rootS X = o := ⟨_, rfl⟩
 rw [ho2] at HT ho
 replace ho := hid ho
 clear ho2 h
 go_wp2_with fail
 refine HT.mono ?_; rintro e w3 ⟨rfl, M3⟩
 clear HT
 unfold optS
 have b3 := M3.heap b0 fun h => h
 replace M0 := M0.trans' M3
 clear d0 e0
 obtain ⟨d0, e0⟩ := blkc b3
 obtain ⟨s, hs⟩ : ∃ s, oS o = s := ⟨_, rfl⟩
 rw [hs]
 replace hs := hid hs
 go_wp2_with fail
 obtain ⟨b4, M4⟩ := store5 (a' := .int .i64 s.ls) (b' := .int .i64 s.la) (c' := .int .i64 s.hs) (d' := .int .i64 s.ha) (e' := .int .i64 s.v) b3 (Nat.le_refl _) M0
 exact ret_row_tmp w.heap.size [.int .i64 s.ls, .int .i64 s.la, .int .i64 s.hs, .int .i64 s.ha, .int .i64 s.v] rfl rfl b4 Tryz.underlying38 rfl (by kernel_rfl) rfl ⟨by rw [← ho.out]; unfold optS; rw [hs.out]; rfl, M4⟩
theorem end_last {v : Int} (h : EndQ t true v) : ∃ c X, t = plug c X ∧ v = X.ix ∧ rootS X = t.toL.getLast? := by
 rcases h with ⟨rfl, rfl⟩ | ⟨F, i, b, s, l, r, rfl, rfl, h1, h2⟩
 ·exact ⟨[], .E, rfl, rfl, rfl⟩
 ·obtain ⟨rfl, e⟩ := h2 rfl
  exact ⟨F, _, rfl, rfl, by rw [toL_plug, e]; simp [rootS, T.toL]⟩
set_option maxHeartbeats 1000000 in
theorem lastTZ (h : TS w tb ab lv fv room N free t) :
  Calls Tryz.prog 158 #[.pointer (some ⟨tb, 0, none⟩)] w fun e w' => e = .returned (optS (t.toL.getLast?)) ∧ Mod (fun _ => False) w w' := by
 obtain ⟨w0, hw0, b0, M0⟩ := boxZ w
 obtain ⟨d0, e0⟩ := blkc b0
 replace h := h.mod0 M0
 have hE := endZ (c := []) (X := t) h true
 have hrt := h.root.1
 simp only [di, if_true, if_false, Bool.false_eq_true] at hE
 go_enter Tryz.func158, Tryz.ntmps158
 go_wp2_with fail
 refine hE.mono ?_; rintro e w' ⟨⟨v, rfl, hq⟩, hw⟩; subst hw
 obtain ⟨c, X, rfl, rfl, ho⟩ := end_last hq
 clear hE hq hrt
 have HT := toldZ h
 obtain ⟨o, ho2⟩ : ∃ o, rootS X = o := ⟨_, rfl⟩
 rw [ho2] at HT ho
 replace ho := hid ho
 clear ho2 h
 go_wp2_with fail
 refine HT.mono ?_; rintro e w3 ⟨rfl, M3⟩
 clear HT
 unfold optS
 have b3 := M3.heap b0 fun h => h
 replace M0 := M0.trans' M3
 clear d0 e0
 obtain ⟨d0, e0⟩ := blkc b3
 obtain ⟨s, hs⟩ : ∃ s, oS o = s := ⟨_, rfl⟩
 rw [hs]
 replace hs := hid hs
 go_wp2_with fail
 obtain ⟨b4, M4⟩ := store5 (a' := .int .i64 s.ls) (b' := .int .i64 s.la) (c' := .int .i64 s.hs) (d' := .int .i64 s.ha) (e' := .int .i64 s.v) b3 (Nat.le_refl _) M0
 exact ret_row_tmp w.heap.size [.int .i64 s.ls, .int .i64 s.la, .int .i64 s.hs, .int .i64 s.ha, .int .i64 s.v] rfl rfl b4 Tryz.underlying38 rfl (by kernel_rfl) rfl ⟨by rw [← ho.out]; unfold optS; rw [hs.out]; rfl, M4⟩
end
end Go.Proofs.Bo
