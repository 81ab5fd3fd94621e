import Derived.Test.YtgehgjaglgafdaaGreatG11
import Derived.Test.YtgehgjaglgafdaaGreatG10
set_option linter.unusedVariables false
set_option linter.unusedSimpArgs false
namespace Go.Proofs.Bo
open Go Go.RowKit
structure NearB (w : World) (b4 b5 b6 b7 tb : Nat) (cs ca : Int) (d own : Bool) : Prop where
 h4 : w.heap[b4]? = some (.cells #[.pointer (some ⟨tb, 0, none⟩)] 93 (0, 0))
 h5 : w.heap[b5]? = some (.cells #[.int .i64 cs, .int .i64 ca] 34 (0, 0))
 h6 : w.heap[b6]? = some (.cells #[.int .i64 (di d)] 3 (0, 0))
 h7 : w.heap[b7]? = some (.cells #[.bool own] 4 (0, 0))
section
variable {w w' : World} {tb ab N b4 b5 b6 b7 : Nat} {lv fv : Value} {room : Int} {free : List Int} {t : T} {cs ca : Int} {d own : Bool}
theorem NearB.mod0 (h : NearB w b4 b5 b6 b7 tb cs ca d own) (M : Mod (fun _ => False) w w') : NearB w' b4 b5 b6 b7 tb cs ca d own :=
 ⟨M.heap h.h4 fun h => h, M.heap h.h5 fun h => h, M.heap h.h6 fun h => h, M.heap h.h7 fun h => h⟩
theorem NearB.facts (h : NearB w b4 b5 b6 b7 tb cs ca d own) : w.cell? ⟨b4, 0, none⟩ = some (.pointer (some ⟨tb, 0, none⟩)) ∧ w.cell? ⟨b5, 0, none⟩ = some (.int .i64 cs) ∧ w.cell? ⟨b5, 1, none⟩ = some (.int .i64 ca) ∧
  w.cell? ⟨b6, 0, none⟩ = some (.int .i64 (di d)) ∧ w.cell? ⟨b7, 0, none⟩ = some (.bool own) := by
 refine ⟨?_, ?_, ?_, ?_, ?_⟩
 ·rw [(blkc h.h4).1]; rfl
 ·rw [(blkc h.h5).1]; rfl
 ·rw [(blkc h.h5).1]; rfl
 ·rw [(blkc h.h6).1]; rfl
 ·rw [(blkc h.h7).1]; rfl
set_option maxHeartbeats 2000000 in
theorem fitsZ {c : Ctx} {k : Nat} {b : Bool} {s : Sg} {l r : T} (h : TS w tb ab lv fv room N free (plug c (.N k b s l r))) (hB : NearB w b4 b5 b6 b7 tb cs ca d own) (hf : fit64 ca) (hs : fit64 s.la) :
  Calls Tryz.prog 183 #[.int .i64 k, .pointer (some ⟨b4, 0, none⟩), .pointer (some ⟨b5, 0, none⟩), .pointer (some ⟨b7, 0, none⟩), .pointer (some ⟨b6, 0, none⟩)] w fun e w' => e = .returned (.bool (fitB d own (kx cs ca) (ky s))) ∧ Mod (fun _ => False) w w' := by
 have HK := hid (fun (w' : World) (M : CM w w') => (keyZ (h.mod0 M)).mono fun e w'' ⟨h1, h2⟩ => (⟨h1, Mod.trans' M h2⟩ : e = Ending.returned (.agg #[.int .i64 s.ls, .int .i64 s.la]) ∧ CM w w''))
 have HC := hid (fun (w' : World) (M : CM w w') => (compareZ (s := s.ls) (a := s.la) (s' := cs) (a' := ca) hs hf w').mono fun e w'' ⟨h1, h2⟩ => (⟨h1, Mod.trans' M h2⟩ : e = Ending.returned (.int .i64 (cmpI (kx s.ls s.la) (kx cs ca))) ∧ CM w w''))
 have HB := hid (fun (w' : World) (M : CM w w') => (hB.mod0 M).facts)
 clear h hB
 rcases Int.lt_trichotomy (ky s) (kx cs ca) with hlt | heq | hgt
 ·have e1 : fitB d own (kx cs ca) (ky s) = !d := by
   unfold fitB; rw [decide_eq_false (by omega), decide_eq_true hlt, decide_eq_false (by omega)]; simp
  rw [e1]
  rw [show cmpI (kx s.ls s.la) (kx cs ca) = -1 from cmpI_lt hlt] at HC
  replace hlt := hid hlt
  clear e1
  cases d
  all_goals
   go_enter Tryz.func183, Tryz.ntmps183
   go_wp2_with fail
   refine cq_region (by kernel_rfl) (by kernel_rfl) ?_
   iterate 6 (refine wpQuiet_step (fun K hK => ?_); go_simp; first | (refine hK _ ?_; clear hK K) | (refine ⟨_, fun _ _ => rfl, hK _ ?_⟩; clear hK K) | (apply Exists.intro; refine ⟨fun wq hq => ?_, hK _ ?_⟩; (focus (first | (go_at_call 184; exact HK.out _ hq) | (go_at_call 50; exact HC.out _ hq) | (obtain ⟨d1, d2, d3, d4, d5⟩ := HB.out _ hq; go_simp; try with_reducible rfl))); clear hK K))
   refine wpQuiet_nil ?_
   intro w1 M1
   obtain ⟨d1, d2, d3, d4, d5⟩ := HB.out _ M1
   simp only [di, if_true, if_false, Bool.false_eq_true] at d4
   go_wp2_with fail
   go_ret
   exact ⟨rfl, M1⟩
 ·have e1 : fitB d own (kx cs ca) (ky s) = own := by
   unfold fitB; rw [decide_eq_true heq, decide_eq_false (by omega), decide_eq_false (by omega)]; simp
  rw [e1]
  rw [show cmpI (kx s.ls s.la) (kx cs ca) = 0 from cmpI_eq heq] at HC
  replace heq := hid heq
  clear e1
  cases d <;> cases own
  all_goals
   go_enter Tryz.func183, Tryz.ntmps183
   go_wp2_with fail
   refine cq_region (by kernel_rfl) (by kernel_rfl) ?_
   iterate 6 (refine wpQuiet_step (fun K hK => ?_); go_simp; first | (refine hK _ ?_; clear hK K) | (refine ⟨_, fun _ _ => rfl, hK _ ?_⟩; clear hK K) | (apply Exists.intro; refine ⟨fun wq hq => ?_, hK _ ?_⟩; (focus (first | (go_at_call 184; exact HK.out _ hq) | (go_at_call 50; exact HC.out _ hq) | (obtain ⟨d1, d2, d3, d4, d5⟩ := HB.out _ hq; go_simp; try with_reducible rfl))); clear hK K))
   refine wpQuiet_nil ?_
   intro w1 M1
   obtain ⟨d1, d2, d3, d4, d5⟩ := HB.out _ M1
   simp only [di, if_true, if_false, Bool.false_eq_true] at d4
   go_wp2_with fail
   go_ret
   exact ⟨rfl, M1⟩
 ·have e1 : fitB d own (kx cs ca) (ky s) = d := by
   unfold fitB; rw [decide_eq_false (by omega), decide_eq_false (by omega), decide_eq_true hgt]; simp
  rw [e1]
  rw [show cmpI (kx s.ls s.la) (kx cs ca) = 1 from cmpI_gt hgt] at HC
  replace hgt := hid hgt
  clear e1
  cases d
  all_goals
   go_enter Tryz.func183, Tryz.ntmps183
   go_wp2_with fail
   refine cq_region (by kernel_rfl) (by kernel_rfl) ?_
   iterate 6 (refine wpQuiet_step (fun K hK => ?_); go_simp; first | (refine hK _ ?_; clear hK K) | (refine ⟨_, fun _ _ => rfl, hK _ ?_⟩; clear hK K) | (apply Exists.intro; refine ⟨fun wq hq => ?_, hK _ ?_⟩; (focus (first | (go_at_call 184; exact HK.out _ hq) | (go_at_call 50; exact HC.out _ hq) | (obtain ⟨d1, d2, d3, d4, d5⟩ := HB.out _ hq; go_simp; try with_reducible rfl))); clear hK K))
   refine wpQuiet_nil ?_
   intro w1 M1
   obtain ⟨d1, d2, d3, d4, d5⟩ := HB.out _ M1
   simp only [di, if_true, if_false, Bool.false_eq_true] at d4
   go_wp2_with fail
   go_ret
   exact ⟨rfl, M1⟩
theorem toldE (tb : Nat) (w : World) : Calls Tryz.prog 176 #[.pointer (some ⟨tb, 0, none⟩), .int .i64 T.E.ix] w fun e w' => e = .returned (optS (rootS .E)) ∧ Mod (fun _ => False) w w' := by
 obtain ⟨w0, hw0, b0, M0⟩ := boxZ w
 obtain ⟨d0, e0⟩ := blkc b0
 rw [T.ix_E]
 go_enter Tryz.func176, Tryz.ntmps176
 go_wp2_with fail
 obtain ⟨b1, M1⟩ := store5 (a' := .int .i64 0) (b' := .int .i64 0) (c' := .int .i64 0) (d' := .int .i64 0) (e' := .int .i64 0) b0 (Nat.le_refl _) M0
 exact ret_row_tmp w.heap.size [.int .i64 0, .int .i64 0, .int .i64 0, .int .i64 0, .int .i64 0] rfl rfl b1 Tryz.underlying38 rfl (by kernel_rfl) rfl ⟨rfl, M1⟩
def bestS (d : Bool) (c : Ctx) : Option Sg := if d then (cpost c).head? else (cpre c).getLast?
def NearR (w : World) (tb ab N : Nat) (lv fv : Value) (room : Int) (free : List Int) (t : T) (b4 b5 b6 b7 b8 : Nat) (cs ca : Int) (d own : Bool) (g : Nat) (v10 v12 : Value) (W : World) : Prop :=
 ∃ c X c' B, g = X.size ∧ t = plug c X ∧ (B = .E ∨ t = plug c' B) ∧ v10 = .int .i64 B.ix ∧ v12 = .int .i64 X.ix ∧ rootS B = bestS d c ∧
  (∀ x ∈ cpre c, fitB d own (kx cs ca) (ky x) = !d) ∧ (∀ x ∈ cpost c, fitB d own (kx cs ca) (ky x) = d) ∧
  TS W tb ab lv fv room N free t ∧ NearB W b4 b5 b6 b7 tb cs ca d own ∧ W.heap[b8]? = some (.cells #[.int .i64 0, .int .i64 0, .int .i64 0, .int .i64 0, .int .i64 0] 38 (0, 0)) ∧ Mod (fun _ => False) w W
theorem fit_lo {own : Bool} {k x y : Int} (h : fitB false own k y = true) (hxy : x < y) : fitB false own k x = true := by
 unfold fitB at *; simp at *; omega
theorem fit_hi {own : Bool} {k x y : Int} (h : fitB false own k y = false) (hxy : y < x) : fitB false own k x = false := by
 unfold fitB at *
 by_cases h1 : x = k <;> by_cases h2 : x < k <;> by_cases h3 : y = k <;> by_cases h4 : y < k <;> simp_all <;> omega
theorem fit_lo' {own : Bool} {k x y : Int} (h : fitB true own k y = false) (hxy : x < y) : fitB true own k x = false := by
 unfold fitB at *
 by_cases h1 : x = k <;> by_cases h2 : k < x <;> by_cases h3 : y = k <;> by_cases h4 : k < y <;> simp_all <;> omega
theorem fit_hi' {own : Bool} {k x y : Int} (h : fitB true own k y = true) (hxy : y < x) : fitB true own k x = true := by
 unfold fitB at *; simp at *; omega
theorem near_end {d own : Bool} {k : Int} {c : Ctx} (h1 : ∀ x ∈ cpre c, fitB d own k (ky x) = !d) (h2 : ∀ x ∈ cpost c, fitB d own k (ky x) = d) : bestS d c = nearS d own k (plug c .E).toL := by
 rw [toL_plug]
 unfold bestS nearS
 simp only [T.toL, List.append_nil, List.filter_append]
 cases d
 ·rw [List.filter_eq_self.2 (by intro x hx; simp [h1 x hx]), List.filter_eq_nil_iff.2 (by intro x hx; simp [h2 x hx])]; simp
 ·rw [List.filter_eq_nil_iff.2 (by intro x hx; simp [h1 x hx]), List.filter_eq_self.2 (by intro x hx; simp [h2 x hx])]; simp
set_option maxHeartbeats 2000000 in
theorem nearZ (h : TS w tb ab lv fv room N free t) (hr : Row t.toL) (hf : fit64 ca) (d own : Bool) :
  Calls Tryz.prog 164 #[.pointer (some ⟨tb, 0, none⟩), .agg #[.int .i64 cs, .int .i64 ca], .int .i64 (di d), .bool own] w fun e w' => e = .returned (optS (nearS d own (kx cs ca) t.toL)) ∧ Mod (fun _ => False) w w' := by
 obtain ⟨w4, hw4⟩ : ∃ w4, w.alloc (.cells #[.pointer (some ⟨tb, 0, none⟩)] 93) = w4 := ⟨_, rfl⟩
 obtain ⟨w5, hw5⟩ : ∃ w5, w4.alloc (.cells #[.int .i64 cs, .int .i64 ca] 34) = w5 := ⟨_, rfl⟩
 obtain ⟨w6, hw6⟩ : ∃ w6, w5.alloc (.cells #[.int .i64 (di d)] 3) = w6 := ⟨_, rfl⟩
 obtain ⟨w7, hw7⟩ : ∃ w7, w6.alloc (.cells #[.bool own] 4) = w7 := ⟨_, rfl⟩
 obtain ⟨w8, hw8, b8, M8⟩ := boxZ w7
 have M4 : Mod (fun _ => False) w w4 := by rw [← hw4]; exact (Mod.refl _ _).alloc _
 have M5 : Mod (fun _ => False) w4 w5 := by rw [← hw5]; exact (Mod.refl _ _).alloc _
 have M6 : Mod (fun _ => False) w5 w6 := by rw [← hw6]; exact (Mod.refl _ _).alloc _
 have M7 : Mod (fun _ => False) w6 w7 := by rw [← hw7]; exact (Mod.refl _ _).alloc _
 have a4 : w4.heap[w.heap.size]? = some (.cells #[.pointer (some ⟨tb, 0, none⟩)] 93 (0, 0)) := by rw [← hw4]; exact alloc_0 _ _
 have a5 : w5.heap[w4.heap.size]? = some (.cells #[.int .i64 cs, .int .i64 ca] 34 (0, 0)) := by rw [← hw5]; exact alloc_0 _ _
 have a6 : w6.heap[w5.heap.size]? = some (.cells #[.int .i64 (di d)] 3 (0, 0)) := by rw [← hw6]; exact alloc_0 _ _
 have a7 : w7.heap[w6.heap.size]? = some (.cells #[.bool own] 4 (0, 0)) := by rw [← hw7]; exact alloc_0 _ _
 have HB : NearB w8 w.heap.size w4.heap.size w5.heap.size w6.heap.size tb cs ca d own :=
  ⟨(M5.trans' (M6.trans' (M7.trans' M8))).heap a4 fun h => h, (M6.trans' (M7.trans' M8)).heap a5 fun h => h, (M7.trans' M8).heap a6 fun h => h, M8.heap a7 fun h => h⟩
 have hg8 := hid (M4.trans' (M5.trans' (M6.trans' M7))).size
 have M0 := M4.trans' (M5.trans' (M6.trans' (M7.trans' M8)))
 clear M4 M5 M6 M7 M8 a4 a5 a6 a7
 replace h := h.mod0 M0
 have hrt := h.root.1
 replace hr := hid hr
 replace hf := hid hf
 obtain ⟨d1, d2, d3, d4, d5⟩ := HB.facts
 go_enter Tryz.func164, Tryz.ntmps164
 go_wp2_with fail
 go_loopg [10, 12] t.size (fun g v10 v12 W => NearR w tb ab N lv fv room free t w.heap.size w4.heap.size w5.heap.size w6.heap.size w7.heap.size cs ca d own g v10 v12 W)
 case atStart => exact ⟨[], t, [], .E, rfl, rfl, .inl rfl, rfl, rfl, by cases d <;> rfl, by simp [cpre], by simp [cpost], h, HB, b8, M0⟩
 case round =>
  clear h HB b8 M0 hrt d1 d2 d3 d4 d5 hw4 hw5 hw6 hw7 hw8
  obtain ⟨c, X, c', B, hg, rfl, hBB, rfl, rfl, hbest, h1, h2, h, HB, b8, M⟩ := hrel
  replace hg := hid hg
  replace h1 := hid h1
  replace h2 := hid h2
  cases X with
  | E =>
   have hn := near_end h1.out h2.out
   rw [← hbest] at hn
   have HT : Calls Tryz.prog 176 #[.pointer (some ⟨tb, 0, none⟩), .int .i64 B.ix] wr fun e w' => e = .returned (optS (rootS B)) ∧ Mod (fun _ => False) wr w' := by
    rcases hBB with rfl | hBB
    ·exact toldE tb wr
    ·rw [hBB] at h; exact toldZ h
   obtain ⟨o, ho⟩ : ∃ o, rootS B = o := ⟨_, rfl⟩
   rw [ho] at HT hn
   replace hn := hid hn
   clear ho hbest hBB h
   obtain ⟨q4, _⟩ := HB.facts
   rw [T.ix_E]
   go_wp2_with fail
   refine HT.mono ?_; rintro e w3 ⟨rfl, M3⟩
   clear HT q4
   unfold optS
   have b3 := M3.heap b8 fun h => h
   replace M := M.trans' M3
   clear M3 b8
   obtain ⟨d0, e0⟩ := blkc b3
   obtain ⟨s, hs⟩ : ∃ s, oS o = s := ⟨_, rfl⟩
   rw [hs]
   replace hs := hid hs
   go_wp2_with fail
   obtain ⟨b4, M4⟩ := store5 (a' := .int .i64 s.ls) (b' := .int .i64 s.la) (c' := .int .i64 s.hs) (d' := .int .i64 s.ha) (e' := .int .i64 s.v) b3 hg8.out M
   exact ret_row_tmp w7.heap.size [.int .i64 s.ls, .int .i64 s.la, .int .i64 s.hs, .int .i64 s.ha, .int .i64 s.v] rfl rfl b4 Tryz.underlying38 rfl (by kernel_rfl) rfl ⟨by rw [← hn.out]; unfold optS; rw [hs.out]; rfl, M4⟩
  | N i b s l r =>
   obtain ⟨k, rfl⟩ := h.nat (i := i) ((mem_plug ..).2 (.inr (by simp [T.ids])))
   have hs : s ∈ (plug c (.N k b s l r)).toL := toL_sub (by simp [T.toL])
   have HF := fitsZ h HB hf.out (hr.out.2 s hs).2
   have hk0 : ((k : Int) != -1) = true := by simp
   have hfoc := hid hr.out.focus
   rw [T.ix_N]
   clear hs
   obtain ⟨fb, hfb⟩ : ∃ fb, fitB d own (kx cs ca) (ky s) = fb := ⟨_, rfl⟩
   rw [hfb] at HF
   replace hfb := hid hfb
   go_wp2_with fail
   refine HF.mono ?_; rintro e w1 ⟨rfl, M1⟩
   clear HF
   replace h := h.mod0 M1
   replace HB := HB.mod0 M1
   replace b8 := M1.heap b8 fun h => h
   replace M := M.trans' M1
   clear M1
   obtain ⟨lb, cp, rfl⟩ := h.lb (by intro e; have := toL_focus c k b s l r; rw [e] at this; simp [T.toL] at this)
   have HA := hid (fun (w' : World) (M : CM w1 w') => (h.mod0 M).node.at'.mono fun e w'' ⟨h1, h2⟩ => (⟨h1, by rw [h2]; exact M⟩ : e = Ending.returned (.pointer (some ⟨lb, k * 10, none⟩)) ∧ CM w1 w''))
   have HL := hid (fun (w' : World) (M : CM w1 w') => And.intro (HB.mod0 M).facts (And.intro (h.mod0 M).node.c5 (h.mod0 M).node.c6))
   cases fb
   ·cases d
    ·simp only [di, if_true, if_false, Bool.false_eq_true] at HL
     replace hbest := hid hbest
     replace hBB := hid hBB
     have e1 : IntKind.i64.wrap 1 = 1 := by decide
     have e0 : IntKind.i64.wrap 0 = 0 := by decide
     go_wp2_with fail
     refine cq_region (by kernel_rfl) (by kernel_rfl) ?_
     iterate 9 (refine wpQuiet_step (fun K hK => ?_); go_simp; first | (refine hK _ ?_; clear hK K) | (refine ⟨_, fun _ _ => rfl, hK _ ?_⟩; clear hK K) | (apply Exists.intro; refine ⟨fun wq hq => ?_, hK _ ?_⟩; (focus (first | (go_at_call 169; exact HA.out _ hq) | (obtain ⟨⟨q1, q2, q3, q4, q5⟩, q6, q7⟩ := HL.out _ hq; go_simp; try with_reducible rfl))); clear hK K))
     refine wpQuiet_nil ?_
     intro w2 M2
     clear e0 e1
     go_wp2_with fail
     go_roundg l.size
     case measure => rw [hg.out]; simp only [T.size]; omega
     case rel => exact ⟨⟨false, k, b, s, r⟩ :: c, l, c', B, rfl, rfl, hBB.out, rfl, rfl, by rw [hbest.out]; simp [bestS, cpre], by simpa [cpre] using h1.out, by
      intro x hx
      simp only [cpost, Bool.false_eq_true, if_false, List.cons_append, List.mem_cons, List.mem_append] at hx
      rcases hx with rfl | hx | hx
      ·exact hfb.out
      ·exact fit_hi hfb.out (hfoc.out.2 x (by simp [hx]))
      ·exact h2.out x hx, h.mod0 M2, HB.mod0 M2, Mod.heap M2 b8 fun h => h, M.trans' M2⟩
    ·simp only [di, if_true, if_false, Bool.false_eq_true] at HL
     replace hbest := hid hbest
     replace hBB := hid hBB
     have e1 : IntKind.i64.wrap 1 = 1 := by decide
     have e0 : IntKind.i64.wrap 0 = 0 := by decide
     go_wp2_with fail
     refine cq_region (by kernel_rfl) (by kernel_rfl) ?_
     iterate 9 (refine wpQuiet_step (fun K hK => ?_); go_simp; first | (refine hK _ ?_; clear hK K) | (refine ⟨_, fun _ _ => rfl, hK _ ?_⟩; clear hK K) | (apply Exists.intro; refine ⟨fun wq hq => ?_, hK _ ?_⟩; (focus (first | (go_at_call 169; exact HA.out _ hq) | (obtain ⟨⟨q1, q2, q3, q4, q5⟩, q6, q7⟩ := HL.out _ hq; go_simp; try with_reducible rfl))); clear hK K))
     refine wpQuiet_nil ?_
     intro w2 M2
     clear e0 e1
     go_wp2_with fail
     go_roundg r.size
     case measure => rw [hg.out]; simp only [T.size]; omega
     case rel => exact ⟨⟨true, k, b, s, l⟩ :: c, r, c', B, rfl, rfl, hBB.out, rfl, rfl, by rw [hbest.out]; simp [bestS, cpost], by
      intro x hx
      simp only [cpre, if_true, List.mem_append, List.mem_cons, List.not_mem_nil, or_false] at hx
      rcases hx with hx | hx | rfl
      ·exact h1.out x hx
      ·exact by rw [fit_lo' hfb.out (hfoc.out.1 x (by simp [hx]))]; rfl
      ·rw [hfb.out]; rfl, by simpa [cpost] using h2.out, h.mod0 M2, HB.mod0 M2, Mod.heap M2 b8 fun h => h, M.trans' M2⟩
   ·cases d
    ·simp only [di, if_true, if_false, Bool.false_eq_true] at HL
     replace hbest := hid hbest
     replace hBB := hid hBB
     have e1 : IntKind.i64.wrap 1 = 1 := by decide
     have e0 : IntKind.i64.wrap 0 = 0 := by decide
     go_wp2_with fail
     refine cq_region (by kernel_rfl) (by kernel_rfl) ?_
     iterate 10 (refine wpQuiet_step (fun K hK => ?_); go_simp; first | (refine hK _ ?_; clear hK K) | (refine ⟨_, fun _ _ => rfl, hK _ ?_⟩; clear hK K) | (apply Exists.intro; refine ⟨fun wq hq => ?_, hK _ ?_⟩; (focus (first | (go_at_call 169; exact HA.out _ hq) | (obtain ⟨⟨q1, q2, q3, q4, q5⟩, q6, q7⟩ := HL.out _ hq; go_simp; try with_reducible rfl))); clear hK K))
     refine wpQuiet_nil ?_
     intro w2 M2
     clear e0 e1
     go_wp2_with fail
     go_roundg r.size
     case measure => rw [hg.out]; simp only [T.size]; omega
     case rel => exact ⟨⟨true, k, b, s, l⟩ :: c, r, c, .N k b s l r, rfl, rfl, .inr rfl, rfl, rfl, by simp [bestS, cpre, rootS], by
      intro x hx
      simp only [cpre, if_true, List.mem_append, List.mem_cons, List.not_mem_nil, or_false] at hx
      rcases hx with hx | hx | rfl
      ·exact h1.out x hx
      ·exact by rw [fit_lo hfb.out (hfoc.out.1 x (by simp [hx]))]; rfl
      ·rw [hfb.out]; rfl, by simpa [cpost] using h2.out, h.mod0 M2, HB.mod0 M2, Mod.heap M2 b8 fun h => h, M.trans' M2⟩
    ·simp only [di, if_true, if_false, Bool.false_eq_true] at HL
     replace hbest := hid hbest
     replace hBB := hid hBB
     have e1 : IntKind.i64.wrap 1 = 1 := by decide
     have e0 : IntKind.i64.wrap 0 = 0 := by decide
     go_wp2_with fail
     refine cq_region (by kernel_rfl) (by kernel_rfl) ?_
     iterate 10 (refine wpQuiet_step (fun K hK => ?_); go_simp; first | (refine hK _ ?_; clear hK K) | (refine ⟨_, fun _ _ => rfl, hK _ ?_⟩; clear hK K) | (apply Exists.intro; refine ⟨fun wq hq => ?_, hK _ ?_⟩; (focus (first | (go_at_call 169; exact HA.out _ hq) | (obtain ⟨⟨q1, q2, q3, q4, q5⟩, q6, q7⟩ := HL.out _ hq; go_simp; try with_reducible rfl))); clear hK K))
     refine wpQuiet_nil ?_
     intro w2 M2
     clear e0 e1
     go_wp2_with fail
     go_roundg l.size
     case measure => rw [hg.out]; simp only [T.size]; omega
     case rel => exact ⟨⟨false, k, b, s, r⟩ :: c, l, c, .N k b s l r, rfl, rfl, .inr rfl, rfl, rfl, by simp [bestS, cpost, rootS], by simpa [cpre] using h1.out, by
      intro x hx
      simp only [cpost, Bool.false_eq_true, if_false, List.cons_append, List.mem_cons, List.mem_append] at hx
      rcases hx with rfl | hx | hx
      ·exact hfb.out
      ·exact fit_hi' hfb.out (hfoc.out.2 x (by simp [hx]))
      ·exact h2.out x hx, h.mod0 M2, HB.mod0 M2, Mod.heap M2 b8 fun h => h, M.trans' M2⟩
set_option maxHeartbeats 1000000 in
theorem floorTZ (h : TS w tb ab lv fv room N free t) (hr : Row t.toL) (hf : fit64 ca) :
  Calls Tryz.prog 155 #[.pointer (some ⟨tb, 0, none⟩), .agg #[.int .i64 cs, .int .i64 ca]] w fun e w' => e = .returned (optS (nearS false true (kx cs ca) t.toL)) ∧ Mod (fun _ => False) w w' := by
 obtain ⟨wa, hwa, ba, Ma⟩ := boxC w cs ca
 obtain ⟨w0, hw0, b0, M0⟩ := boxZ wa
 have hg := hid Ma.size
 replace ba := M0.heap ba fun h => h
 replace M0 := Ma.trans' M0
 clear Ma
 obtain ⟨d0, e0⟩ := blkc b0
 obtain ⟨d1, e1⟩ := blkc ba
 replace h := h.mod0 M0
 have HT := nearZ (cs := cs) (ca := ca) h hr hf false true
 simp only [di, if_true, if_false, Bool.false_eq_true] at HT
 obtain ⟨o, ho⟩ : ∃ o, nearS false true (kx cs ca) t.toL = o := ⟨_, rfl⟩
 rw [ho] at HT ⊢
 clear ho h hr hf
 go_enter Tryz.func155, Tryz.ntmps155
 go_wp2_with fail
 refine HT.mono ?_; rintro e w3 ⟨rfl, M3⟩
 clear HT d0 e0 d1 e1 ba hwa hw0
 have b3 := M3.heap b0 fun h => h
 replace M0 := M0.trans' M3
 clear M3 b0
 obtain ⟨d0, e0⟩ := blkc b3
 unfold optS
 obtain ⟨s, hs⟩ : ∃ s, oS o = s := ⟨_, rfl⟩
 rw [hs]
 go_wp2_with fail
 obtain ⟨b4, M4⟩ := store5 (a' := .int .i64 s.ls) (b' := .int .i64 s.la) (c' := .int .i64 s.hs) (d' := .int .i64 s.ha) (e' := .int .i64 s.v) b3 hg.out M0
 exact ret_row_tmp wa.heap.size [.int .i64 s.ls, .int .i64 s.la, .int .i64 s.hs, .int .i64 s.ha, .int .i64 s.v] rfl rfl b4 Tryz.underlying38 rfl (by kernel_rfl) rfl ⟨by first | rfl | (unfold optS; rw [hs]; rfl), M4⟩
set_option maxHeartbeats 1000000 in
theorem lowerTZ (h : TS w tb ab lv fv room N free t) (hr : Row t.toL) (hf : fit64 ca) :
  Calls Tryz.prog 160 #[.pointer (some ⟨tb, 0, none⟩), .agg #[.int .i64 cs, .int .i64 ca]] w fun e w' => e = .returned (optS (nearS false false (kx cs ca) t.toL)) ∧ Mod (fun _ => False) w w' := by
 obtain ⟨wa, hwa, ba, Ma⟩ := boxC w cs ca
 obtain ⟨w0, hw0, b0, M0⟩ := boxZ wa
 have hg := hid Ma.size
 replace ba := M0.heap ba fun h => h
 replace M0 := Ma.trans' M0
 clear Ma
 obtain ⟨d0, e0⟩ := blkc b0
 obtain ⟨d1, e1⟩ := blkc ba
 replace h := h.mod0 M0
 have HT := nearZ (cs := cs) (ca := ca) h hr hf false false
 simp only [di, if_true, if_false, Bool.false_eq_true] at HT
 obtain ⟨o, ho⟩ : ∃ o, nearS false false (kx cs ca) t.toL = o := ⟨_, rfl⟩
 rw [ho] at HT ⊢
 clear ho h hr hf
 go_enter Tryz.func160, Tryz.ntmps160
 go_wp2_with fail
 refine HT.mono ?_; rintro e w3 ⟨rfl, M3⟩
 clear HT d0 e0 d1 e1 ba hwa hw0
 have b3 := M3.heap b0 fun h => h
 replace M0 := M0.trans' M3
 clear M3 b0
 obtain ⟨d0, e0⟩ := blkc b3
 unfold optS
 obtain ⟨s, hs⟩ : ∃ s, oS o = s := ⟨_, rfl⟩
 rw [hs]
 go_wp2_with fail
 obtain ⟨b4, M4⟩ := store5 (a' := .int .i64 s.ls) (b' := .int .i64 s.la) (c' := .int .i64 s.hs) (d' := .int .i64 s.ha) (e' := .int .i64 s.v) b3 hg.out M0
 exact ret_row_tmp wa.heap.size [.int .i64 s.ls, .int .i64 s.la, .int .i64 s.hs, .int .i64 s.ha, .int .i64 s.v] rfl rfl b4 Tryz.underlying38 rfl (by kernel_rfl) rfl ⟨by first | rfl | (unfold optS; rw [hs]; rfl), M4⟩
set_option maxHeartbeats 1000000 in
theorem ceilTZ (h : TS w tb ab lv fv room N free t) (hr : Row t.toL) (hf : fit64 ca) :
  Calls Tryz.prog 150 #[.pointer (some ⟨tb, 0, none⟩), .agg #[.int .i64 cs, .int .i64 ca]] w fun e w' => e = .returned (optS (nearS true true (kx cs ca) t.toL)) ∧ Mod (fun _ => False) w w' := by
 obtain ⟨wa, hwa, ba, Ma⟩ := boxC w cs ca
 obtain ⟨w0, hw0, b0, M0⟩ := boxZ wa
 have hg := hid Ma.size
 replace ba := M0.heap ba fun h => h
 replace M0 := Ma.trans' M0
 clear Ma
 obtain ⟨d0, e0⟩ := blkc b0
 obtain ⟨d1, e1⟩ := blkc ba
 replace h := h.mod0 M0
 have HT := nearZ (cs := cs) (ca := ca) h hr hf true true
 simp only [di, if_true, if_false, Bool.false_eq_true] at HT
 obtain ⟨o, ho⟩ : ∃ o, nearS true true (kx cs ca) t.toL = o := ⟨_, rfl⟩
 rw [ho] at HT ⊢
 clear ho h hr hf
 go_enter Tryz.func150, Tryz.ntmps150
 go_wp2_with fail
 refine HT.mono ?_; rintro e w3 ⟨rfl, M3⟩
 clear HT d0 e0 d1 e1 ba hwa hw0
 have b3 := M3.heap b0 fun h => h
 replace M0 := M0.trans' M3
 clear M3 b0
 obtain ⟨d0, e0⟩ := blkc b3
 unfold optS
 obtain ⟨s, hs⟩ : ∃ s, oS o = s := ⟨_, rfl⟩
 rw [hs]
 go_wp2_with fail
 obtain ⟨b4, M4⟩ := store5 (a' := .int .i64 s.ls) (b' := .int .i64 s.la) (c' := .int .i64 s.hs) (d' := .int .i64 s.ha) (e' := .int .i64 s.v) b3 hg.out M0
 exact ret_row_tmp wa.heap.size [.int .i64 s.ls, .int .i64 s.la, .int .i64 s.hs, .int .i64 s.ha, .int .i64 s.v] rfl rfl b4 Tryz.underlying38 rfl (by kernel_rfl) rfl ⟨by first | rfl | (unfold optS; rw [hs]; rfl), M4⟩
set_option maxHeartbeats 1000000 in
theorem highTZ (h : TS w tb ab lv fv room N free t) (hr : Row t.toL) (hf : fit64 ca) :
  Calls Tryz.prog 157 #[.pointer (some ⟨tb, 0, none⟩), .agg #[.int .i64 cs, .int .i64 ca]] w fun e w' => e = .returned (optS (nearS true false (kx cs ca) t.toL)) ∧ Mod (fun _ => False) w w' := by
 obtain ⟨wa, hwa, ba, Ma⟩ := boxC w cs ca
 obtain ⟨w0, hw0, b0, M0⟩ := boxZ wa
 have hg := hid Ma.size
 replace ba := M0.heap ba fun h => h
 replace M0 := Ma.trans' M0
 clear Ma
 obtain ⟨d0, e0⟩ := blkc b0
 obtain ⟨d1, e1⟩ := blkc ba
 replace h := h.mod0 M0
 have HT := nearZ (cs := cs) (ca := ca) h hr hf true false
 simp only [di, if_true, if_false, Bool.false_eq_true] at HT
 obtain ⟨o, ho⟩ : ∃ o, nearS true false (kx cs ca) t.toL = o := ⟨_, rfl⟩
 rw [ho] at HT ⊢
 clear ho h hr hf
 go_enter Tryz.func157, Tryz.ntmps157
 go_wp2_with fail
 refine HT.mono ?_; rintro e w3 ⟨rfl, M3⟩
 clear HT d0 e0 d1 e1 ba hwa hw0
 have b3 := M3.heap b0 fun h => h
 replace M0 := M0.trans' M3
 clear M3 b0
 obtain ⟨d0, e0⟩ := blkc b3
 unfold optS
 obtain ⟨s, hs⟩ : ∃ s, oS o = s := ⟨_, rfl⟩
 rw [hs]
 go_wp2_with fail
 obtain ⟨b4, M4⟩ := store5 (a' := .int .i64 s.ls) (b' := .int .i64 s.la) (c' := .int .i64 s.hs) (d' := .int .i64 s.ha) (e' := .int .i64 s.v) b3 hg.out M0
 exact ret_row_tmp wa.heap.size [.int .i64 s.ls, .int .i64 s.la, .int .i64 s.hs, .int .i64 s.ha, .int .i64 s.v] rfl rfl b4 Tryz.underlying38 rfl (by kernel_rfl) rfl ⟨by first | rfl | (unfold optS; rw [hs]; rfl), M4⟩
end
open Go Go.RowKit
section
variable {w w' : World} {tb ab N : Nat} {lv fv : Value} {room : Int} {free : List Int} {t : T}
def NextQ (t : T) (d : Bool) (pre post : List Sg) (s : Sg) (v : Int) : Prop :=
 (v = -1 ∧ (if d then post else pre) = []) ∨ ∃ c' j b' s' l' r', v = j ∧ t = plug c' (.N j b' s' l' r') ∧ if d then cpre c' ++ l'.toL = pre ++ [s] else r'.toL ++ cpost c' = s :: post
def NextR (w : World) (t : T) (d : Bool) (pre post : List Sg) (s : Sg) (g : Nat) (v1 v8 : Value) (W : World) : Prop :=
 ∃ c1 X, g = c1.length ∧ v1 = .int .i64 X.ix ∧ v8 = .int .i64 (cix c1) ∧ t = plug c1 X ∧ X ≠ .E ∧ (if d then cpre c1 ++ X.toL = pre ++ [s] else X.toL ++ cpost c1 = s :: post) ∧ CM w W
def NextP (w : World) (t : T) (d : Bool) (pre post : List Sg) (s : Sg) (e : Ending) (w' : World) : Prop := (∃ v, e = .returned (.int .i64 v) ∧ NextQ t d pre post s v) ∧ Mod (fun _ => False) w w'
set_option maxHeartbeats 2000000 in
theorem nextZ_false {c : Ctx} {k : Nat} {b : Bool} {s : Sg} {l r : T} (h : TS w tb ab lv fv room N free (plug c (.N k b s l r))) :
  Calls Tryz.prog 182 #[.pointer (some ⟨tb, 0, none⟩), .int .i64 k, .int .i64 0] w fun e w' => NextP w (plug c (.N k b s l r)) false (cpre c ++ l.toL) (r.toL ++ cpost c) s e w' := by
 obtain ⟨lb, hN⟩ := h.node'
 have A := hN.at'
 have c5 := hN.c5
 have c7 := hN.c7
 clear hN
 by_cases hkE : l = .E
 ·subst hkE
  rw [T.ix_E] at c5
  have hall := hid (toL_focus c k b s .E r)
  obtain ⟨t0, ht0⟩ : ∃ t0, plug c (.N k b s .E r) = t0 := ⟨_, rfl⟩
  have h' := h
  rw [ht0] at h' hall ⊢
  replace ht0 := hid ht0
  go_enter Tryz.func182, Tryz.ntmps182
  go_wp2_with fail
  refine A.mono ?_; rintro e w' ⟨rfl, hw⟩; subst hw
  go_wp2_with fail
  refine A.mono ?_; rintro e w' ⟨rfl, hw⟩; subst hw
  clear A c5
  go_wp2_with fail
  clear c7
  go_loopg [1, 8] c.length (fun g v1 v8 W => NextR w' t0 false (cpre c ++ T.toL .E) (T.toL r ++ cpost c) s g v1 v8 W)
  case atStart => exact ⟨c, _, rfl, rfl, rfl, ht0.out.symm, by simp, by simp [T.toL], Mod.refl _ _⟩
  case round =>
   clear h
   obtain ⟨c1, X, hg, rfl, rfl, rfl, hX, hrel, M⟩ := hrel
   replace hg := hid hg
   replace hrel := hid hrel
   replace h' := h'.mod0 M
   cases c1 with
   | nil =>
    rw [cix_nil]
    go_wp2_with fail
    go_ret
    refine ⟨⟨_, rfl, .inl ⟨rfl, ?_⟩⟩, M⟩
    have e := hrel.out
    have e2 := hall.out
    simp only [plug, cpre, cpost, List.append_nil, List.nil_append, if_true, if_false, Bool.false_eq_true] at e e2 ⊢
    rw [e] at e2
    have e3 := congrArg List.length e2
    simp only [List.length_append, List.length_cons, List.length_nil] at e3
    exact List.eq_nil_of_length_eq_zero (by simp only [List.length_append]; omega)
   | cons a c1 =>
    obtain ⟨ad, p, ared, sa, ao⟩ := a
    have S := sideZ (a := ⟨ad, p, ared, sa, ao⟩) (c := c1) h' (fun e => absurd e hX)
    obtain ⟨kp, rfl⟩ := h'.nat (i := p) ((mem_plug ..).2 (.inl (by simp [cids])))
    have hp0 : ((kp : Int) != -1) = true := by simp
    obtain ⟨lb, cp, rfl⟩ := h'.lb (by intro e; have := congrArg T.toL e; rw [plug_cons, toL_plug, toL_mk] at this; cases ad <;> simp [T.toL] at this)
    have HA := hid (fun (w1 : World) (M1 : CM wr w1) => (TS.node_mk (c := c1) (d := ad) (h'.mod0 M1)).at'.mono fun e w2 ⟨h1, h2⟩ => (⟨h1, by rw [h2]; exact M1⟩ : e = Ending.returned (.pointer (some ⟨lb, kp * 10, none⟩)) ∧ CM wr w2))
    have HL := hid (fun (w1 : World) (M1 : CM wr w1) => (TS.node_mk (c := c1) (d := ad) (h'.mod0 M1)).c7)
    rw [cix_cons]
    cases ad
    ·simp only [di, if_false, Bool.false_eq_true] at S
     go_wp2_with fail
     refine S.mono ?_; rintro e w2 ⟨rfl, hw⟩; subst hw
     clear S
     go_wp2_with fail
     refine cq_region (by kernel_rfl) (by kernel_rfl) ?_
     iterate 9 (refine wpQuiet_step (fun K hK => ?_); go_simp; first | (refine hK _ ?_; clear hK K) | (refine ⟨_, fun _ _ => rfl, hK _ ?_⟩; clear hK K) | (apply Exists.intro; refine ⟨fun wq hq => ?_, hK _ ?_⟩; (focus (first | (go_at_call 169; exact HA.out _ hq) | (have q7 := HL.out _ hq; go_simp; try with_reducible rfl))); clear hK K))
     refine wpQuiet_nil ?_
     intro w3 M3
     clear HA HL
     go_wp2_with fail
     go_roundg c1.length
     case measure => rw [hg.out]; simp
     case rel => exact ⟨c1, T.mk false kp ared sa X ao, rfl, by rw [ix_mk], rfl, rfl, (by intro e; cases e), by have e := hrel.out; simp only [cpre, cpost, toL_mk, if_true, if_false, Bool.false_eq_true] at e ⊢; simpa using e, Mod.trans' M M3⟩
    ·simp only [di, if_true] at S
     go_wp2_with fail
     refine S.mono ?_; rintro e w2 ⟨rfl, hw⟩; subst hw
     clear S
     go_wp2_with fail
     go_ret
     exact ⟨⟨_, rfl, .inr ⟨c1, _, ared, sa, ao, X, rfl, rfl, by have e := hrel.out; simp only [cpost, if_true, if_false, Bool.false_eq_true] at e ⊢; simpa using e⟩⟩, M⟩
 ·have hk : ∃ j : Nat, l.ix = j := by
   cases l with
   | E => exact absurd rfl hkE
   | N i2 _ _ _ _ => exact h.nat (i := i2) ((mem_plug ..).2 (.inr (by simp [T.ids])))
  obtain ⟨kk, hk⟩ := hk
  have hk1 : ((kk : Int) != -1) = true := by simp
  have hE := endZ (c := ⟨false, k, b, s, r⟩ :: c) (X := l) (by
   have h' : TS w tb ab lv fv room N free (plug c (T.mk false k b s l r)) := h
   rw [mk_plug] at h'; exact h') true
  simp only [di, if_true, if_false, Bool.false_eq_true] at hE
  rw [hk] at hE c5
  replace hk := hid hk
  replace hkE := hid hkE
  clear c7 h
  go_enter Tryz.func182, Tryz.ntmps182
  go_wp2_with fail
  refine A.mono ?_; rintro e w' ⟨rfl, hw⟩; subst hw
  go_wp2_with fail
  refine hE.mono ?_; rintro e w' ⟨⟨v, rfl, hq⟩, hw⟩; subst hw
  clear hE
  go_wp2_with fail
  go_ret
  replace hkE := hkE.out
  ·rcases hq with ⟨e, _⟩ | ⟨F, j, b2, s2, l2, r2, hv, hFr, _, hx⟩
   ·exact absurd e hkE
   ·subst hv
    obtain ⟨rfl, hpost⟩ := hx rfl
    exact ⟨⟨_, rfl, .inr ⟨F ++ ⟨false, k, b, s, r⟩ :: c, _, b2, s2, l2, .E, rfl, by rw [plug_app, ← hFr]; rfl, by simp [cpost_app, hpost, cpost, T.toL]⟩⟩, Mod.refl _ _⟩
set_option maxHeartbeats 2000000 in
theorem nextZ_true {c : Ctx} {k : Nat} {b : Bool} {s : Sg} {l r : T} (h : TS w tb ab lv fv room N free (plug c (.N k b s l r))) :
  Calls Tryz.prog 182 #[.pointer (some ⟨tb, 0, none⟩), .int .i64 k, .int .i64 1] w fun e w' => NextP w (plug c (.N k b s l r)) true (cpre c ++ l.toL) (r.toL ++ cpost c) s e w' := by
 obtain ⟨lb, hN⟩ := h.node'
 have A := hN.at'
 have c6 := hN.c6
 have c7 := hN.c7
 clear hN
 by_cases hkE : r = .E
 ·subst hkE
  rw [T.ix_E] at c6
  have hall := hid (toL_focus c k b s l .E)
  obtain ⟨t0, ht0⟩ : ∃ t0, plug c (.N k b s l .E) = t0 := ⟨_, rfl⟩
  have h' := h
  rw [ht0] at h' hall ⊢
  replace ht0 := hid ht0
  go_enter Tryz.func182, Tryz.ntmps182
  go_wp2_with fail
  refine A.mono ?_; rintro e w' ⟨rfl, hw⟩; subst hw
  go_wp2_with fail
  refine A.mono ?_; rintro e w' ⟨rfl, hw⟩; subst hw
  clear A c6
  go_wp2_with fail
  clear c7
  go_loopg [1, 8] c.length (fun g v1 v8 W => NextR w' t0 true (cpre c ++ T.toL l) (T.toL .E ++ cpost c) s g v1 v8 W)
  case atStart => exact ⟨c, _, rfl, rfl, rfl, ht0.out.symm, by simp, by simp [T.toL], Mod.refl _ _⟩
  case round =>
   clear h
   obtain ⟨c1, X, hg, rfl, rfl, rfl, hX, hrel, M⟩ := hrel
   replace hg := hid hg
   replace hrel := hid hrel
   replace h' := h'.mod0 M
   cases c1 with
   | nil =>
    rw [cix_nil]
    go_wp2_with fail
    go_ret
    refine ⟨⟨_, rfl, .inl ⟨rfl, ?_⟩⟩, M⟩
    have e := hrel.out
    have e2 := hall.out
    simp only [plug, cpre, cpost, List.append_nil, List.nil_append, if_true, if_false, Bool.false_eq_true] at e e2 ⊢
    rw [e] at e2
    have e3 := congrArg List.length e2
    simp only [List.length_append, List.length_cons, List.length_nil] at e3
    exact List.eq_nil_of_length_eq_zero (by simp only [List.length_append]; omega)
   | cons a c1 =>
    obtain ⟨ad, p, ared, sa, ao⟩ := a
    have S := sideZ (a := ⟨ad, p, ared, sa, ao⟩) (c := c1) h' (fun e => absurd e hX)
    obtain ⟨kp, rfl⟩ := h'.nat (i := p) ((mem_plug ..).2 (.inl (by simp [cids])))
    have hp0 : ((kp : Int) != -1) = true := by simp
    obtain ⟨lb, cp, rfl⟩ := h'.lb (by intro e; have := congrArg T.toL e; rw [plug_cons, toL_plug, toL_mk] at this; cases ad <;> simp [T.toL] at this)
    have HA := hid (fun (w1 : World) (M1 : CM wr w1) => (TS.node_mk (c := c1) (d := ad) (h'.mod0 M1)).at'.mono fun e w2 ⟨h1, h2⟩ => (⟨h1, by rw [h2]; exact M1⟩ : e = Ending.returned (.pointer (some ⟨lb, kp * 10, none⟩)) ∧ CM wr w2))
    have HL := hid (fun (w1 : World) (M1 : CM wr w1) => (TS.node_mk (c := c1) (d := ad) (h'.mod0 M1)).c7)
    rw [cix_cons]
    cases ad
    ·simp only [di, if_false, Bool.false_eq_true] at S
     go_wp2_with fail
     refine S.mono ?_; rintro e w2 ⟨rfl, hw⟩; subst hw
     clear S
     go_wp2_with fail
     go_ret
     exact ⟨⟨_, rfl, .inr ⟨c1, _, ared, sa, X, ao, rfl, rfl, by have e := hrel.out; simp only [cpre, if_true, if_false, Bool.false_eq_true] at e ⊢; simpa using e⟩⟩, M⟩
    ·simp only [di, if_true] at S
     go_wp2_with fail
     refine S.mono ?_; rintro e w2 ⟨rfl, hw⟩; subst hw
     clear S
     go_wp2_with fail
     refine cq_region (by kernel_rfl) (by kernel_rfl) ?_
     iterate 9 (refine wpQuiet_step (fun K hK => ?_); go_simp; first | (refine hK _ ?_; clear hK K) | (refine ⟨_, fun _ _ => rfl, hK _ ?_⟩; clear hK K) | (apply Exists.intro; refine ⟨fun wq hq => ?_, hK _ ?_⟩; (focus (first | (go_at_call 169; exact HA.out _ hq) | (have q7 := HL.out _ hq; go_simp; try with_reducible rfl))); clear hK K))
     refine wpQuiet_nil ?_
     intro w3 M3
     clear HA HL
     go_wp2_with fail
     go_roundg c1.length
     case measure => rw [hg.out]; simp
     case rel => exact ⟨c1, T.mk true kp ared sa X ao, rfl, by rw [ix_mk], rfl, rfl, (by intro e; cases e), by have e := hrel.out; simp only [cpre, cpost, toL_mk, if_true, if_false, Bool.false_eq_true] at e ⊢; simpa using e, Mod.trans' M M3⟩
 ·have hk : ∃ j : Nat, r.ix = j := by
   cases r with
   | E => exact absurd rfl hkE
   | N i2 _ _ _ _ => exact h.nat (i := i2) ((mem_plug ..).2 (.inr (by simp [T.ids])))
  obtain ⟨kk, hk⟩ := hk
  have hk1 : ((kk : Int) != -1) = true := by simp
  have hE := endZ (c := ⟨true, k, b, s, l⟩ :: c) (X := r) (by
   have h' : TS w tb ab lv fv room N free (plug c (T.mk true k b s r l)) := h
   rw [mk_plug] at h'; exact h') false
  simp only [di, if_true, if_false, Bool.false_eq_true] at hE
  rw [hk] at hE c6
  replace hk := hid hk
  replace hkE := hid hkE
  clear c7 h
  go_enter Tryz.func182, Tryz.ntmps182
  go_wp2_with fail
  refine A.mono ?_; rintro e w' ⟨rfl, hw⟩; subst hw
  go_wp2_with fail
  refine hE.mono ?_; rintro e w' ⟨⟨v, rfl, hq⟩, hw⟩; subst hw
  clear hE
  go_wp2_with fail
  go_ret
  replace hkE := hkE.out
  ·rcases hq with ⟨e, _⟩ | ⟨F, j, b2, s2, l2, r2, hv, hFr, hx, _⟩
   ·exact absurd e hkE
   ·subst hv
    obtain ⟨rfl, hpre⟩ := hx rfl
    exact ⟨⟨_, rfl, .inr ⟨F ++ ⟨true, k, b, s, l⟩ :: c, _, b2, s2, .E, r2, rfl, by rw [plug_app, ← hFr]; rfl, by simp [cpre_app, hpre, cpre, T.toL]⟩⟩, Mod.refl _ _⟩
end
theorem mem_path : ∀ (t : T) (k : Int), k ∈ t.ids → ∃ c b s l r, t = plug c (.N k b s l r)
 | .E, k, h => by simp [T.ids] at h
 | .N i b s l r, k, h => by
  simp only [T.ids, List.mem_cons, List.mem_append] at h
  rcases h with rfl | h | h
  ·exact ⟨[], b, s, l, r, rfl⟩
  ·obtain ⟨c, b', s', l', r', rfl⟩ := mem_path l k h
   refine ⟨c ++ [⟨false, i, b, s, r⟩], b', s', l', r', ?_⟩
   have : ∀ (F : Ctx) (c : Ctx) (x : T), plug (F ++ c) x = plug c (plug F x) := by
    intro F; induction F with
    | nil => intro c x; rfl
    | cons a F ih => intro c x; simp only [List.cons_append, plug]; exact ih c _
   rw [this]; rfl
  ·obtain ⟨c, b', s', l', r', rfl⟩ := mem_path r k h
   refine ⟨c ++ [⟨true, i, b, s, l⟩], b', s', l', r', ?_⟩
   have : ∀ (F : Ctx) (c : Ctx) (x : T), plug (F ++ c) x = plug c (plug F x) := by
    intro F; induction F with
    | nil => intro c x; rfl
    | cons a F ih => intro c x; simp only [List.cons_append, plug]; exact ih c _
   rw [this]; rfl
def cblk : Ctx → Nat | [] => 0 | a :: c => (if a.red then 0 else 1) + cblk c
def nblk (b : Bool) : Nat := if b then 0 else 1
theorem rbt_split : ∀ (c : Ctx) (t : T) (n : Nat), RBT (plug c t) n → ∃ m, RBT t m ∧ m + cblk c = n
 | [], t, n, h => ⟨n, h, rfl⟩
 | a :: c, t, n, h => by
  obtain ⟨m, h1, h2⟩ := rbt_split c _ n h
  rw [rbt_mk] at h1
  simp only [cblk]
  cases ha : a.red
  ·rw [ha] at h1
   simp only [Bool.false_eq_true, if_false] at h1 ⊢
   obtain ⟨k, rfl, h3, _⟩ := h1
   exact ⟨k, h3, by omega⟩
  ·rw [ha] at h1
   simp only [if_true] at h1 ⊢
   exact ⟨m, h1.2.2.1, by omega⟩
theorem rbt_leaf {c : Ctx} {i : Int} {b : Bool} {s : Sg} {l r : T} {n : Nat} (h : RBT (plug c (.N i b s l r)) n) (hl : l = .E ∨ r = .E) : cblk c + nblk b = n := by
 obtain ⟨m, h1, h2⟩ := rbt_split c _ n h
 cases b
 ·simp only [RBT, Bool.false_eq_true, if_false] at h1
  obtain ⟨k, rfl, h3, h4⟩ := h1
  have : k = 0 := by rcases hl with rfl | rfl <;> assumption
  simp only [nblk, Bool.false_eq_true, if_false]; omega
 ·simp only [RBT, if_true] at h1
  have : m = 0 := by rcases hl with rfl | rfl; exact h1.2.2.1; exact h1.2.2.2
  simp only [nblk, if_true]; omega
theorem fine_kids {c : Ctx} {i : Int} {b : Bool} {s : Sg} {l r : T} (h : Fine (plug c (.N i b s l r))) (hb : b = true) : l.red = false ∧ r.red = false := by
 obtain ⟨n, _, h2, _⟩ := fine_split c _ h
 subst hb
 simp only [RBT, if_true] at h2
 exact ⟨h2.1, h2.2.1⟩
end Go.Proofs.Bo
