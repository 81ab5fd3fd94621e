import Derived.Test.YtniemignjlanaaaTold
set_option linter.unusedVariables false
namespace Go.Proofs.Bo
open Go Go.RowKit

def fitB (d own : Bool) (k x : Int) : Bool := (decide (x = k) && own) || (!d && decide (x < k)) || (d && decide (k < x))

/-- What the closure has: boxes for the tree, the cut, the side, and whether the own one counts. -/
structure NearB (w : World) (b4 b5 b6 b7 tb : Nat) (cs ca : Int) (d own : Bool) : Prop where
  h4 : w.heap[b4]? = some (.cells #[.pointer (some ⟨tb, 0, none⟩)] 23 (0, 0))
  h5 : w.heap[b5]? = some (.cells #[.int .i64 cs, .int .i64 ca] 32 (0, 0))
  h6 : w.heap[b6]? = some (.cells #[.int .i64 (di d)] 3 (0, 0))
  h7 : w.heap[b7]? = some (.cells #[.bool own] 4 (0, 0))

section
variable {w w' : World} {tb ab N b4 b5 b6 b7 : Nat} {lv fv : Value} {room : Int} {free : List Int} {t : T} {cs ca : Int} {d own : Bool}

theorem NearB.mod0 (h : NearB w b4 b5 b6 b7 tb cs ca d own) (M : Mod (fun _ => False) w w') : NearB w' b4 b5 b6 b7 tb cs ca d own :=
  ⟨M.heap h.h4 fun h => h, M.heap h.h5 fun h => h, M.heap h.h6 fun h => h, M.heap h.h7 fun h => h⟩
theorem NearB.facts (h : NearB w b4 b5 b6 b7 tb cs ca d own) : w.cell? ⟨b4, 0, none⟩ = some (.pointer (some ⟨tb, 0, none⟩)) ∧ w.cell? ⟨b5, 0, none⟩ = some (.int .i64 cs) ∧ w.cell? ⟨b5, 1, none⟩ = some (.int .i64 ca) ∧
    w.cell? ⟨b6, 0, none⟩ = some (.int .i64 (di d)) ∧ w.cell? ⟨b7, 0, none⟩ = some (.bool own) := by
  refine ⟨?_, ?_, ?_, ?_, ?_⟩
  · rw [(blkc h.h4).1]; rfl
  · rw [(blkc h.h5).1]; rfl
  · rw [(blkc h.h5).1]; rfl
  · rw [(blkc h.h6).1]; rfl
  · rw [(blkc h.h7).1]; rfl

set_option maxHeartbeats 2000000 in
theorem fitsZ {c : Ctx} {k : Nat} {b : Bool} {s : Sg} {l r : T} (h : TS w tb ab lv fv room N free (plug c (.N k b s l r))) (hB : NearB w b4 b5 b6 b7 tb cs ca d own) (hf : fit64 ca) (hs : fit64 s.la) :
    Calls Try.prog 80 #[.int .i64 k, .pointer (some ⟨b4, 0, none⟩), .pointer (some ⟨b5, 0, none⟩), .pointer (some ⟨b7, 0, none⟩), .pointer (some ⟨b6, 0, none⟩)] w fun e w' => e = .returned (.bool (fitB d own (kx cs ca) (ky s))) ∧ Mod (fun _ => False) w w' := by
  have HK := hid (fun (w' : World) (M : CM w w') => (keyZ (h.mod0 M)).mono fun e w'' ⟨h1, h2⟩ => (⟨h1, Mod.trans' M h2⟩ : e = Ending.returned (.agg #[.int .i64 s.ls, .int .i64 s.la]) ∧ CM w w''))
  have HC := hid (fun (w' : World) (M : CM w w') => (compareZ (s := s.ls) (a := s.la) (s' := cs) (a' := ca) hs hf w').mono fun e w'' ⟨h1, h2⟩ => (⟨h1, Mod.trans' M h2⟩ : e = Ending.returned (.int .i64 (cmpI (kx s.ls s.la) (kx cs ca))) ∧ CM w w''))
  have HB := hid (fun (w' : World) (M : CM w w') => (hB.mod0 M).facts)
  clear h hB
  rcases Int.lt_trichotomy (ky s) (kx cs ca) with hlt | heq | hgt
  · have e1 : fitB d own (kx cs ca) (ky s) = !d := by
      unfold fitB; rw [decide_eq_false (by omega), decide_eq_true hlt, decide_eq_false (by omega)]; simp
    rw [e1]
    rw [show cmpI (kx s.ls s.la) (kx cs ca) = -1 from cmpI_lt hlt] at HC
    replace hlt := hid hlt
    clear e1
    cases d
    all_goals
      go_enter Try.func80, Try.ntmps80
      go_wp2_with fail
      refine cq_region (by kernel_rfl) (by kernel_rfl) ?_
      iterate 6 (refine wpQuiet_step (fun K hK => ?_); go_simp; first | (refine hK _ ?_; clear hK K) | (refine ⟨_, fun _ _ => rfl, hK _ ?_⟩; clear hK K) | (apply Exists.intro; refine ⟨fun wq hq => ?_, hK _ ?_⟩; (focus (first | (go_at_call 68; exact HK.out _ hq) | (go_at_call 58; exact HC.out _ hq) | (obtain ⟨d1, d2, d3, d4, d5⟩ := HB.out _ hq; go_simp; try with_reducible rfl))); clear hK K))
      refine wpQuiet_nil ?_
      intro w1 M1
      obtain ⟨d1, d2, d3, d4, d5⟩ := HB.out _ M1
      simp only [di, if_true, if_false, Bool.false_eq_true] at d4
      go_wp2_with fail
      go_ret
      exact ⟨rfl, M1⟩
  · have e1 : fitB d own (kx cs ca) (ky s) = own := by
      unfold fitB; rw [decide_eq_true heq, decide_eq_false (by omega), decide_eq_false (by omega)]; simp
    rw [e1]
    rw [show cmpI (kx s.ls s.la) (kx cs ca) = 0 from cmpI_eq heq] at HC
    replace heq := hid heq
    clear e1
    cases d <;> cases own
    all_goals
      go_enter Try.func80, Try.ntmps80
      go_wp2_with fail
      refine cq_region (by kernel_rfl) (by kernel_rfl) ?_
      iterate 6 (refine wpQuiet_step (fun K hK => ?_); go_simp; first | (refine hK _ ?_; clear hK K) | (refine ⟨_, fun _ _ => rfl, hK _ ?_⟩; clear hK K) | (apply Exists.intro; refine ⟨fun wq hq => ?_, hK _ ?_⟩; (focus (first | (go_at_call 68; exact HK.out _ hq) | (go_at_call 58; exact HC.out _ hq) | (obtain ⟨d1, d2, d3, d4, d5⟩ := HB.out _ hq; go_simp; try with_reducible rfl))); clear hK K))
      refine wpQuiet_nil ?_
      intro w1 M1
      obtain ⟨d1, d2, d3, d4, d5⟩ := HB.out _ M1
      simp only [di, if_true, if_false, Bool.false_eq_true] at d4
      go_wp2_with fail
      go_ret
      exact ⟨rfl, M1⟩
  · have e1 : fitB d own (kx cs ca) (ky s) = d := by
      unfold fitB; rw [decide_eq_false (by omega), decide_eq_false (by omega), decide_eq_true hgt]; simp
    rw [e1]
    rw [show cmpI (kx s.ls s.la) (kx cs ca) = 1 from cmpI_gt hgt] at HC
    replace hgt := hid hgt
    clear e1
    cases d
    all_goals
      go_enter Try.func80, Try.ntmps80
      go_wp2_with fail
      refine cq_region (by kernel_rfl) (by kernel_rfl) ?_
      iterate 6 (refine wpQuiet_step (fun K hK => ?_); go_simp; first | (refine hK _ ?_; clear hK K) | (refine ⟨_, fun _ _ => rfl, hK _ ?_⟩; clear hK K) | (apply Exists.intro; refine ⟨fun wq hq => ?_, hK _ ?_⟩; (focus (first | (go_at_call 68; exact HK.out _ hq) | (go_at_call 58; exact HC.out _ hq) | (obtain ⟨d1, d2, d3, d4, d5⟩ := HB.out _ hq; go_simp; try with_reducible rfl))); clear hK K))
      refine wpQuiet_nil ?_
      intro w1 M1
      obtain ⟨d1, d2, d3, d4, d5⟩ := HB.out _ M1
      simp only [di, if_true, if_false, Bool.false_eq_true] at d4
      go_wp2_with fail
      go_ret
      exact ⟨rfl, M1⟩

theorem toldE (tb : Nat) (w : World) : Calls Try.prog 64 #[.pointer (some ⟨tb, 0, none⟩), .int .i64 T.E.ix] w fun e w' => e = .returned (optS (rootS .E)) ∧ Mod (fun _ => False) w w' := by
  obtain ⟨w0, hw0, b0, M0⟩ := boxZ w
  obtain ⟨d0, e0⟩ := blkc b0
  rw [T.ix_E]
  go_enter Try.func64, Try.ntmps64
  go_wp2_with fail
  obtain ⟨b1, M1⟩ := store5 (a' := .int .i64 0) (b' := .int .i64 0) (c' := .int .i64 0) (d' := .int .i64 0) (e' := .int .i64 0) b0 (Nat.le_refl _) M0
  exact ret_row_tmp w.heap.size [.int .i64 0, .int .i64 0, .int .i64 0, .int .i64 0, .int .i64 0] rfl rfl b1 Try.underlying36 rfl (by kernel_rfl) rfl ⟨rfl, M1⟩
def nearS (d own : Bool) (k : Int) (l : List Sg) : Option Sg := if d then (l.filter (fun x => fitB d own k (ky x))).head? else (l.filter (fun x => fitB d own k (ky x))).getLast?
/-- The best one so far. -/
def bestS (d : Bool) (c : Ctx) : Option Sg := if d then (cpost c).head? else (cpre c).getLast?
def NearR (w : World) (tb ab N : Nat) (lv fv : Value) (room : Int) (free : List Int) (t : T) (b4 b5 b6 b7 b8 : Nat) (cs ca : Int) (d own : Bool) (g : Nat) (v10 v12 : Value) (W : World) : Prop :=
  ∃ c X c' B, g = X.size ∧ t = plug c X ∧ (B = .E ∨ t = plug c' B) ∧ v10 = .int .i64 B.ix ∧ v12 = .int .i64 X.ix ∧ rootS B = bestS d c ∧
    (∀ x ∈ cpre c, fitB d own (kx cs ca) (ky x) = !d) ∧ (∀ x ∈ cpost c, fitB d own (kx cs ca) (ky x) = d) ∧
    TS W tb ab lv fv room N free t ∧ NearB W b4 b5 b6 b7 tb cs ca d own ∧ W.heap[b8]? = some (.cells #[.int .i64 0, .int .i64 0, .int .i64 0, .int .i64 0, .int .i64 0] 36 (0, 0)) ∧ Mod (fun _ => False) w W

theorem fit_lo {own : Bool} {k x y : Int} (h : fitB false own k y = true) (hxy : x < y) : fitB false own k x = true := by
  unfold fitB at *; simp at *; omega
theorem fit_hi {own : Bool} {k x y : Int} (h : fitB false own k y = false) (hxy : y < x) : fitB false own k x = false := by
  unfold fitB at *
  by_cases h1 : x = k <;> by_cases h2 : x < k <;> by_cases h3 : y = k <;> by_cases h4 : y < k <;> simp_all <;> omega
theorem fit_lo' {own : Bool} {k x y : Int} (h : fitB true own k y = false) (hxy : x < y) : fitB true own k x = false := by
  unfold fitB at *
  by_cases h1 : x = k <;> by_cases h2 : k < x <;> by_cases h3 : y = k <;> by_cases h4 : k < y <;> simp_all <;> omega
theorem fit_hi' {own : Bool} {k x y : Int} (h : fitB true own k y = true) (hxy : y < x) : fitB true own k x = true := by
  unfold fitB at *; simp at *; omega

theorem near_end {d own : Bool} {k : Int} {c : Ctx} (h1 : ∀ x ∈ cpre c, fitB d own k (ky x) = !d) (h2 : ∀ x ∈ cpost c, fitB d own k (ky x) = d) : bestS d c = nearS d own k (plug c .E).toL := by
  rw [toL_plug]
  unfold bestS nearS
  simp only [T.toL, List.append_nil, List.filter_append]
  cases d
  · rw [List.filter_eq_self.2 (by intro x hx; simp [h1 x hx]), List.filter_eq_nil_iff.2 (by intro x hx; simp [h2 x hx])]; simp
  · rw [List.filter_eq_nil_iff.2 (by intro x hx; simp [h1 x hx]), List.filter_eq_self.2 (by intro x hx; simp [h2 x hx])]; simp

set_option maxHeartbeats 2000000 in
theorem nearZ (h : TS w tb ab lv fv room N free t) (hr : Row t.toL) (hf : fit64 ca) (d own : Bool) :
    Calls Try.prog 63 #[.pointer (some ⟨tb, 0, none⟩), .agg #[.int .i64 cs, .int .i64 ca], .int .i64 (di d), .bool own] w fun e w' => e = .returned (optS (nearS d own (kx cs ca) t.toL)) ∧ Mod (fun _ => False) w w' := by
  obtain ⟨w4, hw4⟩ : ∃ w4, w.alloc (.cells #[.pointer (some ⟨tb, 0, none⟩)] 23) = w4 := ⟨_, rfl⟩
  obtain ⟨w5, hw5⟩ : ∃ w5, w4.alloc (.cells #[.int .i64 cs, .int .i64 ca] 32) = w5 := ⟨_, rfl⟩
  obtain ⟨w6, hw6⟩ : ∃ w6, w5.alloc (.cells #[.int .i64 (di d)] 3) = w6 := ⟨_, rfl⟩
  obtain ⟨w7, hw7⟩ : ∃ w7, w6.alloc (.cells #[.bool own] 4) = w7 := ⟨_, rfl⟩
  obtain ⟨w8, hw8, b8, M8⟩ := boxZ w7
  have M4 : Mod (fun _ => False) w w4 := by rw [← hw4]; exact (Mod.refl _ _).alloc _
  have M5 : Mod (fun _ => False) w4 w5 := by rw [← hw5]; exact (Mod.refl _ _).alloc _
  have M6 : Mod (fun _ => False) w5 w6 := by rw [← hw6]; exact (Mod.refl _ _).alloc _
  have M7 : Mod (fun _ => False) w6 w7 := by rw [← hw7]; exact (Mod.refl _ _).alloc _
  have a4 : w4.heap[w.heap.size]? = some (.cells #[.pointer (some ⟨tb, 0, none⟩)] 23 (0, 0)) := by rw [← hw4]; exact alloc_0 _ _
  have a5 : w5.heap[w4.heap.size]? = some (.cells #[.int .i64 cs, .int .i64 ca] 32 (0, 0)) := by rw [← hw5]; exact alloc_0 _ _
  have a6 : w6.heap[w5.heap.size]? = some (.cells #[.int .i64 (di d)] 3 (0, 0)) := by rw [← hw6]; exact alloc_0 _ _
  have a7 : w7.heap[w6.heap.size]? = some (.cells #[.bool own] 4 (0, 0)) := by rw [← hw7]; exact alloc_0 _ _
  have HB : NearB w8 w.heap.size w4.heap.size w5.heap.size w6.heap.size tb cs ca d own :=
    ⟨(M5.trans' (M6.trans' (M7.trans' M8))).heap a4 fun h => h, (M6.trans' (M7.trans' M8)).heap a5 fun h => h, (M7.trans' M8).heap a6 fun h => h, M8.heap a7 fun h => h⟩
  have hg8 := hid (M4.trans' (M5.trans' (M6.trans' M7))).size
  have M0 := M4.trans' (M5.trans' (M6.trans' (M7.trans' M8)))
  clear M4 M5 M6 M7 M8 a4 a5 a6 a7
  replace h := h.mod0 M0
  have hrt := h.root.1
  replace hr := hid hr
  replace hf := hid hf
  obtain ⟨d1, d2, d3, d4, d5⟩ := HB.facts
  go_enter Try.func63, Try.ntmps63
  go_wp2_with fail
  go_loopg [10, 12] t.size (fun g v10 v12 W => NearR w tb ab N lv fv room free t w.heap.size w4.heap.size w5.heap.size w6.heap.size w7.heap.size cs ca d own g v10 v12 W)
  case atStart => exact ⟨[], t, [], .E, rfl, rfl, .inl rfl, rfl, rfl, by cases d <;> rfl, by simp [cpre], by simp [cpost], h, HB, b8, M0⟩
  case round =>
    clear h HB b8 M0 hrt d1 d2 d3 d4 d5 hw4 hw5 hw6 hw7 hw8
    obtain ⟨c, X, c', B, hg, rfl, hBB, rfl, rfl, hbest, h1, h2, h, HB, b8, M⟩ := hrel
    replace hg := hid hg
    replace h1 := hid h1
    replace h2 := hid h2
    cases X with
    | E =>
      have hn := near_end h1.out h2.out
      rw [← hbest] at hn
      have HT : Calls Try.prog 64 #[.pointer (some ⟨tb, 0, none⟩), .int .i64 B.ix] wr fun e w' => e = .returned (optS (rootS B)) ∧ Mod (fun _ => False) wr w' := by
        rcases hBB with rfl | hBB
        · exact toldE tb wr
        · rw [hBB] at h; exact toldZ h
      obtain ⟨o, ho⟩ : ∃ o, rootS B = o := ⟨_, rfl⟩
      rw [ho] at HT hn
      replace hn := hid hn
      clear ho hbest hBB h
      obtain ⟨q4, _⟩ := HB.facts
      rw [T.ix_E]
      go_wp2_with fail
      refine HT.mono ?_; rintro e w3 ⟨rfl, M3⟩
      clear HT q4
      unfold optS
      have b3 := M3.heap b8 fun h => h
      replace M := M.trans' M3
      clear M3 b8
      obtain ⟨d0, e0⟩ := blkc b3
      obtain ⟨s, hs⟩ : ∃ s, oS o = s := ⟨_, rfl⟩
      rw [hs]
      replace hs := hid hs
      go_wp2_with fail
      obtain ⟨b4, M4⟩ := store5 (a' := .int .i64 s.ls) (b' := .int .i64 s.la) (c' := .int .i64 s.hs) (d' := .int .i64 s.ha) (e' := .int .i64 s.v) b3 hg8.out M
      exact ret_row_tmp w7.heap.size [.int .i64 s.ls, .int .i64 s.la, .int .i64 s.hs, .int .i64 s.ha, .int .i64 s.v] rfl rfl b4 Try.underlying36 rfl (by kernel_rfl) rfl ⟨by rw [← hn.out]; unfold optS; rw [hs.out]; rfl, M4⟩
    | N i b s l r =>
      obtain ⟨k, rfl⟩ := h.nat (i := i) ((mem_plug ..).2 (.inr (by simp [T.ids])))
      have hs : s ∈ (plug c (.N k b s l r)).toL := toL_sub (by simp [T.toL])
      have HF := fitsZ h HB hf.out (hr.out.2 s hs).2
      have hk0 : ((k : Int) != -1) = true := by simp
      have hfoc := hid hr.out.focus
      rw [T.ix_N]
      clear hs
      obtain ⟨fb, hfb⟩ : ∃ fb, fitB d own (kx cs ca) (ky s) = fb := ⟨_, rfl⟩
      rw [hfb] at HF
      replace hfb := hid hfb
      go_wp2_with fail
      refine HF.mono ?_; rintro e w1 ⟨rfl, M1⟩
      clear HF
      replace h := h.mod0 M1
      replace HB := HB.mod0 M1
      replace b8 := M1.heap b8 fun h => h
      replace M := M.trans' M1
      clear M1
      obtain ⟨lb, cp, rfl⟩ := h.lb (by intro e; have := toL_focus c k b s l r; rw [e] at this; simp [T.toL] at this)
      have HA := hid (fun (w' : World) (M : CM w1 w') => (h.mod0 M).node.at'.mono fun e w'' ⟨h1, h2⟩ => (⟨h1, by rw [h2]; exact M⟩ : e = Ending.returned (.pointer (some ⟨lb, k * 10, none⟩)) ∧ CM w1 w''))
      have HL := hid (fun (w' : World) (M : CM w1 w') => And.intro (HB.mod0 M).facts (And.intro (h.mod0 M).node.c5 (h.mod0 M).node.c6))
      cases fb
      · cases d
        · simp only [di, if_true, if_false, Bool.false_eq_true] at HL
          replace hbest := hid hbest
          replace hBB := hid hBB
          have e1 : IntKind.i64.wrap 1 = 1 := by decide
          have e0 : IntKind.i64.wrap 0 = 0 := by decide
          go_wp2_with fail
          refine cq_region (by kernel_rfl) (by kernel_rfl) ?_
          iterate 9 (refine wpQuiet_step (fun K hK => ?_); go_simp; first | (refine hK _ ?_; clear hK K) | (refine ⟨_, fun _ _ => rfl, hK _ ?_⟩; clear hK K) | (apply Exists.intro; refine ⟨fun wq hq => ?_, hK _ ?_⟩; (focus (first | (go_at_call 46; exact HA.out _ hq) | (obtain ⟨⟨q1, q2, q3, q4, q5⟩, q6, q7⟩ := HL.out _ hq; go_simp; try with_reducible rfl))); clear hK K))
          refine wpQuiet_nil ?_
          intro w2 M2
          clear e0 e1
          go_wp2_with fail
          go_roundg l.size
          case measure => rw [hg.out]; simp only [T.size]; omega
          case rel => exact ⟨⟨false, k, b, s, r⟩ :: c, l, c', B, rfl, rfl, hBB.out, rfl, rfl, by rw [hbest.out]; simp [bestS, cpre], by simpa [cpre] using h1.out, by
            intro x hx
            simp only [cpost, Bool.false_eq_true, if_false, List.cons_append, List.mem_cons, List.mem_append] at hx
            rcases hx with rfl | hx | hx
            · exact hfb.out
            · exact fit_hi hfb.out (hfoc.out.2 x (by simp [hx]))
            · exact h2.out x hx, h.mod0 M2, HB.mod0 M2, Mod.heap M2 b8 fun h => h, M.trans' M2⟩
        · simp only [di, if_true, if_false, Bool.false_eq_true] at HL
          replace hbest := hid hbest
          replace hBB := hid hBB
          have e1 : IntKind.i64.wrap 1 = 1 := by decide
          have e0 : IntKind.i64.wrap 0 = 0 := by decide
          go_wp2_with fail
          refine cq_region (by kernel_rfl) (by kernel_rfl) ?_
          iterate 9 (refine wpQuiet_step (fun K hK => ?_); go_simp; first | (refine hK _ ?_; clear hK K) | (refine ⟨_, fun _ _ => rfl, hK _ ?_⟩; clear hK K) | (apply Exists.intro; refine ⟨fun wq hq => ?_, hK _ ?_⟩; (focus (first | (go_at_call 46; exact HA.out _ hq) | (obtain ⟨⟨q1, q2, q3, q4, q5⟩, q6, q7⟩ := HL.out _ hq; go_simp; try with_reducible rfl))); clear hK K))
          refine wpQuiet_nil ?_
          intro w2 M2
          clear e0 e1
          go_wp2_with fail
          go_roundg r.size
          case measure => rw [hg.out]; simp only [T.size]; omega
          case rel => exact ⟨⟨true, k, b, s, l⟩ :: c, r, c', B, rfl, rfl, hBB.out, rfl, rfl, by rw [hbest.out]; simp [bestS, cpost], by
            intro x hx
            simp only [cpre, if_true, List.mem_append, List.mem_cons, List.not_mem_nil, or_false] at hx
            rcases hx with hx | hx | rfl
            · exact h1.out x hx
            · exact by rw [fit_lo' hfb.out (hfoc.out.1 x (by simp [hx]))]; rfl
            · rw [hfb.out]; rfl, by simpa [cpost] using h2.out, h.mod0 M2, HB.mod0 M2, Mod.heap M2 b8 fun h => h, M.trans' M2⟩
      · cases d
        · simp only [di, if_true, if_false, Bool.false_eq_true] at HL
          replace hbest := hid hbest
          replace hBB := hid hBB
          have e1 : IntKind.i64.wrap 1 = 1 := by decide
          have e0 : IntKind.i64.wrap 0 = 0 := by decide
          go_wp2_with fail
          refine cq_region (by kernel_rfl) (by kernel_rfl) ?_
          iterate 10 (refine wpQuiet_step (fun K hK => ?_); go_simp; first | (refine hK _ ?_; clear hK K) | (refine ⟨_, fun _ _ => rfl, hK _ ?_⟩; clear hK K) | (apply Exists.intro; refine ⟨fun wq hq => ?_, hK _ ?_⟩; (focus (first | (go_at_call 46; exact HA.out _ hq) | (obtain ⟨⟨q1, q2, q3, q4, q5⟩, q6, q7⟩ := HL.out _ hq; go_simp; try with_reducible rfl))); clear hK K))
          refine wpQuiet_nil ?_
          intro w2 M2
          clear e0 e1
          go_wp2_with fail
          go_roundg r.size
          case measure => rw [hg.out]; simp only [T.size]; omega
          case rel => exact ⟨⟨true, k, b, s, l⟩ :: c, r, c, .N k b s l r, rfl, rfl, .inr rfl, rfl, rfl, by simp [bestS, cpre, rootS], by
            intro x hx
            simp only [cpre, if_true, List.mem_append, List.mem_cons, List.not_mem_nil, or_false] at hx
            rcases hx with hx | hx | rfl
            · exact h1.out x hx
            · exact by rw [fit_lo hfb.out (hfoc.out.1 x (by simp [hx]))]; rfl
            · rw [hfb.out]; rfl, by simpa [cpost] using h2.out, h.mod0 M2, HB.mod0 M2, Mod.heap M2 b8 fun h => h, M.trans' M2⟩
        · simp only [di, if_true, if_false, Bool.false_eq_true] at HL
          replace hbest := hid hbest
          replace hBB := hid hBB
          have e1 : IntKind.i64.wrap 1 = 1 := by decide
          have e0 : IntKind.i64.wrap 0 = 0 := by decide
          go_wp2_with fail
          refine cq_region (by kernel_rfl) (by kernel_rfl) ?_
          iterate 10 (refine wpQuiet_step (fun K hK => ?_); go_simp; first | (refine hK _ ?_; clear hK K) | (refine ⟨_, fun _ _ => rfl, hK _ ?_⟩; clear hK K) | (apply Exists.intro; refine ⟨fun wq hq => ?_, hK _ ?_⟩; (focus (first | (go_at_call 46; exact HA.out _ hq) | (obtain ⟨⟨q1, q2, q3, q4, q5⟩, q6, q7⟩ := HL.out _ hq; go_simp; try with_reducible rfl))); clear hK K))
          refine wpQuiet_nil ?_
          intro w2 M2
          clear e0 e1
          go_wp2_with fail
          go_roundg l.size
          case measure => rw [hg.out]; simp only [T.size]; omega
          case rel => exact ⟨⟨false, k, b, s, r⟩ :: c, l, c, .N k b s l r, rfl, rfl, .inr rfl, rfl, rfl, by simp [bestS, cpost, rootS], by simpa [cpre] using h1.out, by
            intro x hx
            simp only [cpost, Bool.false_eq_true, if_false, List.cons_append, List.mem_cons, List.mem_append] at hx
            rcases hx with rfl | hx | hx
            · exact hfb.out
            · exact fit_hi' hfb.out (hfoc.out.2 x (by simp [hx]))
            · exact h2.out x hx, h.mod0 M2, HB.mod0 M2, Mod.heap M2 b8 fun h => h, M.trans' M2⟩

set_option maxHeartbeats 1000000 in
theorem floorTZ (h : TS w tb ab lv fv room N free t) (hr : Row t.toL) (hf : fit64 ca) :
    Calls Try.prog 29 #[.pointer (some ⟨tb, 0, none⟩), .agg #[.int .i64 cs, .int .i64 ca]] w fun e w' => e = .returned (optS (nearS false true (kx cs ca) t.toL)) ∧ Mod (fun _ => False) w w' := by
  obtain ⟨wa, hwa, ba, Ma⟩ := boxC w cs ca
  obtain ⟨w0, hw0, b0, M0⟩ := boxZ wa
  have hg := hid Ma.size
  replace ba := M0.heap ba fun h => h
  replace M0 := Ma.trans' M0
  clear Ma
  obtain ⟨d0, e0⟩ := blkc b0
  obtain ⟨d1, e1⟩ := blkc ba
  replace h := h.mod0 M0
  have HT := nearZ (cs := cs) (ca := ca) h hr hf false true
  simp only [di, if_true, if_false, Bool.false_eq_true] at HT
  obtain ⟨o, ho⟩ : ∃ o, nearS false true (kx cs ca) t.toL = o := ⟨_, rfl⟩
  rw [ho] at HT ⊢
  clear ho h hr hf
  go_enter Try.func29, Try.ntmps29
  go_wp2_with fail
  refine HT.mono ?_; rintro e w3 ⟨rfl, M3⟩
  clear HT d0 e0 d1 e1 ba hwa hw0
  have b3 := M3.heap b0 fun h => h
  replace M0 := M0.trans' M3
  clear M3 b0
  obtain ⟨d0, e0⟩ := blkc b3
  unfold optS
  obtain ⟨s, hs⟩ : ∃ s, oS o = s := ⟨_, rfl⟩
  rw [hs]
  go_wp2_with fail
  obtain ⟨b4, M4⟩ := store5 (a' := .int .i64 s.ls) (b' := .int .i64 s.la) (c' := .int .i64 s.hs) (d' := .int .i64 s.ha) (e' := .int .i64 s.v) b3 hg.out M0
  exact ret_row_tmp wa.heap.size [.int .i64 s.ls, .int .i64 s.la, .int .i64 s.hs, .int .i64 s.ha, .int .i64 s.v] rfl rfl b4 Try.underlying36 rfl (by kernel_rfl) rfl ⟨by first | rfl | (unfold optS; rw [hs]; rfl), M4⟩

set_option maxHeartbeats 1000000 in
theorem lowerTZ (h : TS w tb ab lv fv room N free t) (hr : Row t.toL) (hf : fit64 ca) :
    Calls Try.prog 31 #[.pointer (some ⟨tb, 0, none⟩), .agg #[.int .i64 cs, .int .i64 ca]] w fun e w' => e = .returned (optS (nearS false false (kx cs ca) t.toL)) ∧ Mod (fun _ => False) w w' := by
  obtain ⟨wa, hwa, ba, Ma⟩ := boxC w cs ca
  obtain ⟨w0, hw0, b0, M0⟩ := boxZ wa
  have hg := hid Ma.size
  replace ba := M0.heap ba fun h => h
  replace M0 := Ma.trans' M0
  clear Ma
  obtain ⟨d0, e0⟩ := blkc b0
  obtain ⟨d1, e1⟩ := blkc ba
  replace h := h.mod0 M0
  have HT := nearZ (cs := cs) (ca := ca) h hr hf false false
  simp only [di, if_true, if_false, Bool.false_eq_true] at HT
  obtain ⟨o, ho⟩ : ∃ o, nearS false false (kx cs ca) t.toL = o := ⟨_, rfl⟩
  rw [ho] at HT ⊢
  clear ho h hr hf
  go_enter Try.func31, Try.ntmps31
  go_wp2_with fail
  refine HT.mono ?_; rintro e w3 ⟨rfl, M3⟩
  clear HT d0 e0 d1 e1 ba hwa hw0
  have b3 := M3.heap b0 fun h => h
  replace M0 := M0.trans' M3
  clear M3 b0
  obtain ⟨d0, e0⟩ := blkc b3
  unfold optS
  obtain ⟨s, hs⟩ : ∃ s, oS o = s := ⟨_, rfl⟩
  rw [hs]
  go_wp2_with fail
  obtain ⟨b4, M4⟩ := store5 (a' := .int .i64 s.ls) (b' := .int .i64 s.la) (c' := .int .i64 s.hs) (d' := .int .i64 s.ha) (e' := .int .i64 s.v) b3 hg.out M0
  exact ret_row_tmp wa.heap.size [.int .i64 s.ls, .int .i64 s.la, .int .i64 s.hs, .int .i64 s.ha, .int .i64 s.v] rfl rfl b4 Try.underlying36 rfl (by kernel_rfl) rfl ⟨by first | rfl | (unfold optS; rw [hs]; rfl), M4⟩

set_option maxHeartbeats 1000000 in
theorem ceilTZ (h : TS w tb ab lv fv room N free t) (hr : Row t.toL) (hf : fit64 ca) :
    Calls Try.prog 32 #[.pointer (some ⟨tb, 0, none⟩), .agg #[.int .i64 cs, .int .i64 ca]] w fun e w' => e = .returned (optS (nearS true true (kx cs ca) t.toL)) ∧ Mod (fun _ => False) w w' := by
  obtain ⟨wa, hwa, ba, Ma⟩ := boxC w cs ca
  obtain ⟨w0, hw0, b0, M0⟩ := boxZ wa
  have hg := hid Ma.size
  replace ba := M0.heap ba fun h => h
  replace M0 := Ma.trans' M0
  clear Ma
  obtain ⟨d0, e0⟩ := blkc b0
  obtain ⟨d1, e1⟩ := blkc ba
  replace h := h.mod0 M0
  have HT := nearZ (cs := cs) (ca := ca) h hr hf true true
  simp only [di, if_true, if_false, Bool.false_eq_true] at HT
  obtain ⟨o, ho⟩ : ∃ o, nearS true true (kx cs ca) t.toL = o := ⟨_, rfl⟩
  rw [ho] at HT ⊢
  clear ho h hr hf
  go_enter Try.func32, Try.ntmps32
  go_wp2_with fail
  refine HT.mono ?_; rintro e w3 ⟨rfl, M3⟩
  clear HT d0 e0 d1 e1 ba hwa hw0
  have b3 := M3.heap b0 fun h => h
  replace M0 := M0.trans' M3
  clear M3 b0
  obtain ⟨d0, e0⟩ := blkc b3
  unfold optS
  obtain ⟨s, hs⟩ : ∃ s, oS o = s := ⟨_, rfl⟩
  rw [hs]
  go_wp2_with fail
  obtain ⟨b4, M4⟩ := store5 (a' := .int .i64 s.ls) (b' := .int .i64 s.la) (c' := .int .i64 s.hs) (d' := .int .i64 s.ha) (e' := .int .i64 s.v) b3 hg.out M0
  exact ret_row_tmp wa.heap.size [.int .i64 s.ls, .int .i64 s.la, .int .i64 s.hs, .int .i64 s.ha, .int .i64 s.v] rfl rfl b4 Try.underlying36 rfl (by kernel_rfl) rfl ⟨by first | rfl | (unfold optS; rw [hs]; rfl), M4⟩

set_option maxHeartbeats 1000000 in
theorem highTZ (h : TS w tb ab lv fv room N free t) (hr : Row t.toL) (hf : fit64 ca) :
    Calls Try.prog 30 #[.pointer (some ⟨tb, 0, none⟩), .agg #[.int .i64 cs, .int .i64 ca]] w fun e w' => e = .returned (optS (nearS true false (kx cs ca) t.toL)) ∧ Mod (fun _ => False) w w' := by
  obtain ⟨wa, hwa, ba, Ma⟩ := boxC w cs ca
  obtain ⟨w0, hw0, b0, M0⟩ := boxZ wa
  have hg := hid Ma.size
  replace ba := M0.heap ba fun h => h
  replace M0 := Ma.trans' M0
  clear Ma
  obtain ⟨d0, e0⟩ := blkc b0
  obtain ⟨d1, e1⟩ := blkc ba
  replace h := h.mod0 M0
  have HT := nearZ (cs := cs) (ca := ca) h hr hf true false
  simp only [di, if_true, if_false, Bool.false_eq_true] at HT
  obtain ⟨o, ho⟩ : ∃ o, nearS true false (kx cs ca) t.toL = o := ⟨_, rfl⟩
  rw [ho] at HT ⊢
  clear ho h hr hf
  go_enter Try.func30, Try.ntmps30
  go_wp2_with fail
  refine HT.mono ?_; rintro e w3 ⟨rfl, M3⟩
  clear HT d0 e0 d1 e1 ba hwa hw0
  have b3 := M3.heap b0 fun h => h
  replace M0 := M0.trans' M3
  clear M3 b0
  obtain ⟨d0, e0⟩ := blkc b3
  unfold optS
  obtain ⟨s, hs⟩ : ∃ s, oS o = s := ⟨_, rfl⟩
  rw [hs]
  go_wp2_with fail
  obtain ⟨b4, M4⟩ := store5 (a' := .int .i64 s.ls) (b' := .int .i64 s.la) (c' := .int .i64 s.hs) (d' := .int .i64 s.ha) (e' := .int .i64 s.v) b3 hg.out M0
  exact ret_row_tmp wa.heap.size [.int .i64 s.ls, .int .i64 s.la, .int .i64 s.hs, .int .i64 s.ha, .int .i64 s.v] rfl rfl b4 Try.underlying36 rfl (by kernel_rfl) rfl ⟨by first | rfl | (unfold optS; rw [hs]; rfl), M4⟩
end
end Go.Proofs.Bo
