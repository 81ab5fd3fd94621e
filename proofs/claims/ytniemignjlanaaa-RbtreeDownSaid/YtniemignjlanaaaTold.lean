import Derived.Test.YtniemignjlanaaaPut
set_option linter.unusedVariables false
namespace Go.Proofs.Bo
open Go Go.RowKit

/-- What is told of a segment, or of none. -/
def zSg : Sg := ⟨0, 0, 0, 0, 0⟩
def oS (o : Option Sg) : Sg := o.getD zSg
def optS (o : Option Sg) : Value := .tuple #[.agg #[.int .i64 (oS o).ls, .int .i64 (oS o).la, .int .i64 (oS o).hs, .int .i64 (oS o).ha, .int .i64 (oS o).v], .bool o.isSome]
def rootS : T → Option Sg | .E => none | .N _ _ s _ _ => some s

section
variable {w w' : World} {tb ab N : Nat} {lv fv : Value} {room : Int} {free : List Int} {t : T}

theorem boxZ (w : World) : ∃ w0, w.alloc (.cells #[.int .i64 0, .int .i64 0, .int .i64 0, .int .i64 0, .int .i64 0] 36) = w0 ∧
    w0.heap[w.heap.size]? = some (.cells #[.int .i64 0, .int .i64 0, .int .i64 0, .int .i64 0, .int .i64 0] 36 (0, 0)) ∧ Mod (fun _ => False) w w0 :=
  ⟨_, rfl, alloc_0 _ _, (Mod.refl _ _).alloc _⟩

/-- Five cells are stored. -/
theorem store5 {w W : World} {g : Nat} {a b c d e a' b' c' d' e' : Value} {t : TypeId} (hb : W.heap[g]? = some (.cells #[a, b, c, d, e] t (0, 0))) (hg : w.heap.size ≤ g) (M : Mod (fun _ => False) w W) :
    (fun W' : World => W'.heap[g]? = some (.cells #[a', b', c', d', e'] t (0, 0)) ∧ Mod (fun _ => False) w W') (((((W.setCell ⟨g, 0, none⟩ a').setCell ⟨g, 1, none⟩ b').setCell ⟨g, 2, none⟩ c').setCell ⟨g, 3, none⟩ d').setCell ⟨g, 4, none⟩ e') :=
  ⟨setL_whole (cs := [a, b, c, d, e]) (us := [a', b', c', d', e']) hb rfl, ((((M.setCell (.inr hg) _).setCell (.inr hg) _).setCell (.inr hg) _).setCell (.inr hg) _).setCell (.inr hg) _⟩

theorem toldZ {c : Ctx} {X : T} (h : TS w tb ab lv fv room N free (plug c X)) : Calls Try.prog 64 #[.pointer (some ⟨tb, 0, none⟩), .int .i64 X.ix] w fun e w' => e = .returned (optS (rootS X)) ∧ Mod (fun _ => False) w w' := by
  obtain ⟨w0, hw0, b0, M0⟩ := boxZ w
  obtain ⟨d0, e0⟩ := blkc b0
  cases X with
  | E =>
    rw [T.ix_E]
    clear h
    go_enter Try.func64, Try.ntmps64
    go_wp2_with fail
    obtain ⟨b1, M1⟩ := store5 (a' := .int .i64 0) (b' := .int .i64 0) (c' := .int .i64 0) (d' := .int .i64 0) (e' := .int .i64 0) b0 (Nat.le_refl _) M0
    exact ret_row_tmp w.heap.size [.int .i64 0, .int .i64 0, .int .i64 0, .int .i64 0, .int .i64 0] rfl rfl b1 Try.underlying36 rfl (by kernel_rfl) rfl ⟨rfl, M1⟩
  | N i b s l r =>
    rw [T.ix_N]
    replace h := h.mod0 M0
    obtain ⟨k, rfl⟩ := h.nat (i := i) ((mem_plug ..).2 (.inr (by simp [T.ids])))
    obtain ⟨lb, hN⟩ := h.node'
    have A := hN.at'
    have z0 := hN.c0
    have z1 := hN.c1
    have z2 := hN.c2
    have z3 := hN.c3
    have z4 := hN.c4
    have hk0 : ((k : Int) == -1) = false := by simp
    clear hN h
    go_enter Try.func64, Try.ntmps64
    go_wp2_with fail
    refine A.mono ?_; rintro e w' ⟨rfl, hw⟩; subst hw
    go_wp2_with fail
    obtain ⟨b1, M1⟩ := store5 (a' := .int .i64 s.ls) (b' := .int .i64 s.la) (c' := .int .i64 s.hs) (d' := .int .i64 s.ha) (e' := .int .i64 s.v) b0 (Nat.le_refl _) M0
    exact ret_row_tmp w.heap.size [.int .i64 s.ls, .int .i64 s.la, .int .i64 s.hs, .int .i64 s.ha, .int .i64 s.v] rfl rfl b1 Try.underlying36 rfl (by kernel_rfl) rfl ⟨rfl, M1⟩

def getS (k : Int) (l : List Sg) : Option Sg := l.find? (fun x => ky x = k)
theorem get_focus {c : Ctx} {X : T} {k : Int} (h1 : ∀ x ∈ cpre c, ky x < k) (h2 : ∀ x ∈ cpost c, k < ky x) (h3 : X = .E ∨ ∃ i b s l r, X = .N i b s l r ∧ ky s = k) (hr : Row (plug c X).toL) : getS k (plug c X).toL = rootS X := by
  rcases h3 with rfl | ⟨i, b, s, l, r, rfl, hk⟩
  · rw [toL_plug]
    unfold getS rootS
    rw [List.find?_eq_none]
    intro x hx
    simp only [T.toL, List.append_nil, List.mem_append] at hx
    rcases hx with hx | hx
    · have := h1 x hx; simp; omega
    · have := h2 x hx; simp; omega
  · have hf := hr.focus.1
    rw [toL_focus]
    unfold getS rootS
    rw [List.find?_append, List.find?_eq_none.2 (by intro x hx; have := hf x hx; simp; omega)]
    simp [hk]

set_option maxHeartbeats 1000000 in
theorem getZ (h : TS w tb ab lv fv room N free t) (hr : Row t.toL) (cs ca : Int) (hf : fit64 ca) :
    Calls Try.prog 33 #[.pointer (some ⟨tb, 0, none⟩), .agg #[.int .i64 cs, .int .i64 ca]] w fun e w' => e = .returned (optS (getS (kx cs ca) t.toL)) ∧ Mod (fun _ => False) w w' := by
  obtain ⟨wa, hwa, ba, Ma⟩ := boxC w cs ca
  obtain ⟨w0, hw0, b0, M0⟩ := boxZ wa
  have hg := hid Ma.size
  have hgb := hid (blkl b0)
  replace ba := M0.heap ba fun h => h
  replace M0 := Ma.trans' M0
  clear Ma
  obtain ⟨d0, e0⟩ := blkc b0
  obtain ⟨d1, e1⟩ := blkc ba
  replace h := h.mod0 M0
  replace hr := hid hr
  have hf2 := hid (can_fit (s := cs) hf)
  have HC := canonZ cs ca w0
  go_enter Try.func33, Try.ntmps33
  go_wp2_with fail
  refine HC.mono ?_; rintro e w1 ⟨rfl, M1⟩
  clear HC d0 e0 d1 e1 ba hwa hw0
  replace h := h.mod0 M1
  have HF := (findZ h hr.out _ _ hf2.out).mono (find_kx t cs ca w1)
  go_wp2_with fail
  refine HF.mono ?_
  rintro e w2 ⟨⟨v, p, d, rfl, c, X, rfl, rfl, rfl, rfl, h1, h2, h3⟩, M2⟩
  clear HF
  replace h := h.mod0 M2
  have HT := toldZ h
  have ho := get_focus h1 h2 h3 hr.out
  obtain ⟨o, ho2⟩ : ∃ o, rootS X = o := ⟨_, rfl⟩
  rw [ho2] at HT ho
  replace ho := hid ho
  clear h1 h2 h3 ho2
  go_wp2_with fail
  refine HT.mono ?_; rintro e w3 ⟨rfl, M3⟩
  clear HT h
  unfold optS
  have b3 := (M1.trans' (M2.trans' M3)).heap b0 fun h => h
  replace M0 := M0.trans' (M1.trans' (M2.trans' M3))
  obtain ⟨d0, e0⟩ := blkc b3
  obtain ⟨s, hs⟩ : ∃ s, oS o = s := ⟨_, rfl⟩
  rw [hs]
  replace hs := hid hs
  go_wp2_with fail
  obtain ⟨b4, M4⟩ := store5 (a' := .int .i64 s.ls) (b' := .int .i64 s.la) (c' := .int .i64 s.hs) (d' := .int .i64 s.ha) (e' := .int .i64 s.v) b3 hg.out M0
  exact ret_row_tmp wa.heap.size [.int .i64 s.ls, .int .i64 s.la, .int .i64 s.hs, .int .i64 s.ha, .int .i64 s.v] rfl rfl b4 Try.underlying36 rfl (by kernel_rfl) rfl ⟨by rw [ho.out]; unfold optS; rw [hs.out]; rfl, M4⟩

theorem end_first {v : Int} (h : EndQ t false v) : ∃ c X, t = plug c X ∧ v = X.ix ∧ rootS X = t.toL.head? := by
  rcases h with ⟨rfl, rfl⟩ | ⟨F, i, b, s, l, r, rfl, rfl, h1, h2⟩
  · exact ⟨[], .E, rfl, rfl, rfl⟩
  · obtain ⟨rfl, e⟩ := h1 rfl
    exact ⟨F, _, rfl, rfl, by rw [toL_plug, e]; simp [rootS, T.toL]⟩

set_option maxHeartbeats 1000000 in
theorem firstTZ (h : TS w tb ab lv fv room N free t) :
    Calls Try.prog 36 #[.pointer (some ⟨tb, 0, none⟩)] w fun e w' => e = .returned (optS (t.toL.head?)) ∧ Mod (fun _ => False) w w' := by
  obtain ⟨w0, hw0, b0, M0⟩ := boxZ w
  obtain ⟨d0, e0⟩ := blkc b0
  replace h := h.mod0 M0
  have hE := endZ (c := []) (X := t) h false
  have hrt := h.root.1
  simp only [di, if_true, if_false, Bool.false_eq_true] at hE
  go_enter Try.func36, Try.ntmps36
  go_wp2_with fail
  refine hE.mono ?_; rintro e w' ⟨⟨v, rfl, hq⟩, hw⟩; subst hw
  obtain ⟨c, X, rfl, rfl, ho⟩ := end_first hq
  clear hE hq hrt
  have HT := toldZ h
  obtain ⟨o, ho2⟩ : ∃ o, rootS X = o := ⟨_, rfl⟩
  rw [ho2] at HT ho
  replace ho := hid ho
  clear ho2 h
  go_wp2_with fail
  refine HT.mono ?_; rintro e w3 ⟨rfl, M3⟩
  clear HT
  unfold optS
  have b3 := M3.heap b0 fun h => h
  replace M0 := M0.trans' M3
  clear d0 e0
  obtain ⟨d0, e0⟩ := blkc b3
  obtain ⟨s, hs⟩ : ∃ s, oS o = s := ⟨_, rfl⟩
  rw [hs]
  replace hs := hid hs
  go_wp2_with fail
  obtain ⟨b4, M4⟩ := store5 (a' := .int .i64 s.ls) (b' := .int .i64 s.la) (c' := .int .i64 s.hs) (d' := .int .i64 s.ha) (e' := .int .i64 s.v) b3 (Nat.le_refl _) M0
  exact ret_row_tmp w.heap.size [.int .i64 s.ls, .int .i64 s.la, .int .i64 s.hs, .int .i64 s.ha, .int .i64 s.v] rfl rfl b4 Try.underlying36 rfl (by kernel_rfl) rfl ⟨by rw [← ho.out]; unfold optS; rw [hs.out]; rfl, M4⟩

theorem end_last {v : Int} (h : EndQ t true v) : ∃ c X, t = plug c X ∧ v = X.ix ∧ rootS X = t.toL.getLast? := by
  rcases h with ⟨rfl, rfl⟩ | ⟨F, i, b, s, l, r, rfl, rfl, h1, h2⟩
  · exact ⟨[], .E, rfl, rfl, rfl⟩
  · obtain ⟨rfl, e⟩ := h2 rfl
    exact ⟨F, _, rfl, rfl, by rw [toL_plug, e]; simp [rootS, T.toL]⟩

set_option maxHeartbeats 1000000 in
theorem lastTZ (h : TS w tb ab lv fv room N free t) :
    Calls Try.prog 37 #[.pointer (some ⟨tb, 0, none⟩)] w fun e w' => e = .returned (optS (t.toL.getLast?)) ∧ Mod (fun _ => False) w w' := by
  obtain ⟨w0, hw0, b0, M0⟩ := boxZ w
  obtain ⟨d0, e0⟩ := blkc b0
  replace h := h.mod0 M0
  have hE := endZ (c := []) (X := t) h true
  have hrt := h.root.1
  simp only [di, if_true, if_false, Bool.false_eq_true] at hE
  go_enter Try.func37, Try.ntmps37
  go_wp2_with fail
  refine hE.mono ?_; rintro e w' ⟨⟨v, rfl, hq⟩, hw⟩; subst hw
  obtain ⟨c, X, rfl, rfl, ho⟩ := end_last hq
  clear hE hq hrt
  have HT := toldZ h
  obtain ⟨o, ho2⟩ : ∃ o, rootS X = o := ⟨_, rfl⟩
  rw [ho2] at HT ho
  replace ho := hid ho
  clear ho2 h
  go_wp2_with fail
  refine HT.mono ?_; rintro e w3 ⟨rfl, M3⟩
  clear HT
  unfold optS
  have b3 := M3.heap b0 fun h => h
  replace M0 := M0.trans' M3
  clear d0 e0
  obtain ⟨d0, e0⟩ := blkc b3
  obtain ⟨s, hs⟩ : ∃ s, oS o = s := ⟨_, rfl⟩
  rw [hs]
  replace hs := hid hs
  go_wp2_with fail
  obtain ⟨b4, M4⟩ := store5 (a' := .int .i64 s.ls) (b' := .int .i64 s.la) (c' := .int .i64 s.hs) (d' := .int .i64 s.ha) (e' := .int .i64 s.v) b3 (Nat.le_refl _) M0
  exact ret_row_tmp w.heap.size [.int .i64 s.ls, .int .i64 s.la, .int .i64 s.hs, .int .i64 s.ha, .int .i64 s.v] rfl rfl b4 Try.underlying36 rfl (by kernel_rfl) rfl ⟨by rw [← ho.out]; unfold optS; rw [hs.out]; rfl, M4⟩
end
end Go.Proofs.Bo
