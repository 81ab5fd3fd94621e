import Derived.Test.YtofgoehkahcajaaGreatNear7
set_option linter.unusedVariables false
set_option linter.unusedSimpArgs false
namespace Go.Proofs.Bo
open Go Go.RowKit

section
variable {w w' : World} {tb ab : Nat} {lv fv : Value} {σ : List (Option Bn)} {free : List Int} {root deg room many : Int} {S : StB} {d : Nat} {L : List Sg} {cs ca : Int}

set_option maxHeartbeats 1000000 in
theorem floorBZ (h : MemB w tb ab lv fv σ free root deg room many S) (hd : d ≤ 64) (hT : PT d S root L) (hr : Row L) (hf : fit64 ca) :
    Calls Tryz.prog 11 #[.pointer (some ⟨tb, 0, none⟩), .agg #[.int .i64 cs, .int .i64 ca]] w fun e w' => e = .returned (optS (nearS false true (kx cs ca) L)) ∧ Mod (fun _ => False) w w' := by
  obtain ⟨wa, hwa, ba, Ma⟩ := boxC w cs ca
  obtain ⟨w0, hw0, b0, M0⟩ := boxZ wa
  have hg := hid Ma.size
  replace ba := M0.heap ba fun h => h
  replace M0 := Ma.trans' M0
  clear Ma
  obtain ⟨d0, e0⟩ := blkc b0
  obtain ⟨d1, e1⟩ := blkc ba
  replace h := h.mod0 M0
  have HT := nearBZ false true h hd hT hr cs ca hf
  simp only [Bool.not_true, Bool.not_false] at HT
  obtain ⟨o, ho⟩ : ∃ o, nearS false true (kx cs ca) L = o := ⟨_, rfl⟩
  rw [ho] at HT ⊢
  clear ho h hr hf hT hd
  go_enter Tryz.func11, Tryz.ntmps11
  go_wp2_with fail
  refine HT.mono ?_; rintro e w3 ⟨rfl, M3⟩
  clear HT d0 e0 d1 e1 ba hwa hw0
  have b3 := M3.heap b0 fun h => h
  replace M0 := M0.trans' M3
  clear M3 b0
  obtain ⟨d0, e0⟩ := blkc b3
  unfold optS
  obtain ⟨s, hs⟩ : ∃ s, oS o = s := ⟨_, rfl⟩
  rw [hs]
  go_wp2_with fail
  obtain ⟨b4, M4⟩ := store5 (a' := .int .i64 s.ls) (b' := .int .i64 s.la) (c' := .int .i64 s.hs) (d' := .int .i64 s.ha) (e' := .int .i64 s.v) b3 hg.out M0
  exact ret_row_tmp wa.heap.size [.int .i64 s.ls, .int .i64 s.la, .int .i64 s.hs, .int .i64 s.ha, .int .i64 s.v] rfl rfl b4 Tryz.underlying39 rfl (by kernel_rfl) rfl ⟨by first | rfl | (unfold optS; rw [hs]; rfl), M4⟩

set_option maxHeartbeats 1000000 in
theorem highBZ (h : MemB w tb ab lv fv σ free root deg room many S) (hd : d ≤ 64) (hT : PT d S root L) (hr : Row L) (hf : fit64 ca) :
    Calls Tryz.prog 13 #[.pointer (some ⟨tb, 0, none⟩), .agg #[.int .i64 cs, .int .i64 ca]] w fun e w' => e = .returned (optS (nearS true false (kx cs ca) L)) ∧ Mod (fun _ => False) w w' := by
  obtain ⟨wa, hwa, ba, Ma⟩ := boxC w cs ca
  obtain ⟨w0, hw0, b0, M0⟩ := boxZ wa
  have hg := hid Ma.size
  replace ba := M0.heap ba fun h => h
  replace M0 := Ma.trans' M0
  clear Ma
  obtain ⟨d0, e0⟩ := blkc b0
  obtain ⟨d1, e1⟩ := blkc ba
  replace h := h.mod0 M0
  have HT := nearBZ true false h hd hT hr cs ca hf
  simp only [Bool.not_true, Bool.not_false] at HT
  obtain ⟨o, ho⟩ : ∃ o, nearS true false (kx cs ca) L = o := ⟨_, rfl⟩
  rw [ho] at HT ⊢
  clear ho h hr hf hT hd
  go_enter Tryz.func13, Tryz.ntmps13
  go_wp2_with fail
  refine HT.mono ?_; rintro e w3 ⟨rfl, M3⟩
  clear HT d0 e0 d1 e1 ba hwa hw0
  have b3 := M3.heap b0 fun h => h
  replace M0 := M0.trans' M3
  clear M3 b0
  obtain ⟨d0, e0⟩ := blkc b3
  unfold optS
  obtain ⟨s, hs⟩ : ∃ s, oS o = s := ⟨_, rfl⟩
  rw [hs]
  go_wp2_with fail
  obtain ⟨b4, M4⟩ := store5 (a' := .int .i64 s.ls) (b' := .int .i64 s.la) (c' := .int .i64 s.hs) (d' := .int .i64 s.ha) (e' := .int .i64 s.v) b3 hg.out M0
  exact ret_row_tmp wa.heap.size [.int .i64 s.ls, .int .i64 s.la, .int .i64 s.hs, .int .i64 s.ha, .int .i64 s.v] rfl rfl b4 Tryz.underlying39 rfl (by kernel_rfl) rfl ⟨by first | rfl | (unfold optS; rw [hs]; rfl), M4⟩

theorem kx_first : kx (-1) 0 = -18446744073709551616 := by simp [kx]
theorem kx_last : kx 1 0 = 18446744073709551616 := by simp [kx]
theorem near_first (hr : Row L) : nearS true true (kx (-1) 0) L = L.head? := by
  rw [kx_first]
  unfold nearS
  rw [if_pos rfl, List.filter_eq_self.2]
  intro s hs
  obtain ⟨ho, hf⟩ := hr.2 s hs
  have h1 := (okKey_lt ho hf).2
  have h2 : ky s = -18446744073709551616 ∨ -18446744073709551616 < ky s := by
    rcases h1 with ⟨h1, h2⟩ | ⟨h1, h2, h3⟩
    · left; unfold ky; rw [h1, h2, kx_first]
    · right; unfold ky; rw [h3]; unfold fit64 at hf; omega
  rcases h2 with h2 | h2
  · simp [fitB, h2]
  · simp [fitB, h2]
theorem near_last (hr : Row L) : nearS false true (kx 1 0) L = L.getLast? := by
  rw [kx_last]
  unfold nearS
  rw [if_neg (by simp), List.filter_eq_self.2]
  intro s hs
  obtain ⟨ho, hf⟩ := hr.2 s hs
  have h1 : ky s < 18446744073709551616 := (okKey_lt ho hf).1
  simp [fitB, h1]

theorem near_mem {dd own : Bool} {k : Int} {s : Sg} (h : nearS dd own k L = some s) : s ∈ L := by
  unfold nearS at h
  split at h
  · exact (List.mem_filter.1 (List.mem_of_mem_head? h)).1
  · exact (List.mem_filter.1 (List.mem_of_getLast? h)).1
theorem key_can {s : Sg} (h : KeyOK s) (hf : fit64 ca) : ky s = kx cs ca ↔ s.ls = canS cs ca ∧ s.la = canA cs ca := by
  obtain ⟨⟨h1, h2, h3⟩, hf2⟩ := h
  unfold ky
  rw [kx_inj hf2 hf, h1, h2]
theorem get_some (hr : Row L) (hf : fit64 ca) {s : Sg} (h : nearS false true (kx cs ca) L = some s) : getS (kx cs ca) L = if s.ls = canS cs ca ∧ s.la = canA cs ca then some s else none := by
  have hm := near_mem h
  by_cases hk : ky s = kx cs ca
  · rw [if_pos ((key_can (hr.2 s hm) hf).1 hk)]
    obtain ⟨P, Q, rfl⟩ := List.append_of_mem hm
    have hP := (hr.1.app).1
    unfold getS
    rw [List.find?_append, List.find?_eq_none.2 (by intro x hx; have := hP x hx; simp; omega)]
    simp [hk]
  · rw [if_neg fun e => hk ((key_can (hr.2 s hm) hf).2 e)]
    unfold getS
    rw [List.find?_eq_none]
    intro x hx e
    have e : ky x = kx cs ca := by simpa using e
    obtain ⟨P, Q, rfl⟩ := List.append_of_mem hx
    rw [near_own hr.1 e] at h
    injection h with h
    exact hk (h ▸ e)
theorem get_none (hr : Row L) (h : nearS false true (kx cs ca) L = none) : getS (kx cs ca) L = none := by
  unfold getS
  rw [List.find?_eq_none]
  intro x hx e
  have e : ky x = kx cs ca := by simpa using e
  obtain ⟨P, Q, rfl⟩ := List.append_of_mem hx
  rw [near_own hr.1 e] at h
  cases h

set_option maxHeartbeats 1000000 in
theorem getBZ (h : MemB w tb ab lv fv σ free root deg room many S) (hd : d ≤ 64) (hT : PT d S root L) (hr : Row L) (hf : fit64 ca) :
    Calls Tryz.prog 50 #[.pointer (some ⟨tb, 0, none⟩), .agg #[.int .i64 cs, .int .i64 ca]] w fun e w' => e = .returned (optS (getS (kx cs ca) L)) ∧ Mod (fun _ => False) w w' := by
  obtain ⟨wa, hwa, ba, Ma⟩ := boxC w cs ca
  obtain ⟨w0, hw0, b0, M0⟩ := boxZ wa
  have hg := hid Ma.size
  have hgb := hid (blkl b0)
  replace ba := M0.heap ba fun h => h
  replace M0 := Ma.trans' M0
  clear Ma
  obtain ⟨d0, e0⟩ := blkc b0
  obtain ⟨d1, e1⟩ := blkc ba
  replace h := h.mod0 M0
  have HF := floorBZ h hd hT hr (cs := cs) hf
  have HN := hid (get_none (cs := cs) (ca := ca) hr)
  have HS := hid (fun s => get_some (cs := cs) (ca := ca) (s := s) hr hf)
  go_enter Tryz.func50, Tryz.ntmps50
  go_wp2_with fail
  refine HF.mono ?_; rintro e w1 ⟨rfl, M1⟩
  clear HF d0 e0 d1 e1 hwa hw0 h hd hT hr
  obtain ⟨o, ho⟩ : ∃ o, nearS false true (kx cs ca) L = o := ⟨_, rfl⟩
  replace b0 := M1.heap b0 fun h => h
  replace ba := M1.heap ba fun h => h
  replace M0 := M0.trans' M1
  unfold optS
  rw [ho]
  obtain ⟨x, hx⟩ : ∃ x, oS o = x := ⟨_, rfl⟩
  rw [hx]
  obtain ⟨w2, hw2, b2, M2⟩ : ∃ w2, w1.alloc (.cells #[.int .i64 x.ls, .int .i64 x.la, .int .i64 x.hs, .int .i64 x.ha, .int .i64 x.v] 39) = w2 ∧ w2.heap[w1.heap.size]? = some (.cells #[.int .i64 x.ls, .int .i64 x.la, .int .i64 x.hs, .int .i64 x.ha, .int .i64 x.v] 39 (0, 0)) ∧ Mod (fun _ => False) w1 w2 := ⟨_, rfl, alloc_0 _ _, (Mod.refl _ _).alloc _⟩
  have HC := hid (fun (w' : World) (M : CM w2 w') => (canonZ cs ca w').mono fun e w'' ⟨h1, h2⟩ => (⟨h1, Mod.trans' M h2⟩ : e = Ending.returned (.agg #[.int .i64 (canS cs ca), .int .i64 (canA cs ca)]) ∧ CM w2 w''))
  have HB := hid (fun (w' : World) (M : CM w2 w') => And.intro (blkc (Mod.heap (M2.trans' M) ba fun h => h)) (blkc (Mod.heap M b2 fun h => h)))
  have HE := hid (fun (W : World) (M : Mod (fun _ => False) w2 W) => And.intro (M.heap (M2.heap b0 fun h => h) fun h => h) (M0.trans' (M2.trans' M)))
  cases o with
  | none =>
    have hres := hid (HN.out ho)
    clear HN HS ho
    go_wp2_with fail
    go_quiet (fail)
    obtain ⟨w3, hw3, M3⟩ : ∃ w3, w2.drewN nq = w3 ∧ Mod (fun _ => False) w2 w3 := ⟨_, rfl, (Mod.refl _ _).drewN _⟩
    rw [hw3]
    clear hw3
    obtain ⟨b3, MM⟩ := HE.out _ M3
    obtain ⟨t0, t1⟩ := blkc b3
    clear hw2
    go_wp2_with fail
    obtain ⟨b4, M4⟩ := store5 (a' := .int .i64 0) (b' := .int .i64 0) (c' := .int .i64 0) (d' := .int .i64 0) (e' := .int .i64 0) b3 hg.out MM
    exact ret_row_tmp wa.heap.size [.int .i64 0, .int .i64 0, .int .i64 0, .int .i64 0, .int .i64 0] rfl rfl b4 Tryz.underlying39 rfl (by kernel_rfl) rfl ⟨by rw [hres.out]; rfl, M4⟩
  | some s =>
    have hres := hid (HS.out s ho)
    obtain rfl : s = x := hx
    clear HN HS ho
    obtain ⟨xs, xa, xh, xg, xv⟩ := s
    dsimp only at hw2 b2 HB hres
    by_cases h1 : xs = canS cs ca
    · subst h1
      by_cases h2 : xa = canA cs ca
      · subst h2
        rw [if_pos ⟨rfl, rfl⟩] at hres
        go_wp2_with fail
        refine cq_region (by kernel_rfl) (by kernel_rfl) ?_
        iterate 10 (refine wpQuiet_step (fun K hK => ?_); go_simp; first | (refine hK _ ?_; clear hK K) | (refine ⟨_, fun _ _ => rfl, hK _ ?_⟩; clear hK K) | (apply Exists.intro; refine ⟨fun wq hq => ?_, hK _ ?_⟩; (focus (first | (go_at_call 34; exact HC.out _ hq) | (obtain ⟨⟨t1, t2⟩, t3, t4⟩ := HB.out _ hq; go_simp; try with_reducible rfl))); clear hK K))
        refine wpQuiet_nil ?_
        intro w3 M3
        obtain ⟨b3, MM⟩ := HE.out _ M3
        obtain ⟨t0, t1⟩ := blkc b3
        obtain ⟨⟨t5, t6⟩, t7, t8⟩ := HB.out _ M3
        clear hw2 HC HB
        go_wp2_with fail
        obtain ⟨b4, M4⟩ := store5 (a' := .int .i64 (canS cs ca)) (b' := .int .i64 (canA cs ca)) (c' := .int .i64 xh) (d' := .int .i64 xg) (e' := .int .i64 xv) b3 hg.out MM
        exact ret_row_tmp wa.heap.size [.int .i64 (canS cs ca), .int .i64 (canA cs ca), .int .i64 xh, .int .i64 xg, .int .i64 xv] rfl rfl b4 Tryz.underlying39 rfl (by kernel_rfl) rfl ⟨by rw [hres.out]; rfl, M4⟩
      · rw [if_neg fun e => h2 e.2] at hres
        go_wp2_with fail
        refine cq_region (by kernel_rfl) (by kernel_rfl) ?_
        iterate 10 (refine wpQuiet_step (fun K hK => ?_); go_simp; first | (refine hK _ ?_; clear hK K) | (refine ⟨_, fun _ _ => rfl, hK _ ?_⟩; clear hK K) | (apply Exists.intro; refine ⟨fun wq hq => ?_, hK _ ?_⟩; (focus (first | (go_at_call 34; exact HC.out _ hq) | (obtain ⟨⟨t1, t2⟩, t3, t4⟩ := HB.out _ hq; go_simp; try with_reducible rfl))); clear hK K))
        refine wpQuiet_nil ?_
        intro w3 M3
        obtain ⟨b3, MM⟩ := HE.out _ M3
        obtain ⟨t0, t1⟩ := blkc b3
        obtain ⟨⟨t5, t6⟩, t7, t8⟩ := HB.out _ M3
        clear hw2 HC HB
        go_wp2_with fail
        obtain ⟨b4, M4⟩ := store5 (a' := .int .i64 0) (b' := .int .i64 0) (c' := .int .i64 0) (d' := .int .i64 0) (e' := .int .i64 0) b3 hg.out MM
        exact ret_row_tmp wa.heap.size [.int .i64 0, .int .i64 0, .int .i64 0, .int .i64 0, .int .i64 0] rfl rfl b4 Tryz.underlying39 rfl (by kernel_rfl) rfl ⟨by rw [hres.out]; rfl, M4⟩
    · rw [if_neg fun e => h1 e.1] at hres
      go_wp2_with fail
      refine cq_region (by kernel_rfl) (by kernel_rfl) ?_
      iterate 10 (refine wpQuiet_step (fun K hK => ?_); go_simp; first | (refine hK _ ?_; clear hK K) | (refine ⟨_, fun _ _ => rfl, hK _ ?_⟩; clear hK K) | (apply Exists.intro; refine ⟨fun wq hq => ?_, hK _ ?_⟩; (focus (first | (go_at_call 34; exact HC.out _ hq) | (obtain ⟨⟨t1, t2⟩, t3, t4⟩ := HB.out _ hq; go_simp; try with_reducible rfl))); clear hK K))
      refine wpQuiet_nil ?_
      intro w3 M3
      obtain ⟨b3, MM⟩ := HE.out _ M3
      obtain ⟨t0, t1⟩ := blkc b3
      obtain ⟨⟨t5, t6⟩, t7, t8⟩ := HB.out _ M3
      clear hw2 HC HB
      go_wp2_with fail
      obtain ⟨b4, M4⟩ := store5 (a' := .int .i64 0) (b' := .int .i64 0) (c' := .int .i64 0) (d' := .int .i64 0) (e' := .int .i64 0) b3 hg.out MM
      exact ret_row_tmp wa.heap.size [.int .i64 0, .int .i64 0, .int .i64 0, .int .i64 0, .int .i64 0] rfl rfl b4 Tryz.underlying39 rfl (by kernel_rfl) rfl ⟨by rw [hres.out]; rfl, M4⟩
end
end Go.Proofs.Bo
