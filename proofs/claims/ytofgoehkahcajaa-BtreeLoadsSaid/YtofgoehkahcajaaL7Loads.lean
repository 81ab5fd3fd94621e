import Derived.Test.YtofgoehkahcajaaRLoad7
import Derived.Test.YtofgoehkahcajaaAll7
import Derived.Test.YtofgoehkahcajaaFpS
set_option linter.unusedVariables false
set_option linter.unusedSimpArgs false
namespace Go.Proofs.Bo
open Go Go.RowKit

theorem loadBZ_no (deg room : Int) (hb : deg < 2 ∨ 64 < deg ∨ room < 0 ∨ 4096 < room) (a : Option Addr) (len cap : Nat) (w : World) :
    Calls Try.prog 35 #[.int .i64 deg, .int .i64 room, .slice a len cap] w fun e w' => e = .returned (.tuple #[.pointer none, .int .i64 1]) ∧ w' = w := by
  have P := newBZ_no deg room hb w
  clear hb
  go_enter Try.func35, Try.ntmps35
  go_wp2_with fail
  refine P.mono ?_
  rintro e w1 ⟨rfl, hw⟩
  rw [hw]; clear hw P
  go_wp2_with fail
  go_ret2
  exact ⟨rfl, rfl⟩

set_option maxHeartbeats 1000000 in
/-- A row that was made, and one that came in. -/
theorem sameRd {w : World} {v : Value} {a : Option Addr} {len cap : Nat} {l : List Sg} (h : RowV w v l) (h' : RdS encS 5 w a len l) (hlen : l.length ≤ 65536) :
    Calls Try.prog 17 #[v, .slice a len cap] w fun e w' => e = .returned (.bool true) ∧ Mod (fun _ => False) w w' := by
  obtain ⟨A, c, rfl, hA⟩ := h.slice
  have hl := h'.1
  subst hl
  go_enter Try.func17, Try.ntmps17
  go_wp2_with fail
  go_loopw [5] (fun i W => ∃ k : Nat, k ≤ l.length ∧ i = .int .i64 k ∧ Mod (fun _ => False) w W) (fun i _ => (l.length - intOf i).toNat)
  case atStart => exact ⟨0, by omega, rfl, Mod.refl _ _⟩
  case round =>
    obtain ⟨k, hk, rfl, M1⟩ := hrel
    by_cases hlt : k < l.length
    · obtain ⟨g, rfl⟩ := hA (by omega)
      obtain ⟨b, o, rfl, hc⟩ := h'.2.2 (by omega)
      obtain ⟨c0, c1, c2, c3, c4⟩ := (h.keep M1).cells hlt
      obtain ⟨d0, d1, d2, d3, d4⟩ := RdS.seg hc (M1.to_below (Nat.le_refl _) fun _ h => h.elim) hlt
      have hkb : (k : Int) + 1 ≤ 65536 := by omega
      have hkl : (k : Int) < l.length := by omega
      generalize l[k] = s at c0 c1 c2 c3 c4 d0 d1 d2 d3 d4
      obtain ⟨ls, la, hs, ha, sv⟩ := s
      dsimp only at c0 c1 c2 c3 c4 d0 d1 d2 d3 d4
      clear h h' hc
      go_wp2_with fail
      go_quiet (fail)
      go_wp2_with fail
      go_roundw
      case rel => exact ⟨k + 1, by omega, by simp, M1.drewN _⟩
      case measure => simp [intOf]; omega
    · obtain rfl : k = l.length := by omega
      clear h h'
      go_wp2_with fail
      go_ret
      exact ⟨rfl, M1⟩

theorem bb_heightL {w : World} {X : Nat → Prop} {tb d : Nat} {room : Int} {l : List Sg} (h : BB X w tb d room l) : ∃ H : Nat, HgtOK7 d l H ∧ H ≤ 5000 ∧ ∀ w', CM w w' → Calls Try.prog 13 #[.pointer (some ⟨tb, 0, none⟩)] w' fun e w'' => e = .returned (.int .i64 H) ∧ Mod (fun _ => False) w' w'' := by
  obtain ⟨ab, lv, fv, σ, free, root, S, h1, h2, h3, h4, h5, h6, h7⟩ := h
  obtain ⟨H, q1, q2⟩ := pt_hgt h4.1 h2
  have := q2.lt h4.1
  exact ⟨H, q2, by omega, fun w' M => heightBZ (h1.mod0 M) q1 (by omega)⟩

attribute [local irreducible] wpQuiet in
set_option maxRecDepth 100000 in
set_option maxHeartbeats 4000000 in
theorem loads7 (deg room : Int) (a : Option Addr) (len cap : Nat) (zs : List Sg) (w : World) (hr : RdS encS 5 w a len zs) (hG : ∀ z ∈ zs, GSg z) :
    Calls Try.prog 7 #[.agg #[.int .i64 deg, .int .i64 room], .slice a len cap] w fun e w' => e = .returned (.bool true) ∧ Below w.heap.size w w' := by
  obtain ⟨w0, hw0, b0, M0, hs0⟩ := boxSe w deg room
  obtain ⟨x0, f0⟩ := blkc b0
  have B0 : Below w.heap.size w w0 := M0.to_below (Nat.le_refl _) fun _ h => h.elim
  by_cases h2 : 300 < len
  · have h2' : (300 : Int) < len := by omega
    replace hs0 := hid hs0
    go_enter Try.func7, Try.ntmps7
    go_wp2_with fail
    refine (alive7 _).mono ?_
    rintro e w2 ⟨rfl, B2⟩
    go_wp2_with fail
    go_ret
    exact ⟨rfl, B0.trans (B2.mono B0.size)⟩
  have h2' : ¬ (300 : Int) < len := by omega
  by_cases hb : deg < 2 ∨ 64 < deg ∨ room < 0 ∨ 4096 < room
  · have P := loadBZ_no deg room hb a len cap w0
    have PR := loadR_no deg room (by omega) a len cap w0
    replace hs0 := hid hs0
    clear hb
    go_enter Try.func7, Try.ntmps7
    go_wp2_with fail
    refine P.mono ?_
    rintro e w1 ⟨rfl, hw⟩
    rw [hw]; clear hw P
    go_wp2_with fail
    refine PR.mono ?_
    rintro e w1 ⟨rfl, hw⟩
    rw [hw]; clear hw PR
    go_wp2_with fail
    refine (alive7 _).mono ?_
    rintro e w2 ⟨rfl, B2⟩
    go_wp2_with fail
    go_ret
    exact ⟨rfl, B0.trans (B2.mono B0.size)⟩
  obtain ⟨d, rfl⟩ : ∃ d : Nat, deg = d := ⟨deg.toNat, by omega⟩
  have hd : 2 ≤ d ∧ d ≤ 64 := by omega
  have hr0 : 0 ≤ room ∧ room ≤ 4096 := by omega
  have hl3 : len ≤ 300 := by omega
  have hr' : RdS encS 5 w0 a len zs := hr.below (by decide) B0
  have P := loadBZ d room hd hr0 a len cap zs w0 hr' hG hl3
  have PR := hid fun w' (B : Below w0.heap.size w0 w') => loadR d room hd hr0 a len cap zs w' (hr'.below (by decide) B) hG hl3
  replace hs0 := hid hs0
  clear hb h2 hr hG
  have hzl : zs.length = len := hr'.1
  go_enter Try.func7, Try.ntmps7
  go_wp2_with fail
  refine P.mono ?_
  rintro e w1 hq
  clear P
  rcases hq with ⟨hn, rfl, B1⟩ | ⟨hn, hn2, rfl, B1⟩ | ⟨hy, hy2, tb, rfl, F⟩
  · obtain ⟨x1, f1⟩ := blkc ((B1.block _ (blkl b0)).trans b0)
    have P2 := PR.out _ B1
    clear x0 f0 PR
    go_wp2_with fail
    refine P2.mono ?_
    rintro e w2 ⟨hq, M2⟩
    obtain rfl : e = .returned (.int .i64 1) := by
      rcases hq with ⟨_, e⟩ | ⟨h, _⟩ | ⟨h, _⟩
      · exact e
      · exact absurd h hn
      · exact absurd h hn
    clear hq P2
    have B2 := B1.trans ((M2.to_below (Nat.le_refl _) fun _ h => h.elim).mono B1.size)
    go_wp2_with fail
    refine (alive7 _).mono ?_
    rintro e w3 ⟨rfl, B3⟩
    go_wp2_with fail
    go_ret
    exact ⟨rfl, B0.trans ((B2.trans (B3.mono B2.size)).mono B0.size)⟩
  · obtain ⟨x1, f1⟩ := blkc ((B1.block _ (blkl b0)).trans b0)
    have P2 := PR.out _ B1
    clear x0 f0 PR
    go_wp2_with fail
    refine P2.mono ?_
    rintro e w2 ⟨hq, M2⟩
    obtain rfl : e = .returned (.int .i64 50) := by
      rcases hq with ⟨h, _⟩ | ⟨_, _, e⟩ | ⟨_, h, _⟩
      · exact absurd hn h
      · exact e
      · omega
    clear hq P2
    have B2 := B1.trans ((M2.to_below (Nat.le_refl _) fun _ h => h.elim).mono B1.size)
    go_wp2_with fail
    refine (alive7 _).mono ?_
    rintro e w3 ⟨rfl, B3⟩
    go_wp2_with fail
    go_ret
    exact ⟨rfl, B0.trans ((B2.trans (B3.mono B2.size)).mono B0.size)⟩
  · have B1 := F.below
    obtain ⟨x1, f1⟩ := blkc ((B1.block _ (blkl b0)).trans b0)
    have P2 := PR.out _ B1
    clear x0 f0 PR
    go_wp2_with fail
    refine P2.mono ?_
    rintro e w2 ⟨hq, M2⟩
    obtain rfl : e = .returned (.int .i64 0) := by
      rcases hq with ⟨h, _⟩ | ⟨_, h, _⟩ | ⟨_, _, e⟩
      · exact absurd hy h
      · omega
      · exact e
    clear hq P2 x1 f1
    replace F := F.mod0 M2
    clear hy
    go_wp2_with fail
    refine fs_region 13 [(0, false), (1, true), (2, true), (3, true), (4, true), (5, true), (6, true), (7, true), (8, true), (9, true), (10, true), (12, true), (11, false)] (by kernel_rfl) (by kernel_rfl) ?_
    intro Q0 hQ0
    refine wpG_one _ rfl ⟨by go_simp, fun K hK => ?_⟩
    replace F := F.mod0 ((Mod.refl _ w2).drewN 1)
    go_simp
    refine (alive7 _).mono ?_
    rintro e w3 ⟨rfl, B3⟩
    replace F := F.mod0 (Mod.of_below B3)
    refine hK _ _ ?_
    clear hK K
    iterate 11 (refine wpG_free _ rfl (fun K hK => ?_); refine ⟨?_, ?_⟩; (focus (go_simp)); apply Exists.intro; refine ⟨fun wz => ?_, ?_⟩; (focus (go_simp; try with_reducible rfl)); go_simp; refine hK _ ?_; clear hK K)
    refine wpG_one _ rfl ⟨by go_simp, fun K hK => ?_⟩
    go_simp
    refine (allR7 F.1 (by omega)).mono ?_
    rintro e w4 ⟨v4, rfl, R4, H4, M4⟩
    replace F := F.mod0 M4
    refine hK _ _ ?_
    clear hK K
    refine wpG_rest ?_
    have hL5 : zs.length ≤ 65535 := by omega
    obtain ⟨H, hH, hH5, PH0⟩ := bb_heightL F.1
    have hrd : ∀ w', CM w4 w' → RdS encS 5 w' a len zs := fun w' M => hr'.below (by decide) (F.below.trans ((M.to_below (Nat.le_refl _) fun _ h => h.elim).mono F.below.size))
    have P1 : ∀ w', CM w4 w' → Calls Try.prog 17 #[v4, .slice a len cap] w' fun e w'' => e = .returned (.bool true) ∧ CM w4 w'' := fun w' M => (sameRd (R4.keep M) (hrd w' M) (by omega)).mono fun e w'' ⟨h1, h2⟩ => ⟨h1, M.trans' h2⟩
    have P2 : ∀ w', CM w4 w' → Calls Try.prog 12 #[.pointer (some ⟨tb, 0, none⟩)] w' fun e w'' => e = .returned (.int .i64 (len : Int)) ∧ CM w4 w'' := fun w' M => (bb_len (F.mod0 M).1).mono fun e w'' ⟨h1, h2⟩ => ⟨by rw [h1, hzl], M.trans' h2⟩
    have P3 : ∀ w', CM w4 w' → Calls Try.prog 14 #[.pointer (some ⟨tb, 0, none⟩)] w' fun e w'' => e = .returned (.bool true) ∧ CM w4 w'' := fun w' M => (bb_check (F.mod0 M).1).mono fun e w'' ⟨h1, h2⟩ => ⟨h1, M.trans' h2⟩
    have P4 : ∀ w', CM w4 w' → Calls Try.prog 13 #[.pointer (some ⟨tb, 0, none⟩)] w' fun e w'' => e = .returned (.int .i64 (H : Int)) ∧ CM w4 w'' := fun w' M => (PH0 w' M).mono fun e w'' ⟨h1, h2⟩ => ⟨h1, M.trans' h2⟩
    have P5 : ∀ w', CM w4 w' → Calls Try.prog 23 #[.int .i64 (d : Int), .int .i64 (len : Int), .int .i64 (H : Int)] w' fun e w'' => e = .returned (.bool true) ∧ CM w4 w'' := fun w' M => (by rw [← hzl]; exact (highR hd hL5 hH w').mono fun e w'' ⟨h1, h2⟩ => ⟨h1, by rw [h2]; exact M⟩)
    have HX : ∀ w', CM w4 w' → (∀ j, w'.cell? ⟨w.heap.size, j, none⟩ = #[.int .i64 (d : Int), .int .i64 room][j]?) := fun w' M => (blkc (M.heap (F.2.heap b0 fun h => h) fun h => h)).1
    replace P1 := hid P1
    replace P2 := hid P2
    replace P3 := hid P3
    replace P4 := hid P4
    replace P5 := hid P5
    replace HX := hid HX
    replace PH0 := hid PH0
    replace hH := hid hH
    replace hrd := hid hrd
    replace hzl := hid hzl
    simp only [List.drop_succ_cons, List.drop_zero]
    iterate 23 (refine wpQuiet_step (fun K hK => ?_); go_simp; first | (refine hK _ ?_; clear hK K) | (refine ⟨_, fun _ _ => rfl, hK _ ?_⟩; clear hK K) | (apply Exists.intro; refine ⟨fun wq hq => ?_, hK _ ?_⟩; (focus (first | (go_at_call 17; exact P1.out _ hq) | (go_at_call 12; exact P2.out _ hq) | (go_at_call 14; exact P3.out _ hq) | (go_at_call 13; exact P4.out _ hq) | (go_at_call 23; exact P5.out _ hq) | (have u1 := HX.out _ hq; go_simp; try with_reducible rfl))); clear hK K))
    refine wpQuiet_nil ?_
    intro w8 M8
    refine hQ0 _ _ ?_
    replace F := F.mod0 M8
    clear P1 P2 P3 P4 P5 HX R4 H4 M4
    go_wp2_with fail
    go_ret
    exact ⟨rfl, B0.trans (F.below.mono B0.size)⟩
theorem loads7r (cs : Array Value) (a : Option Addr) (len cap : Nat) (zs : List Sg) (w : World) (fit : Fit [.int .i64, .int .i64] cs.toList) (hr : RdS encS 5 w a len zs) (hG : ∀ z ∈ zs, GSg z) (_ : len * 40 ≤ 140737488351232) :
    Calls Try.prog 7 #[.agg cs, .slice a len cap] w fun e w' => e = .returned (.bool true) ∧ Below w.heap.size w w' := by
  obtain ⟨deg, room, rfl, _, _⟩ := seatArg fit
  exact loads7 deg room a len cap zs w hr hG
end Go.Proofs.Bo
