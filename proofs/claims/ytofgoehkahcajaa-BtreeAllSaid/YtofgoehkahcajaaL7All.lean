import Derived.Test.YtofgoehkahcajaaAMG
import Derived.Test.YtofgoehkahcajaaAll7
import Derived.Test.YtofgoehkahcajaaRefG
import Derived.Test.YtofgoehkahcajaaApiG
import Derived.Test.YtofgoehkahcajaaBoG
set_option linter.unusedVariables false
set_option linter.unusedSimpArgs false
namespace Go.Proofs.Bo
open Go Go.RowKit

theorem bb_heightF {w : World} {X : Nat → Prop} {tb d : Nat} {room : Int} {l : List Sg} (h : BB X w tb d room l) : ∃ H : Nat, HgtOK7 d l H ∧ H ≤ 5000 ∧ ∀ w', CM w w' → Calls Try.prog 13 #[.pointer (some ⟨tb, 0, none⟩)] w' fun e w'' => e = .returned (.int .i64 H) ∧ Mod (fun _ => False) w' w'' := by
  obtain ⟨ab, lv, fv, σ, free, root, S, h1, h2, h3, h4, h5, h6, h7⟩ := h
  obtain ⟨H, q1, q2⟩ := pt_hgt h4.1 h2
  have := q2.lt h4.1
  exact ⟨H, q2, by omega, fun w' M => heightBZ (h1.mod0 M) q1 (by omega)⟩

attribute [local irreducible] wpQuiet in
set_option maxRecDepth 100000 in
set_option maxHeartbeats 2000000 in
theorem all7 (deg room : Int) (a : Option Addr) (len cap : Nat) (zs : List Op6) (w : World) (hr : RdS encO6 6 w a len zs) (hG : ∀ z ∈ zs, GOp6 z) :
    Calls Try.prog 4 #[.agg #[.int .i64 deg, .int .i64 room], .slice a len cap] w fun e w' => e = .returned (.bool true) ∧ Below w.heap.size w w' := by
  obtain ⟨w0, hw0, b0, M0, hs0⟩ := boxSe w deg room
  obtain ⟨x0, f0⟩ := blkc b0
  have B0 : Below w.heap.size w w0 := M0.to_below (Nat.le_refl _) fun _ h => h.elim
  by_cases h2 : 200 < len
  · have h2' : (200 : Int) < len := by omega
    replace hs0 := hid hs0
    go_enter Try.func4, Try.ntmps4
    go_wp2_with fail
    refine (alive7 _).mono ?_
    rintro e w2 ⟨rfl, B2⟩
    go_wp2_with fail
    go_ret
    exact ⟨rfl, B0.trans (B2.mono B0.size)⟩
  have h2' : ¬ (200 : Int) < len := by omega
  by_cases hb : deg < 2 ∨ 64 < deg ∨ room < 0 ∨ 4096 < room
  · have P := newBZ_no deg room hb w0
    have PR := rightR deg room w0
    rw [decide_eq_false (by omega : ¬ (2 ≤ deg ∧ deg ≤ 64 ∧ 0 ≤ room ∧ room ≤ 4096))] at PR
    replace hs0 := hid hs0
    clear hb
    go_enter Try.func4, Try.ntmps4
    go_wp2_with fail
    refine P.mono ?_
    rintro e w1 ⟨rfl, hw⟩
    rw [hw]; clear hw P
    go_wp2_with fail
    refine PR.mono ?_
    rintro e w1 ⟨rfl, hw⟩
    rw [hw]; clear hw PR
    go_wp2_with fail
    refine (alive7 _).mono ?_
    rintro e w2 ⟨rfl, B2⟩
    go_wp2_with fail
    go_ret
    exact ⟨rfl, B0.trans (B2.mono B0.size)⟩
  obtain ⟨d, rfl⟩ : ∃ d : Nat, deg = d := ⟨deg.toNat, by omega⟩
  have hd : 2 ≤ d ∧ d ≤ 64 := by omega
  have hr0 : 0 ≤ room ∧ room ≤ 4096 := by omega
  have PR := fun w => rightR (d : Int) room w
  rw [decide_eq_true (by omega : 2 ≤ (d : Int) ∧ (d : Int) ≤ 64 ∧ 0 ≤ room ∧ room ≤ 4096)] at PR
  have P := fb7_new hd hr0 w0
  replace PR := hid PR
  replace hs0 := hid hs0
  clear hb
  go_enter Try.func4, Try.ntmps4
  go_wp2_with fail
  refine P.mono ?_
  rintro e w1 ⟨tb, rfl, F1⟩
  replace F1 := BothB.start F1
  clear P x0 f0
  have hbox : ∀ w', Mod (fun _ => False) w0 w' → (∀ j, w'.cell? ⟨w.heap.size, j, none⟩ = #[.int .i64 (d : Int), .int .i64 room][j]?) := fun w' M => (blkc (M.heap b0 fun h => h)).1
  have hx1 := hbox _ F1.2.2.2
  replace hbox := hid hbox
  go_wp2_with fail
  refine (PR.out _).mono ?_
  rintro e w2 ⟨rfl, hw⟩
  rw [hw]; clear hw PR
  have HB : ∀ w', CM w1 w' → (∀ j, w'.cell? ⟨w.heap.size, j, none⟩ = #[.int .i64 (d : Int), .int .i64 room][j]?) := fun w' M => hbox.out w' (F1.2.2.2.trans' M)
  have HR : ∀ w', CM w1 w' → Calls Try.prog 21 #[.pointer (some ⟨tb, 0, none⟩)] w' fun e w'' => e = .returned (.int .i64 room) ∧ CM w1 w'' := fun w' M => (bb_room (F1.mod0 M).1).mono fun e w'' ⟨h1, h2⟩ => ⟨h1, M.trans' h2⟩
  have HD : ∀ w', CM w1 w' → Calls Try.prog 22 #[.pointer (some ⟨tb, 0, none⟩)] w' fun e w'' => e = .returned (.int .i64 (d : Int)) ∧ CM w1 w'' := fun w' M => (bb_degree (F1.mod0 M).1).mono fun e w'' ⟨h1, h2⟩ => ⟨h1, M.trans' h2⟩
  replace HB := hid HB
  replace HR := hid HR
  replace HD := hid HD
  clear hx1
  go_wp2_with fail
  refine cq_region (by kernel_rfl) (by kernel_rfl) ?_
  iterate 20 (refine wpQuiet_step (fun K hK => ?_); go_simp; first | (refine hK _ ?_; clear hK K) | (refine ⟨_, fun _ _ => rfl, hK _ ?_⟩; clear hK K) | (apply Exists.intro; refine ⟨fun wq hq => ?_, hK _ ?_⟩; (focus (first | (go_at_call 21; exact HR.out _ hq) | (go_at_call 22; exact HD.out _ hq) | (have u1 := HB.out _ hq; go_simp; try with_reducible rfl))); clear hK K))
  refine wpQuiet_nil ?_
  intro w5 M5
  replace F1 := F1.mod0 M5
  clear HB HR HD M5
  go_wp2_with fail
  go_loopw [7, 64] (fun v c W => ∃ (k : Nat) (L : List Sg), k ≤ len ∧ c = .int .i64 k ∧ BothB w0 W tb d room v L L) (fun _ c _ => (len - intOf c).toNat)
  case atStart => exact ⟨0, _, by omega, rfl, F1⟩
  case round =>
    clear F1
    obtain ⟨k, L, hk, rfl, F⟩ := hrel
    by_cases hlt : k < len
    · have hzl : k < zs.length := by rw [hr.1]; exact hlt
      obtain ⟨b, o, rfl, hc⟩ := hr.2.2 (by omega)
      obtain ⟨x0, x1, x2, x3, x4, x5⟩ := RdS.op6 hc (B0.trans (F.below.mono M0.size)) hzl
      have hg := hG zs[k] (by simp)
      generalize zs[k] = op at x0 x1 x2 x3 x4 x5 hg
      obtain ⟨W1, hW1, ho, m1⟩ := boxO wr op
      obtain ⟨d1, e1⟩ := blkc ho
      replace F := F.mod0 m1
      have hw1 := m1.size
      have P := bothB_do F op hg.2.2.1
      have hf := hg.2.2.1
      have s1 := hbox.out _ F.2.2.2
      clear hc hr hzl hG hg
      have hob : wr.heap.size < W1.heap.size := blkl ho
      obtain ⟨q, ls, la, hs, ha, v⟩ := op
      simp only [encO6] at hW1 d1 P
      go_wp2_with fail
      refine P.mono ?_
      rintro e w2 ⟨v', rfl, F2, M2⟩
      obtain ⟨d2, e2⟩ := blkc (M2.heap ho fun h => h)
      simp only [encO6] at d2
      have P2 := bothB_does F2 ⟨q, ls, la, hs, ha, v⟩ hf
      simp only [encO6] at P2
      clear P d1 e1 x0 x1 x2 x3 x4 x5 s1
      generalize do6B ⟨q, ls, la, hs, ha, v⟩ L = r1, do6E room ⟨q, ls, la, hs, ha, v⟩ L = r2, do6L room ⟨q, ls, la, hs, ha, v⟩ L = L2 at P2 F2 ⊢
      go_wp2_with fail
      refine P2.mono ?_
      rintro e w3 ⟨rfl, F3⟩
      clear P2
      have hbd := bb_bound F3.1
      have hL5 : L2.length ≤ 65535 := by omega
      obtain ⟨A3, cap3, hv3, _⟩ := F3.2.1.slice
      subst hv3
      clear hbd
      have e1 : (r2 != r2) = false := by simp
      have e2 : (r1 != r1) = false := by simp
      go_wp2_with fail
      refine fp_region 10 12 [0, 1, 2, 3, 4, 5, 6, 7, 8, 9, 11] _ (by kernel_rfl) (by kernel_rfl) rfl ?_
      intro Q0 hQ0
      iterate 11
        refine wpF_step2 _ rfl (fun K hK => ?_)
        refine ⟨?_, ?_⟩
        focus (go_simp)
        apply Exists.intro
        refine ⟨fun wz => ?_, ?_⟩
        focus (go_simp; try with_reducible rfl)
        go_simp
        refine hK _ ?_
        clear hK K
      refine ⟨by go_simp, fun K hK => ?_⟩
      replace F3 := F3.mod0 ((Mod.refl _ w3).drewN 1)
      go_simp
      refine (allR7 F3.1 hL5).mono ?_
      rintro e w4 ⟨v4, rfl, R4, H4, M4⟩
      replace F3 := F3.mod0 M4
      refine hK _ _ ?_
      clear hK K
      obtain ⟨H, hH, hH5, PH0⟩ := bb_heightF F3.1
      have P1 : ∀ w', CM w4 w' → Calls Try.prog 17 #[v4, .slice A3 L2.length cap3] w' fun e w'' => e = .returned (.bool true) ∧ CM w4 w'' := fun w' M => (sameR (R4.keep M) (F3.2.1.keep M) (by omega)).mono fun e w'' ⟨h1, h2⟩ => ⟨h1, M.trans' h2⟩
      have P2 : ∀ w', CM w4 w' → Calls Try.prog 12 #[.pointer (some ⟨tb, 0, none⟩)] w' fun e w'' => e = .returned (.int .i64 (L2.length : Int)) ∧ CM w4 w'' := fun w' M => (bb_len (F3.mod0 M).1).mono fun e w'' ⟨h1, h2⟩ => ⟨h1, M.trans' h2⟩
      have P3 : ∀ w', CM w4 w' → Calls Try.prog 14 #[.pointer (some ⟨tb, 0, none⟩)] w' fun e w'' => e = .returned (.bool true) ∧ CM w4 w'' := fun w' M => (bb_check (F3.mod0 M).1).mono fun e w'' ⟨h1, h2⟩ => ⟨h1, M.trans' h2⟩
      have P4 : ∀ w', CM w4 w' → Calls Try.prog 13 #[.pointer (some ⟨tb, 0, none⟩)] w' fun e w'' => e = .returned (.int .i64 (H : Int)) ∧ CM w4 w'' := fun w' M => (PH0 w' M).mono fun e w'' ⟨h1, h2⟩ => ⟨h1, M.trans' h2⟩
      have P5 : ∀ w', CM w4 w' → Calls Try.prog 23 #[.int .i64 (d : Int), .int .i64 (L2.length : Int), .int .i64 (H : Int)] w' fun e w'' => e = .returned (.bool true) ∧ CM w4 w'' := fun w' M => (highR hd hL5 hH w').mono fun e w'' ⟨h1, h2⟩ => ⟨h1, by rw [h2]; exact M⟩
      have HX : ∀ w', CM w4 w' → (∀ j, w'.cell? ⟨w.heap.size, j, none⟩ = #[.int .i64 (d : Int), .int .i64 room][j]?) := fun w' M => hbox.out w' (F3.2.2.2.trans' M)
      have e3 : (L2.length != L2.length) = false := by simp
      replace P1 := hid P1
      replace P2 := hid P2
      replace P3 := hid P3
      replace P4 := hid P4
      replace P5 := hid P5
      replace HX := hid HX
      replace PH0 := hid PH0
      replace hH := hid hH
      simp only [List.drop_succ_cons, List.drop_zero]
      iterate 25 (refine wpQuiet_step (fun K hK => ?_); go_simp; first | (refine hK _ ?_; clear hK K) | (refine ⟨_, fun _ _ => rfl, hK _ ?_⟩; clear hK K) | (apply Exists.intro; refine ⟨fun wq hq => ?_, hK _ ?_⟩; (focus (first | (go_at_call 17; exact P1.out _ hq) | (go_at_call 12; exact P2.out _ hq) | (go_at_call 14; exact P3.out _ hq) | (go_at_call 13; exact P4.out _ hq) | (go_at_call 23; exact P5.out _ hq) | (have u1 := HX.out _ hq; go_simp; try with_reducible rfl))); clear hK K))
      refine wpQuiet_nil ?_
      intro w8 M8
      refine hQ0 _ _ ?_
      replace F3 := F3.mod0 M8
      clear P1 P2 P3 P4 P5 HX R4 H4 M4
      go_wp2_with fail
      go_roundw
      case rel => exact ⟨k + 1, L2, by omega, by simp, F3⟩
      case measure => simp [intOf]; omega
    · obtain rfl : k = len := by omega
      clear hlt hk hr
      go_wp2_with fail
      refine (alive7 _).mono ?_
      rintro e w4 ⟨rfl, B4⟩
      go_wp2_with fail
      go_ret
      exact ⟨rfl, (F.back M0).below.trans (B4.mono (F.back M0).below.size)⟩
theorem all7r (cs : Array Value) (a : Option Addr) (len cap : Nat) (zs : List Op6) (w : World) (fit : Fit [.int .i64, .int .i64] cs.toList) (hr : RdS encO6 6 w a len zs) (hG : ∀ z ∈ zs, GOp6 z) (_ : len * 48 ≤ 140737488351232) :
    Calls Try.prog 4 #[.agg cs, .slice a len cap] w fun e w' => e = .returned (.bool true) ∧ Below w.heap.size w w' := by
  obtain ⟨deg, room, rfl, _, _⟩ := seatArg fit
  exact all7 deg room a len cap zs w hr hG
end Go.Proofs.Bo
