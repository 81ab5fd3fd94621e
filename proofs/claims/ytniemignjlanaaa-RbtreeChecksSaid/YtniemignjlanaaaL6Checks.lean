import Derived.Test.YtniemignjlanaaaOps6
set_option linter.unusedVariables false
namespace Go.Proofs.Bo
open Go Go.RowKit

set_option maxHeartbeats 2000000 in
theorem checks6 (room : Int) (a : Option Addr) (len cap : Nat) (zs : List Op6) (w : World) (hr : RdS encO6 6 w a len zs) (hG : ∀ z ∈ zs, GOp6 z) (hl : len * 48 ≤ 140737488351232) :
    Calls Try.prog 4 #[.int .i64 room, .slice a len cap] w fun e w' => e = .returned (.bool true) ∧ Below w.heap.size w w' := by
  by_cases hb : room < 0 ∨ 4096 < room
  · go_enter Try.func4, Try.ntmps4
    go_wp2_with fail
    refine (newTZ_no room hb _).mono ?_
    rintro e w1 ⟨rfl, hw⟩
    subst hw
    go_wp2_with fail
    refine (alive6 _).mono ?_
    rintro e w2 ⟨rfl, B2⟩
    go_wp2_with fail
    go_ret
    exact ⟨rfl, B2⟩
  have hr0 : 0 ≤ room := by omega
  have hr2 : room ≤ 4096 := by omega
  clear hb
  by_cases h2 : 200 < len
  · have h2' : (200 : Int) < len := by omega
    go_enter Try.func4, Try.ntmps4
    go_wp2_with fail
    refine (fb_new hr0 hr2 _).mono ?_
    rintro e w1 ⟨tb, rfl, F1⟩
    go_wp2_with fail
    refine (alive6 _).mono ?_
    rintro e w2 ⟨rfl, B2⟩
    go_wp2_with fail
    go_ret
    exact ⟨rfl, F1.below.trans (B2.mono F1.below.size)⟩
  have h2' : ¬ (200 : Int) < len := by omega
  go_enter Try.func4, Try.ntmps4
  go_wp2_with fail
  refine (fb_new hr0 hr2 _).mono ?_
  rintro e w1 ⟨tb, rfl, F1⟩
  go_wp2_with fail
  go_loopw [28] (fun c W => ∃ (k : Nat) (l : List Sg), k ≤ len ∧ c = .int .i64 k ∧ FB w W tb room l) (fun c _ => (len - intOf c).toNat)
  case atStart => exact ⟨0, _, by omega, rfl, F1⟩
  case round =>
    clear F1
    obtain ⟨k, l, hk, rfl, F⟩ := hrel
    by_cases hlt : k < len
    · have hzl : k < zs.length := by rw [hr.1]; exact hlt
      obtain ⟨b, o, rfl, hc⟩ := hr.2.2 (by omega)
      obtain ⟨c0, c1, c2, c3, c4, c5⟩ := RdS.op6 hc F.below hzl
      have hg := hG zs[k] (by simp)
      generalize zs[k] = op at c0 c1 c2 c3 c4 c5 hg
      obtain ⟨W1, hW1, ho, m1⟩ := boxO wr op
      obtain ⟨d1, e1⟩ := blkc ho
      replace F := F.mod0 m1
      have P := fb_does F op hg.2.2.1
      clear hc hr hzl hG
      obtain ⟨q, ls, la, hs, ha, v⟩ := op
      simp only [encO6] at hW1 d1 P
      generalize do6B _ l = r1, do6E _ _ l = r2, do6L _ _ l = l2 at P
      go_wp2_with fail
      refine P.mono ?_
      rintro e w2 ⟨rfl, F2⟩
      clear P F c0 c1 c2 c3 c4 c5 d1 e1 hg
      have hb := rb_bound F2.1
      obtain ⟨L, hL⟩ : ∃ L, l2.length = L := ⟨_, rfl⟩
      rw [hL] at hb
      have hL0 : L ≤ 4096 := by omega
      have hn1 : (0 : Int) ≤ L ∧ (L : Int) ≤ 4096 := by omega
      clear hb
      replace hL := hid hL
      go_wp2_with fail
      refine (rb_check F2.1).mono ?_
      rintro e w3 ⟨rfl, M3⟩
      replace F2 := F2.mod0 M3
      go_wp2_with fail
      refine (rb_height F2.1).mono ?_
      rintro e w4 ⟨h1, H1, rfl, M4⟩
      replace F2 := F2.mod0 M4
      go_wp2_with fail
      have PL := rb_len F2.1
      rw [hL.out] at PL
      refine PL.mono ?_
      rintro e w5 ⟨rfl, M5⟩
      replace F2 := F2.mod0 M5
      clear PL M3 M4 M5
      have PB := bitsZ (L + 1) (by omega) w5
      rw [show ((L + 1 : Nat) : Int) = (L : Int) + 1 by omega] at PB
      go_wp2_with fail
      refine PB.mono ?_
      rintro e w6 ⟨⟨kb, rfl, q1, q2⟩, hw⟩
      subst hw
      have q3 := H1.bound (k := kb) (by rw [hL.out]; exact q1)
      have q4 : ¬ ((h1 : Int) > 2 * (kb : Int)) := by omega
      have q5 : (0 : Int) ≤ kb ∧ (kb : Int) ≤ 5000 := by omega
      replace q1 := hid q1
      replace q2 := hid q2
      replace q3 := hid q3
      clear PB
      go_wp2_with fail
      refine (rb_height F2.1).mono ?_
      rintro e w7 ⟨h3, H3, rfl, M7⟩
      replace F2 := F2.mod0 M7
      have PL := rb_len F2.1
      rw [hL.out] at PL
      have hz := H3.zero
      rw [hL.out] at hz
      clear H1 H3 M7
      have hfin : ∀ w8, FB w w8 tb room l2 → ∃ (k' : Nat) (l : List Sg), k' ≤ len ∧ Value.int .i64 ((k : Int) + 1) = .int .i64 k' ∧ FB w w8 tb room l := fun w8 F8 => ⟨k + 1, l2, by omega, by simp, F8⟩
      replace hfin := hid hfin
      by_cases hz0 : L = 0
      · obtain rfl := hz.2 hz0
        subst hz0
        clear hz
        go_wp2_with fail
        refine PL.mono ?_
        rintro e w8 ⟨rfl, M8⟩
        go_wp2_with fail
        go_roundw
        case rel => exact hfin.out _ (F2.mod0 M8)
        case measure => simp [intOf]; omega
      · have a1 : ((h3 : Int) == 0) = false := by have := mt hz.1 hz0; simp; omega
        have a2 : ((L : Int) == 0) = false := by simp; omega
        clear hz
        replace hz0 := hid hz0
        go_wp2_with fail
        refine PL.mono ?_
        rintro e w8 ⟨rfl, M8⟩
        go_wp2_with fail
        go_roundw
        case rel => exact hfin.out _ (F2.mod0 M8)
        case measure => simp [intOf]; omega
    · obtain rfl : k = len := by omega
      clear hlt hk hr
      go_wp2_with fail
      refine (alive6 _).mono ?_
      rintro e w4 ⟨rfl, B4⟩
      go_wp2_with fail
      go_ret
      exact ⟨rfl, F.below.trans (B4.mono F.below.size)⟩
theorem checks6r (room : Int) (a : Option Addr) (len cap : Nat) (zs : List Op6) (w : World) (_ : (Lit.int .i64 room).wf = true) (hr : RdS encO6 6 w a len zs) (hG : ∀ z ∈ zs, GOp6 z) (hl : len * 48 ≤ 140737488351232) :
    Calls Try.prog 4 #[.int .i64 room, .slice a len cap] w fun e w' => e = .returned (.bool true) ∧ Below w.heap.size w w' :=
  checks6 room a len cap zs w hr hG hl
end Go.Proofs.Bo
