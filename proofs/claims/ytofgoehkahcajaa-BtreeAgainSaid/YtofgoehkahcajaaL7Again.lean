import Derived.Test.YtofgoehkahcajaaAMG
import Derived.Test.YtofgoehkahcajaaAll7
import Derived.Test.YtofgoehkahcajaaRefG
set_option linter.unusedVariables false
set_option linter.unusedSimpArgs false
namespace Go.Proofs.Bo
open Go Go.RowKit

set_option maxHeartbeats 2000000 in
theorem again7 (deg room : Int) (a1 : Option Addr) (len1 cap1 : Nat) (zs1 : List Op6) (a2 : Option Addr) (len2 cap2 : Nat) (zs2 : List Op6) (w : World) (hr1 : RdS encO6 6 w a1 len1 zs1) (hG1 : ∀ z ∈ zs1, GOp6 z) (hr2 : RdS encO6 6 w a2 len2 zs2) (hG2 : ∀ z ∈ zs2, GOp6 z) :
    Calls Try.prog 3 #[.agg #[.int .i64 deg, .int .i64 room], .slice a1 len1 cap1, .slice a2 len2 cap2] w fun e w' => e = .returned (.bool true) ∧ Below w.heap.size w w' := by
  obtain ⟨w0, hw0, b0, M0, hs0⟩ := boxSe w deg room
  obtain ⟨x0, f0⟩ := blkc b0
  have B0 : Below w.heap.size w w0 := M0.to_below (Nat.le_refl _) fun _ h => h.elim
  by_cases hb : (deg < 2 ∨ 64 < deg ∨ room < 0 ∨ 4096 < room) ∨ 200 < len1
  · have P := madeB_no deg room a1 len1 cap1 w0 hb
    clear hb
    replace hs0 := hid hs0
    go_enter Try.func3, Try.ntmps3
    go_wp2_with fail
    refine P.mono ?_
    rintro e w1 ⟨rfl, B1⟩
    go_wp2_with fail
    refine (alive7 _).mono ?_
    rintro e w2 ⟨rfl, B2⟩
    go_wp2_with fail
    go_ret
    exact ⟨rfl, (B0.trans (B1.mono B0.size)).trans (B2.mono (Nat.le_trans B0.size B1.size))⟩
  obtain ⟨d, rfl⟩ : ∃ d : Nat, deg = d := ⟨deg.toNat, by omega⟩
  have hd : 2 ≤ d ∧ d ≤ 64 := by omega
  have hr0 : 0 ≤ room ∧ room ≤ 4096 := by omega
  have hl1 : len1 ≤ 200 := by omega
  clear hb
  have hr1' : RdS encO6 6 w0 a1 len1 zs1 := hr1.below (by decide) B0
  have P := madeB d room a1 len1 cap1 zs1 w0 hr1' hG1 hd hr0 hl1
  by_cases h2 : 200 < len2
  · have h2' : (200 : Int) < len2 := by omega
    replace hs0 := hid hs0
    go_enter Try.func3, Try.ntmps3
    go_wp2_with fail
    refine P.mono ?_
    rintro e w1 ⟨tb, v, L, rfl, F⟩
    obtain ⟨A1, cv, rfl, _⟩ := F.2.1.slice
    go_wp2_with fail
    refine (alive7 _).mono ?_
    rintro e w2 ⟨rfl, B2⟩
    go_wp2_with fail
    go_ret
    exact ⟨rfl, (F.back M0).below.trans (B2.mono (F.back M0).below.size)⟩
  have h2' : ¬ (200 : Int) < len2 := by omega
  clear hr1 hG1 hr1' hl1
  replace hs0 := hid hs0
  go_enter Try.func3, Try.ntmps3
  go_wp2_with fail
  refine P.mono ?_
  rintro e w1 ⟨tb, v, L, rfl, F⟩
  obtain ⟨A1, cv, rfl, _⟩ := F.2.1.slice
  clear P
  have F1 := F.fb7
  clear F
  go_wp2_with fail
  refine (bb_clear F1.1).mono ?_
  rintro e w2 ⟨rfl, R2, M2⟩
  replace F1 := F1.grow R2 M2
  clear R2 M2
  have PL := bb_len F1.1
  simp only [List.length_nil, Int.natCast_zero] at PL
  go_wp2_with fail
  refine PL.mono ?_
  rintro e w3 ⟨rfl, M3⟩
  replace F1 := F1.mod0 M3
  clear PL
  go_wp2_with fail
  refine (bb_height F1.1).mono ?_
  rintro e w4 ⟨k, hk, rfl, M4⟩
  obtain rfl : k = 0 := by
    rcases hk with ⟨_, e⟩ | ⟨h, _, e, _⟩
    · exact e
    · exact absurd rfl e
  replace F1 := F1.mod0 M4
  go_wp2_with fail
  refine (bb_check F1.1).mono ?_
  rintro e w5 ⟨rfl, M5⟩
  replace F1 := F1.mod0 M5
  clear M3 M4 M5
  replace F1 := BothB.start F1
  clear x0 f0
  go_wp2_with fail
  go_loopw [10, 50] (fun v c W => ∃ (k : Nat) (L : List Sg), k ≤ len2 ∧ c = .int .i64 k ∧ BothB w0 W tb d room v L L) (fun _ c _ => (len2 - intOf c).toNat)
  case atStart => exact ⟨0, _, by omega, rfl, F1⟩
  case round =>
    clear F1
    obtain ⟨k, L, hk, rfl, F⟩ := hrel
    by_cases hlt : k < len2
    · have hzl : k < zs2.length := by rw [hr2.1]; exact hlt
      obtain ⟨b, o, rfl, hc⟩ := hr2.2.2 (by omega)
      obtain ⟨x0, x1, x2, x3, x4, x5⟩ := RdS.op6 hc (B0.trans (F.below.mono M0.size)) hzl
      have hg := hG2 zs2[k] (by simp)
      generalize zs2[k] = op at x0 x1 x2 x3 x4 x5 hg
      obtain ⟨W1, hW1, ho, m1⟩ := boxO wr op
      obtain ⟨d1, e1⟩ := blkc ho
      replace F := F.mod0 m1
      have hw1 := m1.size
      have P := bothB_do F op hg.2.2.1
      have hf := hg.2.2.1
      obtain ⟨s1, s2⟩ := blkc (F.2.2.2.heap b0 fun h => h)
      clear hc hr2 hzl hG2 hg
      have hob : wr.heap.size < W1.heap.size := blkl ho
      obtain ⟨q, ls, la, hs, ha, v⟩ := op
      simp only [encO6] at hW1 d1 P
      go_wp2_with fail
      refine P.mono ?_
      rintro e w2 ⟨v', rfl, F2, M2⟩
      obtain ⟨d2, e2⟩ := blkc (M2.heap ho fun h => h)
      simp only [encO6] at d2
      have P2 := bothB_does F2 ⟨q, ls, la, hs, ha, v⟩ hf
      simp only [encO6] at P2
      clear P d1 e1 x0 x1 x2 x3 x4 x5 s1 s2
      generalize do6B ⟨q, ls, la, hs, ha, v⟩ L = r1, do6E room ⟨q, ls, la, hs, ha, v⟩ L = r2, do6L room ⟨q, ls, la, hs, ha, v⟩ L = L2 at P2 F2 ⊢
      go_wp2_with fail
      refine P2.mono ?_
      rintro e w3 ⟨rfl, F3⟩
      clear P2
      go_wp2_with fail
      refine (bb_check F3.1).mono ?_
      rintro e w4 ⟨rfl, M4⟩
      replace F3 := F3.mod0 M4
      go_wp2_with fail
      go_roundw
      case rel => exact ⟨k + 1, L2, by omega, by simp, F3⟩
      case measure => simp [intOf]; omega
    · obtain rfl : k = len2 := by omega
      clear hlt hk hr2 hG2
      go_wp2_with fail
      refine (alive7 _).mono ?_
      rintro e w4 ⟨rfl, B4⟩
      replace F := F.mod0 (Mod.of_below B4)
      have hbd := bb_bound F.1
      go_wp2_with fail
      refine (allR7 F.1 (by omega)).mono ?_
      rintro e w5 ⟨v5, rfl, R5, H5, M5⟩
      replace F := F.mod0 M5
      go_wp2_with fail
      refine (sameR R5 F.2.1 (by omega)).mono ?_
      rintro e w6 ⟨rfl, M6⟩
      replace F := F.mod0 M6
      go_wp2_with fail
      go_ret
      exact ⟨rfl, (F.back M0).below⟩
theorem again7r (cs : Array Value) (a1 : Option Addr) (len1 cap1 : Nat) (zs1 : List Op6) (a2 : Option Addr) (len2 cap2 : Nat) (zs2 : List Op6) (w : World) (fit : Fit [.int .i64, .int .i64] cs.toList) (hr1 : RdS encO6 6 w a1 len1 zs1) (hG1 : ∀ z ∈ zs1, GOp6 z) (_ : len1 * 48 ≤ 140737488351232) (hr2 : RdS encO6 6 w a2 len2 zs2) (hG2 : ∀ z ∈ zs2, GOp6 z) (_ : len2 * 48 ≤ 140737488351232) :
    Calls Try.prog 3 #[.agg cs, .slice a1 len1 cap1, .slice a2 len2 cap2] w fun e w' => e = .returned (.bool true) ∧ Below w.heap.size w w' := by
  obtain ⟨deg, room, rfl, _, _⟩ := seatArg fit
  exact again7 deg room a1 len1 cap1 zs1 a2 len2 cap2 zs2 w hr1 hG1 hr2 hG2
end Go.Proofs.Bo
