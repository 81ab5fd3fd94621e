import Derived.Test.YtniemignjlanaaaMade6
import Derived.Test.YtniemignjlanaaaAll6
import Derived.Test.YtniemignjlanaaaRSame
set_option linter.unusedVariables false
namespace Go.Proofs.Bo
open Go Go.RowKit

set_option maxHeartbeats 2000000 in
theorem all6 (room : Int) (a : Option Addr) (len cap : Nat) (zs : List Op6) (w : World) (_ : (Lit.int .i64 room).wf = true) (hr : RdS encO6 6 w a len zs) (hG : ∀ z ∈ zs, GOp6 z) (hl : len * 48 ≤ 140737488351232) :
    Calls Try.prog 6 #[.int .i64 room, .slice a len cap] w fun e w' => e = .returned (.bool true) ∧ Below w.heap.size w w' := by
  by_cases h2 : 200 < len
  · have h2' : (200 : Int) < len := by omega
    go_enter Try.func6, Try.ntmps6
    go_wp2_with fail
    refine (alive6 _).mono ?_
    rintro e w2 ⟨rfl, B2⟩
    go_wp2_with fail
    go_ret
    exact ⟨rfl, B2⟩
  have h2' : ¬ (200 : Int) < len := by omega
  by_cases hb1 : room < 0
  · go_enter Try.func6, Try.ntmps6
    go_wp2_with fail
    refine (newTZ_no room (.inl hb1) _).mono ?_
    rintro e w1 ⟨rfl, hw⟩
    subst hw
    go_wp2_with fail
    refine (alive6 _).mono ?_
    rintro e w2 ⟨rfl, B2⟩
    go_wp2_with fail
    go_ret
    exact ⟨rfl, B2⟩
  by_cases hb2 : 4096 < room
  · go_enter Try.func6, Try.ntmps6
    go_wp2_with fail
    refine (newTZ_no room (.inr hb2) _).mono ?_
    rintro e w1 ⟨rfl, hw⟩
    subst hw
    go_wp2_with fail
    refine (alive6 _).mono ?_
    rintro e w2 ⟨rfl, B2⟩
    go_wp2_with fail
    go_ret
    exact ⟨rfl, B2⟩
  have hr0 : 0 ≤ room := by omega
  have hr2 : room ≤ 4096 := by omega
  clear hb1 hb2
  go_enter Try.func6, Try.ntmps6
  go_wp2_with fail
  refine (fb_new hr0 hr2 _).mono ?_
  rintro e w1 ⟨tb, rfl, F1⟩
  replace F1 := BothP.start F1
  go_wp2_with fail
  refine (rb_room F1.1).mono ?_
  rintro e w2 ⟨rfl, M2⟩
  replace F1 := F1.mod0 M2
  go_wp2_with fail
  go_loopw [7, 53] (fun v c W => ∃ (k : Nat) (L : List Sg), k ≤ len ∧ c = .int .i64 k ∧ BothP w W tb room v L L) (fun _ c _ => (len - intOf c).toNat)
  case atStart => exact ⟨0, _, by omega, rfl, F1⟩
  case round =>
    clear F1
    obtain ⟨k, L, hk, rfl, F⟩ := hrel
    by_cases hlt : k < len
    · have hzl : k < zs.length := by rw [hr.1]; exact hlt
      obtain ⟨b, o, rfl, hc⟩ := hr.2.2 (by omega)
      obtain ⟨c0, c1, c2, c3, c4, c5⟩ := RdS.op6 hc F.below hzl
      have hg := hG zs[k] (by simp)
      generalize zs[k] = op at c0 c1 c2 c3 c4 c5 hg
      obtain ⟨W1, hW1, ho, m1⟩ := boxO wr op
      obtain ⟨d1, e1⟩ := blkc ho
      replace F := F.mod0 m1
      have hw1 := m1.size
      have P := both_do F op hg.2.2.1
      have hf := hg.2.2.1
      clear hc hr hzl hG hg
      have hob : wr.heap.size < W1.heap.size := blkl ho
      obtain ⟨q, ls, la, hs, ha, v⟩ := op
      simp only [encO6] at hW1 d1 P
      go_wp2_with fail
      refine P.mono ?_
      rintro e w2 ⟨v', rfl, F2, M2⟩
      obtain ⟨d2, e2⟩ := blkc (M2.heap ho fun h => h)
      simp only [encO6] at d2
      have P2 := both_does F2 ⟨q, ls, la, hs, ha, v⟩ hf
      simp only [encO6] at P2
      clear P d1 e1 c0 c1 c2 c3 c4 c5
      generalize do6B ⟨q, ls, la, hs, ha, v⟩ L = r1, do6E room ⟨q, ls, la, hs, ha, v⟩ L = r2, do6L room ⟨q, ls, la, hs, ha, v⟩ L = L2 at P2 F2 ⊢
      go_wp2_with fail
      refine P2.mono ?_
      rintro e w3 ⟨rfl, F3⟩
      clear P2
      have hb := rb_bound F3.1
      obtain ⟨A3, cap3, hv3, _⟩ := F3.2.1.slice
      subst hv3
      go_wp2_with fail
      refine (allR F3.1 (by omega)).mono ?_
      rintro e w4 ⟨v4, rfl, R4, H4, M4⟩
      replace F3 := F3.mod0 M4
      go_wp2_with fail
      refine (sameR R4 F3.2.1 (by omega)).mono ?_
      rintro e w5 ⟨rfl, M5⟩
      replace F3 := F3.mod0 M5
      go_wp2_with fail
      refine (rb_len F3.1).mono ?_
      rintro e w6 ⟨rfl, M6⟩
      replace F3 := F3.mod0 M6
      go_wp2_with fail
      go_roundw
      case rel => exact ⟨k + 1, L2, by omega, by simp, F3⟩
      case measure => simp [intOf]; omega
    · obtain rfl : k = len := by omega
      clear hlt hk hr
      go_wp2_with fail
      refine (alive6 _).mono ?_
      rintro e w4 ⟨rfl, B4⟩
      go_wp2_with fail
      go_ret
      exact ⟨rfl, F.below.trans (B4.mono F.below.size)⟩
end Go.Proofs.Bo
