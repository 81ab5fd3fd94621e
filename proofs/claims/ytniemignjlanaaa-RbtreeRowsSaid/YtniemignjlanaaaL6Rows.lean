import Derived.Test.YtniemignjlanaaaBoth6b
import Derived.Test.YtniemignjlanaaaAll6
import Derived.Test.YtniemignjlanaaaRSame
import Derived.Test.YtniemignjlanaaaBoG
set_option linter.unusedVariables false
namespace Go.Proofs.Bo
open Go Go.RowKit

theorem rowsEnd {w0 W : World} {tb : Nat} {room : Int} {v : Value} {L : List Sg} (h : BothP w0 W tb room v L L) : w0.heap.size ≤ W.heap.size := h.2.2.2.size

set_option maxHeartbeats 2000000 in
theorem rows6 (a1 : Option Addr) (len1 cap1 : Nat) (zs1 : List Int) (a2 : Option Addr) (len2 cap2 : Nat) (zs2 : List Int) (w : World) (hr1 : RdS encI 1 w a1 len1 zs1) (hG1 : ∀ z ∈ zs1, GI z) (hl1 : len1 * 8 ≤ 140737488351232)
    (hr2 : RdS encI 1 w a2 len2 zs2) (hG2 : ∀ z ∈ zs2, GI z) (hl2 : len2 * 8 ≤ 140737488351232) :
    Calls Try.prog 3 #[.slice a1 len1 cap1, .slice a2 len2 cap2] w fun e w' => e = .returned (.bool true) ∧ Below w.heap.size w w' := by
  by_cases h2 : 300 < len1 + len2
  · have h2' : (300 : Int) < (len1 : Int) + len2 := by omega
    go_enter Try.func3, Try.ntmps3
    go_wp2_with fail
    refine (fb_new (by omega) (by omega) _).mono ?_
    rintro e w1 ⟨tb, rfl, F1⟩
    go_wp2_with fail
    refine (alive6 _).mono ?_
    rintro e w2 ⟨rfl, B2⟩
    go_wp2_with fail
    go_ret
    exact ⟨rfl, F1.below.trans (B2.mono F1.below.size)⟩
  have h2' : ¬ (300 : Int) < (len1 : Int) + len2 := by omega
  go_enter Try.func3, Try.ntmps3
  go_wp2_with fail
  refine (fb_new (by omega) (by omega) _).mono ?_
  rintro e w1 ⟨tb, rfl, F1⟩
  replace F1 := BothP.start F1
  go_wp2_with fail
  go_loopw [7, 45] (fun v c W => ∃ (k : Nat) (L : List Sg), k ≤ len1 ∧ c = .int .i64 k ∧ BothP w W tb 4096 v L L) (fun _ c _ => (len1 - intOf c).toNat)
  case atStart => exact ⟨0, _, by omega, rfl, F1⟩
  case round =>
    clear F1
    obtain ⟨k, L, hk, rfl, F⟩ := hrel
    by_cases hlt : k < len1
    · have hzl : k < zs1.length := by rw [hr1.1]; exact hlt
      obtain ⟨b, o, rfl, hc⟩ := hr1.2.2 (by omega)
      have c0 := RdS.int1 hc F.below hzl
      have hg := hG1 zs1[k] (by simp)
      generalize zs1[k] = z at c0 hg
      clear hc hr1 hr2 hG1 hG2 hzl
      have hf : fit64 (segN z).la := by unfold fit64 segN; unfold GI at hg; exact hg
      have hkb : (k : Int) < 400 := by omega
      clear hg
      go_wp2_with fail
      refine (segZ z _).mono ?_
      rintro e w2 ⟨rfl, M2⟩
      replace F := F.mod0 M2
      go_wp2_with fail
      refine (both_rput F (segN z) hf).mono ?_
      rintro e w3 ⟨v', rfl, F3, M3⟩
      clear F c0
      go_wp2_with fail
      refine (segZ z _).mono ?_
      rintro e w4 ⟨rfl, M4⟩
      replace F3 := F3.mod0 M4
      go_wp2_with fail
      refine (both_put F3 (segN z) hf).mono ?_
      rintro e w5 ⟨rfl, F5⟩
      clear F3
      generalize putE 4096 (segN z) L = r1, putL 4096 (segN z) L = L2 at F5 ⊢
      go_wp2_with fail
      go_roundw
      case rel => exact ⟨k + 1, L2, by omega, by simp, F5⟩
      case measure => simp [intOf]; omega
    · obtain rfl : k = len1 := by omega
      clear hlt hk hr1 hG1
      go_wp2_with fail
      go_loopw [7, 66] (fun v c W => ∃ (k : Nat) (L : List Sg), k ≤ len2 ∧ c = .int .i64 k ∧ BothP w W tb 4096 v L L) (fun _ c _ => (len2 - intOf c).toNat)
      case atStart => exact ⟨0, _, by omega, rfl, F⟩
      case round =>
        clear F
        obtain ⟨k, L, hk, rfl, F⟩ := hrel
        by_cases hlt : k < len2
        · have hzl : k < zs2.length := by rw [hr2.1]; exact hlt
          obtain ⟨b, o, rfl, hc⟩ := hr2.2.2 (by omega)
          have c0 := RdS.int1 hc F.below hzl
          have hg := hG2 zs2[k] (by simp)
          generalize zs2[k] = z at c0 hg
          clear hc hr2 hG2 hzl
          have hf : fit64 z := by unfold fit64; unfold GI at hg; exact hg
          have hkb : (k : Int) < 400 := by omega
          clear hg
          go_wp2_with fail
          refine (both_rdel F 0 z hf).mono ?_
          rintro e w3 ⟨v', rfl, F3, M3⟩
          clear F c0
          go_wp2_with fail
          refine (both_del F3 0 z hf).mono ?_
          rintro e w5 ⟨rfl, F5⟩
          clear F3
          generalize hasK (kx 0 z) L = r1, delL (kx 0 z) L = L2 at F5 ⊢
          go_wp2_with fail
          refine (rb_check F5.1).mono ?_
          rintro e w6 ⟨rfl, M6⟩
          replace F5 := F5.mod0 M6
          go_wp2_with fail
          go_roundw
          case rel => exact ⟨k + 1, L2, by omega, by simp, F5⟩
          case measure => simp [intOf]; omega
        · obtain rfl : k = len2 := by omega
          clear hlt hk hr2 hG2
          go_wp2_with fail
          refine (alive6 _).mono ?_
          rintro e w4 ⟨rfl, B4⟩
          replace F := F.mod0 (Mod.of_below B4)
          have hb := rb_bound F.1
          go_wp2_with fail
          refine (allR F.1 (by omega)).mono ?_
          rintro e w5 ⟨v5, rfl, R5, H5, M5⟩
          replace F := F.mod0 M5
          go_wp2_with fail
          refine (sameR R5 F.2.1 (by omega)).mono ?_
          rintro e w6 ⟨rfl, M6⟩
          replace F := F.mod0 M6
          go_wp2_with fail
          go_ret
          exact ⟨rfl, F.below⟩
end Go.Proofs.Bo
