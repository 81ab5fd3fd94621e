import Derived.Test.YtniemignjlanaaaRFind
import Derived.BigQuiet
set_option linter.unusedVariables false
namespace Go.Proofs.Bo
open Go Go.RowKit

set_option maxHeartbeats 1000000 in
theorem sameR {w : World} {v v' : Value} {l : List Sg} (h : RowV w v l) (h' : RowV w v' l) (hlen : l.length ≤ 65536) :
    Calls Try.prog 18 #[v, v'] w fun e w' => e = .returned (.bool true) ∧ Mod (fun _ => False) w w' := by
  obtain ⟨A, c, rfl, hA⟩ := h.slice
  obtain ⟨A', c', rfl, hA'⟩ := h'.slice
  go_enter Try.func18, Try.ntmps18
  go_wp2_with fail
  go_loopw [5] (fun i W => ∃ k : Nat, k ≤ l.length ∧ i = .int .i64 k ∧ Mod (fun _ => False) w W) (fun i _ => (l.length - intOf i).toNat)
  case atStart => exact ⟨0, by omega, rfl, Mod.refl _ _⟩
  case round =>
    obtain ⟨k, hk, rfl, M1⟩ := hrel
    by_cases hlt : k < l.length
    · obtain ⟨g, rfl⟩ := hA (by omega)
      obtain ⟨g', rfl⟩ := hA' (by omega)
      obtain ⟨c0, c1, c2, c3, c4⟩ := (h.keep M1).cells hlt
      obtain ⟨d0, d1, d2, d3, d4⟩ := (h'.keep M1).cells hlt
      have hkb : (k : Int) + 1 ≤ 65536 := by omega
      have hkl : (k : Int) < l.length := by omega
      generalize l[k] = s at c0 c1 c2 c3 c4 d0 d1 d2 d3 d4
      obtain ⟨ls, la, hs, ha, sv⟩ := s
      dsimp only at c0 c1 c2 c3 c4 d0 d1 d2 d3 d4
      clear h h'
      go_wp2_with fail
      go_quiet (fail)
      go_wp2_with fail
      go_roundw
      case rel => exact ⟨k + 1, by omega, by simp, M1.drewN _⟩
      case measure => simp [intOf]; omega
    · obtain rfl : k = l.length := by omega
      clear h h'
      go_wp2_with fail
      go_ret
      exact ⟨rfl, M1⟩
end Go.Proofs.Bo
