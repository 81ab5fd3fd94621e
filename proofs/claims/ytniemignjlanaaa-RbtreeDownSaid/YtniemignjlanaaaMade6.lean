import Derived.Test.YtniemignjlanaaaBoth6
set_option linter.unusedVariables false
namespace Go.Proofs.Bo
open Go Go.RowKit

/-- There is none. -/
def MadeNo (w : World) (e : Ending) (w' : World) : Prop := e = .returned (.tuple #[.pointer none, .slice none 0 0, .bool false]) ∧ Below w.heap.size w w'
def MadeYes (w : World) (room : Int) (e : Ending) (w' : World) : Prop := ∃ tb v L, e = .returned (.tuple #[.pointer (some ⟨tb, 0, none⟩), v, .bool true]) ∧ BothP w w' tb room v L L

theorem madeZ_no (room : Int) (a : Option Addr) (len cap : Nat) (w : World) (hb : (room < 0 ∨ 4096 < room) ∨ 200 < len) :
    Calls Try.prog 24 #[.int .i64 room, .slice a len cap] w fun e w' => MadeNo w e w' := by
  by_cases hb' : room < 0 ∨ 4096 < room
  · clear hb
    go_enter Try.func24, Try.ntmps24
    go_wp2_with fail
    refine (newTZ_no room hb' _).mono ?_
    rintro e w1 ⟨rfl, hw⟩
    subst hw
    go_wp2_with fail
    exact ret3 rfl rfl ⟨rfl, Below.refl _ _⟩
  · have h2' : (200 : Int) < len := by omega
    have hr0 : 0 ≤ room := by omega
    have hr2 : room ≤ 4096 := by omega
    clear hb hb'
    go_enter Try.func24, Try.ntmps24
    go_wp2_with fail
    refine (fb_new hr0 hr2 _).mono ?_
    rintro e w1 ⟨tb, rfl, F1⟩
    go_wp2_with fail
    exact ret3 rfl rfl ⟨rfl, F1.below⟩

set_option maxHeartbeats 1000000 in
theorem madeZ (room : Int) (a : Option Addr) (len cap : Nat) (zs : List Op6) (w : World) (hr : RdS encO6 6 w a len zs) (hG : ∀ z ∈ zs, GOp6 z) (hr0 : 0 ≤ room) (hr2 : room ≤ 4096) (hl : len ≤ 200) :
    Calls Try.prog 24 #[.int .i64 room, .slice a len cap] w fun e w' => MadeYes w room e w' := by
  have h2' : ¬ (200 : Int) < len := by omega
  go_enter Try.func24, Try.ntmps24
  go_wp2_with fail
  refine (fb_new hr0 hr2 _).mono ?_
  rintro e w1 ⟨tb, rfl, F1⟩
  replace F1 := BothP.start F1
  go_wp2_with fail
  go_loopw [9, 33] (fun v c W => ∃ (k : Nat) (L : List Sg), k ≤ len ∧ c = .int .i64 k ∧ BothP w W tb room v L L) (fun _ c _ => (len - intOf c).toNat)
  case atStart => exact ⟨0, _, by omega, rfl, F1⟩
  case round =>
    clear F1
    obtain ⟨k, L, hk, rfl, F⟩ := hrel
    by_cases hlt : k < len
    · have hzl : k < zs.length := by rw [hr.1]; exact hlt
      obtain ⟨b, o, rfl, hc⟩ := hr.2.2 (by omega)
      obtain ⟨c0, c1, c2, c3, c4, c5⟩ := RdS.op6 hc F.below hzl
      have hg := hG zs[k] (by simp)
      generalize zs[k] = op at c0 c1 c2 c3 c4 c5 hg
      obtain ⟨W1, hW1, ho, m1⟩ := boxO wr op
      obtain ⟨d1, e1⟩ := blkc ho
      replace F := F.mod0 m1
      have hw1 := m1.size
      have P := both_do F op hg.2.2.1
      have hf := hg.2.2.1
      clear hc hr hzl hG hg
      have hob : wr.heap.size < W1.heap.size := blkl ho
      obtain ⟨q, ls, la, hs, ha, v⟩ := op
      simp only [encO6] at hW1 d1 P
      go_wp2_with fail
      refine P.mono ?_
      rintro e w2 ⟨v', rfl, F2, M2⟩
      obtain ⟨d2, e2⟩ := blkc (M2.heap ho fun h => h)
      simp only [encO6] at d2
      have P2 := both_does F2 ⟨q, ls, la, hs, ha, v⟩ hf
      simp only [encO6] at P2
      clear P d1 e1 c0 c1 c2 c3 c4 c5
      generalize do6B ⟨q, ls, la, hs, ha, v⟩ L = r1, do6E room ⟨q, ls, la, hs, ha, v⟩ L = r2, do6L room ⟨q, ls, la, hs, ha, v⟩ L = L2 at P2 F2 ⊢
      go_wp2_with fail
      refine P2.mono ?_
      rintro e w3 ⟨rfl, F3⟩
      clear P2
      go_wp2_with fail
      go_roundw
      case rel => exact ⟨k + 1, L2, by omega, by simp, F3⟩
      case measure => simp [intOf]; omega
    · obtain rfl : k = len := by omega
      clear hlt hk hr
      go_wp2_with fail
      exact ret3 rfl rfl ⟨_, _, _, rfl, F⟩
end Go.Proofs.Bo
