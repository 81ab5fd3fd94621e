import Derived.Test.YtmdeoeppobpjbaaArI
set_option linter.unusedVariables false
namespace Go.Proofs.Bo
open Go Go.RowKit

set_option maxHeartbeats 2000000 in
theorem alive5 (w : World) : Calls Try.prog 11 #[] w fun e w' => e = .returned (.bool true) ∧ Below w.heap.size w w' := by
  go_enter Try.func11, Try.ntmps11
  go_wp2_with fail
  refine (newB 3 (by omega) (by omega) _).mono ?_
  rintro e w1 ⟨rfl, A1, B1⟩
  go_wp2_with fail
  refine (putB A1 5 (r := ([some 5], [], 0, 0)) rfl).mono ?_
  rintro e w2 ⟨rfl, A2, B2⟩
  go_wp2_with fail
  refine (putB A2 6 (r := ([some 5, some 6], [], 1, 0)) rfl).mono ?_
  rintro e w3 ⟨rfl, A3, B3⟩
  go_wp2_with fail
  refine (freeB_yes (k := 0) A3 (v := 5) rfl).mono ?_
  rintro e w4 ⟨rfl, A4, B4⟩
  go_wp2_with fail
  refine (putB A4 7 (r := ([some 7, some 6], [], 0, 0)) rfl).mono ?_
  rintro e w5 ⟨rfl, A5, B5⟩
  go_wp2_with fail
  refine (putB A5 8 (r := ([some 7, some 6, some 8], [], 2, 0)) rfl).mono ?_
  rintro e w6 ⟨rfl, A6, B6⟩
  go_wp2_with fail
  refine (putB A6 9 (r := ([some 7, some 6, some 8], [], 0, 50)) rfl).mono ?_
  rintro e w7 ⟨rfl, A7, B7⟩
  go_wp2_with fail
  refine (getX_yes (k := 0) A7.2 (v := 7) rfl).mono ?_
  rintro e w8 ⟨rfl, hw⟩
  subst hw
  go_wp2_with fail
  refine (lenX A7.2).mono ?_
  rintro e w9 ⟨rfl, n, rfl⟩
  go_wp2_with fail
  refine (atX_no (A7.2.drewN n) 3 (by rintro k v e; obtain rfl : k = 3 := (by omega); simp)).mono ?_
  rintro e w10 ⟨rfl, rfl⟩
  go_wp2_with fail
  go_ret
  exact ⟨rfl, pw_below_drewN' ((((((B1.trans B2).trans B3).trans B4).trans B5).trans B6).trans B7) _⟩
end Go.Proofs.Bo
