import Derived.Test.YtniemignjlanaaaDeep
set_option linter.unusedVariables false
namespace Go.Proofs.Bo
open Go Go.RowKit

section
variable {w w' : World} {tb ab N : Nat} {lv fv : Value} {room : Int} {free : List Int} {t : T}

theorem idx0 (x y : Int) (w : World) : (Instr.index 72 (.agg #[.int .i64 x, .int .i64 y]) (.int .i64 0)).run Try.prog w = .ok (.int .i64 x) w := by
  simp [Instr.index, asIntOf, run_underlying Try.underlying72, part, go_sem]
theorem idx1 (x y : Int) (w : World) : (Instr.index 72 (.agg #[.int .i64 x, .int .i64 y]) (.int .i64 1)).run Try.prog w = .ok (.int .i64 y) w := by
  simp [Instr.index, asIntOf, run_underlying Try.underlying72, part, go_sem]

set_option maxHeartbeats 2000000 in
set_option maxRecDepth 100000 in
theorem fineZ {c : Ctx} {k : Nat} {b : Bool} {s : Sg} {l r : T} (h : TS w tb ab lv fv room N free (plug c (.N k b s l r))) (hb : b = true → l.red = false ∧ r.red = false) :
    Calls Try.prog 56 #[.pointer (some ⟨tb, 0, none⟩), .int .i64 k] w fun e w' => e = .returned (.bool true) ∧ w' = w := by
  obtain ⟨lb, cp, rfl⟩ := h.lb (by intro e; have := toL_focus c k b s l r; rw [e] at this; simp [T.toL] at this)
  have hN := h.node
  have A := hN.at'
  have c5 := hN.c5
  have c6 := hN.c6
  clear hN
  have R := redZ h
  rw [T.ix_N, T.red_N] at R
  obtain ⟨x, hx⟩ : ∃ x, l.ix = x := ⟨_, rfl⟩
  obtain ⟨y, hy⟩ : ∃ y, r.ix = y := ⟨_, rfl⟩
  rw [hx] at c5
  rw [hy] at c6
  replace hx := hid hx
  replace hy := hid hy
  replace hb := hid hb
  have hh := h
  have x0 := idx0 x y
  have x1 := idx1 x y
  go_enter Try.func56, Try.ntmps56
  go_wp2_with fail
  refine A.mono ?_; rintro e w2 ⟨rfl, hw⟩; subst hw
  go_wp2_with fail
  go_loopw [13] (fun v W => ∃ n : Nat, n ≤ 2 ∧ v = .int .i64 n ∧ W = w2) (fun v _ => 2 - (intOf v).toNat)
  case atStart => exact ⟨0, by omega, rfl, rfl⟩
  case round =>
    obtain ⟨n, hn, rfl, hw⟩ := hrel
    subst hw
    have : n = 0 ∨ n = 1 ∨ n = 2 := by omega
    rcases this with rfl | rfl | rfl
    · clear c5 c6 A
      cases l with
      | E =>
        obtain rfl : x = -1 := hx.out.symm
        clear h R hh
        go_wp2_with fail
        go_roundw
        case rel => exact ⟨1, by omega, by first | rfl | trivial, by first | rfl | trivial⟩
        case measure => simp [intOf]
      | N j b2 s2 l2 r2 =>
        obtain ⟨j, rfl⟩ := h.nat (i := j) ((mem_plug ..).2 (.inr (by simp [T.ids])))
        obtain rfl : x = (j : Int) := hx.out.symm
        have hj0 : ((j : Int) != -1) = true := by simp
        have h2 : TS wr tb ab (.slice (some ⟨lb, 0, none⟩) N cp) fv room N free (plug (⟨false, k, b, s, r⟩ :: c) (.N j b2 s2 l2 r2)) := hh
        have hN2 := h2.node
        have A2 := hN2.at'
        have q7 := hN2.c7
        rw [cix_cons] at q7
        have R2 := redZ h2
        rw [T.ix_N, T.red_N] at R2
        have hb2 : b = true → b2 = false := fun e => (hb.out e).1
        clear hN2 h h2 hh
        cases b
        · clear hb2
          go_wp2_with fail
          refine A2.mono ?_; rintro e w3 ⟨rfl, hw⟩; subst hw
          go_wp2_with fail
          refine A2.mono ?_; rintro e w3 ⟨rfl, hw⟩; subst hw
          go_wp2_with fail
          refine R.mono ?_; rintro e w3 ⟨rfl, hw⟩; subst hw
          go_wp2_with fail
          go_roundw
          case rel => exact ⟨1, by omega, by first | rfl | trivial, by first | rfl | trivial⟩
          case measure => simp [intOf]
        · obtain rfl : b2 = false := hb2 rfl
          clear hb2
          go_wp2_with fail
          refine A2.mono ?_; rintro e w3 ⟨rfl, hw⟩; subst hw
          go_wp2_with fail
          refine A2.mono ?_; rintro e w3 ⟨rfl, hw⟩; subst hw
          go_wp2_with fail
          refine R.mono ?_; rintro e w3 ⟨rfl, hw⟩; subst hw
          go_wp2_with fail
          refine R2.mono ?_; rintro e w3 ⟨rfl, hw⟩; subst hw
          go_wp2_with fail
          go_roundw
          case rel => exact ⟨1, by omega, by first | rfl | trivial, by first | rfl | trivial⟩
          case measure => simp [intOf]
    · clear c5 c6 A
      cases r with
      | E =>
        obtain rfl : y = -1 := hy.out.symm
        clear h R hh
        go_wp2_with fail
        go_roundw
        case rel => exact ⟨2, by omega, by first | rfl | trivial, by first | rfl | trivial⟩
        case measure => simp [intOf]
      | N j b2 s2 l2 r2 =>
        obtain ⟨j, rfl⟩ := h.nat (i := j) ((mem_plug ..).2 (.inr (by simp [T.ids])))
        obtain rfl : y = (j : Int) := hy.out.symm
        have hj0 : ((j : Int) != -1) = true := by simp
        have h2 : TS wr tb ab (.slice (some ⟨lb, 0, none⟩) N cp) fv room N free (plug (⟨true, k, b, s, l⟩ :: c) (.N j b2 s2 l2 r2)) := hh
        have hN2 := h2.node
        have A2 := hN2.at'
        have q7 := hN2.c7
        rw [cix_cons] at q7
        have R2 := redZ h2
        rw [T.ix_N, T.red_N] at R2
        have hb2 : b = true → b2 = false := fun e => (hb.out e).2
        clear hN2 h h2 hh
        cases b
        · clear hb2
          go_wp2_with fail
          refine A2.mono ?_; rintro e w3 ⟨rfl, hw⟩; subst hw
          go_wp2_with fail
          refine A2.mono ?_; rintro e w3 ⟨rfl, hw⟩; subst hw
          go_wp2_with fail
          refine R.mono ?_; rintro e w3 ⟨rfl, hw⟩; subst hw
          go_wp2_with fail
          go_roundw
          case rel => exact ⟨2, by omega, by first | rfl | trivial, by first | rfl | trivial⟩
          case measure => simp [intOf]
        · obtain rfl : b2 = false := hb2 rfl
          clear hb2
          go_wp2_with fail
          refine A2.mono ?_; rintro e w3 ⟨rfl, hw⟩; subst hw
          go_wp2_with fail
          refine A2.mono ?_; rintro e w3 ⟨rfl, hw⟩; subst hw
          go_wp2_with fail
          refine R.mono ?_; rintro e w3 ⟨rfl, hw⟩; subst hw
          go_wp2_with fail
          refine R2.mono ?_; rintro e w3 ⟨rfl, hw⟩; subst hw
          go_wp2_with fail
          go_roundw
          case rel => exact ⟨2, by omega, by first | rfl | trivial, by first | rfl | trivial⟩
          case measure => simp [intOf]
    · clear h R hh A c5 c6
      go_wp2_with fail
      go_ret
      exact ⟨rfl, rfl⟩
end
end Go.Proofs.Bo
