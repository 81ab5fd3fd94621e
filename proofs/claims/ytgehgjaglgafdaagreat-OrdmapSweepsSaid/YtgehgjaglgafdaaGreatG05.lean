import Derived.Test.YtgehgjaglgafdaaGreatG04
import Derived.Test.YtgehgjaglgafdaaGreatG01
import Derived.Test.YtgehgjaglgafdaaGreatG02
import Derived.Test.YtgehgjaglgafdaaGreatG03
set_option linter.unusedVariables false
set_option linter.unusedSimpArgs false
namespace Go.Proofs.Bo
open Go Go.RowKit
def DoRP (w : World) (v : Value) (l : List Sg) (room : Int) (o : Op6) (e : Ending) (w' : World) : Prop := ∃ v', e = .returned (.tuple #[v', .bool (do6B o l), .int .i64 (do6E room o l)]) ∧ RowV w' v' (do6L room o l) ∧ Mod (fun _ => False) w w' ∧ Hence w v v'
theorem ret3 {P : Program} {fn : Func} {R : Ending → World → Prop} {a : Act} {W : World} {p q r : Tmp} (h : fn.results = #[.tmp p, .tmp q, .tmp r]) (hd : a.defers = [])
  (hR : R (.returned (.tuple #[a.tmps.getD p undef, a.tmps.getD q undef, a.tmps.getD r undef])) W) : bodyPost P fn R .ret a W := by
 refine bodyPost_ret (v := .tuple #[a.tmps.getD p undef, a.tmps.getD q undef, a.tmps.getD r undef]) ?_ hd hR
 simp [results, h, go_sem]
set_option maxHeartbeats 1000000 in
theorem doR {w : World} {v : Value} {l : List Sg} (h : RowV w v l) (hr : Row l) (hlen : l.length ≤ 65536) (room : Int) (o : Op6) (hf : fit64 o.s.la) :
  Calls Tryz.prog 55 #[v, .int .i64 room, .agg (encO6 o).toArray] w fun e w' => DoRP w v l room o e w' := by
 obtain ⟨w0, hw0, b0, M0⟩ := boxO w o
 obtain ⟨d0, e0⟩ := blkc b0
 replace h := h.keep M0
 have P1 := putR h hr hlen room o.s hf
 have P2 := hid fun w1 (M : Mod (fun _ => False) w0 w1) => delR (h.keep M) hr hlen o.s.ls o.s.la hf
 unfold DoRP do6B do6E do6L
 obtain ⟨k, ls, la, hs, ha, sv⟩ := o
 simp only [encO6, encS, ky] at *
 by_cases k0 : k = 0
 ·subst k0
  simp only [if_true]
  clear P2
  go_enter Tryz.func55, Tryz.ntmps55
  go_wp2_with fail
  refine P1.mono ?_; rintro e w1 ⟨v', rfl, R1, M1, H1⟩
  go_wp2_with fail
  exact ret3 rfl rfl ⟨_, rfl, R1, M0.trans' M1, H1.mono M0.size⟩
 ·rw [if_neg k0, if_neg k0, if_neg k0]
  clear P1
  by_cases k1 : k = 1
  ·subst k1
   simp only [if_true]
   go_enter Tryz.func55, Tryz.ntmps55
   go_wp2_with fail
   refine (keyR ⟨ls, la, hs, ha, sv⟩ w0).mono ?_; rintro e w1 ⟨rfl, M1⟩
   go_wp2_with fail
   refine (P2.out w1 M1).mono ?_; rintro e w2 ⟨v', rfl, R1, M2, H1⟩
   go_wp2_with fail
   exact ret3 rfl rfl ⟨_, rfl, R1, (M0.trans' M1).trans' M2, H1.mono (M0.trans' M1).size⟩
  ·rw [if_neg k1, if_neg k1]
   clear P2
   by_cases k2 : k = 2
   ·subst k2
    simp only [if_true]
    go_enter Tryz.func55, Tryz.ntmps55
    go_wp2_with fail
    exact ret3 rfl rfl ⟨_, rfl, RowV.nil _, M0, fun k hk => by cases hk⟩
   ·rw [if_neg k2]
    go_enter Tryz.func55, Tryz.ntmps55
    go_wp2_with fail
    exact ret3 rfl rfl ⟨_, rfl, h, M0, Hence.refl _ _⟩
open Go Go.RowKit
theorem right8R (deg room : Int) (w : World) : Calls Tryz.prog 39 #[.int .i64 deg, .int .i64 room] w fun e w' => e = .returned (.bool (rightD deg && (decide (0 ≤ room) && decide (room ≤ 4096)))) ∧ w' = w := by
 unfold rightD
 by_cases h3 : room ≥ 0 <;> by_cases h4 : room ≤ 4096 <;> by_cases h0 : deg = 0 <;> by_cases h1 : deg ≥ 2 <;> by_cases h2 : deg ≤ 64 <;> try omega
 all_goals
  have e0 : (deg == 0) = decide (deg = 0) := by by_cases h : deg = 0 <;> simp [h]
  have e1 : decide (0 ≤ room) = decide (room ≥ 0) := rfl
  have e2 : decide (2 ≤ deg) = decide (deg ≥ 2) := rfl
  rw [e1, e2]
  simp only [h0, h1, h2, h3, h4, decide_true, decide_false, Bool.or_true, Bool.true_or, Bool.or_false, Bool.false_or, Bool.and_true, Bool.true_and, Bool.and_false, Bool.false_and] at e0 ⊢
  first | replace h3 := decide_eq_false h3 | replace h3 := decide_eq_true h3
  first | replace h4 := decide_eq_false h4 | replace h4 := decide_eq_true h4
  first | replace h1 := decide_eq_false h1 | replace h1 := decide_eq_true h1
  first | replace h2 := decide_eq_false h2 | replace h2 := decide_eq_true h2
  clear e1 e2
  try subst h0
  go_enter Tryz.func39, Tryz.ntmps39
  go_wp2_with fail
  go_ret
  exact ⟨rfl, rfl⟩
end Go.Proofs.Bo
