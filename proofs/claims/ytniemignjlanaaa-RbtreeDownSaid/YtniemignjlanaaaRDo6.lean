import Derived.Test.YtniemignjlanaaaRPut
import Derived.Test.YtniemignjlanaaaDoes6
set_option linter.unusedVariables false
namespace Go.Proofs.Bo
open Go Go.RowKit

def DoRP (w : World) (v : Value) (l : List Sg) (room : Int) (o : Op6) (e : Ending) (w' : World) : Prop := ∃ v', e = .returned (.tuple #[v', .bool (do6B o l), .int .i64 (do6E room o l)]) ∧ RowV w' v' (do6L room o l) ∧ Mod (fun _ => False) w w' ∧ Hence w v v'
theorem ret3 {P : Program} {fn : Func} {R : Ending → World → Prop} {a : Act} {W : World} {p q r : Tmp} (h : fn.results = #[.tmp p, .tmp q, .tmp r]) (hd : a.defers = [])
    (hR : R (.returned (.tuple #[a.tmps.getD p undef, a.tmps.getD q undef, a.tmps.getD r undef])) W) : bodyPost P fn R .ret a W := by
  refine bodyPost_ret (v := .tuple #[a.tmps.getD p undef, a.tmps.getD q undef, a.tmps.getD r undef]) ?_ hd hR
  simp [results, h, go_sem]

set_option maxHeartbeats 1000000 in
theorem doR {w : World} {v : Value} {l : List Sg} (h : RowV w v l) (hr : Row l) (hlen : l.length ≤ 65536) (room : Int) (o : Op6) (hf : fit64 o.s.la) :
    Calls Try.prog 28 #[v, .int .i64 room, .agg (encO6 o).toArray] w fun e w' => DoRP w v l room o e w' := by
  obtain ⟨w0, hw0, b0, M0⟩ := boxO w o
  obtain ⟨d0, e0⟩ := blkc b0
  replace h := h.keep M0
  have P1 := putR h hr hlen room o.s hf
  have P2 := hid fun w1 (M : Mod (fun _ => False) w0 w1) => delR (h.keep M) hr hlen o.s.ls o.s.la hf
  unfold DoRP do6B do6E do6L
  obtain ⟨k, ls, la, hs, ha, sv⟩ := o
  simp only [encO6, encS, ky] at *
  by_cases k0 : k = 0
  · subst k0
    simp only [if_true]
    clear P2
    go_enter Try.func28, Try.ntmps28
    go_wp2_with fail
    refine P1.mono ?_; rintro e w1 ⟨v', rfl, R1, M1, H1⟩
    go_wp2_with fail
    exact ret3 rfl rfl ⟨_, rfl, R1, M0.trans' M1, H1.mono M0.size⟩
  · rw [if_neg k0, if_neg k0, if_neg k0]
    clear P1
    by_cases k1 : k = 1
    · subst k1
      simp only [if_true]
      go_enter Try.func28, Try.ntmps28
      go_wp2_with fail
      refine (keyR ⟨ls, la, hs, ha, sv⟩ w0).mono ?_; rintro e w1 ⟨rfl, M1⟩
      go_wp2_with fail
      refine (P2.out w1 M1).mono ?_; rintro e w2 ⟨v', rfl, R1, M2, H1⟩
      go_wp2_with fail
      exact ret3 rfl rfl ⟨_, rfl, R1, (M0.trans' M1).trans' M2, H1.mono (M0.trans' M1).size⟩
    · rw [if_neg k1, if_neg k1]
      clear P2
      by_cases k2 : k = 2
      · subst k2
        simp only [if_true]
        go_enter Try.func28, Try.ntmps28
        go_wp2_with fail
        exact ret3 rfl rfl ⟨_, rfl, RowV.nil _, M0, fun k hk => by cases hk⟩
      · rw [if_neg k2]
        go_enter Try.func28, Try.ntmps28
        go_wp2_with fail
        exact ret3 rfl rfl ⟨_, rfl, h, M0, Hence.refl _ _⟩
end Go.Proofs.Bo
