import Derived.Test.YtofgoehkahcajaaGreatRPut
import Derived.Test.YtofgoehkahcajaaGreatBoG
import Derived.Test.YtofgoehkahcajaaGreatRFind
import Derived.BigQuiet
set_option linter.unusedVariables false
set_option linter.unusedSimpArgs false
namespace Go.Proofs.Bo
open Go Go.RowKit

def DoRP (w : World) (v : Value) (l : List Sg) (room : Int) (o : Op6) (e : Ending) (w' : World) : Prop := ∃ v', e = .returned (.tuple #[v', .bool (do6B o l), .int .i64 (do6E room o l)]) ∧ RowV w' v' (do6L room o l) ∧ Mod (fun _ => False) w w' ∧ Hence w v v'
theorem ret3 {P : Program} {fn : Func} {R : Ending → World → Prop} {a : Act} {W : World} {p q r : Tmp} (h : fn.results = #[.tmp p, .tmp q, .tmp r]) (hd : a.defers = [])
    (hR : R (.returned (.tuple #[a.tmps.getD p undef, a.tmps.getD q undef, a.tmps.getD r undef])) W) : bodyPost P fn R .ret a W := by
  refine bodyPost_ret (v := .tuple #[a.tmps.getD p undef, a.tmps.getD q undef, a.tmps.getD r undef]) ?_ hd hR
  simp [results, h, go_sem]

set_option maxHeartbeats 1000000 in
theorem doR {w : World} {v : Value} {l : List Sg} (h : RowV w v l) (hr : Row l) (hlen : l.length ≤ 65536) (room : Int) (o : Op6) (hf : fit64 o.s.la) :
    Calls Tryz.prog 18 #[v, .int .i64 room, .agg (encO6 o).toArray] w fun e w' => DoRP w v l room o e w' := by
  obtain ⟨w0, hw0, b0, M0⟩ := boxO w o
  obtain ⟨d0, e0⟩ := blkc b0
  replace h := h.keep M0
  have P1 := putR h hr hlen room o.s hf
  have P2 := hid fun w1 (M : Mod (fun _ => False) w0 w1) => delR (h.keep M) hr hlen o.s.ls o.s.la hf
  unfold DoRP do6B do6E do6L
  obtain ⟨k, ls, la, hs, ha, sv⟩ := o
  simp only [encO6, encS, ky] at *
  by_cases k0 : k = 0
  · subst k0
    simp only [if_true]
    clear P2
    go_enter Tryz.func18, Tryz.ntmps18
    go_wp2_with fail
    refine P1.mono ?_; rintro e w1 ⟨v', rfl, R1, M1, H1⟩
    go_wp2_with fail
    exact ret3 rfl rfl ⟨_, rfl, R1, M0.trans' M1, H1.mono M0.size⟩
  · rw [if_neg k0, if_neg k0, if_neg k0]
    clear P1
    by_cases k1 : k = 1
    · subst k1
      simp only [if_true]
      go_enter Tryz.func18, Tryz.ntmps18
      go_wp2_with fail
      refine (keyR ⟨ls, la, hs, ha, sv⟩ w0).mono ?_; rintro e w1 ⟨rfl, M1⟩
      go_wp2_with fail
      refine (P2.out w1 M1).mono ?_; rintro e w2 ⟨v', rfl, R1, M2, H1⟩
      go_wp2_with fail
      exact ret3 rfl rfl ⟨_, rfl, R1, (M0.trans' M1).trans' M2, H1.mono (M0.trans' M1).size⟩
    · rw [if_neg k1, if_neg k1]
      clear P2
      by_cases k2 : k = 2
      · subst k2
        simp only [if_true]
        go_enter Tryz.func18, Tryz.ntmps18
        go_wp2_with fail
        exact ret3 rfl rfl ⟨_, rfl, RowV.nil _, M0, fun k hk => by cases hk⟩
      · rw [if_neg k2]
        go_enter Tryz.func18, Tryz.ntmps18
        go_wp2_with fail
        exact ret3 rfl rfl ⟨_, rfl, h, M0, Hence.refl _ _⟩
end Go.Proofs.Bo
set_option linter.unusedVariables false
set_option linter.unusedSimpArgs false
namespace Go.Proofs.Bo
open Go Go.RowKit

set_option maxHeartbeats 1000000 in
theorem sameR {w : World} {v v' : Value} {l : List Sg} (h : RowV w v l) (h' : RowV w v' l) (hlen : l.length ≤ 65536) :
    Calls Tryz.prog 15 #[v, v'] w fun e w' => e = .returned (.bool true) ∧ Mod (fun _ => False) w w' := by
  obtain ⟨A, c, rfl, hA⟩ := h.slice
  obtain ⟨A', c', rfl, hA'⟩ := h'.slice
  go_enter Tryz.func15, Tryz.ntmps15
  go_wp2_with fail
  go_loopw [5] (fun i W => ∃ k : Nat, k ≤ l.length ∧ i = .int .i64 k ∧ Mod (fun _ => False) w W) (fun i _ => (l.length - intOf i).toNat)
  case atStart => exact ⟨0, by omega, rfl, Mod.refl _ _⟩
  case round =>
    obtain ⟨k, hk, rfl, M1⟩ := hrel
    by_cases hlt : k < l.length
    · obtain ⟨g, rfl⟩ := hA (by omega)
      obtain ⟨g', rfl⟩ := hA' (by omega)
      obtain ⟨c0, c1, c2, c3, c4⟩ := (h.keep M1).cells hlt
      obtain ⟨d0, d1, d2, d3, d4⟩ := (h'.keep M1).cells hlt
      have hkb : (k : Int) + 1 ≤ 65536 := by omega
      have hkl : (k : Int) < l.length := by omega
      generalize l[k] = s at c0 c1 c2 c3 c4 d0 d1 d2 d3 d4
      obtain ⟨ls, la, hs, ha, sv⟩ := s
      dsimp only at c0 c1 c2 c3 c4 d0 d1 d2 d3 d4
      clear h h'
      go_wp2_with fail
      go_quiet (fail)
      go_wp2_with fail
      go_roundw
      case rel => exact ⟨k + 1, by omega, by simp, M1.drewN _⟩
      case measure => simp [intOf]; omega
    · obtain rfl : k = l.length := by omega
      clear h h'
      go_wp2_with fail
      go_ret
      exact ⟨rfl, M1⟩
end Go.Proofs.Bo
