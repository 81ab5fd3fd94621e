import Derived.Test.YtniemignjlanaaaNext
import Derived.Test.YtniemignjlanaaaRTG
set_option linter.unusedVariables false
namespace Go.Proofs.Bo
open Go Go.RowKit

section
variable {w w' : World} {tb ab N : Nat} {lv fv : Value} {room : Int} {free : List Int} {t : T}

theorem TS.bound (h : TS w tb ab lv fv room N free t) : (t.size : Int) ≤ room ∧ room ≤ 65536 ∧ 0 ≤ room := by
  obtain ⟨root, σ, m, hh, _⟩ := h
  have := hh.count m.a.inv
  have := m.a.inv.lr
  have := m.a.inv.room1
  have := m.a.inv.room0
  omega

theorem cblk_le : ∀ c : Ctx, cblk c ≤ c.length
  | [] => Nat.le_refl _
  | a :: c => by have := cblk_le c; simp only [cblk, List.length_cons]; split <;> omega

def DeepR (w : World) (t : T) (D K : Nat) (g : Nat) (v1 v6 v7 : Value) (W : World) : Prop :=
  W = w ∧ ∃ n m : Nat, v6 = .int .i64 n ∧ v7 = .int .i64 m ∧ ((g = 0 ∧ v1 = .int .i64 (-1) ∧ n = D ∧ m = K) ∨ ∃ c1 j b s l r, g = c1.length + 1 ∧ v1 = .int .i64 j ∧ t = plug c1 (.N j b s l r) ∧ n + (c1.length + 1) = D ∧ m + (cblk c1 + nblk b) = K)

set_option maxHeartbeats 1000000 in
theorem deepZ {c : Ctx} {k : Nat} {b : Bool} {s : Sg} {l r : T} (h : TS w tb ab lv fv room N free (plug c (.N k b s l r))) :
    Calls Try.prog 57 #[.pointer (some ⟨tb, 0, none⟩), .int .i64 k] w fun e w' => e = .returned (.tuple #[.int .i64 ((c.length + 1 : Nat) : Int), .int .i64 ((cblk c + nblk b : Nat) : Int)]) ∧ w' = w := by
  have hbd : c.length + 1 ≤ 65536 := by
    have := h.bound; have := size_plug_le c (.N k b s l r); simp only [T.size] at this; omega
  obtain ⟨t, ht⟩ : ∃ t, plug c (.N k b s l r) = t := ⟨_, rfl⟩
  have hK := cblk_le c
  obtain ⟨D, hD⟩ : ∃ D, c.length + 1 = D := ⟨_, rfl⟩
  obtain ⟨K, hKK⟩ : ∃ K, cblk c + nblk b = K := ⟨_, rfl⟩
  have hKb : K ≤ 65536 := by rw [← hKK]; unfold nblk; split <;> omega
  rw [ht] at h
  rw [hD, hKK]
  rw [hD] at hbd
  replace hD := hid hD
  replace hKK := hid hKK
  replace ht := hid ht
  clear hK
  go_enter Try.func57, Try.ntmps57
  go_wp2_with fail
  go_loopg [1, 6, 7] (c.length + 1) (fun g v1 v6 v7 W => DeepR w t D K g v1 v6 v7 W)
  case atStart => exact ⟨rfl, 0, 0, rfl, rfl, .inr ⟨c, k, b, s, l, r, rfl, rfl, ht.out.symm, by have := hD.out; omega, by have := hKK.out; omega⟩⟩
  case round =>
    clear hD hKK ht
    obtain ⟨hw, n, m, rfl, rfl, ⟨hg, rfl, rfl, rfl⟩ | ⟨c1, j, b1, s1, l1, r1, hg, rfl, rfl, hn, hm⟩⟩ := hrel
    · subst hw
      clear h
      replace hg := hid hg
      go_wp2_with fail
      go_ret2
      exact ⟨rfl, rfl⟩
    · subst hw
      replace hg := hid hg
      have hn0 : (0 : Int) ≤ n ∧ (n : Int) < 65536 := by omega
      have hm0 : (0 : Int) ≤ m ∧ (m : Int) ≤ 65536 := by omega
      replace hn := hid hn
      replace hm := hid hm
      obtain ⟨j, rfl⟩ := h.nat (i := j) ((mem_plug ..).2 (.inr (by simp [T.ids])))
      obtain ⟨lb, hN⟩ := h.node'
      have A := hN.at'
      have c7 := hN.c7
      have R := redZ h
      rw [T.ix_N, T.red_N] at R
      have hj0 : ((j : Int) != -1) = true := by simp
      clear hN c
      obtain ⟨pc, hpc⟩ : ∃ pc, cix c1 = pc := ⟨_, rfl⟩
      rw [hpc] at c7
      replace hpc := hid hpc
      have hnext : ∀ m', m' = m + nblk b1 → ∃ g', g' < gk ∧ DeepR wr (plug c1 (.N j b1 s1 l1 r1)) D K g' (.int .i64 pc) (.int .i64 ((n + 1 : Nat) : Int)) (.int .i64 (m' : Nat)) wr := by
        rintro m' rfl
        have hn := hn.out
        have hm := hm.out
        have hpc := hpc.out
        cases c1 with
        | nil => exact ⟨0, by rw [hg.out]; omega, rfl, _, _, rfl, rfl, .inl ⟨rfl, by rw [← hpc]; rfl, by simpa using hn, by simp only [cblk] at hm; omega⟩⟩
        | cons a c2 =>
          refine ⟨c2.length + 1, by rw [hg.out]; simp, rfl, _, _, rfl, rfl, .inr ?_⟩
          obtain ⟨ad, p, ared, sa, ao⟩ := a
          simp only [cblk, List.length_cons] at hn hm
          have hmk : ∃ x y, T.mk ad p ared sa (.N j b1 s1 l1 r1) ao = .N p ared sa x y := by cases ad <;> exact ⟨_, _, rfl⟩
          obtain ⟨x, y, hxy⟩ := hmk
          refine ⟨c2, p, ared, sa, x, y, rfl, by rw [← hpc]; rfl, by rw [← hxy]; rfl, by omega, by unfold nblk at *; omega⟩
      replace hnext := hid hnext
      clear h
      cases b1
      · go_wp2_with fail
        refine R.mono ?_; rintro e w2 ⟨rfl, hw⟩; subst hw
        go_wp2_with fail
        refine A.mono ?_; rintro e w2 ⟨rfl, hw⟩; subst hw
        go_wp2_with fail
        obtain ⟨g', hg', hR⟩ := hnext.out (m + 1) rfl
        go_roundg g'
        case measure => exact hg'
        case rel => simpa using hR
      · go_wp2_with fail
        refine R.mono ?_; rintro e w2 ⟨rfl, hw⟩; subst hw
        go_wp2_with fail
        refine A.mono ?_; rintro e w2 ⟨rfl, hw⟩; subst hw
        go_wp2_with fail
        obtain ⟨g', hg', hR⟩ := hnext.out m rfl
        go_roundg g'
        case measure => exact hg'
        case rel => simpa using hR
end
end Go.Proofs.Bo
