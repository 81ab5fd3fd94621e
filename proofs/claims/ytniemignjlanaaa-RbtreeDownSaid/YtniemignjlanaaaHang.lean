import Derived.Test.YtniemignjlanaaaTM
import Derived.Test.YtniemignjlanaaaBoG
import Derived.Deep.QuietTactic
import Derived.BigQuiet
set_option linter.unusedVariables false
namespace Go.Proofs.Bo
open Go Go.RowKit

section
variable {w : World} {tb ab : Nat} {lv fv : Value} {room root : Int} {σ : List (Option Nd)} {free : List Int}

theorem TM.set' {lb n c k j : Nat} {v v' : Nd} {u : Value} (h : TM w tb ab (.slice (some ⟨lb, 0, none⟩) n c) fv room root σ free) (hp : nod σ k = some v) (hj : j < 9) (hv : encNd v' = (encNd v).set j u) :
    TM (w.setCell ⟨lb, k * 10 + j, none⟩ u) tb ab (.slice (some ⟨lb, 0, none⟩) n c) fv room root (pnod σ k v') free ∧ Mod (fun i => i = lb) w (w.setCell ⟨lb, k * 10 + j, none⟩ u) := by
  obtain ⟨k', e, hk⟩ := nod_some hp
  have : k = k' := by omega
  subst this
  exact h.setF hk hj hv

set_option maxHeartbeats 1000000 in
theorem hangT_00 (h : TM w tb ab lv fv room root σ free) (old : Int) :
    Calls Try.prog 51 #[.pointer (some ⟨tb, 0, none⟩), .int .i64 (-1), .int .i64 (-1), .int .i64 old] w fun e w' => e = .returned (.tuple #[]) ∧ TM w' tb ab lv fv room (-1) σ free ∧ Mod (fun i => i = tb ∨ Foot ab lv fv i) w w' := by
  obtain ⟨d0, e0⟩ := blkc h.t
  obtain ⟨T1, M1⟩ := h.setRoot (-1)
  go_enter Try.func51, Try.ntmps51
  go_wp2_with fail
  go_end0
  exact ⟨rfl, T1, M1.mono fun j h => .inl (.inl h)⟩

set_option maxHeartbeats 1000000 in
theorem hangT_0k (h : TM w tb ab lv fv room root σ free) (old : Int) {k : Nat} {v : Nd} (hk : σ[k]? = some (some v)) :
    Calls Try.prog 51 #[.pointer (some ⟨tb, 0, none⟩), .int .i64 k, .int .i64 (-1), .int .i64 old] w fun e w' => e = .returned (.tuple #[]) ∧ TM w' tb ab lv fv room k (pnod σ k { v with p := -1 }) free ∧ Mod (fun i => i = tb ∨ Foot ab lv fv i) w w' := by
  obtain ⟨lb, c, rfl, _, _⟩ := h.a.place (by have := (List.getElem?_eq_some_iff.1 hk).1; omega)
  obtain ⟨d0, e0⟩ := blkc h.t
  obtain ⟨T1, M1⟩ := h.setRoot k
  obtain ⟨T2, M2⟩ := T1.set' (j := 7) (u := .int .i64 (-1)) (nod_of hk) (by omega) (v' := { v with p := -1 }) rfl
  have H := atT T1 hk
  obtain ⟨c7, f7⟩ := T1.cell hk (j := 7) rfl
  have hb : ((k : Int) != -1) = true := by simp
  go_enter Try.func51, Try.ntmps51
  go_wp2_with (go_at_call 46; refine H.mono ?_; rintro e w' ⟨rfl, hw⟩; subst hw)
  go_end0
  exact ⟨rfl, T2, (M1.mono fun j h => .inl (.inl h)).trans M2 fun j h => .inl (.inr (.inr (.inl (by rw [h]; rfl))))⟩

set_option maxHeartbeats 2000000 in
theorem hangT_p0 (h : TM w tb ab lv fv room root σ free) (old : Int) {p : Nat} {np : Nd} (hp : σ[p]? = some (some np))  :
    Calls Try.prog 51 #[.pointer (some ⟨tb, 0, none⟩), .int .i64 (-1), .int .i64 p, .int .i64 old] w fun e w' => e = .returned (.tuple #[]) ∧ TM w' tb ab lv fv room root (pnod σ p (np.setKid (if np.k0 = old then 0 else 1) (-1))) free ∧ Mod (fun i => i = tb ∨ Foot ab lv fv i) w w' := by
  obtain ⟨lb, c, rfl, _, _⟩ := h.a.place (by have := (List.getElem?_eq_some_iff.1 hp).1; omega)
  have H := fun n => atT (h.drewN n) hp
  have S := fun n => sideT (h.drewN n) hp old
  have hb : ((p : Int) == -1) = false := by simp
  by_cases hs : np.k0 = old
  · simp only [hs, if_true] at S ⊢
    obtain ⟨c5, f5⟩ := h.cell hp (j := 5) rfl
    go_enter Try.func51, Try.ntmps51
    go_wp2_with fail
    refine wp_region_quiet_tail 11 (by kernel_rfl) (by kernel_rfl) ?_
    simp only [List.take_succ_cons, List.take_zero, List.drop_succ_cons, List.drop_zero]
    repeat (any_goals (first | go_big_quiet_step ((first | (go_at_call 46; exact Calls.quiet_of_same (H _)) | (go_at_call 70; exact Calls.quiet_of_same (S _)))) | quiet_step ((first | (go_at_call 46; exact Calls.quiet_of_same (H _)) | (go_at_call 70; exact Calls.quiet_of_same (S _))))))
    refine wpQuiet_nil ?_
    rintro W6 ⟨nq, rfl⟩
    obtain ⟨T1, M1⟩ := (h.drewN nq).set' (j := 5) (u := .int .i64 (-1)) (nod_of hp) (by omega) (v' := np.setKid 0 (-1)) rfl
    have M1 := M1.of_drewN
    go_wp2_with fail
    go_end0
    exact ⟨rfl, T1, M1.mono fun j h => .inl (.inr (.inr (.inl (by rw [h]; rfl))))⟩
  · simp only [hs, if_false] at S ⊢
    obtain ⟨c5, f5⟩ := h.cell hp (j := 6) rfl
    go_enter Try.func51, Try.ntmps51
    go_wp2_with fail
    refine wp_region_quiet_tail 11 (by kernel_rfl) (by kernel_rfl) ?_
    simp only [List.take_succ_cons, List.take_zero, List.drop_succ_cons, List.drop_zero]
    repeat (any_goals (first | go_big_quiet_step ((first | (go_at_call 46; exact Calls.quiet_of_same (H _)) | (go_at_call 70; exact Calls.quiet_of_same (S _)))) | quiet_step ((first | (go_at_call 46; exact Calls.quiet_of_same (H _)) | (go_at_call 70; exact Calls.quiet_of_same (S _))))))
    refine wpQuiet_nil ?_
    rintro W6 ⟨nq, rfl⟩
    obtain ⟨T1, M1⟩ := (h.drewN nq).set' (j := 6) (u := .int .i64 (-1)) (nod_of hp) (by omega) (v' := np.setKid 1 (-1)) rfl
    have M1 := M1.of_drewN
    go_wp2_with fail
    go_end0
    exact ⟨rfl, T1, M1.mono fun j h => .inl (.inr (.inr (.inl (by rw [h]; rfl))))⟩

set_option maxHeartbeats 2000000 in
theorem hangT_pk (h : TM w tb ab lv fv room root σ free) (old : Int) {p : Nat} {np : Nd} (hp : σ[p]? = some (some np)) {k : Nat} {nk : Nd} (hk : nod (pnod σ p (np.setKid (if np.k0 = old then 0 else 1) k)) k = some nk) :
    Calls Try.prog 51 #[.pointer (some ⟨tb, 0, none⟩), .int .i64 k, .int .i64 p, .int .i64 old] w fun e w' => e = .returned (.tuple #[]) ∧ TM w' tb ab lv fv room root (pnod (pnod σ p (np.setKid (if np.k0 = old then 0 else 1) k)) k { nk with p := p }) free ∧ Mod (fun i => i = tb ∨ Foot ab lv fv i) w w' := by
  obtain ⟨lb, c, rfl, _, _⟩ := h.a.place (by have := (List.getElem?_eq_some_iff.1 hp).1; omega)
  have H := fun n => atT (h.drewN n) hp
  have S := fun n => sideT (h.drewN n) hp old
  have hb : ((p : Int) == -1) = false := by simp
  have hb2 : ((k : Int) != -1) = true := by simp
  by_cases hs : np.k0 = old
  · simp only [hs, if_true] at S hk ⊢
    obtain ⟨c5, f5⟩ := h.cell hp (j := 5) rfl
    go_enter Try.func51, Try.ntmps51
    go_wp2_with fail
    refine wp_region_quiet_tail 11 (by kernel_rfl) (by kernel_rfl) ?_
    simp only [List.take_succ_cons, List.take_zero, List.drop_succ_cons, List.drop_zero]
    repeat (any_goals (first | go_big_quiet_step ((first | (go_at_call 46; exact Calls.quiet_of_same (H _)) | (go_at_call 70; exact Calls.quiet_of_same (S _)))) | quiet_step ((first | (go_at_call 46; exact Calls.quiet_of_same (H _)) | (go_at_call 70; exact Calls.quiet_of_same (S _))))))
    refine wpQuiet_nil ?_
    rintro W6 ⟨nq, rfl⟩
    obtain ⟨T1, M1⟩ := (h.drewN nq).set' (j := 5) (u := .int .i64 k) (nod_of hp) (by omega) (v' := np.setKid 0 k) rfl
    have M1 := M1.of_drewN
    obtain ⟨T2, M2⟩ := T1.set' (j := 7) (u := .int .i64 p) hk (by omega) (v' := { nk with p := p }) rfl
    obtain ⟨k', ek, hk'⟩ := nod_some hk
    have ek' : k = k' := by omega
    subst ek'
    have H2 := atT T1 hk'
    obtain ⟨c7, f7⟩ := T1.cell hk' (j := 7) rfl
    clear H S
    go_wp2_with (go_at_call 46; refine H2.mono ?_; rintro e w' ⟨rfl, hw⟩; subst hw)
    go_end0
    exact ⟨rfl, T2, (M1.mono fun j h => .inl (.inr (.inr (.inl (by rw [h]; rfl))))).trans M2 fun j h => .inl (.inr (.inr (.inl (by rw [h]; rfl))))⟩
  · simp only [hs, if_false] at S hk ⊢
    obtain ⟨c5, f5⟩ := h.cell hp (j := 6) rfl
    go_enter Try.func51, Try.ntmps51
    go_wp2_with fail
    refine wp_region_quiet_tail 11 (by kernel_rfl) (by kernel_rfl) ?_
    simp only [List.take_succ_cons, List.take_zero, List.drop_succ_cons, List.drop_zero]
    repeat (any_goals (first | go_big_quiet_step ((first | (go_at_call 46; exact Calls.quiet_of_same (H _)) | (go_at_call 70; exact Calls.quiet_of_same (S _)))) | quiet_step ((first | (go_at_call 46; exact Calls.quiet_of_same (H _)) | (go_at_call 70; exact Calls.quiet_of_same (S _))))))
    refine wpQuiet_nil ?_
    rintro W6 ⟨nq, rfl⟩
    obtain ⟨T1, M1⟩ := (h.drewN nq).set' (j := 6) (u := .int .i64 k) (nod_of hp) (by omega) (v' := np.setKid 1 k) rfl
    have M1 := M1.of_drewN
    obtain ⟨T2, M2⟩ := T1.set' (j := 7) (u := .int .i64 p) hk (by omega) (v' := { nk with p := p }) rfl
    obtain ⟨k', ek, hk'⟩ := nod_some hk
    have ek' : k = k' := by omega
    subst ek'
    have H2 := atT T1 hk'
    obtain ⟨c7, f7⟩ := T1.cell hk' (j := 7) rfl
    clear H S
    go_wp2_with (go_at_call 46; refine H2.mono ?_; rintro e w' ⟨rfl, hw⟩; subst hw)
    go_end0
    exact ⟨rfl, T2, (M1.mono fun j h => .inl (.inr (.inr (.inl (by rw [h]; rfl))))).trans M2 fun j h => .inl (.inr (.inr (.inl (by rw [h]; rfl))))⟩

/-- 'hang': whatever hangs where. -/
theorem hangT (h : TM w tb ab lv fv room root σ free) (i parent old : Int) (hi : Is1 σ i) (hp : Is1 σ parent) :
    Calls Try.prog 51 #[.pointer (some ⟨tb, 0, none⟩), .int .i64 i, .int .i64 parent, .int .i64 old] w fun e w' => e = .returned (.tuple #[]) ∧ TM w' tb ab lv fv room (hangR root i parent) (hangS σ i parent old) free ∧ Mod (fun i => i = tb ∨ Foot ab lv fv i) w w' := by
  unfold hangS hangR
  rcases hp with rfl | ⟨np, hp⟩
  · rw [modN_neg]
    rcases hi with rfl | ⟨ni, hi⟩
    · exact hangT_00 h old
    · rw [modN_some hi]
      obtain ⟨k, rfl, hk⟩ := nod_some hi
      exact hangT_0k h old hk
  · rw [modN_some hp]
    obtain ⟨p, rfl, hp'⟩ := nod_some hp
    rw [if_neg (by omega)]
    rcases hi with rfl | ⟨ni, hi⟩
    · rw [modN_neg]; exact hangT_p0 h old hp'
    · obtain ⟨k, rfl, hk⟩ := nod_some hi
      have h2 := nod_pnod (n' := hangK old k np) hp k
      split at h2
      · rw [modN_some h2]; exact hangT_pk h old hp' h2
      · rw [hi] at h2; rw [modN_some h2]; exact hangT_pk h old hp' h2
end
end Go.Proofs.Bo
