import Derived.Test.YtofgoehkahcajaaGreatBoG
import Derived.Test.YtofgoehkahcajaaGreatProg
import Derived.Deep.RegionHeld3
import Derived.Deep.RegionWith
import Derived.Deep.DeepCutAuto
import Derived.BigQuiet
set_option linter.unusedVariables false
set_option linter.unusedSimpArgs false
namespace Go.Proofs.Bo
open Go Go.RowKit

theorem nanZ (x : Int) (w : World) : Calls Tryz.prog 105 #[.int .i64 x] w fun e w' => e = .returned (.bool false) ∧ w' = w := by
  go_enter Tryz.func105, Tryz.ntmps105
  go_wp2
  go_ret
  exact ⟨by simp, rfl⟩
theorem nan64Z (x : Int) (w : World) : Calls Tryz.prog 106 #[.int .i64 x] w fun e w' => e = .returned (.bool false) ∧ w' = w := by
  go_enter Tryz.func106, Tryz.ntmps106
  go_wp2
  go_ret
  exact ⟨by simp, rfl⟩
theorem cmpIZ (x y : Int) (w : World) : Calls Tryz.prog 96 #[.int .i64 x, .int .i64 y] w fun e w' => e = .returned (.int .i64 (cmpI x y)) ∧ w' = w := by
  have H1 := nanZ x w
  have H2 := nanZ y w
  rcases Int.lt_trichotomy x y with h | h | h
  · rw [show cmpI x y = -1 by unfold cmpI; rw [if_pos h]]
    go_enter Tryz.func96, Tryz.ntmps96
    go_wp2_with fail
    refine H1.mono ?_; rintro e w' ⟨rfl, hw⟩; subst hw
    go_wp2_with fail
    refine H2.mono ?_; rintro e w' ⟨rfl, hw⟩; subst hw
    go_wp2_with fail
    go_ret
    exact ⟨rfl, rfl⟩
  · subst h
    rw [show cmpI x x = 0 by unfold cmpI; simp]
    go_enter Tryz.func96, Tryz.ntmps96
    go_wp2_with fail
    refine H1.mono ?_; rintro e w' ⟨rfl, hw⟩; subst hw
    go_wp2_with fail
    refine H2.mono ?_; rintro e w' ⟨rfl, hw⟩; subst hw
    go_wp2_with fail
    go_ret
    exact ⟨rfl, rfl⟩
  · rw [show cmpI x y = 1 by unfold cmpI; rw [if_neg (by omega), if_pos h]]
    have h' : ¬ x < y := by omega
    go_enter Tryz.func96, Tryz.ntmps96
    go_wp2_with fail
    refine H1.mono ?_; rintro e w' ⟨rfl, hw⟩; subst hw
    go_wp2_with fail
    refine H2.mono ?_; rintro e w' ⟨rfl, hw⟩; subst hw
    go_wp2_with fail
    go_ret
    exact ⟨rfl, rfl⟩
theorem cmpLZ (x y : Int) (w : World) : Calls Tryz.prog 97 #[.int .i64 x, .int .i64 y] w fun e w' => e = .returned (.int .i64 (cmpI x y)) ∧ w' = w := by
  have H1 := nan64Z x w
  have H2 := nan64Z y w
  rcases Int.lt_trichotomy x y with h | h | h
  · rw [show cmpI x y = -1 by unfold cmpI; rw [if_pos h]]
    go_enter Tryz.func97, Tryz.ntmps97
    go_wp2_with fail
    refine H1.mono ?_; rintro e w' ⟨rfl, hw⟩; subst hw
    go_wp2_with fail
    refine H2.mono ?_; rintro e w' ⟨rfl, hw⟩; subst hw
    go_wp2_with fail
    go_ret
    exact ⟨rfl, rfl⟩
  · subst h
    rw [show cmpI x x = 0 by unfold cmpI; simp]
    go_enter Tryz.func97, Tryz.ntmps97
    go_wp2_with fail
    refine H1.mono ?_; rintro e w' ⟨rfl, hw⟩; subst hw
    go_wp2_with fail
    refine H2.mono ?_; rintro e w' ⟨rfl, hw⟩; subst hw
    go_wp2_with fail
    go_ret
    exact ⟨rfl, rfl⟩
  · rw [show cmpI x y = 1 by unfold cmpI; rw [if_neg (by omega), if_pos h]]
    have h' : ¬ x < y := by omega
    go_enter Tryz.func97, Tryz.ntmps97
    go_wp2_with fail
    refine H1.mono ?_; rintro e w' ⟨rfl, hw⟩; subst hw
    go_wp2_with fail
    refine H2.mono ?_; rintro e w' ⟨rfl, hw⟩; subst hw
    go_wp2_with fail
    go_ret
    exact ⟨rfl, rfl⟩

theorem firstZ (w : World) : Calls Tryz.prog 69 #[] w fun e w' => e = .returned (.agg #[.int .i64 (-1), .int .i64 0]) ∧ Mod (fun _ => False) w w' := by
  go_enter Tryz.func69, Tryz.ntmps69
  go_wp2
  exact ret_row w.heap.size [.int .i64 (-1), .int .i64 0] rfl rfl (alloc_0 _ _) Tryz.underlying26 rfl (by kernel_rfl) rfl ⟨rfl, (Mod.refl _ _).alloc _⟩
theorem lastZ (w : World) : Calls Tryz.prog 29 #[] w fun e w' => e = .returned (.agg #[.int .i64 1, .int .i64 0]) ∧ Mod (fun _ => False) w w' := by
  go_enter Tryz.func29, Tryz.ntmps29
  go_wp2
  exact ret_row w.heap.size [.int .i64 1, .int .i64 0] rfl rfl (alloc_0 _ _) Tryz.underlying26 rfl (by kernel_rfl) rfl ⟨rfl, (Mod.refl _ _).alloc _⟩

/-- Two blocks of a call's own: one that came in, one for the result. -/
theorem box2 (w : World) (x y u v : Value) (t t' : TypeId) : ∃ w0, (w.alloc (.cells #[x, y] t)).alloc (.cells #[u, v] t') = w0 ∧ w0.heap[w.heap.size]? = some (.cells #[x, y] t (0, 0)) ∧ w0.heap[w.heap.size + 1]? = some (.cells #[u, v] t' (0, 0)) ∧ Mod (fun _ => False) w w0 :=
  ⟨_, rfl, alloc2_0 _ _ _, alloc2_1 _ _ _, ((Mod.refl _ _).alloc _).alloc _⟩

set_option maxHeartbeats 1000000 in
theorem canonZ (s a : Int) (w : World) : Calls Tryz.prog 34 #[.agg #[.int .i64 s, .int .i64 a]] w fun e w' => e = .returned (.agg #[.int .i64 (canS s a), .int .i64 (canA s a)]) ∧ Mod (fun _ => False) w w' := by
  obtain ⟨w0, hw0, b0, b1, M0⟩ := box2 w (.int .i64 s) (.int .i64 a) (.int .i64 0) (.int .i64 0) 26 26
  obtain ⟨d0, e0⟩ := blkc b0
  obtain ⟨d1, e1⟩ := blkc b1
  by_cases h1 : s < 0 ∨ (s = 0 ∧ a = least64)
  · rw [show canS s a = -1 by unfold canS; rw [if_pos h1], show canA s a = 0 by unfold canA; rw [if_pos h1]]
    have H := firstZ w0
    have fin : ∀ w', Mod (fun _ => False) w0 w' → ((w'.setCell ⟨w.heap.size + 1, 0, none⟩ (.int .i64 (-1))).setCell ⟨w.heap.size + 1, 1, none⟩ (.int .i64 0)).heap[w.heap.size + 1]? = some (.cells #[.int .i64 (-1), .int .i64 0] 26 (0, 0)) :=
      fun w' M => setL_whole (cs := [.int .i64 0, .int .i64 0]) (us := [.int .i64 (-1), .int .i64 0]) (M.heap b1 fun h => h) rfl
    replace fin := hid fin
    rcases h1 with h1 | ⟨rfl, rfl⟩
    · go_enter Tryz.func34, Tryz.ntmps34
      go_wp2_with fail
      refine H.mono ?_; rintro e w' ⟨rfl, M1⟩
      obtain ⟨d2, e2⟩ := blkc (M1.heap b1 fun h => h)
      go_wp2_with fail
      exact ret_row (w.heap.size + 1) [.int .i64 (-1), .int .i64 0] rfl rfl (fin.out _ M1) Tryz.underlying26 rfl (by kernel_rfl) rfl ⟨rfl, ((M0.trans' M1).setCell (.inr (by simp)) _).setCell (.inr (by simp)) _⟩
    · unfold least64 at hw0 d0 ⊢
      go_enter Tryz.func34, Tryz.ntmps34
      go_wp2_with fail
      refine H.mono ?_; rintro e w' ⟨rfl, M1⟩
      obtain ⟨d2, e2⟩ := blkc (M1.heap b1 fun h => h)
      go_wp2_with fail
      exact ret_row (w.heap.size + 1) [.int .i64 (-1), .int .i64 0] rfl rfl (fin.out _ M1) Tryz.underlying26 rfl (by kernel_rfl) rfl ⟨rfl, ((M0.trans' M1).setCell (.inr (by simp)) _).setCell (.inr (by simp)) _⟩
  · by_cases h2 : 0 < s
    · rw [show canS s a = 1 by unfold canS; rw [if_neg h1, if_pos h2], show canA s a = 0 by unfold canA; rw [if_neg h1, if_pos h2]]
      have H := lastZ w0
      have fin : ∀ w', Mod (fun _ => False) w0 w' → ((w'.setCell ⟨w.heap.size + 1, 0, none⟩ (.int .i64 1)).setCell ⟨w.heap.size + 1, 1, none⟩ (.int .i64 0)).heap[w.heap.size + 1]? = some (.cells #[.int .i64 1, .int .i64 0] 26 (0, 0)) :=
        fun w' M => setL_whole (cs := [.int .i64 0, .int .i64 0]) (us := [.int .i64 1, .int .i64 0]) (M.heap b1 fun h => h) rfl
      replace fin := hid fin
      have h3 : ¬ s < 0 := by omega
      have h4 : ¬ s = 0 := by omega
      have h5 : (s == 0) = false := by simpa using h4
      clear h1
      go_enter Tryz.func34, Tryz.ntmps34
      go_wp2_with fail
      refine H.mono ?_; rintro e w' ⟨rfl, M1⟩
      obtain ⟨d2, e2⟩ := blkc (M1.heap b1 fun h => h)
      go_wp2_with fail
      exact ret_row (w.heap.size + 1) [.int .i64 1, .int .i64 0] rfl rfl (fin.out _ M1) Tryz.underlying26 rfl (by kernel_rfl) rfl ⟨rfl, ((M0.trans' M1).setCell (.inr (by simp)) _).setCell (.inr (by simp)) _⟩
    · obtain rfl : s = 0 := by omega
      have h3 : ¬ a = least64 := fun e => h1 (.inr ⟨rfl, e⟩)
      rw [show canS 0 a = 0 by unfold canS; rw [if_neg h1, if_neg h2], show canA 0 a = a by unfold canA; rw [if_neg h1, if_neg h2]]
      have fin : ((w0.setCell ⟨w.heap.size + 1, 0, none⟩ (.int .i64 0)).setCell ⟨w.heap.size + 1, 1, none⟩ (.int .i64 a)).heap[w.heap.size + 1]? = some (.cells #[.int .i64 0, .int .i64 a] 26 (0, 0)) :=
        setL_whole (cs := [.int .i64 0, .int .i64 0]) (us := [.int .i64 0, .int .i64 a]) b1 rfl
      replace fin := hid fin
      unfold least64 at h3
      have h5 : (a == -9223372036854775808) = false := by simpa using h3
      clear h1 h2
      go_enter Tryz.func34, Tryz.ntmps34
      go_wp2_with fail
      exact ret_row (w.heap.size + 1) [.int .i64 0, .int .i64 a] rfl rfl fin.out Tryz.underlying26 rfl (by kernel_rfl) rfl ⟨rfl, (M0.setCell (.inr (by simp)) _).setCell (.inr (by simp)) _⟩

set_option maxHeartbeats 1000000 in
theorem rightZ (s a : Int) (w : World) : Calls Tryz.prog 28 #[.agg #[.int .i64 s, .int .i64 a]] w fun e w' => e = .returned (.bool (decide (canS s a = s ∧ canA s a = a))) ∧ Mod (fun _ => False) w w' := by
  have b0 := alloc_0 w (.cells #[.int .i64 s, .int .i64 a] 26)
  have M0 : Mod (fun _ => False) w (w.alloc (.cells #[.int .i64 s, .int .i64 a] 26)) := (Mod.refl _ _).alloc _
  obtain ⟨w0, hw0⟩ : ∃ w0, w.alloc (.cells #[.int .i64 s, .int .i64 a] 26) = w0 := ⟨_, rfl⟩
  rw [hw0] at b0 M0
  obtain ⟨d0, e0⟩ := blkc b0
  obtain ⟨s', hs⟩ : ∃ s', canS s a = s' := ⟨_, rfl⟩
  obtain ⟨a', ha⟩ : ∃ a', canA s a = a' := ⟨_, rfl⟩
  have CZ := fun w => canonZ s a w
  rw [hs, ha] at CZ ⊢
  clear hs ha
  by_cases h1 : s' = s
  · subst h1
    by_cases h2 : a' = a
    · subst h2
      go_enter Tryz.func28, Tryz.ntmps28
      go_wp2_with fail
      go_region_held3 (fun w' => w'.cell? ⟨w.heap.size, 0, none⟩ = some (.int .i64 s') ∧ w'.cell? ⟨w.heap.size, 1, none⟩ = some (.int .i64 a')) (first | exact ⟨d1 0, d1 1⟩ | exact ⟨d0 0, d0 1⟩)
        (first
        | (go_at_call 34; refine (CZ _).mono ?_; rintro e w1 ⟨rfl, M1⟩; replace M1 := M1.of_drew; obtain ⟨d1, e1⟩ := blkc (M1.heap b0 fun h => h)))
      go_wp2_with fail
      go_ret
      exact ⟨by simp, M0.trans' M1⟩
    · have h3 : (a' == a) = false := by simpa using h2
      go_enter Tryz.func28, Tryz.ntmps28
      go_wp2_with fail
      go_region_held3 (fun w' => w'.cell? ⟨w.heap.size, 0, none⟩ = some (.int .i64 s') ∧ w'.cell? ⟨w.heap.size, 1, none⟩ = some (.int .i64 a)) (first | exact ⟨d1 0, d1 1⟩ | exact ⟨d0 0, d0 1⟩)
        (first
        | (go_at_call 34; refine (CZ _).mono ?_; rintro e w1 ⟨rfl, M1⟩; replace M1 := M1.of_drew; obtain ⟨d1, e1⟩ := blkc (M1.heap b0 fun h => h)))
      go_wp2_with fail
      go_ret
      exact ⟨by simp [h2], M0.trans' M1⟩
  · have h3 : (s' == s) = false := by simpa using h1
    go_enter Tryz.func28, Tryz.ntmps28
    go_wp2_with fail
    go_region_held3 (fun w' => w'.cell? ⟨w.heap.size, 0, none⟩ = some (.int .i64 s) ∧ w'.cell? ⟨w.heap.size, 1, none⟩ = some (.int .i64 a)) (first | exact ⟨d1 0, d1 1⟩ | exact ⟨d0 0, d0 1⟩)
      (first
      | (go_at_call 34; refine (CZ _).mono ?_; rintro e w1 ⟨rfl, M1⟩; replace M1 := M1.of_drew; obtain ⟨d1, e1⟩ := blkc (M1.heap b0 fun h => h)))
    go_wp2_with fail
    go_ret
    exact ⟨by simp [h1], M0.trans' M1⟩

theorem orZ (x y : Int) (w : World) (g : Nat) (t : TypeId) (h : w.heap[g]? = some (.cells #[.int .i64 x, .int .i64 y] t (0, 0))) :
    Calls Tryz.prog 95 #[.slice (some ⟨g, 0, none⟩) 2 2] w fun e w' => e = .returned (.int .i64 (orI x y)) ∧ w' = w := by
  obtain ⟨d0, e0⟩ := blkc h
  have d00 := d0 0
  have d01 := d0 1
  clear h d0
  by_cases hx : x = 0
  · subst hx
    by_cases hy : y = 0
    · subst hy
      go_enter Tryz.func95, Tryz.ntmps95
      go_wp2_with fail
      go_loop [8] (fun k => ∃ n : Nat, n ≤ 2 ∧ k = .int .i64 n) (fun k => 2 - (intOf k).toNat)
      case atStart => exact ⟨0, by omega, rfl⟩
      case round =>
        obtain ⟨n, hn, rfl⟩ := hrel
        have : n = 0 ∨ n = 1 ∨ n = 2 := by omega
        rcases this with rfl | rfl | rfl
        · go_wp2_with fail
          go_round
          case rel => exact ⟨1, by omega, rfl⟩
          case measure => simp [intOf]
        · go_wp2_with fail
          go_round
          case rel => exact ⟨2, by omega, rfl⟩
          case measure => simp [intOf]
        · go_wp2_with fail
          go_ret
          exact ⟨rfl, rfl⟩
    · rw [show orI 0 y = y by simp [orI]]
      have hy' : (y != 0) = true := by simpa using hy
      go_enter Tryz.func95, Tryz.ntmps95
      go_wp2_with fail
      go_loop [8] (fun k => ∃ n : Nat, n ≤ 1 ∧ k = .int .i64 n) (fun k => 2 - (intOf k).toNat)
      case atStart => exact ⟨0, by omega, rfl⟩
      case round =>
        obtain ⟨n, hn, rfl⟩ := hrel
        have : n = 0 ∨ n = 1 := by omega
        rcases this with rfl | rfl
        · go_wp2_with fail
          go_round
          case rel => exact ⟨1, by omega, rfl⟩
          case measure => simp [intOf]
        · go_wp2_with fail
          go_ret
          exact ⟨rfl, rfl⟩
  · rw [show orI x y = x by simp [orI, hx]]
    have hx' : (x != 0) = true := by simpa using hx
    go_enter Tryz.func95, Tryz.ntmps95
    go_wp2_with fail
    go_loop [8] (fun k => k = .int .i64 0) (fun k => 2 - (intOf k).toNat)
    case atStart => rfl
    case round =>
      obtain rfl := hrel
      go_wp2_with fail
      go_ret
      exact ⟨rfl, rfl⟩

/-- Two pairs are stored. -/
theorem store22 {w W : World} {g : Nat} {x y u v p q p' q' : Value} {t t' : TypeId} (b0 : W.heap[g]? = some (.cells #[x, y] t (0, 0))) (b1 : W.heap[g + 1]? = some (.cells #[u, v] t' (0, 0))) (hg : w.heap.size ≤ g) (M : Mod (fun _ => False) w W) :
    (fun W' : World => W'.heap[g]? = some (.cells #[p, q] t (0, 0)) ∧ W'.heap[g + 1]? = some (.cells #[p', q'] t' (0, 0)) ∧ Mod (fun _ => False) w W') ((((W.setCell ⟨g, 0, none⟩ p).setCell ⟨g, 1, none⟩ q).setCell ⟨g + 1, 0, none⟩ p').setCell ⟨g + 1, 1, none⟩ q') := by
  refine ⟨?_, ?_, ?_⟩
  · rw [heap_set_ne (by simp), heap_set_ne (by simp)]
    exact setL_whole (cs := [x, y]) (us := [p, q]) b0 rfl
  · refine setL_whole (cs := [u, v]) (us := [p', q']) ?_ rfl
    rw [heap_set_ne (by simp), heap_set_ne (by simp)]; exact b1
  · exact (((M.setCell (.inr hg) _).setCell (.inr hg) _).setCell (.inr (by simp; omega)) _).setCell (.inr (by simp; omega)) _

set_option maxHeartbeats 1000000 in
theorem compareZ {s a s' a' : Int} (hf : fit64 a) (hf' : fit64 a') (w : World) : Calls Tryz.prog 63 #[.agg #[.int .i64 s, .int .i64 a], .agg #[.int .i64 s', .int .i64 a']] w fun e w' => e = .returned (.int .i64 (cmpI (kx s a) (kx s' a'))) ∧ Mod (fun _ => False) w w' := by
  rw [can_lex hf hf']
  obtain ⟨w0, hw0, b0, b1, M0⟩ := box2 w (.int .i64 s) (.int .i64 a) (.int .i64 s') (.int .i64 a') 26 26
  obtain ⟨d0, e0⟩ := blkc b0
  obtain ⟨d1, e1⟩ := blkc b1
  have HC := hid (fun (w1 : World) => canonZ s a w1)
  have HD := hid (fun (w1 : World) => canonZ s' a' w1)
  generalize canS s a = p, canA s a = q, canS s' a' = p', canA s' a' = q' at HC HD ⊢
  have HC := hid (fun (w1 : World) (M : Mod (fun _ => False) w0 w1) => (HC.out w1).mono fun e w' ⟨h1, M2⟩ => (⟨h1, M.trans' M2⟩ : e = Ending.returned (.agg #[.int .i64 p, .int .i64 q]) ∧ Mod (fun _ => False) w0 w'))
  have HD := hid (fun (w1 : World) (M : Mod (fun _ => False) w0 w1) => (HD.out w1).mono fun e w' ⟨h1, M2⟩ => (⟨h1, M.trans' M2⟩ : e = Ending.returned (.agg #[.int .i64 p', .int .i64 q']) ∧ Mod (fun _ => False) w0 w'))
  have HB := hid (fun (w1 : World) (M : Mod (fun _ => False) w0 w1) => And.intro (blkc (M.heap b0 fun h => h)) (blkc (M.heap b1 fun h => h)))
  have HE := hid (fun (w1 : World) (M : Mod (fun _ => False) w0 w1) => store22 (p := .int .i64 p) (q := .int .i64 q) (p' := .int .i64 p') (q' := .int .i64 q') (M.heap b0 fun h => h) (M.heap b1 fun h => h) (Nat.le_refl _) (M0.trans' M))
  have ME : Mod (fun _ => False) w0 w0.drew := (Mod.refl _ _).drew
  go_enter Tryz.func63, Tryz.ntmps63
  go_upto_region 1 with fail
  go_cut [] (fun W => W.heap[w.heap.size]? = some (.cells #[.int .i64 p, .int .i64 q] 26 (0, 0)) ∧ W.heap[w.heap.size + 1]? = some (.cells #[.int .i64 p', .int .i64 q'] 26 (0, 0)) ∧ Mod (fun _ => False) w W)
  case first =>
    go_region_with (first
      | (go_at_call_of 34 (Value.agg #[.int .i64 s, .int .i64 a]); refine (HC.out _ (by assumption)).mono ?_; rintro e w1 ⟨rfl, M1⟩; obtain ⟨⟨d2, e2⟩, d4, e4⟩ := HB.out _ M1)
      | (go_at_call_of 34 (Value.agg #[.int .i64 s', .int .i64 a']); refine (HD.out _ (by assumption)).mono ?_; rintro e w2 ⟨rfl, M2⟩; obtain ⟨⟨d3, e3⟩, d5, e5⟩ := HB.out _ M2))
    all_goals go_wp2_with fail
    all_goals go_meet
    all_goals exact HE.out _ (by assumption)
  case rest =>
    obtain ⟨b2, b3, M3⟩ := hcut
    clear HB HC HD HE ME M0 d0 d1 e0 e1 b0 b1 hw0
    obtain ⟨d0, e0⟩ := blkc b2
    obtain ⟨d1, e1⟩ := blkc b3
    have H1 := cmpIZ p p'
    have H2 := cmpLZ q q'
    go_wp2_with fail
    refine wp_region_quiet_tail 10 (by kernel_rfl) (by kernel_rfl) ?_
    simp only [List.take_succ_cons, List.take_zero, List.drop_succ_cons, List.drop_zero]
    repeat (any_goals (first | go_big_quiet_step ((first | (go_at_call 96; exact Calls.quiet_of_same (H1 _)) | (go_at_call 97; exact Calls.quiet_of_same (H2 _)))) | quiet_step ((first | (go_at_call 96; exact Calls.quiet_of_same (H1 _)) | (go_at_call 97; exact Calls.quiet_of_same (H2 _))))))
    refine wpQuiet_nil ?_
    rintro W6 ⟨nq, rfl⟩
    clear H1 H2 d0 d1 e0 e1
    go_wp2_with fail
    refine (orZ _ _ _ wc.heap.size _ (alloc_0 (wc.drewN nq) _)).mono ?_
    rintro e w' ⟨rfl, hw⟩; subst hw
    go_wp2_with fail
    go_ret
    exact ⟨rfl, (M3.drewN nq).alloc _⟩

end Go.Proofs.Bo
