import Derived.Test.YtofgoehkahcajaaGreatBoG
import Derived.Test.YtofgoehkahcajaaGreatCut
import Derived.Deep.RegionWith
import Derived.Deep.DeepCutAuto
set_option linter.unusedVariables false
set_option linter.unusedSimpArgs false
namespace Go.Proofs.Bo
open Go Go.RowKit

theorem leastR (w : World) : Calls Tryz.prog 98 #[] w fun e w' => e = .returned (.int .i64 (-9223372036854775808)) ∧ w' = w := by
  go_enter Tryz.func98, Tryz.ntmps98
  go_wp2_with fail
  go_ret
  exact ⟨rfl, rfl⟩

theorem keyR (s : Sg) (w : World) : Calls Tryz.prog 48 #[.agg #[.int .i64 s.ls, .int .i64 s.la, .int .i64 s.hs, .int .i64 s.ha, .int .i64 s.v]] w fun e w' => e = .returned (.agg #[.int .i64 s.ls, .int .i64 s.la]) ∧ Mod (fun _ => False) w w' := by
  obtain ⟨w0, hw0, b0, b1, M0⟩ : ∃ w0, (w.alloc (.cells #[.int .i64 s.ls, .int .i64 s.la, .int .i64 s.hs, .int .i64 s.ha, .int .i64 s.v] 39)).alloc (.cells #[.int .i64 0, .int .i64 0] 26) = w0 ∧
      w0.heap[w.heap.size]? = some (.cells #[.int .i64 s.ls, .int .i64 s.la, .int .i64 s.hs, .int .i64 s.ha, .int .i64 s.v] 39 (0, 0)) ∧ w0.heap[w.heap.size + 1]? = some (.cells #[.int .i64 0, .int .i64 0] 26 (0, 0)) ∧ Mod (fun _ => False) w w0 :=
    ⟨_, rfl, alloc2_0 _ _ _, alloc2_1 _ _ _, ((Mod.refl _ _).alloc _).alloc _⟩
  obtain ⟨d0, e0⟩ := blkc b0
  obtain ⟨d1, e1⟩ := blkc b1
  go_enter Tryz.func48, Tryz.ntmps48
  go_wp2_with fail
  exact ret_row (w.heap.size + 1) [.int .i64 s.ls, .int .i64 s.la] rfl rfl (setL_whole (cs := [.int .i64 0, .int .i64 0]) (us := [.int .i64 s.ls, .int .i64 s.la]) b1 rfl) Tryz.underlying26 rfl (by kernel_rfl) rfl
    ⟨rfl, (M0.setCell (.inr (by simp)) _).setCell (.inr (by simp)) _⟩

set_option maxHeartbeats 1000000 in
theorem canonR (s a : Int) (w : World) : Calls Tryz.prog 76 #[.agg #[.int .i64 s, .int .i64 a]] w fun e w' => e = .returned (.agg #[.int .i64 (canS s a), .int .i64 (canA s a)]) ∧ Mod (fun _ => False) w w' := by
  obtain ⟨w0, hw0, b0, b1, M0⟩ := box2 w (.int .i64 s) (.int .i64 a) (.int .i64 0) (.int .i64 0) 26 26
  obtain ⟨d0, e0⟩ := blkc b0
  obtain ⟨d1, e1⟩ := blkc b1
  have fin : ∀ (p q : Int) w', Mod (fun _ => False) w0 w' → ((w'.setCell ⟨w.heap.size + 1, 0, none⟩ (.int .i64 p)).setCell ⟨w.heap.size + 1, 1, none⟩ (.int .i64 q)).heap[w.heap.size + 1]? = some (.cells #[.int .i64 p, .int .i64 q] 26 (0, 0)) :=
    fun p q w' M => setL_whole (cs := [.int .i64 0, .int .i64 0]) (us := [.int .i64 p, .int .i64 q]) (M.heap b1 fun h => h) rfl
  replace fin := hid fin
  by_cases h1 : s < 0
  · rw [show canS s a = -1 by unfold canS; rw [if_pos (.inl h1)], show canA s a = 0 by unfold canA; rw [if_pos (.inl h1)]]
    have hd : decide (s < 0) = true := decide_eq_true h1
    go_enter Tryz.func76, Tryz.ntmps76
    go_wp2_with fail
    go_quiet ((go_at_call 98; exact Calls.quiet_of_same (leastR _)))
    go_wp2_with fail
    refine ret_row (w.heap.size + 1) [.int .i64 (-1), .int .i64 0] rfl rfl (fin.out (-1) 0 _ ?_) Tryz.underlying26 rfl (by kernel_rfl) rfl ⟨rfl, ((M0.trans' ?_).setCell (.inr (by simp)) _).setCell (.inr (by simp)) _⟩
    · exact (Mod.refl _ _).drewN _
    · exact (Mod.refl _ _).drewN _
  have hd : decide (s < 0) = false := decide_eq_false h1
  by_cases h2 : s = 0
  · subst h2
    by_cases h3 : a = -9223372036854775808
    · subst h3
      rw [show canS 0 (-9223372036854775808) = -1 from rfl, show canA 0 (-9223372036854775808) = 0 from rfl]
      go_enter Tryz.func76, Tryz.ntmps76
      go_wp2_with fail
      go_quiet ((go_at_call 98; exact Calls.quiet_of_same (leastR _)))
      go_wp2_with fail
      refine ret_row (w.heap.size + 1) [.int .i64 (-1), .int .i64 0] rfl rfl (fin.out (-1) 0 _ ?_) Tryz.underlying26 rfl (by kernel_rfl) rfl ⟨rfl, ((M0.trans' ?_).setCell (.inr (by simp)) _).setCell (.inr (by simp)) _⟩
      · exact (Mod.refl _ _).drewN _
      · exact (Mod.refl _ _).drewN _
    · rw [show canS 0 a = 0 by unfold canS least64; rw [if_neg (by omega), if_neg (by omega)], show canA 0 a = a by unfold canA least64; rw [if_neg (by omega), if_neg (by omega)]]
      have h4 : (a == -9223372036854775808) = false := by simpa using h3
      go_enter Tryz.func76, Tryz.ntmps76
      go_wp2_with fail
      go_quiet ((go_at_call 98; exact Calls.quiet_of_same (leastR _)))
      go_wp2_with fail
      refine ret_row (w.heap.size + 1) [.int .i64 0, .int .i64 a] rfl rfl (fin.out 0 a _ ?_) Tryz.underlying26 rfl (by kernel_rfl) rfl ⟨rfl, ((M0.trans' ?_).setCell (.inr (by simp)) _).setCell (.inr (by simp)) _⟩
      · exact (Mod.refl _ _).drewN _
      · exact (Mod.refl _ _).drewN _
  · have h4 : (s == 0) = false := by simpa using h2
    have h5 : 0 < s := by omega
    rw [show canS s a = 1 by unfold canS; rw [if_neg (by omega), if_pos h5], show canA s a = 0 by unfold canA; rw [if_neg (by omega), if_pos h5]]
    go_enter Tryz.func76, Tryz.ntmps76
    go_wp2_with fail
    go_quiet ((go_at_call 98; exact Calls.quiet_of_same (leastR _)))
    go_wp2_with fail
    refine ret_row (w.heap.size + 1) [.int .i64 1, .int .i64 0] rfl rfl (fin.out 1 0 _ ?_) Tryz.underlying26 rfl (by kernel_rfl) rfl ⟨rfl, ((M0.trans' ?_).setCell (.inr (by simp)) _).setCell (.inr (by simp)) _⟩
    · exact (Mod.refl _ _).drewN _
    · exact (Mod.refl _ _).drewN _

/-- Does one cut stand ahead of another one? -/
def lessB (s a s' a' : Int) : Bool := if canS s a ≠ canS s' a' then decide (canS s a < canS s' a') else decide (canA s a < canA s' a')
theorem lessB_eq {s a s' a' : Int} (h : fit64 a) (h' : fit64 a') : lessB s a s' a' = decide (kx s a < kx s' a') := by
  have := can_lex (s := s) (s' := s') h h'
  unfold lessB
  unfold orI cmpI at this
  by_cases e : canS s a = canS s' a'
  · rw [if_neg (by simpa using e)]
    rw [e] at this
    simp only [Int.lt_irrefl, if_false] at this
    rw [decide_eq_decide]
    grind
  · rw [if_pos e]
    rw [decide_eq_decide]
    grind

set_option maxHeartbeats 1000000 in
theorem lessR {s a s' a' : Int} (hf : fit64 a) (hf' : fit64 a') (w : World) : Calls Tryz.prog 78 #[.agg #[.int .i64 s, .int .i64 a], .agg #[.int .i64 s', .int .i64 a']] w fun e w' => e = .returned (.bool (decide (kx s a < kx s' a'))) ∧ Mod (fun _ => False) w w' := by
  rw [← lessB_eq hf hf']
  obtain ⟨w0, hw0, b0, b1, M0⟩ := box2 w (.int .i64 s) (.int .i64 a) (.int .i64 s') (.int .i64 a') 26 26
  obtain ⟨d0, e0⟩ := blkc b0
  obtain ⟨d1, e1⟩ := blkc b1
  have HC := canonR s a w0
  have HD := fun w1 => canonR s' a' w1
  unfold lessB
  generalize canS s a = p, canA s a = q, canS s' a' = p', canA s' a' = q' at HC HD ⊢
  replace HD := hid HD
  by_cases e : p = p'
  · rw [if_neg (by simpa using e)]
    have he : (p == p') = true := by simpa using e
    replace e := hid e
    go_enter Tryz.func78, Tryz.ntmps78
    go_wp2_with fail
    refine HC.mono ?_; rintro e w1 ⟨rfl, M1⟩
    replace b0 := M1.heap b0 fun h => h
    replace b1 := M1.heap b1 fun h => h
    obtain ⟨W1, hW1, q0, q1, N1⟩ : ∃ W1, (w1.setCell ⟨w.heap.size, 0, none⟩ (.int .i64 p)).setCell ⟨w.heap.size, 1, none⟩ (.int .i64 q) = W1 ∧ W1.heap[w.heap.size]? = some (.cells #[.int .i64 p, .int .i64 q] 26 (0, 0)) ∧ W1.heap[w.heap.size + 1]? = some (.cells #[.int .i64 s', .int .i64 a'] 26 (0, 0)) ∧ Mod (fun _ => False) w W1 :=
      ⟨_, rfl, setL_whole (cs := [.int .i64 s, .int .i64 a]) (us := [.int .i64 p, .int .i64 q]) b0 rfl, by rw [heap_set_ne (by simp), heap_set_ne (by simp)]; exact b1, ((M0.trans' M1).setCell (.inr (Nat.le_refl _)) _).setCell (.inr (Nat.le_refl _)) _⟩
    obtain ⟨d2, e2⟩ := blkc b0
    obtain ⟨d3, e3⟩ := blkc q1
    clear HC d0 d1 e0 e1
    go_wp2_with fail
    refine (HD.out _).mono ?_; rintro e w2 ⟨rfl, M2⟩
    replace q0 := M2.heap q0 fun h => h
    replace q1 := M2.heap q1 fun h => h
    obtain ⟨W2, hW2, r0, r1, N2⟩ : ∃ W2, (w2.setCell ⟨w.heap.size + 1, 0, none⟩ (.int .i64 p')).setCell ⟨w.heap.size + 1, 1, none⟩ (.int .i64 q') = W2 ∧ W2.heap[w.heap.size]? = some (.cells #[.int .i64 p, .int .i64 q] 26 (0, 0)) ∧ W2.heap[w.heap.size + 1]? = some (.cells #[.int .i64 p', .int .i64 q'] 26 (0, 0)) ∧ Mod (fun _ => False) w W2 :=
      ⟨_, rfl, by rw [heap_set_ne (by simp), heap_set_ne (by simp)]; exact q0, setL_whole (cs := [.int .i64 s', .int .i64 a']) (us := [.int .i64 p', .int .i64 q']) q1 rfl, ((N1.trans' M2).setCell (.inr (by simp)) _).setCell (.inr (by simp)) _⟩
    obtain ⟨d4, e4⟩ := blkc q1
    obtain ⟨d5, e5⟩ := blkc r0
    obtain ⟨d6, e6⟩ := blkc r1
    clear d2 d3 e2 e3 hW1
    go_wp2_with fail
    go_ret
    exact ⟨rfl, N2⟩
  · rw [if_pos e]
    have he : (p == p') = false := by simpa using e
    go_enter Tryz.func78, Tryz.ntmps78
    go_wp2_with fail
    refine HC.mono ?_; rintro e w1 ⟨rfl, M1⟩
    replace b0 := M1.heap b0 fun h => h
    replace b1 := M1.heap b1 fun h => h
    obtain ⟨W1, hW1, q0, q1, N1⟩ : ∃ W1, (w1.setCell ⟨w.heap.size, 0, none⟩ (.int .i64 p)).setCell ⟨w.heap.size, 1, none⟩ (.int .i64 q) = W1 ∧ W1.heap[w.heap.size]? = some (.cells #[.int .i64 p, .int .i64 q] 26 (0, 0)) ∧ W1.heap[w.heap.size + 1]? = some (.cells #[.int .i64 s', .int .i64 a'] 26 (0, 0)) ∧ Mod (fun _ => False) w W1 :=
      ⟨_, rfl, setL_whole (cs := [.int .i64 s, .int .i64 a]) (us := [.int .i64 p, .int .i64 q]) b0 rfl, by rw [heap_set_ne (by simp), heap_set_ne (by simp)]; exact b1, ((M0.trans' M1).setCell (.inr (Nat.le_refl _)) _).setCell (.inr (Nat.le_refl _)) _⟩
    obtain ⟨d2, e2⟩ := blkc b0
    obtain ⟨d3, e3⟩ := blkc q1
    clear HC d0 d1 e0 e1
    go_wp2_with fail
    refine (HD.out _).mono ?_; rintro e w2 ⟨rfl, M2⟩
    replace q0 := M2.heap q0 fun h => h
    replace q1 := M2.heap q1 fun h => h
    obtain ⟨W2, hW2, r0, r1, N2⟩ : ∃ W2, (w2.setCell ⟨w.heap.size + 1, 0, none⟩ (.int .i64 p')).setCell ⟨w.heap.size + 1, 1, none⟩ (.int .i64 q') = W2 ∧ W2.heap[w.heap.size]? = some (.cells #[.int .i64 p, .int .i64 q] 26 (0, 0)) ∧ W2.heap[w.heap.size + 1]? = some (.cells #[.int .i64 p', .int .i64 q'] 26 (0, 0)) ∧ Mod (fun _ => False) w W2 :=
      ⟨_, rfl, by rw [heap_set_ne (by simp), heap_set_ne (by simp)]; exact q0, setL_whole (cs := [.int .i64 s', .int .i64 a']) (us := [.int .i64 p', .int .i64 q']) q1 rfl, ((N1.trans' M2).setCell (.inr (by simp)) _).setCell (.inr (by simp)) _⟩
    obtain ⟨d4, e4⟩ := blkc q1
    obtain ⟨d5, e5⟩ := blkc r0
    obtain ⟨d6, e6⟩ := blkc r1
    clear d2 d3 e2 e3 hW1
    go_wp2_with fail
    go_ret
    exact ⟨rfl, N2⟩

end Go.Proofs.Bo
