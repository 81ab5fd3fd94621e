import Derived.Test.YtgehgjaglgafdaaGreatG01
import Derived.Test.YtgehgjaglgafdaaGreatG02
import Derived.Deep.RegionWith
import Derived.Deep.DeepCutAuto
set_option linter.unusedVariables false
set_option linter.unusedSimpArgs false
namespace Go.Proofs.Bo
open Go Go.RowKit
theorem leastR (w : World) : Calls Tryz.prog 57 #[] w fun e w' => e = .returned (.int .i64 (-9223372036854775808)) ∧ w' = w := by
 go_enter Tryz.func57, Tryz.ntmps57
 go_wp2_with fail
 go_ret
 exact ⟨rfl, rfl⟩
theorem keyR (s : Sg) (w : World) : Calls Tryz.prog 46 #[.agg #[.int .i64 s.ls, .int .i64 s.la, .int .i64 s.hs, .int .i64 s.ha, .int .i64 s.v]] w fun e w' => e = .returned (.agg #[.int .i64 s.ls, .int .i64 s.la]) ∧ Mod (fun _ => False) w w' := by
 obtain ⟨w0, hw0, b0, b1, M0⟩ : ∃ w0, (w.alloc (.cells #[.int .i64 s.ls, .int .i64 s.la, .int .i64 s.hs, .int .i64 s.ha, .int .i64 s.v] 38)).alloc (.cells #[.int .i64 0, .int .i64 0] 34) = w0 ∧
   w0.heap[w.heap.size]? = some (.cells #[.int .i64 s.ls, .int .i64 s.la, .int .i64 s.hs, .int .i64 s.ha, .int .i64 s.v] 38 (0, 0)) ∧ w0.heap[w.heap.size + 1]? = some (.cells #[.int .i64 0, .int .i64 0] 34 (0, 0)) ∧ Mod (fun _ => False) w w0 :=
  ⟨_, rfl, alloc2_0 _ _ _, alloc2_1 _ _ _, ((Mod.refl _ _).alloc _).alloc _⟩
 obtain ⟨d0, e0⟩ := blkc b0
 obtain ⟨d1, e1⟩ := blkc b1
 go_enter Tryz.func46, Tryz.ntmps46
 go_wp2_with fail
 exact ret_row (w.heap.size + 1) [.int .i64 s.ls, .int .i64 s.la] rfl rfl (setL_whole (cs := [.int .i64 0, .int .i64 0]) (us := [.int .i64 s.ls, .int .i64 s.la]) b1 rfl) Tryz.underlying34 rfl (by kernel_rfl) rfl
  ⟨rfl, (M0.setCell (.inr (by simp)) _).setCell (.inr (by simp)) _⟩
set_option maxHeartbeats 1000000 in
theorem canonR (s a : Int) (w : World) : Calls Tryz.prog 47 #[.agg #[.int .i64 s, .int .i64 a]] w fun e w' => e = .returned (.agg #[.int .i64 (canS s a), .int .i64 (canA s a)]) ∧ Mod (fun _ => False) w w' := by
 obtain ⟨w0, hw0, b0, b1, M0⟩ := box2 w (.int .i64 s) (.int .i64 a) (.int .i64 0) (.int .i64 0) 34 34
 obtain ⟨d0, e0⟩ := blkc b0
 obtain ⟨d1, e1⟩ := blkc b1
 have fin : ∀ (p q : Int) w', Mod (fun _ => False) w0 w' → ((w'.setCell ⟨w.heap.size + 1, 0, none⟩ (.int .i64 p)).setCell ⟨w.heap.size + 1, 1, none⟩ (.int .i64 q)).heap[w.heap.size + 1]? = some (.cells #[.int .i64 p, .int .i64 q] 34 (0, 0)) :=
  fun p q w' M => setL_whole (cs := [.int .i64 0, .int .i64 0]) (us := [.int .i64 p, .int .i64 q]) (M.heap b1 fun h => h) rfl
 replace fin := hid fin
 by_cases h1 : s < 0
 ·rw [show canS s a = -1 by unfold canS; rw [if_pos (.inl h1)], show canA s a = 0 by unfold canA; rw [if_pos (.inl h1)]]
  have hd : decide (s < 0) = true := decide_eq_true h1
  go_enter Tryz.func47, Tryz.ntmps47
  go_wp2_with fail
  go_quiet ((go_at_call 57; exact Calls.quiet_of_same (leastR _)))
  go_wp2_with fail
  refine ret_row (w.heap.size + 1) [.int .i64 (-1), .int .i64 0] rfl rfl (fin.out (-1) 0 _ ?_) Tryz.underlying34 rfl (by kernel_rfl) rfl ⟨rfl, ((M0.trans' ?_).setCell (.inr (by simp)) _).setCell (.inr (by simp)) _⟩
  ·exact (Mod.refl _ _).drewN _
  ·exact (Mod.refl _ _).drewN _
 have hd : decide (s < 0) = false := decide_eq_false h1
 by_cases h2 : s = 0
 ·subst h2
  by_cases h3 : a = -9223372036854775808
  ·subst h3
   rw [show canS 0 (-9223372036854775808) = -1 from rfl, show canA 0 (-9223372036854775808) = 0 from rfl]
   go_enter Tryz.func47, Tryz.ntmps47
   go_wp2_with fail
   go_quiet ((go_at_call 57; exact Calls.quiet_of_same (leastR _)))
   go_wp2_with fail
   refine ret_row (w.heap.size + 1) [.int .i64 (-1), .int .i64 0] rfl rfl (fin.out (-1) 0 _ ?_) Tryz.underlying34 rfl (by kernel_rfl) rfl ⟨rfl, ((M0.trans' ?_).setCell (.inr (by simp)) _).setCell (.inr (by simp)) _⟩
   ·exact (Mod.refl _ _).drewN _
   ·exact (Mod.refl _ _).drewN _
  ·rw [show canS 0 a = 0 by unfold canS least64; rw [if_neg (by omega), if_neg (by omega)], show canA 0 a = a by unfold canA least64; rw [if_neg (by omega), if_neg (by omega)]]
   have h4 : (a == -9223372036854775808) = false := by simpa using h3
   go_enter Tryz.func47, Tryz.ntmps47
   go_wp2_with fail
   go_quiet ((go_at_call 57; exact Calls.quiet_of_same (leastR _)))
   go_wp2_with fail
   refine ret_row (w.heap.size + 1) [.int .i64 0, .int .i64 a] rfl rfl (fin.out 0 a _ ?_) Tryz.underlying34 rfl (by kernel_rfl) rfl ⟨rfl, ((M0.trans' ?_).setCell (.inr (by simp)) _).setCell (.inr (by simp)) _⟩
   ·exact (Mod.refl _ _).drewN _
   ·exact (Mod.refl _ _).drewN _
 ·have h4 : (s == 0) = false := by simpa using h2
  have h5 : 0 < s := by omega
  rw [show canS s a = 1 by unfold canS; rw [if_neg (by omega), if_pos h5], show canA s a = 0 by unfold canA; rw [if_neg (by omega), if_pos h5]]
  go_enter Tryz.func47, Tryz.ntmps47
  go_wp2_with fail
  go_quiet ((go_at_call 57; exact Calls.quiet_of_same (leastR _)))
  go_wp2_with fail
  refine ret_row (w.heap.size + 1) [.int .i64 1, .int .i64 0] rfl rfl (fin.out 1 0 _ ?_) Tryz.underlying34 rfl (by kernel_rfl) rfl ⟨rfl, ((M0.trans' ?_).setCell (.inr (by simp)) _).setCell (.inr (by simp)) _⟩
  ·exact (Mod.refl _ _).drewN _
  ·exact (Mod.refl _ _).drewN _
def lessB (s a s' a' : Int) : Bool := if canS s a ≠ canS s' a' then decide (canS s a < canS s' a') else decide (canA s a < canA s' a')
theorem lessB_eq {s a s' a' : Int} (h : fit64 a) (h' : fit64 a') : lessB s a s' a' = decide (kx s a < kx s' a') := by
 have := can_lex (s := s) (s' := s') h h'
 unfold lessB
 unfold orI cmpI at this
 by_cases e : canS s a = canS s' a'
 ·rw [if_neg (by simpa using e)]
  rw [e] at this
  simp only [Int.lt_irrefl, if_false] at this
  rw [decide_eq_decide]
  grind
 ·rw [if_pos e]
  rw [decide_eq_decide]
  grind
set_option maxHeartbeats 1000000 in
theorem lessR {s a s' a' : Int} (hf : fit64 a) (hf' : fit64 a') (w : World) : Calls Tryz.prog 48 #[.agg #[.int .i64 s, .int .i64 a], .agg #[.int .i64 s', .int .i64 a']] w fun e w' => e = .returned (.bool (decide (kx s a < kx s' a'))) ∧ Mod (fun _ => False) w w' := by
 rw [← lessB_eq hf hf']
 obtain ⟨w0, hw0, b0, b1, M0⟩ := box2 w (.int .i64 s) (.int .i64 a) (.int .i64 s') (.int .i64 a') 34 34
 obtain ⟨d0, e0⟩ := blkc b0
 obtain ⟨d1, e1⟩ := blkc b1
 have HC := canonR s a w0
 have HD := fun w1 => canonR s' a' w1
 unfold lessB
 generalize canS s a = p, canA s a = q, canS s' a' = p', canA s' a' = q' at HC HD ⊢
 replace HD := hid HD
 by_cases e : p = p'
 ·rw [if_neg (by simpa using e)]
  have he : (p == p') = true := by simpa using e
  replace e := hid e
  go_enter Tryz.func48, Tryz.ntmps48
  go_wp2_with fail
  refine HC.mono ?_; rintro e w1 ⟨rfl, M1⟩
  replace b0 := M1.heap b0 fun h => h
  replace b1 := M1.heap b1 fun h => h
  obtain ⟨W1, hW1, q0, q1, N1⟩ : ∃ W1, (w1.setCell ⟨w.heap.size, 0, none⟩ (.int .i64 p)).setCell ⟨w.heap.size, 1, none⟩ (.int .i64 q) = W1 ∧ W1.heap[w.heap.size]? = some (.cells #[.int .i64 p, .int .i64 q] 34 (0, 0)) ∧ W1.heap[w.heap.size + 1]? = some (.cells #[.int .i64 s', .int .i64 a'] 34 (0, 0)) ∧ Mod (fun _ => False) w W1 :=
   ⟨_, rfl, setL_whole (cs := [.int .i64 s, .int .i64 a]) (us := [.int .i64 p, .int .i64 q]) b0 rfl, by rw [heap_set_ne (by simp), heap_set_ne (by simp)]; exact b1, ((M0.trans' M1).setCell (.inr (Nat.le_refl _)) _).setCell (.inr (Nat.le_refl _)) _⟩
  obtain ⟨d2, e2⟩ := blkc b0
  obtain ⟨d3, e3⟩ := blkc q1
  clear HC d0 d1 e0 e1
  go_wp2_with fail
  refine (HD.out _).mono ?_; rintro e w2 ⟨rfl, M2⟩
  replace q0 := M2.heap q0 fun h => h
  replace q1 := M2.heap q1 fun h => h
  obtain ⟨W2, hW2, r0, r1, N2⟩ : ∃ W2, (w2.setCell ⟨w.heap.size + 1, 0, none⟩ (.int .i64 p')).setCell ⟨w.heap.size + 1, 1, none⟩ (.int .i64 q') = W2 ∧ W2.heap[w.heap.size]? = some (.cells #[.int .i64 p, .int .i64 q] 34 (0, 0)) ∧ W2.heap[w.heap.size + 1]? = some (.cells #[.int .i64 p', .int .i64 q'] 34 (0, 0)) ∧ Mod (fun _ => False) w W2 :=
   ⟨_, rfl, by rw [heap_set_ne (by simp), heap_set_ne (by simp)]; exact q0, setL_whole (cs := [.int .i64 s', .int .i64 a']) (us := [.int .i64 p', .int .i64 q']) q1 rfl, ((N1.trans' M2).setCell (.inr (by simp)) _).setCell (.inr (by simp)) _⟩
  obtain ⟨d4, e4⟩ := blkc q1
  obtain ⟨d5, e5⟩ := blkc r0
  obtain ⟨d6, e6⟩ := blkc r1
  clear d2 d3 e2 e3 hW1
  go_wp2_with fail
  go_ret
  exact ⟨rfl, N2⟩
 ·rw [if_pos e]
  have he : (p == p') = false := by simpa using e
  go_enter Tryz.func48, Tryz.ntmps48
  go_wp2_with fail
  refine HC.mono ?_; rintro e w1 ⟨rfl, M1⟩
  replace b0 := M1.heap b0 fun h => h
  replace b1 := M1.heap b1 fun h => h
  obtain ⟨W1, hW1, q0, q1, N1⟩ : ∃ W1, (w1.setCell ⟨w.heap.size, 0, none⟩ (.int .i64 p)).setCell ⟨w.heap.size, 1, none⟩ (.int .i64 q) = W1 ∧ W1.heap[w.heap.size]? = some (.cells #[.int .i64 p, .int .i64 q] 34 (0, 0)) ∧ W1.heap[w.heap.size + 1]? = some (.cells #[.int .i64 s', .int .i64 a'] 34 (0, 0)) ∧ Mod (fun _ => False) w W1 :=
   ⟨_, rfl, setL_whole (cs := [.int .i64 s, .int .i64 a]) (us := [.int .i64 p, .int .i64 q]) b0 rfl, by rw [heap_set_ne (by simp), heap_set_ne (by simp)]; exact b1, ((M0.trans' M1).setCell (.inr (Nat.le_refl _)) _).setCell (.inr (Nat.le_refl _)) _⟩
  obtain ⟨d2, e2⟩ := blkc b0
  obtain ⟨d3, e3⟩ := blkc q1
  clear HC d0 d1 e0 e1
  go_wp2_with fail
  refine (HD.out _).mono ?_; rintro e w2 ⟨rfl, M2⟩
  replace q0 := M2.heap q0 fun h => h
  replace q1 := M2.heap q1 fun h => h
  obtain ⟨W2, hW2, r0, r1, N2⟩ : ∃ W2, (w2.setCell ⟨w.heap.size + 1, 0, none⟩ (.int .i64 p')).setCell ⟨w.heap.size + 1, 1, none⟩ (.int .i64 q') = W2 ∧ W2.heap[w.heap.size]? = some (.cells #[.int .i64 p, .int .i64 q] 34 (0, 0)) ∧ W2.heap[w.heap.size + 1]? = some (.cells #[.int .i64 p', .int .i64 q'] 34 (0, 0)) ∧ Mod (fun _ => False) w W2 :=
   ⟨_, rfl, by rw [heap_set_ne (by simp), heap_set_ne (by simp)]; exact q0, setL_whole (cs := [.int .i64 s', .int .i64 a']) (us := [.int .i64 p', .int .i64 q']) q1 rfl, ((N1.trans' M2).setCell (.inr (by simp)) _).setCell (.inr (by simp)) _⟩
  obtain ⟨d4, e4⟩ := blkc q1
  obtain ⟨d5, e5⟩ := blkc r0
  obtain ⟨d6, e6⟩ := blkc r1
  clear d2 d3 e2 e3 hW1
  go_wp2_with fail
  go_ret
  exact ⟨rfl, N2⟩
theorem compareR {s a s' a' : Int} (hf : fit64 a) (hf' : fit64 a') (w : World) : Calls Tryz.prog 45 #[.agg #[.int .i64 s, .int .i64 a], .agg #[.int .i64 s', .int .i64 a']] w fun e w' => e = .returned (.int .i64 (cmpI (kx s a) (kx s' a'))) ∧ Mod (fun _ => False) w w' := by
 obtain ⟨w0, hw0, b0, b1, M0⟩ := box2 w (.int .i64 s) (.int .i64 a) (.int .i64 s') (.int .i64 a') 34 34
 obtain ⟨d0, e0⟩ := blkc b0
 obtain ⟨d1, e1⟩ := blkc b1
 have H1 := lessR (s := s) (s' := s') hf hf' w0
 have H2 := hid fun w1 => lessR (s := s') (s' := s) hf' hf w1
 unfold cmpI
 by_cases h : kx s a < kx s' a'
 ·rw [if_pos h]
  rw [decide_eq_true h] at H1
  go_enter Tryz.func45, Tryz.ntmps45
  go_wp2_with fail
  refine H1.mono ?_; rintro e w1 ⟨rfl, M1⟩
  go_wp2_with fail
  go_ret
  exact ⟨rfl, M0.trans' M1⟩
 ·rw [if_neg h]
  rw [decide_eq_false h] at H1
  have fin2 : ∀ r : Bool, (∀ w1, Calls Tryz.prog 48 #[.agg #[.int .i64 s', .int .i64 a'], .agg #[.int .i64 s, .int .i64 a]] w1 fun e w' => e = .returned (.bool r) ∧ Mod (fun _ => False) w1 w') → Calls Tryz.prog 45 #[.agg #[.int .i64 s, .int .i64 a], .agg #[.int .i64 s', .int .i64 a']] w fun e w' => e = .returned (.int .i64 (if r = true then 1 else 0)) ∧ Mod (fun _ => False) w w' := by
   intro r H3
   replace H3 := hid H3
   cases r
   all_goals
    simp only [if_true, Bool.false_eq_true, if_false]
    go_enter Tryz.func45, Tryz.ntmps45
    go_wp2_with fail
    refine H1.mono ?_; rintro e w1 ⟨rfl, M1⟩
    obtain ⟨d2, e2⟩ := blkc (M1.heap b0 fun h => h)
    obtain ⟨d3, e3⟩ := blkc (M1.heap b1 fun h => h)
    clear H1 d0 d1 e0 e1 hw0
    go_wp2_with fail
    refine (H3.out w1).mono ?_; rintro e w2 ⟨rfl, M2⟩
    go_wp2_with fail
    go_ret
    exact ⟨rfl, (M0.trans' M1).trans' M2⟩
  have := fin2 _ H2.out
  simpa using this
open Go Go.RowKit
def RowV (w : World) (v : Value) (l : List Sg) : Prop := w.ownsRow 0 38 5 v l.length (l.flatMap encS)
theorem RowV.keep {w w' : World} {v : Value} {l : List Sg} (h : RowV w v l) (m : Mod (fun _ => False) w w') : RowV w' v l := own_mod h m fun _ _ h => h
theorem RowV.nil (w : World) : RowV w (.slice none 0 0) [] := World.ownsRow_nil _ _ _ _
theorem RowV.slice {w : World} {v : Value} {l : List Sg} (h : RowV w v l) : ∃ A c, v = .slice A l.length c ∧ (0 < l.length → ∃ g, A = some ⟨g, 0, none⟩) := by
 rcases h.2 with ⟨rfl, e⟩ | ⟨g, cap, cur, rfl, _⟩
 ·exact ⟨none, 0, by rw [e], fun h => by omega⟩
 ·exact ⟨_, _, rfl, fun _ => ⟨g, rfl⟩⟩
theorem flat5 : ∀ (l : List Sg) (k j : Nat) (u : Value), (hk : k < l.length) → (encS l[k])[j]? = some u → (l.flatMap encS)[k * 5 + j]? = some u
 | x :: l, 0, j, u, _, h => by
  have hj : j < 5 := (List.getElem?_eq_some_iff.1 h).1
  simp only [List.flatMap_cons, Nat.zero_mul, Nat.zero_add]
  rw [List.getElem?_append_left (by simpa [encS] using hj)]
  exact h
 | x :: l, k + 1, j, u, hk, h => by
  simp only [List.flatMap_cons]
  rw [List.getElem?_append_right (by simp [encS]; omega)]
  have := flat5 l k j u (by simpa using hk) (by simpa using h)
  rw [show (k + 1) * 5 + j - (encS x).length = k * 5 + j by simp [encS]; omega]
  exact this
theorem RowV.cells {w : World} {g n c : Nat} {l : List Sg} (h : RowV w (.slice (some ⟨g, 0, none⟩) n c) l) {k : Nat} (hk : k < l.length) :
  w.cell? ⟨g, k * 5, none⟩ = some (.int .i64 l[k].ls) ∧ w.cell? ⟨g, k * 5 + 1, none⟩ = some (.int .i64 l[k].la) ∧ w.cell? ⟨g, k * 5 + 2, none⟩ = some (.int .i64 l[k].hs) ∧
  w.cell? ⟨g, k * 5 + 3, none⟩ = some (.int .i64 l[k].ha) ∧ w.cell? ⟨g, k * 5 + 4, none⟩ = some (.int .i64 l[k].v) := by
 have H : ∀ j u, (encS l[k])[j]? = some u → w.cell? ⟨g, k * 5 + j, none⟩ = some u := by
  intro j u hu
  have := World.ownsRow.cells h rfl (k * 5 + j) u (flat5 l k j u hk hu)
  rwa [show (⟨g, 0, none⟩ : Addr).add (k * 5 + j) = ⟨g, k * 5 + j, none⟩ by unfold Addr.add; split <;> simp_all] at this
 exact ⟨H 0 _ rfl, H 1 _ rfl, H 2 _ rfl, H 3 _ rfl, H 4 _ rfl⟩
def findI (k : Int) : List Sg → Int
 | [] => -1
 | x :: l => if ky x = k then 0 else if findI k l < 0 then -1 else findI k l + 1
theorem findI_pre {k : Int} {x : Sg} : ∀ (pre rest : List Sg), (∀ y ∈ pre, ky y ≠ k) → ky x = k → findI k (pre ++ x :: rest) = pre.length
 | [], rest, _, h => by simp [findI, h]
 | y :: pre, rest, h1, h => by
  have := findI_pre pre rest (fun z hz => h1 z (by simp [hz])) h
  simp only [List.cons_append, findI]
  rw [if_neg (h1 y (by simp)), this, if_neg (by omega)]
  simp
theorem findI_none {k : Int} : ∀ (l : List Sg), (∀ y ∈ l, ky y ≠ k) → findI k l = -1
 | [], _ => rfl
 | y :: l, h => by
  simp only [findI]
  rw [if_neg (h y (by simp)), findI_none l (fun z hz => h z (by simp [hz])), if_pos (by omega)]
theorem key_eq {s : Sg} {cs ca : Int} (h : KeyOK s) (hf : fit64 ca) : (s.ls = canS cs ca ∧ s.la = canA cs ca) ↔ ky s = kx cs ca := by
 have := can_lex (s := s.ls) (a := s.la) (s' := cs) (a' := ca) h.2 hf
 rw [h.1.1, h.1.2.1] at this
 unfold ky
 constructor
 ·rintro ⟨h1, h2⟩
  rw [cmpI_eq h1, cmpI_eq h2] at this
  exact cmpI_zero.1 (by rw [this]; rfl)
 ·intro e
  rw [cmpI_eq e] at this
  unfold orI at this
  by_cases h1 : cmpI s.ls (canS cs ca) = 0
  ·rw [if_neg (by simpa using h1)] at this
   exact ⟨cmpI_zero.1 h1, cmpI_zero.1 this.symm⟩
  ·rw [if_pos h1] at this
   exact absurd this.symm h1
set_option maxHeartbeats 1000000 in
set_option maxRecDepth 100000 in
theorem findR {w : World} {v : Value} {l : List Sg} (h : RowV w v l) (hr : Row l) (hlen : l.length ≤ 65536) (cs ca : Int) (hf : fit64 ca) :
  Calls Tryz.prog 24 #[v, .agg #[.int .i64 cs, .int .i64 ca]] w fun e w' => e = .returned (.int .i64 (findI (kx cs ca) l)) ∧ Mod (fun _ => False) w w' := by
 obtain ⟨A, c, rfl, hA⟩ := h.slice
 obtain ⟨w0, hw0, b0, M0⟩ := boxC w cs ca
 replace h := h.keep M0
 go_enter Tryz.func24, Tryz.ntmps24
 go_wp2_with fail
 go_loopw [5] (fun i W => ∃ k : Nat, k ≤ l.length ∧ i = .int .i64 k ∧ Mod (fun _ => False) w0 W ∧ ∀ j (hj : j < l.length), j < k → ky l[j] ≠ kx cs ca) (fun i _ => (l.length - intOf i).toNat)
 case atStart => exact ⟨0, by omega, rfl, Mod.refl _ _, by omega⟩
 case round =>
  obtain ⟨k, hk, rfl, M1, hno⟩ := hrel
  by_cases hlt : k < l.length
  ·obtain ⟨g, rfl⟩ := hA (by omega)
   have hcs := fun (w' : World) (M : CM wr w') => (h.keep (M1.trans' M)).cells hlt
   have HE := key_eq (hr.2 l[k] (by simp)) hf (cs := cs)
   have hpre : ky l[k] = kx cs ca → findI (kx cs ca) l = k := by
    intro e
    have := findI_pre (x := l[k]) (l.take k) (l.drop (k + 1)) (fun y hy => by
     obtain ⟨j, hj, rfl⟩ := List.mem_iff_getElem.1 hy
     rw [List.getElem_take]
     have : j < k := by simp at hj; omega
     exact hno j (by omega) this) e
    rw [← List.drop_eq_getElem_cons hlt, List.take_append_drop] at this
    rw [this]; simp; omega
   have hno2 : ky l[k] ≠ kx cs ca → ∀ j (hj : j < l.length), j < k + 1 → ky l[j] ≠ kx cs ca := by
    intro e j hj hjk
    by_cases e2 : j = k
    ·subst e2; exact e
    ·exact hno j hj (by omega)
   generalize l[k] = s at hcs HE hpre hno2
   have HB := hid (fun (w' : World) (M : CM wr w') => And.intro (blkc (Mod.heap (M1.trans' M) b0 fun h => h)) (hcs w' M))
   have HK := hid (fun (w' : World) (M : CM wr w') => (keyR s w').mono fun e w'' ⟨h1, h2⟩ => (⟨h1, Mod.trans' M h2⟩ : e = Ending.returned (.agg #[.int .i64 s.ls, .int .i64 s.la]) ∧ CM wr w''))
   have HC := hid (fun (w' : World) (M : CM wr w') => (canonR cs ca w').mono fun e w'' ⟨h1, h2⟩ => (⟨h1, Mod.trans' M h2⟩ : e = Ending.returned (.agg #[.int .i64 (canS cs ca), .int .i64 (canA cs ca)]) ∧ CM wr w''))
   have hkb : (k : Int) < 65536 := by omega
   clear hno hcs
   generalize canS cs ca = p, canA cs ca = q at HC HE
   replace hpre := hid hpre
   replace hno2 := hid hno2
   replace hr := hid hr
   have fin : ky s ≠ kx cs ca → ∀ W, Mod (fun _ => False) wr W → ∃ k' : Nat, k' ≤ l.length ∧ Value.int .i64 ((k : Int) + 1) = .int .i64 k' ∧ Mod (fun _ => False) w0 W ∧ ∀ j (hj : j < l.length), j < k' → ky l[j] ≠ kx cs ca :=
    fun e W M => ⟨k + 1, by omega, by simp, M1.trans' M, hno2.out e⟩
   replace fin := hid fin
   obtain ⟨ls, la, hs, ha, sv⟩ := s
   by_cases e1 : ls = p
   ·subst e1
    by_cases e2 : la = q
    ·have hpre := hid (hpre.out (HE.1 ⟨rfl, e2⟩))
     clear HE fin
     subst e2
     go_wp2_with fail
     refine cq_region (by kernel_rfl) (by kernel_rfl) ?_
     iterate 8 (refine wpQuiet_step (fun K hK => ?_); go_simp; first | (refine hK _ ?_; clear hK K) | (refine ⟨_, fun _ _ => rfl, hK _ ?_⟩; clear hK K) | (apply Exists.intro; refine ⟨fun wq hq => ?_, hK _ ?_⟩; (focus (first | (go_at_call 46; exact HK.out _ hq) | (go_at_call 47; exact HC.out _ hq) | (obtain ⟨⟨t1, t2⟩, t3, t4, t5, t6, t7⟩ := HB.out _ hq; go_simp; try with_reducible rfl))); clear hK K))
     refine wpQuiet_nil ?_
     intro w2 M2
     clear HB HK HC
     go_wp2_with fail
     go_ret
     exact ⟨by rw [hpre.out]; rfl, M0.trans' (M1.trans' M2)⟩
    ·have fin := hid (fin.out (fun e => e2 (HE.2 e).2))
     clear HE hpre
     go_wp2_with fail
     refine cq_region (by kernel_rfl) (by kernel_rfl) ?_
     iterate 8 (refine wpQuiet_step (fun K hK => ?_); go_simp; first | (refine hK _ ?_; clear hK K) | (refine ⟨_, fun _ _ => rfl, hK _ ?_⟩; clear hK K) | (apply Exists.intro; refine ⟨fun wq hq => ?_, hK _ ?_⟩; (focus (first | (go_at_call 46; exact HK.out _ hq) | (go_at_call 47; exact HC.out _ hq) | (obtain ⟨⟨t1, t2⟩, t3, t4, t5, t6, t7⟩ := HB.out _ hq; go_simp; try with_reducible rfl))); clear hK K))
     refine wpQuiet_nil ?_
     intro w2 M2
     clear HB HK HC
     go_wp2_with fail
     go_roundw
     case rel => exact fin.out _ M2
     case measure => simp [intOf]; omega
   ·have fin := hid (fin.out (fun e => e1 (HE.2 e).1))
    clear HE hpre
    go_wp2_with fail
    refine cq_region (by kernel_rfl) (by kernel_rfl) ?_
    iterate 8 (refine wpQuiet_step (fun K hK => ?_); go_simp; first | (refine hK _ ?_; clear hK K) | (refine ⟨_, fun _ _ => rfl, hK _ ?_⟩; clear hK K) | (apply Exists.intro; refine ⟨fun wq hq => ?_, hK _ ?_⟩; (focus (first | (go_at_call 46; exact HK.out _ hq) | (go_at_call 47; exact HC.out _ hq) | (obtain ⟨⟨t1, t2⟩, t3, t4, t5, t6, t7⟩ := HB.out _ hq; go_simp; try with_reducible rfl))); clear hK K))
    refine wpQuiet_nil ?_
    intro w2 M2
    clear HB HK HC
    go_wp2_with fail
    go_roundw
    case rel => exact fin.out _ M2
    case measure => simp [intOf]; omega
  ·obtain rfl : k = l.length := by omega
   have hf0 := findI_none l (fun y hy => by obtain ⟨j, hj, rfl⟩ := List.mem_iff_getElem.1 hy; exact hno j hj hj)
   replace hf0 := hid hf0
   clear hno
   go_wp2_with fail
   go_ret
   exact ⟨by rw [hf0.out]; rfl, M0.trans' M1⟩
open Go Go.RowKit
def whichI (d own : Bool) : Int := if d then (if own then 2 else 3) else (if own then 0 else 1)
theorem nearS_nil {d own : Bool} {k : Int} : nearS d own k [] = none := by cases d <;> rfl
theorem nearS_snoc_f {own : Bool} {k : Int} {l : List Sg} {x : Sg} : nearS false own k (l ++ [x]) = if fitB false own k (ky x) then some x else nearS false own k l := by
 unfold nearS
 by_cases h : fitB false own k (ky x) = true <;> simp [List.filter_append, h]
theorem nearS_snoc_t {own : Bool} {k : Int} {l : List Sg} {x : Sg} : nearS true own k (l ++ [x]) = if (nearS true own k l).isSome then nearS true own k l else if fitB true own k (ky x) then some x else none := by
 unfold nearS
 simp only [if_true, List.filter_append]
 cases h2 : List.filter (fun x => fitB true own k (ky x)) l with
 | nil => by_cases h : fitB true own k (ky x) = true <;> simp [h]
 | cons a b => simp
def nxtS (d own : Bool) (k : Int) (o : Option Sg) (x : Sg) : Option Sg := if d && o.isSome then o else if fitB d own k (ky x) then some x else o
theorem nearS_snoc {d own : Bool} {k : Int} {l : List Sg} {x : Sg} : nearS d own k (l ++ [x]) = nxtS d own k (nearS d own k l) x := by
 cases d
 ·rw [nearS_snoc_f]; simp [nxtS]
 ·rw [nearS_snoc_t]; unfold nxtS
  cases nearS true own k l <;> simp
def NearX (w w0 : World) (l : List Sg) (d own : Bool) (k0 : Int) (found i : Value) (W : World) : Prop :=
 ∃ k : Nat, k ≤ l.length ∧ i = .int .i64 k ∧ found = .bool (nearS d own k0 (l.take k)).isSome ∧ Mod (fun _ => False) w W ∧ Mod (fun j => j = w.heap.size + 1 + 1) w0 W ∧ W.heap[w.heap.size + 1 + 1]? = some (.cells (encS (oS (nearS d own k0 (l.take k)))).toArray 38 (0, 0)) ∧
  W.heap[w.heap.size + 1]? = some (.cells #[.int .i64 0, .int .i64 0, .int .i64 0, .int .i64 0, .int .i64 0] 38 (0, 0))
set_option maxHeartbeats 8000000 in
set_option maxRecDepth 100000 in
theorem nearR (d own : Bool) {w : World} {v : Value} {l : List Sg} (h : RowV w v l) (hr : Row l) (hlen : l.length ≤ 65536) (cs ca : Int) (hf : fit64 ca) :
  Calls Tryz.prog 22 #[v, .agg #[.int .i64 cs, .int .i64 ca], .int .i64 (whichI d own)] w fun e w' => e = .returned (optS (nearS d own (kx cs ca) l)) ∧ Mod (fun _ => False) w w' := by
 obtain ⟨A, c, rfl, hA⟩ := h.slice
 obtain ⟨w0, hw0, b0, b1, b2, M0⟩ : ∃ w0, ((w.alloc (.cells #[.int .i64 cs, .int .i64 ca] 34)).alloc (.cells #[.int .i64 0, .int .i64 0, .int .i64 0, .int .i64 0, .int .i64 0] 38)).alloc (.cells #[.int .i64 0, .int .i64 0, .int .i64 0, .int .i64 0, .int .i64 0] 38) = w0 ∧
  w0.heap[w.heap.size]? = some (.cells #[.int .i64 cs, .int .i64 ca] 34 (0, 0)) ∧ w0.heap[w.heap.size + 1]? = some (.cells #[.int .i64 0, .int .i64 0, .int .i64 0, .int .i64 0, .int .i64 0] 38 (0, 0)) ∧ w0.heap[w.heap.size + 1 + 1]? = some (.cells #[.int .i64 0, .int .i64 0, .int .i64 0, .int .i64 0, .int .i64 0] 38 (0, 0)) ∧ Mod (fun _ => False) w w0 :=
  ⟨_, rfl, alloc3_0 _ _ _ _, alloc3_1 _ _ _ _, alloc3_2 _ _ _ _, (((Mod.refl _ _).alloc _).alloc _).alloc _⟩
 have h0 := h
 replace h := h.keep M0
 obtain ⟨q, hq⟩ : ∃ q, whichI d own = q := ⟨_, rfl⟩
 rw [hq]
 have hd4 : (d = false ∧ own = true ∧ q = 0) ∨ (d = false ∧ own = false ∧ q = 1) ∨ (d = true ∧ own = true ∧ q = 2) ∨ (d = true ∧ own = false ∧ q = 3) := by
  rw [← hq]; cases d <;> cases own <;> simp [whichI]
 clear hq
 rcases hd4 with ⟨hdd, hoo, rfl⟩ | ⟨hdd, hoo, rfl⟩ | ⟨hdd, hoo, rfl⟩ | ⟨hdd, hoo, rfl⟩
 all_goals
  replace hdd := hid hdd
  replace hoo := hid hoo
  go_enter Tryz.func22, Tryz.ntmps22
  go_wp2_with fail
  go_loopw [9, 10] (fun found i W => NearX w w0 l d own (kx cs ca) found i W) (fun _ i _ => (l.length - intOf i).toNat)
  case atStart => exact ⟨0, by omega, rfl, by rw [List.take_zero, nearS_nil]; rfl, M0, Mod.refl _ _, by rw [List.take_zero, nearS_nil]; exact b2, b1⟩
  case round =>
   obtain ⟨k, hk, rfl, rfl, M1, M2, q2, q1⟩ := hrel
   have hr1 : RowV wr (.slice A l.length c) l := own_mod h M2 fun j hj e => by have := own_lt h0 hj; omega
   by_cases hlt : k < l.length
   ·obtain ⟨g, rfl⟩ := hA (by omega)
    have hcs := fun (w' : World) (M : CM wr w') => (hr1.keep M).cells hlt
    have htk : l.take (k + 1) = l.take k ++ [l[k]] := by simp
    have hnx := congrArg (nearS d own (kx cs ca)) htk
    rw [nearS_snoc] at hnx
    have hmem : fit64 l[k].la := (hr.2 l[k] (by simp)).2
    have fin1 : nearS d own (kx cs ca) (l.take (k + 1)) = nearS d own (kx cs ca) (l.take k) → ∀ W, Mod (fun _ => False) wr W → NearX w w0 l d own (kx cs ca) (.bool (nearS d own (kx cs ca) (l.take k)).isSome) (.int .i64 ((k : Int) + 1)) W := fun e W M =>
     ⟨k + 1, by omega, by simp, by rw [e], M1.trans' M, M2.trans M fun _ h => h.elim, by rw [e]; exact M.heap q2 fun h => h, M.heap q1 fun h => h⟩
    have fin2 : nearS d own (kx cs ca) (l.take (k + 1)) = some l[k] → ∀ W, Mod (fun _ => False) wr W → NearX w w0 l d own (kx cs ca) (.bool true) (.int .i64 ((k : Int) + 1)) (((((W.setCell ⟨w.heap.size + 1 + 1, 0, none⟩ (.int .i64 l[k].ls)).setCell ⟨w.heap.size + 1 + 1, 1, none⟩ (.int .i64 l[k].la)).setCell ⟨w.heap.size + 1 + 1, 2, none⟩ (.int .i64 l[k].hs)).setCell ⟨w.heap.size + 1 + 1, 3, none⟩ (.int .i64 l[k].ha)).setCell ⟨w.heap.size + 1 + 1, 4, none⟩ (.int .i64 l[k].v)) := fun e W M => by
     have q2' := M.heap q2 fun h => h
     have q1' := M.heap q1 fun h => h
     refine ⟨k + 1, by omega, by simp, by rw [e]; rfl, ?_, ?_, ?_, ?_⟩
     ·exact (store5 q2' (by omega) (M1.trans' M)).2
     ·exact (((((M2.trans M fun _ h => h.elim).setCell (.inl rfl) _).setCell (.inl rfl) _).setCell (.inl rfl) _).setCell (.inl rfl) _).setCell (.inl rfl) _
     ·rw [e]; exact (store5 q2' (by omega) (M1.trans' M)).1
     ·rw [heap_set_ne (by simp), heap_set_ne (by simp), heap_set_ne (by simp), heap_set_ne (by simp), heap_set_ne (by simp)]; exact q1'
    have hkl : (k : Int) < l.length := by omega
    have hkb : (k : Int) < 65536 := by omega
    have HB := hid (fun (w' : World) (M : CM wr w') => And.intro (blkc (Mod.heap M (M2.heap b0 (by omega)) fun h => h)) (And.intro (blkc (Mod.heap M q2 fun h => h)) (hcs w' M)))
    generalize nearS d own (kx cs ca) (l.take k) = o, nearS d own (kx cs ca) (l.take (k + 1)) = o' at hnx fin1 fin2 q2 HB ⊢
    generalize l[k] = s at *
    have HK := hid (fun (w' : World) (M : CM wr w') => (keyR s w').mono fun e w'' ⟨h1, h2⟩ => (⟨h1, Mod.trans' M h2⟩ : e = Ending.returned (.agg #[.int .i64 s.ls, .int .i64 s.la]) ∧ CM wr w''))
    have HC := hid (fun (w' : World) (M : CM wr w') => (compareR (s := s.ls) (s' := cs) hmem hf w').mono fun e w'' ⟨h1, h2⟩ => (⟨h1, Mod.trans' M h2⟩ : e = Ending.returned (.int .i64 (cmpI (ky s) (kx cs ca))) ∧ CM wr w''))
    clear hr1 hcs htk hmem h h0 M1 M2 q1 q2 hr
    obtain ⟨ls, la, hs, ha, sv⟩ := s
    dsimp only at HK HC fin2
    dsimp only [encS] at HB
    rcases (show (ky ⟨ls, la, hs, ha, sv⟩ < kx cs ca ∧ ¬ ky ⟨ls, la, hs, ha, sv⟩ = kx cs ca ∧ ¬ kx cs ca < ky ⟨ls, la, hs, ha, sv⟩) ∨ (¬ ky ⟨ls, la, hs, ha, sv⟩ < kx cs ca ∧ ky ⟨ls, la, hs, ha, sv⟩ = kx cs ca ∧ ¬ kx cs ca < ky ⟨ls, la, hs, ha, sv⟩) ∨
     (¬ ky ⟨ls, la, hs, ha, sv⟩ < kx cs ca ∧ ¬ ky ⟨ls, la, hs, ha, sv⟩ = kx cs ca ∧ kx cs ca < ky ⟨ls, la, hs, ha, sv⟩) by omega) with ⟨e, n1, n2⟩ | ⟨e, n1, n2⟩ | ⟨e, n1, n2⟩
    all_goals
     simp only [cmpI, e, n2, if_true, if_false] at HC
     cases o
     all_goals
      simp [nxtS, fitB, hdd.out, hoo.out, e, n1, n2] at hnx
      subst hnx
      clear e n1 n2
      dsimp only [Option.isSome] at fin1 ⊢
      go_wp2_with fail
      refine cq_region (by kernel_rfl) (by kernel_rfl) ?_
      iterate 8 (refine wpQuiet_step (fun K hK => ?_); go_simp; first | (refine hK _ ?_; clear hK K) | (refine ⟨_, fun _ _ => rfl, hK _ ?_⟩; clear hK K) | (apply Exists.intro; refine ⟨fun wq hq => ?_, hK _ ?_⟩; (focus (first | (go_at_call 46; exact HK.out _ hq) | (go_at_call 45; exact HC.out _ hq) | (obtain ⟨⟨t1, t2⟩, ⟨t3, t4⟩, t5, t6, t7, t8, t9⟩ := HB.out _ hq; go_simp; try with_reducible rfl))); clear hK K))
      refine wpQuiet_nil ?_
      intro w2 M2
      obtain ⟨⟨t1, t2⟩, ⟨t3, t4⟩, t5, t6, t7, t8, t9⟩ := HB.out _ M2
      replace fin1 := hid (fun e => fin1 e w2 M2)
      replace fin2 := hid (fun e => fin2 e w2 M2)
      clear HB HK HC
      go_wp2_with fail
      go_roundw
      case rel => first | exact fin1.out rfl | exact fin1.out trivial | exact fin2.out rfl | exact fin2.out trivial
      case measure => simp [intOf]; omega
   ·obtain rfl : k = l.length := by omega
    rw [List.take_length] at *
    obtain ⟨t3, t4⟩ := blkc q2
    obtain ⟨t5, t6⟩ := blkc q1
    clear hr1 h h0 hr
    obtain ⟨o, ho⟩ : ∃ o, nearS d own (kx cs ca) l = o := ⟨_, rfl⟩
    rw [ho] at q2 t3 ⊢
    replace ho := hid ho
    dsimp only [encS] at t3
    go_wp2_with fail
    obtain ⟨b3, M3⟩ := store5 (a' := .int .i64 (oS o).ls) (b' := .int .i64 (oS o).la) (c' := .int .i64 (oS o).hs) (d' := .int .i64 (oS o).ha) (e' := .int .i64 (oS o).v) q1 (by omega) M1
    exact ret_row_tmp (fn := Tryz.f22) (w.heap.size + 1) (encS (oS o)) rfl rfl b3 Tryz.underlying38 rfl (by kernel_rfl) rfl ⟨by rw [ho.out]; rfl, M3⟩
end Go.Proofs.Bo
