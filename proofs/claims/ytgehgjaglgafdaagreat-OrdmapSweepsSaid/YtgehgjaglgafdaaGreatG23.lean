import Derived.Test.YtgehgjaglgafdaaGreatG22
set_option linter.unusedVariables false
set_option linter.unusedSimpArgs false
namespace Go.Proofs.Bo
open Go Go.RowKit
def InsPSg (w : World) (v : Value) (n k : Nat) (xs x : List Value) (e : Ending) (w' : World) : Prop :=
 ∃ v', e = .returned v' ∧ w'.ownsRow 0 38 5 v' (n + 1) (xs.take (k * 5) ++ x ++ xs.drop (k * 5)) ∧ Mod (fun j => v.ownBlock = some j) w w' ∧ (∀ j, v'.ownBlock = some j → v.ownBlock = some j ∨ w.heap.size ≤ j)
set_option maxHeartbeats 1000000 in
set_option maxRecDepth 100000 in
theorem insSg_end {w : World} {v : Value} {n : Nat} {xs x : List Value} {vb : Nat} (h : w.ownsRow 0 38 5 v n xs) (hx : w.heap[vb]? = some (.cells x.toArray 38 (0, 0))) (hxl : x.length = 5) (hx1 : ∀ u ∈ x, u.oneCell' = true) (hn : n ≤ 65536) :
  Calls Tryz.prog 128 #[v, .int .i64 n, .slice (some ⟨vb, 0, none⟩) 1 1] w (InsPSg w v n n xs x) := by
 obtain ⟨i0, hi0, hzz⟩ := Option.map_eq_some_iff.1 infoS7
 simp only [Prod.mk.injEq] at hzz
 obtain ⟨hz0, hz1, hz2⟩ := hzz
 have hxs : xs.take (n * 5) ++ x ++ xs.drop (n * 5) = xs ++ x := by
  rw [List.take_of_length_le (by rw [h.1]; omega), List.drop_of_length_le (by rw [h.1]; omega), List.append_nil]
 unfold InsPSg
 rw [hxs]
 have hnb : (n + 1) * 40 ≤ 140737488355328 := by omega
 obtain ⟨A, c, rfl, hnc, hcm, hA⟩ := own_slice h
 have hc64 : (c : Int) ≤ 9223372036854775807 := by simp only [maxLen] at hcm; omega
 have hnc2 : (n : Int) ≤ c := by omega
 clear hxs hA
 replace h := hid h
 replace hx := hid hx
 replace hx1 := hid hx1
 replace hxl := hid hxl
 replace hnb := hid hnb
 replace hcm := hid hcm
 go_enter Tryz.func128, Tryz.ntmps128
 go_wp2_with (at_builtin; refine wpList_append_own_at _ rfl _ _ 28 rfl 0 38 i0 _ 5 40 Tryz.underlying28 hi0 hz0 hz1 hz2 rfl (by omega) (.slice A n _) n xs rfl h.out ⟨vb, 0, none⟩ 1 1 x rfl (by have := hxl.out; omega) (World.news_of_block hx.out) hx1.out (by simp only [maxLen]; omega) hnb.out (Nat.zero_le _) ?_; intro v1 w1 hown hgr _ hat)
 all_goals
  go_ret
  refine ⟨v1, rfl, hown, (Mod.of_grown hgr).mono fun j hj => .inl (by cases A <;> exact hj), fun j hj => ?_⟩
  rcases hat with e | e
  ·rw [e] at hj; exact .inl (by cases A <;> exact hj)
  ·rw [e] at hj; cases hj; exact .inr (Nat.le_refl _)
set_option maxHeartbeats 2000000 in
set_option maxRecDepth 100000 in
theorem insSg_room {w : World} {g n c k : Nat} {xs x : List Value} {vb : Nat} (h : w.ownsRow 0 38 5 (.slice (some ⟨g, 0, none⟩) n c) n xs) (h1 : ∀ u ∈ xs, u.oneCell' = true) (hx : w.heap[vb]? = some (.cells x.toArray 38 (0, 0))) (hvb : vb ≠ g) (hxl : x.length = 5) (hx1 : ∀ u ∈ x, u.oneCell' = true)
  (hk : k < n) (hroom : n + 1 ≤ c) (hn : n ≤ 65536) :
  Calls Tryz.prog 128 #[.slice (some ⟨g, 0, none⟩) n c, .int .i64 k, .slice (some ⟨vb, 0, none⟩) 1 1] w (InsPSg w (.slice (some ⟨g, 0, none⟩) n c) n k xs x) := by
 obtain ⟨cur, hg, hnc, hcm, hcs, ht, hxsl⟩ := own_open h
 obtain ⟨m, hm⟩ : ∃ m, n = k + (m + 1) := ⟨n - (k + 1), by omega⟩
 subst hm
 obtain ⟨D, hD⟩ : ∃ D, xs.drop (k * 5) = D := ⟨_, rfl⟩
 have hDl : D.length = (m + 1) * 5 := by rw [← hD, List.length_drop, hxsl]; omega
 have hD1 : ∀ u ∈ D, u.oneCell' = true := fun u hu => h1 u (List.mem_of_mem_drop (by rw [hD]; exact hu))
 have e : ∀ (o n : Nat), (⟨g, o, none⟩ : Addr).add n = ⟨g, o + n, none⟩ := by intro o n; unfold Addr.add; split <;> simp_all
 have hsrc : ∀ j u, D[j]? = some u → w.drew.cell? ((⟨g, k * 5, none⟩ : Addr).add j) = some u := by
  intro j u hu
  have := World.ownsRow.cells h rfl (k * 5 + j) u (by rw [← hD, List.getElem?_drop] at hu; exact hu)
  rw [e] at this ⊢
  simpa using this
 obtain ⟨i0, hi0, hzz⟩ := Option.map_eq_some_iff.1 infoS7
 simp only [Prod.mk.injEq] at hzz
 obtain ⟨hz0, hz1, hz2⟩ := hzz
 have hsz : (Tryz.prog.info? 38).map (·.size) = some 5 := by rw [hi0]; simp [hz1]
 obtain ⟨c1, hc1⟩ : ∃ c1, (cur.toList.take ((k + 1) * 5) ++ D ++ cur.toList.drop ((k + 1) * 5 + D.length)).toArray = c1 := ⟨_, rfl⟩
 have hs1 : c1.size = c * 5 := by rw [← hc1, List.size_toArray]; simp only [List.length_append, List.length_take, List.length_drop, Array.length_toList, hDl, hcs]; omega
 have hr1 : ∀ ty dc sc, (Builtin.copy_ #[28, 28] ty #[.slice (some ⟨g, (k + 1) * 5, none⟩) (m + 1) dc, .slice (some ⟨g, k * 5, none⟩) (m + 1 + 1) sc]).run Tryz.prog w.drew = .ok (goInt (Nat.min (m + 1 + 1) (m + 1))) (w.drew.setRow g c1) := by
  intro ty dc sc
  rw [← hc1]
  exact run_copyK w.drew 28 28 ty 38 5 g ((k + 1) * 5) (m + 1) dc ⟨g, k * 5, none⟩ (m + 1 + 1) sc cur 38 D Tryz.underlying28 hsz hg (by rw [hDl, show Nat.min (m + 1 + 1) (m + 1) = m + 1 from Nat.min_eq_right (by omega)]) hsrc (by rw [hDl, hcs]; omega) hD1
 obtain ⟨w1, hw1⟩ : ∃ w1, w.drew.setRow g c1 = w1 := ⟨_, rfl⟩
 have hg1 : w1.heap[g]? = some (.cells c1 38 (0, 0)) := by rw [← hw1]; exact setRow_heap w.drew g cur c1 38 _ hg
 have M1 : Mod (fun j => j = g) w w1 := by rw [← hw1]; exact (Mod.drew (Mod.refl _ w)).trans' (mod_setRow w.drew g c1)
 obtain ⟨c2, hc2⟩ : ∃ c2, (c1.toList.take (k * 5) ++ x ++ c1.toList.drop (k * 5 + x.length)).toArray = c2 := ⟨_, rfl⟩
 have hr2 : ∀ W ty dc, W.heap = w1.heap → (Builtin.copy_ #[28, 28] ty #[.slice (some ⟨g, k * 5, none⟩) (m + 1 + 1) dc, .slice (some ⟨vb, 0, none⟩) 1 1]).run Tryz.prog W = .ok (goInt (Nat.min 1 (m + 1 + 1))) (W.setRow g c2) := by
  intro W ty dc hW
  rw [← hc2]
  exact run_copyK W 28 28 ty 38 5 g (k * 5) (m + 1 + 1) dc ⟨vb, 0, none⟩ 1 1 c1 38 x Tryz.underlying28 hsz (by rw [hW]; exact hg1) (by rw [hxl, show Nat.min 1 (m + 1 + 1) = 1 from Nat.min_eq_left (by omega), Nat.one_mul]) (World.news_of_block (by rw [hW]; exact M1.heap hx hvb)) (by rw [hxl, hs1]; omega) hx1
 have hc1l : c1.toList.length = c * 5 := by simpa using hs1
 have hs2 : c2.size = c * 5 := by rw [← hc2, List.size_toArray]; simp only [List.length_append, List.length_take, List.length_drop, hxl, hc1l]; omega
 have hA : cur.toList.take (k * 5) = xs.take (k * 5) := by have h := congrArg (List.take (k * 5)) ht; rw [List.take_take, Nat.min_eq_left (by omega)] at h; exact h
 have hal : (xs.take (k * 5)).length = k * 5 := by rw [List.length_take, hxsl]; omega
 have hcl : cur.toList.length = c * 5 := by simpa using hcs
 have hx2 : c2.toList.take ((k + (m + 1) + 1) * 5) = xs.take (k * 5) ++ x ++ D := by
  rw [← hc2]
  have t1 : c1.toList.take (k * 5) = xs.take (k * 5) := by
   rw [← hc1, List.append_assoc, List.take_append_of_le_length (by simp only [List.length_take, hcl]; omega), List.take_take, Nat.min_eq_left (by omega), hA]
  have t2 : c1.toList.drop (k * 5 + x.length) = D ++ cur.toList.drop ((k + 1) * 5 + D.length) := by
   rw [← hc1, List.append_assoc]
   have : k * 5 + x.length = (cur.toList.take ((k + 1) * 5)).length := by rw [List.length_take, hcl, hxl]; omega
   rw [this, List.drop_left]
  rw [t1, t2]
  simp only []
  rw [← List.append_assoc]
  exact List.take_left' (by simp only [List.length_append, hal, hxl, hDl]; omega)
 have fin : ∀ W, W.heap = w1.heap → Mod (fun _ => False) w1 W → (W.setRow g c2).ownsRow 0 38 5 (.slice (some ⟨g, 0, none⟩) (k + (m + 1) + 1) c) (k + (m + 1) + 1) (xs.take (k * 5) ++ x ++ D) ∧ Mod (fun j => (Value.slice (some ⟨g, 0, none⟩) (k + (m + 1)) c).ownBlock = some j) w (W.setRow g c2) := fun W hW M =>
  ⟨own_shut c2 (setRow_heap W g c1 c2 38 _ (by rw [hW]; exact hg1)) (by omega) hcm hs2 hx2 (by simp only [List.length_append, hal, hxl, hDl]; omega),
   ((M1.trans M fun _ h => h.elim).trans' (mod_setRow W g c2)).mono fun j hj => .inl (by rw [hj]; rfl)⟩
 have hov : ∀ lb cb, (callFunc 138 #[.slice (some ⟨vb, 0, none⟩) 1 1, .slice (some ⟨g, (k + 1) * 5, none⟩) lb cb]).run Tryz.prog w = .ok (.value (.bool false)) w := fun lb cb => by
  have hb1 := (blkc hx).2
  rw [run_callFunc_extern Tryz.func138 (by kernel_rfl) (by kernel_rfl) (by kernel_rfl) (e := Extern.SlicesOverlaps.overlaps #[28, 28] #[4]) (by kernel_rfl),
   Lib.run_overlaps_apart w 28 4 38 Tryz.underlying28 5 (fun w => by simp [sizeOf, typeInfo, hi0, hz1]) ⟨vb, 0, none⟩ ⟨g, (k + 1) * 5, none⟩ 1 1 lb cb hvb 38 38 x.toArray.size cur.size (by simp [World.shape?, hx]) (by simp [World.shape?, hg]) (by rw [hcs]; omega) (hb1 _) (hb1 _)]
  rfl
 rw [hw1] at hr1
 unfold InsPSg
 rw [hD]
 clear h hg ht hxsl hD hD1 hsrc hc1 hc2 hs1 hs2 hx2 hg1 hw1 hcs M1 hDl hc1l hA hal hcl e hx hxl hx1 h1
 have hc64 : (c : Int) ≤ 9223372036854775807 := by simp only [maxLen] at hcm; omega
 have q1 : ((k : Int) == ((k + (m + 1) : Nat) : Int)) = false := by simp; omega
 have q2 : ¬ (k : Int) = ((k + (m + 1) : Nat) : Int) := by omega
 have q2' : ¬ k = k + (m + 1) := by omega
 have q2'' : ¬ (k : Int) = (k : Int) + ((m : Int) + 1) := by omega
 have q3 : k ≤ k + (m + 1) := by omega
 have q4 : (k : Int) ≤ (k : Int) + ((m : Int) + 1) := by omega
 have q5 : ¬ c = k := by omega
 have q6 : ¬ c = k + 1 := by omega
 have q7 : ¬ (c : Int) < (k : Int) + ((m : Int) + 1) + 1 := by omega
 have q8 : (k : Int) + ((m : Int) + 1) + 1 ≤ c := by omega
 have q9 : k + (m + 1) + 1 ≤ c := hroom
 have r1 : (k : Int) + 1 ≤ (k : Int) + ((m : Int) + 1) + 1 := by omega
 have r2 : k + (m + 1) + 1 - (k + 1) = m + 1 := by omega
 have r3 : k + (m + 1) + 1 - k = m + 1 + 1 := by omega
 have r4 : ¬ c - k = 0 := by omega
 have r5 : ¬ c - (k + 1) = 0 := by omega
 have r6 : (k : Int) ≤ (k : Int) + ((m : Int) + 1) + 1 := by omega
 have r7 : k + 1 ≤ k + (m + 1) + 1 := by omega
 have r8 : k ≤ k + (m + 1) + 1 := by omega
 have r9 : ((k : Int) + ((m : Int) + 1) + 1).toNat = k + (m + 1) + 1 := by omega
 have s1 : ((k : Int) + 1).toNat = k + 1 := by omega
 have s4 : IntKind.i64.wrap ((k : Int) + 1) = (k : Int) + 1 := by rw [IntKind.wrap_i64]; omega
 have s2 : (0 : Int) ≤ (k : Int) + 1 := by omega
 have s3 : (0 : Int) ≤ (k : Int) + ((m : Int) + 1) + 1 := by omega
 replace hr1 := fun ty dc sc => (show (Builtin.copy_ #[28, 28] ty #[.slice (some ⟨g, (k + 1) * 5, none⟩) (m + 1) dc, .slice (some ⟨g, k * 5, none⟩) (m + 1 + 1) sc]).run Tryz.prog w.drew = .ok (goInt (Nat.min (m + 1 + 1) (m + 1))) w1 from id (hr1 ty dc sc))
 replace hr2 := fun W ty dc hW => (show (Builtin.copy_ #[28, 28] ty #[.slice (some ⟨g, k * 5, none⟩) (m + 1 + 1) dc, .slice (some ⟨vb, 0, none⟩) 1 1]).run Tryz.prog W = .ok (goInt (Nat.min 1 (m + 1 + 1))) (W.setRow g c2) from id (hr2 W ty dc hW))
 replace fin := hid fin
 replace hcm := hid hcm
 replace hov := hid hov
 replace hr1 := hid hr1
 replace hr2 := hid hr2
 go_enter Tryz.func128, Tryz.ntmps128
 go_wp2_with (simp only [hov.out])
 go_region_law (refine step_copy_run rfl (.tmp 73) (.tmp 76) 28 28 rfl (.slice (some ⟨g, (k + 1) * 5, none⟩) (m + 1) (c - (k + 1))) (.slice (some ⟨g, k * 5, none⟩) (m + 1 + 1) (c - k)) (by simp [Act.eval, Act.put]) (by simp [Act.eval, Act.put]) (hr1.out _ _ _) ?_)
 have hr2w := fun ty dc => hr2.out w1 ty dc rfl
 go_wp2_with fail
 go_ret
 obtain ⟨f1, f2⟩ := fin.out _ rfl (Mod.refl _ _)
 exact ⟨_, rfl, f1, f2, fun j hj => .inl hj⟩
def InsPIt (w : World) (v : Value) (n k : Nat) (xs x : List Value) (e : Ending) (w' : World) : Prop :=
 ∃ v', e = .returned v' ∧ w'.ownsRow 0 3 1 v' (n + 1) (xs.take (k * 1) ++ x ++ xs.drop (k * 1)) ∧ Mod (fun j => v.ownBlock = some j) w w' ∧ (∀ j, v'.ownBlock = some j → v.ownBlock = some j ∨ w.heap.size ≤ j)
set_option maxHeartbeats 1000000 in
set_option maxRecDepth 100000 in
theorem insIt_end {w : World} {v : Value} {n : Nat} {xs x : List Value} {vb : Nat} (h : w.ownsRow 0 3 1 v n xs) (hx : w.heap[vb]? = some (.cells x.toArray 3 (0, 0))) (hxl : x.length = 1) (hx1 : ∀ u ∈ x, u.oneCell' = true) (hn : n ≤ 65536) :
  Calls Tryz.prog 135 #[v, .int .i64 n, .slice (some ⟨vb, 0, none⟩) 1 1] w (InsPIt w v n n xs x) := by
 obtain ⟨i0, hi0, hzz⟩ := Option.map_eq_some_iff.1 infoI7
 simp only [Prod.mk.injEq] at hzz
 obtain ⟨hz0, hz1, hz2⟩ := hzz
 have hxs : xs.take (n * 1) ++ x ++ xs.drop (n * 1) = xs ++ x := by
  rw [List.take_of_length_le (by rw [h.1]; omega), List.drop_of_length_le (by rw [h.1]; omega), List.append_nil]
 unfold InsPIt
 rw [hxs]
 have hnb : (n + 1) * 8 ≤ 140737488355328 := by omega
 obtain ⟨A, c, rfl, hnc, hcm, hA⟩ := own_slice h
 have hc64 : (c : Int) ≤ 9223372036854775807 := by simp only [maxLen] at hcm; omega
 have hnc2 : (n : Int) ≤ c := by omega
 clear hxs hA
 replace h := hid h
 replace hx := hid hx
 replace hx1 := hid hx1
 replace hxl := hid hxl
 replace hnb := hid hnb
 replace hcm := hid hcm
 go_enter Tryz.func135, Tryz.ntmps135
 go_wp2_with (at_builtin; refine wpList_append_own_at _ rfl _ _ 113 rfl 0 3 i0 _ 1 8 Tryz.underlying113 hi0 hz0 hz1 hz2 rfl (by omega) (.slice A n _) n xs rfl h.out ⟨vb, 0, none⟩ 1 1 x rfl (by have := hxl.out; omega) (World.news_of_block hx.out) hx1.out (by simp only [maxLen]; omega) hnb.out (Nat.zero_le _) ?_; intro v1 w1 hown hgr _ hat)
 all_goals
  go_ret
  refine ⟨v1, rfl, hown, (Mod.of_grown hgr).mono fun j hj => .inl (by cases A <;> exact hj), fun j hj => ?_⟩
  rcases hat with e | e
  ·rw [e] at hj; exact .inl (by cases A <;> exact hj)
  ·rw [e] at hj; cases hj; exact .inr (Nat.le_refl _)
set_option maxHeartbeats 2000000 in
set_option maxRecDepth 100000 in
theorem insIt_room {w : World} {g n c k : Nat} {xs x : List Value} {vb : Nat} (h : w.ownsRow 0 3 1 (.slice (some ⟨g, 0, none⟩) n c) n xs) (h1 : ∀ u ∈ xs, u.oneCell' = true) (hx : w.heap[vb]? = some (.cells x.toArray 3 (0, 0))) (hvb : vb ≠ g) (hxl : x.length = 1) (hx1 : ∀ u ∈ x, u.oneCell' = true)
  (hk : k < n) (hroom : n + 1 ≤ c) (hn : n ≤ 65536) :
  Calls Tryz.prog 135 #[.slice (some ⟨g, 0, none⟩) n c, .int .i64 k, .slice (some ⟨vb, 0, none⟩) 1 1] w (InsPIt w (.slice (some ⟨g, 0, none⟩) n c) n k xs x) := by
 obtain ⟨cur, hg, hnc, hcm, hcs, ht, hxsl⟩ := own_open h
 obtain ⟨m, hm⟩ : ∃ m, n = k + (m + 1) := ⟨n - (k + 1), by omega⟩
 subst hm
 obtain ⟨D, hD⟩ : ∃ D, xs.drop (k * 1) = D := ⟨_, rfl⟩
 have hDl : D.length = (m + 1) * 1 := by rw [← hD, List.length_drop, hxsl]; omega
 have hD1 : ∀ u ∈ D, u.oneCell' = true := fun u hu => h1 u (List.mem_of_mem_drop (by rw [hD]; exact hu))
 have e : ∀ (o n : Nat), (⟨g, o, none⟩ : Addr).add n = ⟨g, o + n, none⟩ := by intro o n; unfold Addr.add; split <;> simp_all
 have hsrc : ∀ j u, D[j]? = some u → w.drew.cell? ((⟨g, k * 1, none⟩ : Addr).add j) = some u := by
  intro j u hu
  have := World.ownsRow.cells h rfl (k * 1 + j) u (by rw [← hD, List.getElem?_drop] at hu; exact hu)
  rw [e] at this ⊢
  simpa using this
 obtain ⟨i0, hi0, hzz⟩ := Option.map_eq_some_iff.1 infoI7
 simp only [Prod.mk.injEq] at hzz
 obtain ⟨hz0, hz1, hz2⟩ := hzz
 have hsz : (Tryz.prog.info? 3).map (·.size) = some 1 := by rw [hi0]; simp [hz1]
 obtain ⟨c1, hc1⟩ : ∃ c1, (cur.toList.take ((k + 1) * 1) ++ D ++ cur.toList.drop ((k + 1) * 1 + D.length)).toArray = c1 := ⟨_, rfl⟩
 have hs1 : c1.size = c * 1 := by rw [← hc1, List.size_toArray]; simp only [List.length_append, List.length_take, List.length_drop, Array.length_toList, hDl, hcs]; omega
 have hr1 : ∀ ty dc sc, (Builtin.copy_ #[113, 113] ty #[.slice (some ⟨g, (k + 1) * 1, none⟩) (m + 1) dc, .slice (some ⟨g, k * 1, none⟩) (m + 1 + 1) sc]).run Tryz.prog w.drew = .ok (goInt (Nat.min (m + 1 + 1) (m + 1))) (w.drew.setRow g c1) := by
  intro ty dc sc
  rw [← hc1]
  exact run_copyK w.drew 113 113 ty 3 1 g ((k + 1) * 1) (m + 1) dc ⟨g, k * 1, none⟩ (m + 1 + 1) sc cur 3 D Tryz.underlying113 hsz hg (by rw [hDl, show Nat.min (m + 1 + 1) (m + 1) = m + 1 from Nat.min_eq_right (by omega)]) hsrc (by rw [hDl, hcs]; omega) hD1
 obtain ⟨w1, hw1⟩ : ∃ w1, w.drew.setRow g c1 = w1 := ⟨_, rfl⟩
 have hg1 : w1.heap[g]? = some (.cells c1 3 (0, 0)) := by rw [← hw1]; exact setRow_heap w.drew g cur c1 3 _ hg
 have M1 : Mod (fun j => j = g) w w1 := by rw [← hw1]; exact (Mod.drew (Mod.refl _ w)).trans' (mod_setRow w.drew g c1)
 obtain ⟨c2, hc2⟩ : ∃ c2, (c1.toList.take (k * 1) ++ x ++ c1.toList.drop (k * 1 + x.length)).toArray = c2 := ⟨_, rfl⟩
 have hr2 : ∀ W ty dc, W.heap = w1.heap → (Builtin.copy_ #[113, 113] ty #[.slice (some ⟨g, k * 1, none⟩) (m + 1 + 1) dc, .slice (some ⟨vb, 0, none⟩) 1 1]).run Tryz.prog W = .ok (goInt (Nat.min 1 (m + 1 + 1))) (W.setRow g c2) := by
  intro W ty dc hW
  rw [← hc2]
  exact run_copyK W 113 113 ty 3 1 g (k * 1) (m + 1 + 1) dc ⟨vb, 0, none⟩ 1 1 c1 3 x Tryz.underlying113 hsz (by rw [hW]; exact hg1) (by rw [hxl, show Nat.min 1 (m + 1 + 1) = 1 from Nat.min_eq_left (by omega), Nat.one_mul]) (World.news_of_block (by rw [hW]; exact M1.heap hx hvb)) (by rw [hxl, hs1]; omega) hx1
 have hc1l : c1.toList.length = c * 1 := by simpa using hs1
 have hs2 : c2.size = c * 1 := by rw [← hc2, List.size_toArray]; simp only [List.length_append, List.length_take, List.length_drop, hxl, hc1l]; omega
 have hA : cur.toList.take (k * 1) = xs.take (k * 1) := by have h := congrArg (List.take (k * 1)) ht; rw [List.take_take, Nat.min_eq_left (by omega)] at h; exact h
 have hal : (xs.take (k * 1)).length = k * 1 := by rw [List.length_take, hxsl]; omega
 have hcl : cur.toList.length = c * 1 := by simpa using hcs
 have hx2 : c2.toList.take ((k + (m + 1) + 1) * 1) = xs.take (k * 1) ++ x ++ D := by
  rw [← hc2]
  have t1 : c1.toList.take (k * 1) = xs.take (k * 1) := by
   rw [← hc1, List.append_assoc, List.take_append_of_le_length (by simp only [List.length_take, hcl]; omega), List.take_take, Nat.min_eq_left (by omega), hA]
  have t2 : c1.toList.drop (k * 1 + x.length) = D ++ cur.toList.drop ((k + 1) * 1 + D.length) := by
   rw [← hc1, List.append_assoc]
   have : k * 1 + x.length = (cur.toList.take ((k + 1) * 1)).length := by rw [List.length_take, hcl, hxl]; omega
   rw [this, List.drop_left]
  rw [t1, t2]
  simp only []
  rw [← List.append_assoc]
  exact List.take_left' (by simp only [List.length_append, hal, hxl, hDl]; omega)
 have fin : ∀ W, W.heap = w1.heap → Mod (fun _ => False) w1 W → (W.setRow g c2).ownsRow 0 3 1 (.slice (some ⟨g, 0, none⟩) (k + (m + 1) + 1) c) (k + (m + 1) + 1) (xs.take (k * 1) ++ x ++ D) ∧ Mod (fun j => (Value.slice (some ⟨g, 0, none⟩) (k + (m + 1)) c).ownBlock = some j) w (W.setRow g c2) := fun W hW M =>
  ⟨own_shut c2 (setRow_heap W g c1 c2 3 _ (by rw [hW]; exact hg1)) (by omega) hcm hs2 hx2 (by simp only [List.length_append, hal, hxl, hDl]; omega),
   ((M1.trans M fun _ h => h.elim).trans' (mod_setRow W g c2)).mono fun j hj => .inl (by rw [hj]; rfl)⟩
 have hov : ∀ lb cb, (callFunc 143 #[.slice (some ⟨vb, 0, none⟩) 1 1, .slice (some ⟨g, k + 1, none⟩) lb cb]).run Tryz.prog w = .ok (.value (.bool false)) w := fun lb cb => by
  have hb1 := (blkc hx).2
  rw [run_callFunc_extern Tryz.func143 (by kernel_rfl) (by kernel_rfl) (by kernel_rfl) (e := Extern.SlicesOverlaps.overlaps #[113, 113] #[4]) (by kernel_rfl),
   Lib.run_overlaps_apart w 113 4 3 Tryz.underlying113 1 (fun w => by simp [sizeOf, typeInfo, hi0, hz1]) ⟨vb, 0, none⟩ ⟨g, k + 1, none⟩ 1 1 lb cb hvb 3 3 x.toArray.size cur.size (by simp [World.shape?, hx]) (by simp [World.shape?, hg]) (by rw [hcs]; omega) (hb1 _) (hb1 _)]
  rfl
 rw [hw1] at hr1
 unfold InsPIt
 rw [hD]
 clear h hg ht hxsl hD hD1 hsrc hc1 hc2 hs1 hs2 hx2 hg1 hw1 hcs M1 hDl hc1l hA hal hcl e hx hxl hx1 h1
 have hc64 : (c : Int) ≤ 9223372036854775807 := by simp only [maxLen] at hcm; omega
 have q1 : ((k : Int) == ((k + (m + 1) : Nat) : Int)) = false := by simp; omega
 have q2 : ¬ (k : Int) = ((k + (m + 1) : Nat) : Int) := by omega
 have q2' : ¬ k = k + (m + 1) := by omega
 have q2'' : ¬ (k : Int) = (k : Int) + ((m : Int) + 1) := by omega
 have q3 : k ≤ k + (m + 1) := by omega
 have q4 : (k : Int) ≤ (k : Int) + ((m : Int) + 1) := by omega
 have q5 : ¬ c = k := by omega
 have q6 : ¬ c = k + 1 := by omega
 have q7 : ¬ (c : Int) < (k : Int) + ((m : Int) + 1) + 1 := by omega
 have q8 : (k : Int) + ((m : Int) + 1) + 1 ≤ c := by omega
 have q9 : k + (m + 1) + 1 ≤ c := hroom
 have r1 : (k : Int) + 1 ≤ (k : Int) + ((m : Int) + 1) + 1 := by omega
 have r2 : k + (m + 1) + 1 - (k + 1) = m + 1 := by omega
 have r3 : k + (m + 1) + 1 - k = m + 1 + 1 := by omega
 have r4 : ¬ c - k = 0 := by omega
 have r5 : ¬ c - (k + 1) = 0 := by omega
 have r6 : (k : Int) ≤ (k : Int) + ((m : Int) + 1) + 1 := by omega
 have r7 : k + 1 ≤ k + (m + 1) + 1 := by omega
 have r8 : k ≤ k + (m + 1) + 1 := by omega
 have r9 : ((k : Int) + ((m : Int) + 1) + 1).toNat = k + (m + 1) + 1 := by omega
 have s1 : ((k : Int) + 1).toNat = k + 1 := by omega
 have s4 : IntKind.i64.wrap ((k : Int) + 1) = (k : Int) + 1 := by rw [IntKind.wrap_i64]; omega
 have s2 : (0 : Int) ≤ (k : Int) + 1 := by omega
 have s3 : (0 : Int) ≤ (k : Int) + ((m : Int) + 1) + 1 := by omega
 replace hr1 := fun ty dc sc => (show (Builtin.copy_ #[113, 113] ty #[.slice (some ⟨g, k + 1, none⟩) (m + 1) dc, .slice (some ⟨g, k, none⟩) (m + 1 + 1) sc]).run Tryz.prog w.drew = .ok (goInt (Nat.min (m + 1 + 1) (m + 1))) w1 from (by simpa using ·) (hr1 ty dc sc))
 replace hr2 := fun W ty dc hW => (show (Builtin.copy_ #[113, 113] ty #[.slice (some ⟨g, k, none⟩) (m + 1 + 1) dc, .slice (some ⟨vb, 0, none⟩) 1 1]).run Tryz.prog W = .ok (goInt (Nat.min 1 (m + 1 + 1))) (W.setRow g c2) from (by simpa using ·) (hr2 W ty dc hW))
 replace fin := hid fin
 replace hcm := hid hcm
 replace hov := hid hov
 replace hr1 := hid hr1
 replace hr2 := hid hr2
 go_enter Tryz.func135, Tryz.ntmps135
 go_wp2_with (simp only [hov.out])
 go_region_law (refine step_copy_run rfl (.tmp 73) (.tmp 76) 113 113 rfl (.slice (some ⟨g, k + 1, none⟩) (m + 1) (c - (k + 1))) (.slice (some ⟨g, k, none⟩) (m + 1 + 1) (c - k)) (by simp [Act.eval, Act.put]) (by simp [Act.eval, Act.put]) (hr1.out _ _ _) ?_)
 have hr2w := fun ty dc => hr2.out w1 ty dc rfl
 go_wp2_with fail
 go_ret
 obtain ⟨f1, f2⟩ := fin.out _ rfl (Mod.refl _ _)
 exact ⟨_, rfl, f1, f2, fun j hj => .inl hj⟩
end Go.Proofs.Bo
