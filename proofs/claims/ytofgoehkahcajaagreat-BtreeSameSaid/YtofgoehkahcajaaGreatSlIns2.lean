import Derived.Test.YtofgoehkahcajaaGreatSlIns
set_option linter.unusedVariables false
set_option linter.unusedSimpArgs false
namespace Go.Proofs.Bo
open Go Go.RowKit

set_option maxHeartbeats 2000000 in
set_option maxRecDepth 100000 in
theorem insSg_grow {w : World} {g n k : Nat} {xs x : List Value} {vb : Nat} (h : w.ownsRow 0 39 5 (.slice (some ⟨g, 0, none⟩) n n) n xs) (h1 : ∀ u ∈ xs, u.oneCell' = true) (hx : w.heap[vb]? = some (.cells x.toArray 39 (0, 0))) (hxl : x.length = 5) (hx1 : ∀ u ∈ x, u.oneCell' = true)
    (hk : k < n) (hn : n ≤ 65536) :
    Calls Tryz.prog 58 #[.slice (some ⟨g, 0, none⟩) n n, .int .i64 k, .slice (some ⟨vb, 0, none⟩) 1 1] w (InsPSg w (.slice (some ⟨g, 0, none⟩) n n) n k xs x) := by
  obtain ⟨cur, hg, hnc, hcm, hcs, ht, hxsl⟩ := own_open h
  have hgl := blkl hg
  have hvl := blkl hx
  obtain ⟨m, hm⟩ : ∃ m, n = k + (m + 1) := ⟨n - (k + 1), by omega⟩
  subst hm
  obtain ⟨D, hD⟩ : ∃ D, xs.drop (k * 5) = D := ⟨_, rfl⟩
  have hDl : D.length = (m + 1) * 5 := by rw [← hD, List.length_drop, hxsl]; omega
  have hD1 : ∀ u ∈ D, u.oneCell' = true := fun u hu => h1 u (List.mem_of_mem_drop (by rw [hD]; exact hu))
  have e : ∀ (o n : Nat), (⟨g, o, none⟩ : Addr).add n = ⟨g, o + n, none⟩ := by intro o n; unfold Addr.add; split <;> simp_all
  have hsrc : ∀ W : World, W.heap[g]? = w.heap[g]? → ∀ j u, D[j]? = some u → W.cell? ((⟨g, k * 5, none⟩ : Addr).add j) = some u := by
    intro W hW j u hu
    have := World.ownsRow.cells h rfl (k * 5 + j) u (by rw [← hD, List.getElem?_drop] at hu; exact hu)
    rw [e] at this ⊢
    rw [← this]
    simp [World.cell?, hW]
  obtain ⟨i0, hi0, hzz⟩ := Option.map_eq_some_iff.1 infoS7
  simp only [Prod.mk.injEq] at hzz
  obtain ⟨hz0, hz1, hz2⟩ := hzz
  have hsz : (Tryz.prog.info? 39).map (·.size) = some 5 := by rw [hi0]; simp [hz1]
  have hal : (xs.take (k * 5)).length = k * 5 := by rw [List.length_take, hxsl]; omega
  have hold : (Builtin.firstCells i0.size k (.slice (some ⟨g, 0, none⟩) k (k + (m + 1)))).run Tryz.prog w.drew = .ok (xs.take (k * 5)).toArray w.drew :=
    run_firstCells_some w.drew i0.size k ⟨g, 0, none⟩ k (k + (m + 1)) (xs.take (k * 5)) (by rw [hal, hz1]) fun j u hu => by
      have hj := (List.getElem?_eq_some_iff.1 hu).1
      rw [hal] at hj
      have := World.ownsRow.cells h rfl j u (by rw [List.getElem?_take, if_pos hj] at hu; exact hu)
      exact this
  have hr0 := fun ty => Lib.run_append_grow_zeros (P := Tryz.prog) w 28 3 ty 39 i0 (.agg #[.int .i64 0, .int .i64 0, .int .i64 0, .int .i64 0, .int .i64 0]) .i64 .i64 Tryz.underlying28 Tryz.underlying3 hi0 hz0 (some ⟨g, 0, none⟩) k (k + (m + 1)) (xs.take (k * 5)) hold (m + 1 + 1) (by omega) (by omega) (by omega) (by omega) (by rw [hz2]; omega) (growslice_fits (by omega) (by rw [hz2]; omega))
  have hcc1 := grownCap_ge w (k + (m + 1 + 1)) (k + (m + 1)) 39
  have hcc2 := grownCap_le_maxLen w (k + (m + 1 + 1)) (k + (m + 1)) 39 (by simp only [maxLen]; omega)
  generalize grownCap w (k + (m + 1 + 1)) (k + (m + 1)) 39 = cc at hr0 hcc1 hcc2
  obtain ⟨c0, hc0⟩ : ∃ c0, (xs.take (k * 5)).toArray ++ Builtin.zeroCells (.agg #[.int .i64 0, .int .i64 0, .int .i64 0, .int .i64 0, .int .i64 0] : Value).cells (m + 1 + 1) ++ Builtin.zeroCells (.agg #[.int .i64 0, .int .i64 0, .int .i64 0, .int .i64 0, .int .i64 0] : Value).cells (cc - (k + (m + 1 + 1))) = c0 := ⟨_, rfl⟩
  have hzs : (.agg #[.int .i64 0, .int .i64 0, .int .i64 0, .int .i64 0, .int .i64 0] : Value).cells.size = 5 := rfl
  have hs0 : c0.size = cc * 5 := by rw [← hc0]; simp only [Array.size_append, List.size_toArray, size_zeroCells, hzs, hal]; omega
  have ht0 : c0.toList.take (k * 5) = xs.take (k * 5) := by rw [← hc0]; simp only [Array.toList_append, List.append_assoc]; exact List.take_left' hal
  rw [hc0] at hr0
  obtain ⟨W1, hW1⟩ : ∃ W1, w.drew.alloc (.cells c0 39) = W1 := ⟨_, rfl⟩
  have hb1 : W1.heap[w.heap.size]? = some (.cells c0 39 (0, 0)) := by rw [← hW1]; exact heap_alloc_new w.drew _
  have M1 : Mod (fun _ => False) w W1 := by rw [← hW1]; exact (Mod.drew (Mod.refl _ w)).alloc _
  rw [hW1] at hr0
  obtain ⟨c1, hc1⟩ : ∃ c1, (c0.toList.take (k * 5) ++ x ++ c0.toList.drop (k * 5 + x.length)).toArray = c1 := ⟨_, rfl⟩
  have hc0l : c0.toList.length = cc * 5 := by simpa using hs0
  have hs1 : c1.size = cc * 5 := by rw [← hc1, List.size_toArray]; simp only [List.length_append, List.length_take, List.length_drop, hc0l, hxl]; omega
  have hr1 : ∀ ty dc, (Builtin.copy_ #[28, 28] ty #[.slice (some ⟨w.heap.size, k * 5, none⟩) (m + 1 + 1) dc, .slice (some ⟨vb, 0, none⟩) 1 1]).run Tryz.prog W1 = .ok (goInt (Nat.min 1 (m + 1 + 1))) (W1.setRow w.heap.size c1) := by
    intro ty dc
    rw [← hc1]
    exact id (run_copyK W1 28 28 ty 39 5 w.heap.size (k * 5) (m + 1 + 1) dc ⟨vb, 0, none⟩ 1 1 c0 39 x Tryz.underlying28 hsz hb1 (by rw [hxl, show Nat.min 1 (m + 1 + 1) = 1 from Nat.min_eq_left (by omega), Nat.one_mul]) (World.news_of_block (M1.heap hx fun h => h)) (by rw [hxl, hs0]; omega) hx1)
  obtain ⟨W2, hW2⟩ : ∃ W2, W1.setRow w.heap.size c1 = W2 := ⟨_, rfl⟩
  have hb2 : W2.heap[w.heap.size]? = some (.cells c1 39 (0, 0)) := by rw [← hW2]; exact setRow_heap W1 _ c0 c1 39 _ hb1
  have M2 : Mod (fun _ => False) w W2 := by rw [← hW2]; exact M1.trans (mod_setRow W1 _ c1) fun j hj => .inr (by have : j = w.heap.size := hj; omega)
  rw [hW2] at hr1
  obtain ⟨c2, hc2⟩ : ∃ c2, (c1.toList.take ((k + 1) * 5) ++ D ++ c1.toList.drop ((k + 1) * 5 + D.length)).toArray = c2 := ⟨_, rfl⟩
  have hc1l : c1.toList.length = cc * 5 := by simpa using hs1
  have hs2 : c2.size = cc * 5 := by rw [← hc2, List.size_toArray]; simp only [List.length_append, List.length_take, List.length_drop, hc1l, hDl]; omega
  have hr2 : ∀ ty dc sc, (Builtin.copy_ #[28, 28] ty #[.slice (some ⟨w.heap.size, (k + 1) * 5, none⟩) (m + 1) dc, .slice (some ⟨g, k * 5, none⟩) (m + 1) sc]).run Tryz.prog W2.drew = .ok (goInt (Nat.min (m + 1) (m + 1))) (W2.drew.setRow w.heap.size c2) := by
    intro ty dc sc
    rw [← hc2]
    exact id (run_copyK W2.drew 28 28 ty 39 5 w.heap.size ((k + 1) * 5) (m + 1) dc ⟨g, k * 5, none⟩ (m + 1) sc c1 39 D Tryz.underlying28 hsz hb2 (by rw [hDl, show Nat.min (m + 1) (m + 1) = m + 1 from Nat.min_self _]) (hsrc _ (M2.block g hgl fun h => h)) (by rw [hDl, hs1]; omega) hD1)
  have hx2 : c2.toList.take ((k + (m + 1) + 1) * 5) = xs.take (k * 5) ++ x ++ D := by
    rw [← hc2]
    have t1 : c1.toList.take ((k + 1) * 5) = xs.take (k * 5) ++ x := by
      rw [← hc1]
      simp only []
      rw [ht0]
      exact List.take_left' (by simp only [List.length_append, hal, hxl]; omega)
    rw [t1]
    exact List.take_left' (by simp only [List.length_append, hal, hxl, hDl]; omega)
  have hgn : g ≠ w.heap.size := by omega
  have fin : (W2.drew.setRow w.heap.size c2).ownsRow 0 39 5 (.slice (some ⟨w.heap.size, 0, none⟩) (k + (m + 1) + 1) cc) (k + (m + 1) + 1) (xs.take (k * 5) ++ x ++ D) ∧ Mod (fun j => (Value.slice (some ⟨g, 0, none⟩) (k + (m + 1)) (k + (m + 1))).ownBlock = some j) w (W2.drew.setRow w.heap.size c2) :=
    ⟨own_shut c2 (setRow_heap W2.drew _ c1 c2 39 _ hb2) (by omega) hcc2 hs2 hx2 (by simp only [List.length_append, hal, hxl, hDl]; omega),
      ((M2.drew).trans (mod_setRow W2.drew _ c2) fun j hj => .inr (by have : j = w.heap.size := hj; omega)).mono fun j hj => hj.elim⟩
  unfold InsPSg
  rw [hD]
  clear h hg ht hxsl hD hD1 hsrc hc1 hc2 hs1 hs2 hx2 hb1 hb2 hW1 hW2 hcs M1 M2 hDl hc1l hal e hx hxl hx1 h1 hold hc0 hs0 ht0 hc0l hzs hsz
  have hc64 : (cc : Int) ≤ 9223372036854775807 := by simp only [maxLen] at hcc2; omega
  have q2 : ¬ (k : Int) = ((k + (m + 1) : Nat) : Int) := by omega
  have q2' : ¬ k = k + (m + 1) := by omega
  have q2'' : ¬ (k : Int) = (k : Int) + ((m : Int) + 1) := by omega
  have q3 : k ≤ k + (m + 1) := by omega
  have q4 : (k : Int) ≤ (k : Int) + ((m : Int) + 1) := by omega
  have q5 : ¬ cc = k := by omega
  have q6 : ¬ cc = k + 1 := by omega
  have q7 : (k : Int) + ((m : Int) + 1) < (k : Int) + ((m : Int) + 1) + 1 := by omega
  have r1 : (k : Int) + 1 ≤ (k : Int) + ((m : Int) + 1 + 1) := by omega
  have r2 : k + (m + 1 + 1) - (k + 1) = m + 1 := by omega
  have r3 : k + (m + 1 + 1) - k = m + 1 + 1 := by omega
  have r0 : k + (m + 1) - k = m + 1 := by omega
  have r6 : (k : Int) ≤ (k : Int) + ((m : Int) + 1 + 1) := by omega
  have r7 : k + 1 ≤ k + (m + 1 + 1) := by omega
  have r8 : k ≤ k + (m + 1 + 1) := by omega
  have s1 : ((k : Int) + 1).toNat = k + 1 := by omega
  have s4 : IntKind.i64.wrap ((k : Int) + 1) = (k : Int) + 1 := by rw [IntKind.wrap_i64]; omega
  have s5 : IntKind.i64.wrap ((k : Int) + ((m : Int) + 1) + 1 - (k : Int)) = (m : Int) + 1 + 1 := by rw [IntKind.wrap_i64]; omega
  have s6 : ((m + 1 + 1 : Nat) : Int) = (m : Int) + 1 + 1 := by omega
  have s2 : (0 : Int) ≤ (k : Int) + 1 := by omega
  have s7 : k + (m + 1) + 1 = k + (m + 1 + 1) := by omega
  rw [s6] at hr0
  rw [s7] at fin ⊢
  replace fin := hid fin
  replace hcc2 := hid hcc2
  replace hcm := hid hcm
  replace hr0 := hid hr0
  replace hr2 := hid hr2
  replace s7 := hid s7
  replace s6 := hid s6
  go_enter Tryz.func58, Tryz.ntmps58
  go_wp2_with (at_builtin; refine Lib.wpList_append_run _ rfl (.tmp 34) (.tmp 39) 28 3 rfl (.slice (some ⟨g, 0, none⟩) k (k + (m + 1))) (.int .i64 ((m : Int) + 1 + 1)) rfl rfl _ _ (hr0.out _) ?_)
  go_region_law (refine step_copy_run rfl (.tmp 50) (.tmp 53) 28 28 rfl (.slice (some ⟨w.heap.size, (k + 1) * 5, none⟩) (m + 1) (cc - (k + 1))) (.slice (some ⟨g, k * 5, none⟩) (m + 1) (m + 1)) (by simp [Act.eval, Act.put]) (by simp [Act.eval, Act.put]) (hr2.out _ _ _) ?_)
  go_wp2_with fail
  go_ret
  exact ⟨_, rfl, fin.out.1, fin.out.2, fun j hj => .inr (by cases hj; exact Nat.le_refl _)⟩

theorem insSg {w : World} {v : Value} {n k : Nat} {xs x : List Value} {vb : Nat} (h : w.ownsRow 0 39 5 v n xs) (h1 : ∀ u ∈ xs, u.oneCell' = true) (hx : w.heap[vb]? = some (.cells x.toArray 39 (0, 0))) (hvb : ∀ j, v.ownBlock = some j → vb ≠ j) (hxl : x.length = 5) (hx1 : ∀ u ∈ x, u.oneCell' = true)
    (hk : k ≤ n) (hn : n ≤ 65536) : Calls Tryz.prog 58 #[v, .int .i64 k, .slice (some ⟨vb, 0, none⟩) 1 1] w (InsPSg w v n k xs x) := by
  by_cases hkn : k = n
  · subst hkn; exact insSg_end h hx hxl hx1 hn
  · obtain ⟨A, c, rfl, hnc, hcm, hA⟩ := own_slice h
    obtain ⟨g, rfl⟩ := hA (by omega)
    by_cases hc : n + 1 ≤ c
    · exact insSg_room h h1 hx (hvb g rfl) hxl hx1 (by omega) hc hn
    · obtain rfl : c = n := by omega
      exact insSg_grow h h1 hx hxl hx1 (by omega) hn

set_option maxHeartbeats 2000000 in
set_option maxRecDepth 100000 in
theorem insIt_grow {w : World} {g n k : Nat} {xs x : List Value} {vb : Nat} (h : w.ownsRow 0 3 1 (.slice (some ⟨g, 0, none⟩) n n) n xs) (h1 : ∀ u ∈ xs, u.oneCell' = true) (hx : w.heap[vb]? = some (.cells x.toArray 3 (0, 0))) (hxl : x.length = 1) (hx1 : ∀ u ∈ x, u.oneCell' = true)
    (hk : k < n) (hn : n ≤ 65536) :
    Calls Tryz.prog 85 #[.slice (some ⟨g, 0, none⟩) n n, .int .i64 k, .slice (some ⟨vb, 0, none⟩) 1 1] w (InsPIt w (.slice (some ⟨g, 0, none⟩) n n) n k xs x) := by
  obtain ⟨cur, hg, hnc, hcm, hcs, ht, hxsl⟩ := own_open h
  have hgl := blkl hg
  have hvl := blkl hx
  obtain ⟨m, hm⟩ : ∃ m, n = k + (m + 1) := ⟨n - (k + 1), by omega⟩
  subst hm
  obtain ⟨D, hD⟩ : ∃ D, xs.drop (k * 1) = D := ⟨_, rfl⟩
  have hDl : D.length = (m + 1) * 1 := by rw [← hD, List.length_drop, hxsl]; omega
  have hD1 : ∀ u ∈ D, u.oneCell' = true := fun u hu => h1 u (List.mem_of_mem_drop (by rw [hD]; exact hu))
  have e : ∀ (o n : Nat), (⟨g, o, none⟩ : Addr).add n = ⟨g, o + n, none⟩ := by intro o n; unfold Addr.add; split <;> simp_all
  have hsrc : ∀ W : World, W.heap[g]? = w.heap[g]? → ∀ j u, D[j]? = some u → W.cell? ((⟨g, k * 1, none⟩ : Addr).add j) = some u := by
    intro W hW j u hu
    have := World.ownsRow.cells h rfl (k * 1 + j) u (by rw [← hD, List.getElem?_drop] at hu; exact hu)
    rw [e] at this ⊢
    rw [← this]
    simp [World.cell?, hW]
  obtain ⟨i0, hi0, hzz⟩ := Option.map_eq_some_iff.1 infoI7
  simp only [Prod.mk.injEq] at hzz
  obtain ⟨hz0, hz1, hz2⟩ := hzz
  have hsz : (Tryz.prog.info? 3).map (·.size) = some 1 := by rw [hi0]; simp [hz1]
  have hal : (xs.take (k * 1)).length = k * 1 := by rw [List.length_take, hxsl]; omega
  have hold : (Builtin.firstCells i0.size k (.slice (some ⟨g, 0, none⟩) k (k + (m + 1)))).run Tryz.prog w.drew = .ok (xs.take (k * 1)).toArray w.drew :=
    run_firstCells_some w.drew i0.size k ⟨g, 0, none⟩ k (k + (m + 1)) (xs.take (k * 1)) (by rw [hal, hz1]) fun j u hu => by
      have hj := (List.getElem?_eq_some_iff.1 hu).1
      rw [hal] at hj
      have := World.ownsRow.cells h rfl j u (by rw [List.getElem?_take, if_pos hj] at hu; exact hu)
      exact this
  have hr0 := fun ty => Lib.run_append_grow_zeros (P := Tryz.prog) w 86 3 ty 3 i0 (.int .i64 0) .i64 .i64 Tryz.underlying86 Tryz.underlying3 hi0 hz0 (some ⟨g, 0, none⟩) k (k + (m + 1)) (xs.take (k * 1)) hold (m + 1 + 1) (by omega) (by omega) (by omega) (by omega) (by rw [hz2]; omega) (growslice_fits (by omega) (by rw [hz2]; omega))
  have hcc1 := grownCap_ge w (k + (m + 1 + 1)) (k + (m + 1)) 3
  have hcc2 := grownCap_le_maxLen w (k + (m + 1 + 1)) (k + (m + 1)) 3 (by simp only [maxLen]; omega)
  generalize grownCap w (k + (m + 1 + 1)) (k + (m + 1)) 3 = cc at hr0 hcc1 hcc2
  obtain ⟨c0, hc0⟩ : ∃ c0, (xs.take (k * 1)).toArray ++ Builtin.zeroCells (.int .i64 0 : Value).cells (m + 1 + 1) ++ Builtin.zeroCells (.int .i64 0 : Value).cells (cc - (k + (m + 1 + 1))) = c0 := ⟨_, rfl⟩
  have hzs : (.int .i64 0 : Value).cells.size = 1 := rfl
  have hs0 : c0.size = cc * 1 := by rw [← hc0]; simp only [Array.size_append, List.size_toArray, size_zeroCells, hzs, hal]; omega
  have ht0 : c0.toList.take (k * 1) = xs.take (k * 1) := by rw [← hc0]; simp only [Array.toList_append, List.append_assoc]; exact List.take_left' hal
  rw [hc0] at hr0
  obtain ⟨W1, hW1⟩ : ∃ W1, w.drew.alloc (.cells c0 3) = W1 := ⟨_, rfl⟩
  have hb1 : W1.heap[w.heap.size]? = some (.cells c0 3 (0, 0)) := by rw [← hW1]; exact heap_alloc_new w.drew _
  have M1 : Mod (fun _ => False) w W1 := by rw [← hW1]; exact (Mod.drew (Mod.refl _ w)).alloc _
  rw [hW1] at hr0
  obtain ⟨c1, hc1⟩ : ∃ c1, (c0.toList.take (k * 1) ++ x ++ c0.toList.drop (k * 1 + x.length)).toArray = c1 := ⟨_, rfl⟩
  have hc0l : c0.toList.length = cc * 1 := by simpa using hs0
  have hs1 : c1.size = cc * 1 := by rw [← hc1, List.size_toArray]; simp only [List.length_append, List.length_take, List.length_drop, hc0l, hxl]; omega
  have hr1 : ∀ ty dc, (Builtin.copy_ #[86, 86] ty #[.slice (some ⟨w.heap.size, k, none⟩) (m + 1 + 1) dc, .slice (some ⟨vb, 0, none⟩) 1 1]).run Tryz.prog W1 = .ok (goInt (Nat.min 1 (m + 1 + 1))) (W1.setRow w.heap.size c1) := by
    intro ty dc
    rw [← hc1]
    exact (by simpa using ·) (run_copyK W1 86 86 ty 3 1 w.heap.size (k * 1) (m + 1 + 1) dc ⟨vb, 0, none⟩ 1 1 c0 3 x Tryz.underlying86 hsz hb1 (by rw [hxl, show Nat.min 1 (m + 1 + 1) = 1 from Nat.min_eq_left (by omega), Nat.one_mul]) (World.news_of_block (M1.heap hx fun h => h)) (by rw [hxl, hs0]; omega) hx1)
  obtain ⟨W2, hW2⟩ : ∃ W2, W1.setRow w.heap.size c1 = W2 := ⟨_, rfl⟩
  have hb2 : W2.heap[w.heap.size]? = some (.cells c1 3 (0, 0)) := by rw [← hW2]; exact setRow_heap W1 _ c0 c1 3 _ hb1
  have M2 : Mod (fun _ => False) w W2 := by rw [← hW2]; exact M1.trans (mod_setRow W1 _ c1) fun j hj => .inr (by have : j = w.heap.size := hj; omega)
  rw [hW2] at hr1
  obtain ⟨c2, hc2⟩ : ∃ c2, (c1.toList.take ((k + 1) * 1) ++ D ++ c1.toList.drop ((k + 1) * 1 + D.length)).toArray = c2 := ⟨_, rfl⟩
  have hc1l : c1.toList.length = cc * 1 := by simpa using hs1
  have hs2 : c2.size = cc * 1 := by rw [← hc2, List.size_toArray]; simp only [List.length_append, List.length_take, List.length_drop, hc1l, hDl]; omega
  have hr2 : ∀ ty dc sc, (Builtin.copy_ #[86, 86] ty #[.slice (some ⟨w.heap.size, k + 1, none⟩) (m + 1) dc, .slice (some ⟨g, k, none⟩) (m + 1) sc]).run Tryz.prog W2.drew = .ok (goInt (Nat.min (m + 1) (m + 1))) (W2.drew.setRow w.heap.size c2) := by
    intro ty dc sc
    rw [← hc2]
    exact (by simpa using ·) (run_copyK W2.drew 86 86 ty 3 1 w.heap.size ((k + 1) * 1) (m + 1) dc ⟨g, k * 1, none⟩ (m + 1) sc c1 3 D Tryz.underlying86 hsz hb2 (by rw [hDl, show Nat.min (m + 1) (m + 1) = m + 1 from Nat.min_self _]) (hsrc _ (M2.block g hgl fun h => h)) (by rw [hDl, hs1]; omega) hD1)
  have hx2 : c2.toList.take ((k + (m + 1) + 1) * 1) = xs.take (k * 1) ++ x ++ D := by
    rw [← hc2]
    have t1 : c1.toList.take ((k + 1) * 1) = xs.take (k * 1) ++ x := by
      rw [← hc1]
      simp only []
      rw [ht0]
      exact List.take_left' (by simp only [List.length_append, hal, hxl]; omega)
    rw [t1]
    exact List.take_left' (by simp only [List.length_append, hal, hxl, hDl]; omega)
  have hgn : g ≠ w.heap.size := by omega
  have fin : (W2.drew.setRow w.heap.size c2).ownsRow 0 3 1 (.slice (some ⟨w.heap.size, 0, none⟩) (k + (m + 1) + 1) cc) (k + (m + 1) + 1) (xs.take (k * 1) ++ x ++ D) ∧ Mod (fun j => (Value.slice (some ⟨g, 0, none⟩) (k + (m + 1)) (k + (m + 1))).ownBlock = some j) w (W2.drew.setRow w.heap.size c2) :=
    ⟨own_shut c2 (setRow_heap W2.drew _ c1 c2 3 _ hb2) (by omega) hcc2 hs2 hx2 (by simp only [List.length_append, hal, hxl, hDl]; omega),
      ((M2.drew).trans (mod_setRow W2.drew _ c2) fun j hj => .inr (by have : j = w.heap.size := hj; omega)).mono fun j hj => hj.elim⟩
  unfold InsPIt
  rw [hD]
  clear h hg ht hxsl hD hD1 hsrc hc1 hc2 hs1 hs2 hx2 hb1 hb2 hW1 hW2 hcs M1 M2 hDl hc1l hal e hx hxl hx1 h1 hold hc0 hs0 ht0 hc0l hzs hsz
  have hc64 : (cc : Int) ≤ 9223372036854775807 := by simp only [maxLen] at hcc2; omega
  have q2 : ¬ (k : Int) = ((k + (m + 1) : Nat) : Int) := by omega
  have q2' : ¬ k = k + (m + 1) := by omega
  have q2'' : ¬ (k : Int) = (k : Int) + ((m : Int) + 1) := by omega
  have q3 : k ≤ k + (m + 1) := by omega
  have q4 : (k : Int) ≤ (k : Int) + ((m : Int) + 1) := by omega
  have q5 : ¬ cc = k := by omega
  have q6 : ¬ cc = k + 1 := by omega
  have q7 : (k : Int) + ((m : Int) + 1) < (k : Int) + ((m : Int) + 1) + 1 := by omega
  have r1 : (k : Int) + 1 ≤ (k : Int) + ((m : Int) + 1 + 1) := by omega
  have r2 : k + (m + 1 + 1) - (k + 1) = m + 1 := by omega
  have r3 : k + (m + 1 + 1) - k = m + 1 + 1 := by omega
  have r0 : k + (m + 1) - k = m + 1 := by omega
  have r6 : (k : Int) ≤ (k : Int) + ((m : Int) + 1 + 1) := by omega
  have r7 : k + 1 ≤ k + (m + 1 + 1) := by omega
  have r8 : k ≤ k + (m + 1 + 1) := by omega
  have s1 : ((k : Int) + 1).toNat = k + 1 := by omega
  have s4 : IntKind.i64.wrap ((k : Int) + 1) = (k : Int) + 1 := by rw [IntKind.wrap_i64]; omega
  have s5 : IntKind.i64.wrap ((k : Int) + ((m : Int) + 1) + 1 - (k : Int)) = (m : Int) + 1 + 1 := by rw [IntKind.wrap_i64]; omega
  have s6 : ((m + 1 + 1 : Nat) : Int) = (m : Int) + 1 + 1 := by omega
  have s2 : (0 : Int) ≤ (k : Int) + 1 := by omega
  have s7 : k + (m + 1) + 1 = k + (m + 1 + 1) := by omega
  rw [s6] at hr0
  rw [s7] at fin ⊢
  replace fin := hid fin
  replace hcc2 := hid hcc2
  replace hcm := hid hcm
  replace hr0 := hid hr0
  replace hr2 := hid hr2
  replace s7 := hid s7
  replace s6 := hid s6
  go_enter Tryz.func85, Tryz.ntmps85
  go_wp2_with (at_builtin; refine Lib.wpList_append_run _ rfl (.tmp 34) (.tmp 39) 86 3 rfl (.slice (some ⟨g, 0, none⟩) k (k + (m + 1))) (.int .i64 ((m : Int) + 1 + 1)) rfl rfl _ _ (hr0.out _) ?_)
  go_region_law (refine step_copy_run rfl (.tmp 50) (.tmp 53) 86 86 rfl (.slice (some ⟨w.heap.size, k + 1, none⟩) (m + 1) (cc - (k + 1))) (.slice (some ⟨g, k, none⟩) (m + 1) (m + 1)) (by simp [Act.eval, Act.put]) (by simp [Act.eval, Act.put]) (hr2.out _ _ _) ?_)
  go_wp2_with fail
  go_ret
  exact ⟨_, rfl, fin.out.1, fin.out.2, fun j hj => .inr (by cases hj; exact Nat.le_refl _)⟩

theorem insIt {w : World} {v : Value} {n k : Nat} {xs x : List Value} {vb : Nat} (h : w.ownsRow 0 3 1 v n xs) (h1 : ∀ u ∈ xs, u.oneCell' = true) (hx : w.heap[vb]? = some (.cells x.toArray 3 (0, 0))) (hvb : ∀ j, v.ownBlock = some j → vb ≠ j) (hxl : x.length = 1) (hx1 : ∀ u ∈ x, u.oneCell' = true)
    (hk : k ≤ n) (hn : n ≤ 65536) : Calls Tryz.prog 85 #[v, .int .i64 k, .slice (some ⟨vb, 0, none⟩) 1 1] w (InsPIt w v n k xs x) := by
  by_cases hkn : k = n
  · subst hkn; exact insIt_end h hx hxl hx1 hn
  · obtain ⟨A, c, rfl, hnc, hcm, hA⟩ := own_slice h
    obtain ⟨g, rfl⟩ := hA (by omega)
    by_cases hc : n + 1 ≤ c
    · exact insIt_room h h1 hx (hvb g rfl) hxl hx1 (by omega) hc hn
    · obtain rfl : c = n := by omega
      exact insIt_grow h h1 hx hxl hx1 (by omega) hn
end Go.Proofs.Bo
