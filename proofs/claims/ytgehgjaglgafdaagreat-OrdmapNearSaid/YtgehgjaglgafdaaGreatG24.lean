import Derived.Test.YtgehgjaglgafdaaGreatG23
import Derived.Laws.Cover3
import Derived.Test.YtgehgjaglgafdaaGreatG22
set_option linter.unusedVariables false
set_option linter.unusedSimpArgs false
namespace Go.Proofs.Bo
open Go Go.RowKit
set_option maxHeartbeats 2000000 in
set_option maxRecDepth 100000 in
theorem insSg_grow {w : World} {g n k : Nat} {xs x : List Value} {vb : Nat} (h : w.ownsRow 0 38 5 (.slice (some ⟨g, 0, none⟩) n n) n xs) (h1 : ∀ u ∈ xs, u.oneCell' = true) (hx : w.heap[vb]? = some (.cells x.toArray 38 (0, 0))) (hxl : x.length = 5) (hx1 : ∀ u ∈ x, u.oneCell' = true)
  (hk : k < n) (hn : n ≤ 65536) :
  Calls Tryz.prog 128 #[.slice (some ⟨g, 0, none⟩) n n, .int .i64 k, .slice (some ⟨vb, 0, none⟩) 1 1] w (InsPSg w (.slice (some ⟨g, 0, none⟩) n n) n k xs x) := by
 obtain ⟨cur, hg, hnc, hcm, hcs, ht, hxsl⟩ := own_open h
 have hgl := blkl hg
 have hvl := blkl hx
 obtain ⟨m, hm⟩ : ∃ m, n = k + (m + 1) := ⟨n - (k + 1), by omega⟩
 subst hm
 obtain ⟨D, hD⟩ : ∃ D, xs.drop (k * 5) = D := ⟨_, rfl⟩
 have hDl : D.length = (m + 1) * 5 := by rw [← hD, List.length_drop, hxsl]; omega
 have hD1 : ∀ u ∈ D, u.oneCell' = true := fun u hu => h1 u (List.mem_of_mem_drop (by rw [hD]; exact hu))
 have e : ∀ (o n : Nat), (⟨g, o, none⟩ : Addr).add n = ⟨g, o + n, none⟩ := by intro o n; unfold Addr.add; split <;> simp_all
 have hsrc : ∀ W : World, W.heap[g]? = w.heap[g]? → ∀ j u, D[j]? = some u → W.cell? ((⟨g, k * 5, none⟩ : Addr).add j) = some u := by
  intro W hW j u hu
  have := World.ownsRow.cells h rfl (k * 5 + j) u (by rw [← hD, List.getElem?_drop] at hu; exact hu)
  rw [e] at this ⊢
  rw [← this]
  simp [World.cell?, hW]
 obtain ⟨i0, hi0, hzz⟩ := Option.map_eq_some_iff.1 infoS7
 simp only [Prod.mk.injEq] at hzz
 obtain ⟨hz0, hz1, hz2⟩ := hzz
 have hsz : (Tryz.prog.info? 38).map (·.size) = some 5 := by rw [hi0]; simp [hz1]
 have hal : (xs.take (k * 5)).length = k * 5 := by rw [List.length_take, hxsl]; omega
 have hold : (Builtin.firstCells i0.size k (.slice (some ⟨g, 0, none⟩) k (k + (m + 1)))).run Tryz.prog w.drew = .ok (xs.take (k * 5)).toArray w.drew :=
  run_firstCells_some w.drew i0.size k ⟨g, 0, none⟩ k (k + (m + 1)) (xs.take (k * 5)) (by rw [hal, hz1]) fun j u hu => by
   have hj := (List.getElem?_eq_some_iff.1 hu).1
   rw [hal] at hj
   have := World.ownsRow.cells h rfl j u (by rw [List.getElem?_take, if_pos hj] at hu; exact hu)
   exact this
 have hr0 := fun ty => Lib.run_append_grow_zeros (P := Tryz.prog) w 28 3 ty 38 i0 (.agg #[.int .i64 0, .int .i64 0, .int .i64 0, .int .i64 0, .int .i64 0]) .i64 .i64 Tryz.underlying28 Tryz.underlying3 hi0 hz0 (some ⟨g, 0, none⟩) k (k + (m + 1)) (xs.take (k * 5)) hold (m + 1 + 1) (by omega) (by omega) (by omega) (by omega) (by rw [hz2]; omega) (growslice_fits (by omega) (by rw [hz2]; omega))
 have hcc1 := grownCap_ge w (k + (m + 1 + 1)) (k + (m + 1)) 38
 have hcc2 := grownCap_le_maxLen w (k + (m + 1 + 1)) (k + (m + 1)) 38 (by simp only [maxLen]; omega)
 generalize grownCap w (k + (m + 1 + 1)) (k + (m + 1)) 38 = cc at hr0 hcc1 hcc2
 obtain ⟨c0, hc0⟩ : ∃ c0, (xs.take (k * 5)).toArray ++ Builtin.zeroCells (.agg #[.int .i64 0, .int .i64 0, .int .i64 0, .int .i64 0, .int .i64 0] : Value).cells (m + 1 + 1) ++ Builtin.zeroCells (.agg #[.int .i64 0, .int .i64 0, .int .i64 0, .int .i64 0, .int .i64 0] : Value).cells (cc - (k + (m + 1 + 1))) = c0 := ⟨_, rfl⟩
 have hzs : (.agg #[.int .i64 0, .int .i64 0, .int .i64 0, .int .i64 0, .int .i64 0] : Value).cells.size = 5 := rfl
 have hs0 : c0.size = cc * 5 := by rw [← hc0]; simp only [Array.size_append, List.size_toArray, size_zeroCells, hzs, hal]; omega
 have ht0 : c0.toList.take (k * 5) = xs.take (k * 5) := by rw [← hc0]; simp only [Array.toList_append, List.append_assoc]; exact List.take_left' hal
 rw [hc0] at hr0
 obtain ⟨W1, hW1⟩ : ∃ W1, w.drew.alloc (.cells c0 38) = W1 := ⟨_, rfl⟩
 have hb1 : W1.heap[w.heap.size]? = some (.cells c0 38 (0, 0)) := by rw [← hW1]; exact heap_alloc_new w.drew _
 have M1 : Mod (fun _ => False) w W1 := by rw [← hW1]; exact (Mod.drew (Mod.refl _ w)).alloc _
 rw [hW1] at hr0
 obtain ⟨c1, hc1⟩ : ∃ c1, (c0.toList.take (k * 5) ++ x ++ c0.toList.drop (k * 5 + x.length)).toArray = c1 := ⟨_, rfl⟩
 have hc0l : c0.toList.length = cc * 5 := by simpa using hs0
 have hs1 : c1.size = cc * 5 := by rw [← hc1, List.size_toArray]; simp only [List.length_append, List.length_take, List.length_drop, hc0l, hxl]; omega
 have hr1 : ∀ ty dc, (Builtin.copy_ #[28, 28] ty #[.slice (some ⟨w.heap.size, k * 5, none⟩) (m + 1 + 1) dc, .slice (some ⟨vb, 0, none⟩) 1 1]).run Tryz.prog W1 = .ok (goInt (Nat.min 1 (m + 1 + 1))) (W1.setRow w.heap.size c1) := by
  intro ty dc
  rw [← hc1]
  exact id (run_copyK W1 28 28 ty 38 5 w.heap.size (k * 5) (m + 1 + 1) dc ⟨vb, 0, none⟩ 1 1 c0 38 x Tryz.underlying28 hsz hb1 (by rw [hxl, show Nat.min 1 (m + 1 + 1) = 1 from Nat.min_eq_left (by omega), Nat.one_mul]) (World.news_of_block (M1.heap hx fun h => h)) (by rw [hxl, hs0]; omega) hx1)
 obtain ⟨W2, hW2⟩ : ∃ W2, W1.setRow w.heap.size c1 = W2 := ⟨_, rfl⟩
 have hb2 : W2.heap[w.heap.size]? = some (.cells c1 38 (0, 0)) := by rw [← hW2]; exact setRow_heap W1 _ c0 c1 38 _ hb1
 have M2 : Mod (fun _ => False) w W2 := by rw [← hW2]; exact M1.trans (mod_setRow W1 _ c1) fun j hj => .inr (by have : j = w.heap.size := hj; omega)
 rw [hW2] at hr1
 obtain ⟨c2, hc2⟩ : ∃ c2, (c1.toList.take ((k + 1) * 5) ++ D ++ c1.toList.drop ((k + 1) * 5 + D.length)).toArray = c2 := ⟨_, rfl⟩
 have hc1l : c1.toList.length = cc * 5 := by simpa using hs1
 have hs2 : c2.size = cc * 5 := by rw [← hc2, List.size_toArray]; simp only [List.length_append, List.length_take, List.length_drop, hc1l, hDl]; omega
 have hr2 : ∀ ty dc sc, (Builtin.copy_ #[28, 28] ty #[.slice (some ⟨w.heap.size, (k + 1) * 5, none⟩) (m + 1) dc, .slice (some ⟨g, k * 5, none⟩) (m + 1) sc]).run Tryz.prog W2.drew = .ok (goInt (Nat.min (m + 1) (m + 1))) (W2.drew.setRow w.heap.size c2) := by
  intro ty dc sc
  rw [← hc2]
  exact id (run_copyK W2.drew 28 28 ty 38 5 w.heap.size ((k + 1) * 5) (m + 1) dc ⟨g, k * 5, none⟩ (m + 1) sc c1 38 D Tryz.underlying28 hsz hb2 (by rw [hDl, show Nat.min (m + 1) (m + 1) = m + 1 from Nat.min_self _]) (hsrc _ (M2.block g hgl fun h => h)) (by rw [hDl, hs1]; omega) hD1)
 have hx2 : c2.toList.take ((k + (m + 1) + 1) * 5) = xs.take (k * 5) ++ x ++ D := by
  rw [← hc2]
  have t1 : c1.toList.take ((k + 1) * 5) = xs.take (k * 5) ++ x := by
   rw [← hc1]
   simp only []
   rw [ht0]
   exact List.take_left' (by simp only [List.length_append, hal, hxl]; omega)
  rw [t1]
  exact List.take_left' (by simp only [List.length_append, hal, hxl, hDl]; omega)
 have hgn : g ≠ w.heap.size := by omega
 have fin : (W2.drew.setRow w.heap.size c2).ownsRow 0 38 5 (.slice (some ⟨w.heap.size, 0, none⟩) (k + (m + 1) + 1) cc) (k + (m + 1) + 1) (xs.take (k * 5) ++ x ++ D) ∧ Mod (fun j => (Value.slice (some ⟨g, 0, none⟩) (k + (m + 1)) (k + (m + 1))).ownBlock = some j) w (W2.drew.setRow w.heap.size c2) :=
  ⟨own_shut c2 (setRow_heap W2.drew _ c1 c2 38 _ hb2) (by omega) hcc2 hs2 hx2 (by simp only [List.length_append, hal, hxl, hDl]; omega),
   ((M2.drew).trans (mod_setRow W2.drew _ c2) fun j hj => .inr (by have : j = w.heap.size := hj; omega)).mono fun j hj => hj.elim⟩
 unfold InsPSg
 rw [hD]
 clear h hg ht hxsl hD hD1 hsrc hc1 hc2 hs1 hs2 hx2 hb1 hb2 hW1 hW2 hcs M1 M2 hDl hc1l hal e hx hxl hx1 h1 hold hc0 hs0 ht0 hc0l hzs hsz
 have hc64 : (cc : Int) ≤ 9223372036854775807 := by simp only [maxLen] at hcc2; omega
 have q2 : ¬ (k : Int) = ((k + (m + 1) : Nat) : Int) := by omega
 have q2' : ¬ k = k + (m + 1) := by omega
 have q2'' : ¬ (k : Int) = (k : Int) + ((m : Int) + 1) := by omega
 have q3 : k ≤ k + (m + 1) := by omega
 have q4 : (k : Int) ≤ (k : Int) + ((m : Int) + 1) := by omega
 have q5 : ¬ cc = k := by omega
 have q6 : ¬ cc = k + 1 := by omega
 have q7 : (k : Int) + ((m : Int) + 1) < (k : Int) + ((m : Int) + 1) + 1 := by omega
 have r1 : (k : Int) + 1 ≤ (k : Int) + ((m : Int) + 1 + 1) := by omega
 have r2 : k + (m + 1 + 1) - (k + 1) = m + 1 := by omega
 have r3 : k + (m + 1 + 1) - k = m + 1 + 1 := by omega
 have r0 : k + (m + 1) - k = m + 1 := by omega
 have r6 : (k : Int) ≤ (k : Int) + ((m : Int) + 1 + 1) := by omega
 have r7 : k + 1 ≤ k + (m + 1 + 1) := by omega
 have r8 : k ≤ k + (m + 1 + 1) := by omega
 have s1 : ((k : Int) + 1).toNat = k + 1 := by omega
 have s4 : IntKind.i64.wrap ((k : Int) + 1) = (k : Int) + 1 := by rw [IntKind.wrap_i64]; omega
 have s5 : IntKind.i64.wrap ((k : Int) + ((m : Int) + 1) + 1 - (k : Int)) = (m : Int) + 1 + 1 := by rw [IntKind.wrap_i64]; omega
 have s6 : ((m + 1 + 1 : Nat) : Int) = (m : Int) + 1 + 1 := by omega
 have s2 : (0 : Int) ≤ (k : Int) + 1 := by omega
 have s7 : k + (m + 1) + 1 = k + (m + 1 + 1) := by omega
 rw [s6] at hr0
 rw [s7] at fin ⊢
 replace fin := hid fin
 replace hcc2 := hid hcc2
 replace hcm := hid hcm
 replace hr0 := hid hr0
 replace hr2 := hid hr2
 replace s7 := hid s7
 replace s6 := hid s6
 go_enter Tryz.func128, Tryz.ntmps128
 go_wp2_with (at_builtin; refine Lib.wpList_append_run _ rfl (.tmp 34) (.tmp 39) 28 3 rfl (.slice (some ⟨g, 0, none⟩) k (k + (m + 1))) (.int .i64 ((m : Int) + 1 + 1)) rfl rfl _ _ (hr0.out _) ?_)
 go_region_law (refine step_copy_run rfl (.tmp 50) (.tmp 53) 28 28 rfl (.slice (some ⟨w.heap.size, (k + 1) * 5, none⟩) (m + 1) (cc - (k + 1))) (.slice (some ⟨g, k * 5, none⟩) (m + 1) (m + 1)) (by simp [Act.eval, Act.put]) (by simp [Act.eval, Act.put]) (hr2.out _ _ _) ?_)
 go_wp2_with fail
 go_ret
 exact ⟨_, rfl, fin.out.1, fin.out.2, fun j hj => .inr (by cases hj; exact Nat.le_refl _)⟩
theorem insSg {w : World} {v : Value} {n k : Nat} {xs x : List Value} {vb : Nat} (h : w.ownsRow 0 38 5 v n xs) (h1 : ∀ u ∈ xs, u.oneCell' = true) (hx : w.heap[vb]? = some (.cells x.toArray 38 (0, 0))) (hvb : ∀ j, v.ownBlock = some j → vb ≠ j) (hxl : x.length = 5) (hx1 : ∀ u ∈ x, u.oneCell' = true)
  (hk : k ≤ n) (hn : n ≤ 65536) : Calls Tryz.prog 128 #[v, .int .i64 k, .slice (some ⟨vb, 0, none⟩) 1 1] w (InsPSg w v n k xs x) := by
 by_cases hkn : k = n
 ·subst hkn; exact insSg_end h hx hxl hx1 hn
 ·obtain ⟨A, c, rfl, hnc, hcm, hA⟩ := own_slice h
  obtain ⟨g, rfl⟩ := hA (by omega)
  by_cases hc : n + 1 ≤ c
  ·exact insSg_room h h1 hx (hvb g rfl) hxl hx1 (by omega) hc hn
  ·obtain rfl : c = n := by omega
   exact insSg_grow h h1 hx hxl hx1 (by omega) hn
set_option maxHeartbeats 2000000 in
set_option maxRecDepth 100000 in
theorem insIt_grow {w : World} {g n k : Nat} {xs x : List Value} {vb : Nat} (h : w.ownsRow 0 3 1 (.slice (some ⟨g, 0, none⟩) n n) n xs) (h1 : ∀ u ∈ xs, u.oneCell' = true) (hx : w.heap[vb]? = some (.cells x.toArray 3 (0, 0))) (hxl : x.length = 1) (hx1 : ∀ u ∈ x, u.oneCell' = true)
  (hk : k < n) (hn : n ≤ 65536) :
  Calls Tryz.prog 135 #[.slice (some ⟨g, 0, none⟩) n n, .int .i64 k, .slice (some ⟨vb, 0, none⟩) 1 1] w (InsPIt w (.slice (some ⟨g, 0, none⟩) n n) n k xs x) := by
 obtain ⟨cur, hg, hnc, hcm, hcs, ht, hxsl⟩ := own_open h
 have hgl := blkl hg
 have hvl := blkl hx
 obtain ⟨m, hm⟩ : ∃ m, n = k + (m + 1) := ⟨n - (k + 1), by omega⟩
 subst hm
 obtain ⟨D, hD⟩ : ∃ D, xs.drop (k * 1) = D := ⟨_, rfl⟩
 have hDl : D.length = (m + 1) * 1 := by rw [← hD, List.length_drop, hxsl]; omega
 have hD1 : ∀ u ∈ D, u.oneCell' = true := fun u hu => h1 u (List.mem_of_mem_drop (by rw [hD]; exact hu))
 have e : ∀ (o n : Nat), (⟨g, o, none⟩ : Addr).add n = ⟨g, o + n, none⟩ := by intro o n; unfold Addr.add; split <;> simp_all
 have hsrc : ∀ W : World, W.heap[g]? = w.heap[g]? → ∀ j u, D[j]? = some u → W.cell? ((⟨g, k * 1, none⟩ : Addr).add j) = some u := by
  intro W hW j u hu
  have := World.ownsRow.cells h rfl (k * 1 + j) u (by rw [← hD, List.getElem?_drop] at hu; exact hu)
  rw [e] at this ⊢
  rw [← this]
  simp [World.cell?, hW]
 obtain ⟨i0, hi0, hzz⟩ := Option.map_eq_some_iff.1 infoI7
 simp only [Prod.mk.injEq] at hzz
 obtain ⟨hz0, hz1, hz2⟩ := hzz
 have hsz : (Tryz.prog.info? 3).map (·.size) = some 1 := by rw [hi0]; simp [hz1]
 have hal : (xs.take (k * 1)).length = k * 1 := by rw [List.length_take, hxsl]; omega
 have hold : (Builtin.firstCells i0.size k (.slice (some ⟨g, 0, none⟩) k (k + (m + 1)))).run Tryz.prog w.drew = .ok (xs.take (k * 1)).toArray w.drew :=
  run_firstCells_some w.drew i0.size k ⟨g, 0, none⟩ k (k + (m + 1)) (xs.take (k * 1)) (by rw [hal, hz1]) fun j u hu => by
   have hj := (List.getElem?_eq_some_iff.1 hu).1
   rw [hal] at hj
   have := World.ownsRow.cells h rfl j u (by rw [List.getElem?_take, if_pos hj] at hu; exact hu)
   exact this
 have hr0 := fun ty => Lib.run_append_grow_zeros (P := Tryz.prog) w 113 3 ty 3 i0 (.int .i64 0) .i64 .i64 Tryz.underlying113 Tryz.underlying3 hi0 hz0 (some ⟨g, 0, none⟩) k (k + (m + 1)) (xs.take (k * 1)) hold (m + 1 + 1) (by omega) (by omega) (by omega) (by omega) (by rw [hz2]; omega) (growslice_fits (by omega) (by rw [hz2]; omega))
 have hcc1 := grownCap_ge w (k + (m + 1 + 1)) (k + (m + 1)) 3
 have hcc2 := grownCap_le_maxLen w (k + (m + 1 + 1)) (k + (m + 1)) 3 (by simp only [maxLen]; omega)
 generalize grownCap w (k + (m + 1 + 1)) (k + (m + 1)) 3 = cc at hr0 hcc1 hcc2
 obtain ⟨c0, hc0⟩ : ∃ c0, (xs.take (k * 1)).toArray ++ Builtin.zeroCells (.int .i64 0 : Value).cells (m + 1 + 1) ++ Builtin.zeroCells (.int .i64 0 : Value).cells (cc - (k + (m + 1 + 1))) = c0 := ⟨_, rfl⟩
 have hzs : (.int .i64 0 : Value).cells.size = 1 := rfl
 have hs0 : c0.size = cc * 1 := by rw [← hc0]; simp only [Array.size_append, List.size_toArray, size_zeroCells, hzs, hal]; omega
 have ht0 : c0.toList.take (k * 1) = xs.take (k * 1) := by rw [← hc0]; simp only [Array.toList_append, List.append_assoc]; exact List.take_left' hal
 rw [hc0] at hr0
 obtain ⟨W1, hW1⟩ : ∃ W1, w.drew.alloc (.cells c0 3) = W1 := ⟨_, rfl⟩
 have hb1 : W1.heap[w.heap.size]? = some (.cells c0 3 (0, 0)) := by rw [← hW1]; exact heap_alloc_new w.drew _
 have M1 : Mod (fun _ => False) w W1 := by rw [← hW1]; exact (Mod.drew (Mod.refl _ w)).alloc _
 rw [hW1] at hr0
 obtain ⟨c1, hc1⟩ : ∃ c1, (c0.toList.take (k * 1) ++ x ++ c0.toList.drop (k * 1 + x.length)).toArray = c1 := ⟨_, rfl⟩
 have hc0l : c0.toList.length = cc * 1 := by simpa using hs0
 have hs1 : c1.size = cc * 1 := by rw [← hc1, List.size_toArray]; simp only [List.length_append, List.length_take, List.length_drop, hc0l, hxl]; omega
 have hr1 : ∀ ty dc, (Builtin.copy_ #[113, 113] ty #[.slice (some ⟨w.heap.size, k, none⟩) (m + 1 + 1) dc, .slice (some ⟨vb, 0, none⟩) 1 1]).run Tryz.prog W1 = .ok (goInt (Nat.min 1 (m + 1 + 1))) (W1.setRow w.heap.size c1) := by
  intro ty dc
  rw [← hc1]
  exact (by simpa using ·) (run_copyK W1 113 113 ty 3 1 w.heap.size (k * 1) (m + 1 + 1) dc ⟨vb, 0, none⟩ 1 1 c0 3 x Tryz.underlying113 hsz hb1 (by rw [hxl, show Nat.min 1 (m + 1 + 1) = 1 from Nat.min_eq_left (by omega), Nat.one_mul]) (World.news_of_block (M1.heap hx fun h => h)) (by rw [hxl, hs0]; omega) hx1)
 obtain ⟨W2, hW2⟩ : ∃ W2, W1.setRow w.heap.size c1 = W2 := ⟨_, rfl⟩
 have hb2 : W2.heap[w.heap.size]? = some (.cells c1 3 (0, 0)) := by rw [← hW2]; exact setRow_heap W1 _ c0 c1 3 _ hb1
 have M2 : Mod (fun _ => False) w W2 := by rw [← hW2]; exact M1.trans (mod_setRow W1 _ c1) fun j hj => .inr (by have : j = w.heap.size := hj; omega)
 rw [hW2] at hr1
 obtain ⟨c2, hc2⟩ : ∃ c2, (c1.toList.take ((k + 1) * 1) ++ D ++ c1.toList.drop ((k + 1) * 1 + D.length)).toArray = c2 := ⟨_, rfl⟩
 have hc1l : c1.toList.length = cc * 1 := by simpa using hs1
 have hs2 : c2.size = cc * 1 := by rw [← hc2, List.size_toArray]; simp only [List.length_append, List.length_take, List.length_drop, hc1l, hDl]; omega
 have hr2 : ∀ ty dc sc, (Builtin.copy_ #[113, 113] ty #[.slice (some ⟨w.heap.size, k + 1, none⟩) (m + 1) dc, .slice (some ⟨g, k, none⟩) (m + 1) sc]).run Tryz.prog W2.drew = .ok (goInt (Nat.min (m + 1) (m + 1))) (W2.drew.setRow w.heap.size c2) := by
  intro ty dc sc
  rw [← hc2]
  exact (by simpa using ·) (run_copyK W2.drew 113 113 ty 3 1 w.heap.size ((k + 1) * 1) (m + 1) dc ⟨g, k * 1, none⟩ (m + 1) sc c1 3 D Tryz.underlying113 hsz hb2 (by rw [hDl, show Nat.min (m + 1) (m + 1) = m + 1 from Nat.min_self _]) (hsrc _ (M2.block g hgl fun h => h)) (by rw [hDl, hs1]; omega) hD1)
 have hx2 : c2.toList.take ((k + (m + 1) + 1) * 1) = xs.take (k * 1) ++ x ++ D := by
  rw [← hc2]
  have t1 : c1.toList.take ((k + 1) * 1) = xs.take (k * 1) ++ x := by
   rw [← hc1]
   simp only []
   rw [ht0]
   exact List.take_left' (by simp only [List.length_append, hal, hxl]; omega)
  rw [t1]
  exact List.take_left' (by simp only [List.length_append, hal, hxl, hDl]; omega)
 have hgn : g ≠ w.heap.size := by omega
 have fin : (W2.drew.setRow w.heap.size c2).ownsRow 0 3 1 (.slice (some ⟨w.heap.size, 0, none⟩) (k + (m + 1) + 1) cc) (k + (m + 1) + 1) (xs.take (k * 1) ++ x ++ D) ∧ Mod (fun j => (Value.slice (some ⟨g, 0, none⟩) (k + (m + 1)) (k + (m + 1))).ownBlock = some j) w (W2.drew.setRow w.heap.size c2) :=
  ⟨own_shut c2 (setRow_heap W2.drew _ c1 c2 3 _ hb2) (by omega) hcc2 hs2 hx2 (by simp only [List.length_append, hal, hxl, hDl]; omega),
   ((M2.drew).trans (mod_setRow W2.drew _ c2) fun j hj => .inr (by have : j = w.heap.size := hj; omega)).mono fun j hj => hj.elim⟩
 unfold InsPIt
 rw [hD]
 clear h hg ht hxsl hD hD1 hsrc hc1 hc2 hs1 hs2 hx2 hb1 hb2 hW1 hW2 hcs M1 M2 hDl hc1l hal e hx hxl hx1 h1 hold hc0 hs0 ht0 hc0l hzs hsz
 have hc64 : (cc : Int) ≤ 9223372036854775807 := by simp only [maxLen] at hcc2; omega
 have q2 : ¬ (k : Int) = ((k + (m + 1) : Nat) : Int) := by omega
 have q2' : ¬ k = k + (m + 1) := by omega
 have q2'' : ¬ (k : Int) = (k : Int) + ((m : Int) + 1) := by omega
 have q3 : k ≤ k + (m + 1) := by omega
 have q4 : (k : Int) ≤ (k : Int) + ((m : Int) + 1) := by omega
 have q5 : ¬ cc = k := by omega
 have q6 : ¬ cc = k + 1 := by omega
 have q7 : (k : Int) + ((m : Int) + 1) < (k : Int) + ((m : Int) + 1) + 1 := by omega
 have r1 : (k : Int) + 1 ≤ (k : Int) + ((m : Int) + 1 + 1) := by omega
 have r2 : k + (m + 1 + 1) - (k + 1) = m + 1 := by omega
 have r3 : k + (m + 1 + 1) - k = m + 1 + 1 := by omega
 have r0 : k + (m + 1) - k = m + 1 := by omega
 have r6 : (k : Int) ≤ (k : Int) + ((m : Int) + 1 + 1) := by omega
 have r7 : k + 1 ≤ k + (m + 1 + 1) := by omega
 have r8 : k ≤ k + (m + 1 + 1) := by omega
 have s1 : ((k : Int) + 1).toNat = k + 1 := by omega
 have s4 : IntKind.i64.wrap ((k : Int) + 1) = (k : Int) + 1 := by rw [IntKind.wrap_i64]; omega
 have s5 : IntKind.i64.wrap ((k : Int) + ((m : Int) + 1) + 1 - (k : Int)) = (m : Int) + 1 + 1 := by rw [IntKind.wrap_i64]; omega
 have s6 : ((m + 1 + 1 : Nat) : Int) = (m : Int) + 1 + 1 := by omega
 have s2 : (0 : Int) ≤ (k : Int) + 1 := by omega
 have s7 : k + (m + 1) + 1 = k + (m + 1 + 1) := by omega
 rw [s6] at hr0
 rw [s7] at fin ⊢
 replace fin := hid fin
 replace hcc2 := hid hcc2
 replace hcm := hid hcm
 replace hr0 := hid hr0
 replace hr2 := hid hr2
 replace s7 := hid s7
 replace s6 := hid s6
 go_enter Tryz.func135, Tryz.ntmps135
 go_wp2_with (at_builtin; refine Lib.wpList_append_run _ rfl (.tmp 34) (.tmp 39) 113 3 rfl (.slice (some ⟨g, 0, none⟩) k (k + (m + 1))) (.int .i64 ((m : Int) + 1 + 1)) rfl rfl _ _ (hr0.out _) ?_)
 go_region_law (refine step_copy_run rfl (.tmp 50) (.tmp 53) 113 113 rfl (.slice (some ⟨w.heap.size, k + 1, none⟩) (m + 1) (cc - (k + 1))) (.slice (some ⟨g, k, none⟩) (m + 1) (m + 1)) (by simp [Act.eval, Act.put]) (by simp [Act.eval, Act.put]) (hr2.out _ _ _) ?_)
 go_wp2_with fail
 go_ret
 exact ⟨_, rfl, fin.out.1, fin.out.2, fun j hj => .inr (by cases hj; exact Nat.le_refl _)⟩
theorem insIt {w : World} {v : Value} {n k : Nat} {xs x : List Value} {vb : Nat} (h : w.ownsRow 0 3 1 v n xs) (h1 : ∀ u ∈ xs, u.oneCell' = true) (hx : w.heap[vb]? = some (.cells x.toArray 3 (0, 0))) (hvb : ∀ j, v.ownBlock = some j → vb ≠ j) (hxl : x.length = 1) (hx1 : ∀ u ∈ x, u.oneCell' = true)
  (hk : k ≤ n) (hn : n ≤ 65536) : Calls Tryz.prog 135 #[v, .int .i64 k, .slice (some ⟨vb, 0, none⟩) 1 1] w (InsPIt w v n k xs x) := by
 by_cases hkn : k = n
 ·subst hkn; exact insIt_end h hx hxl hx1 hn
 ·obtain ⟨A, c, rfl, hnc, hcm, hA⟩ := own_slice h
  obtain ⟨g, rfl⟩ := hA (by omega)
  by_cases hc : n + 1 ≤ c
  ·exact insIt_room h h1 hx (hvb g rfl) hxl hx1 (by omega) hc hn
  ·obtain rfl : c = n := by omega
   exact insIt_grow h h1 hx hxl hx1 (by omega) hn
open Go Go.RowKit
theorem run_eql_slice_nil {P : Program} (w : World) (t e : TypeId) (a : Option Addr) (l c : Nat) (h : P.underlying t = some (.slice e)) : (binOp .eql t (.slice a l c) (.slice none 0 0)).run P w = .ok (.bool a.isNone) w := by
 simp only [binOp]
 simp [run_equal_slice_nil w t e a l c h]
set_option maxHeartbeats 400000 in
theorem cloneSg {w : World} (ad : Addr) (m c : Nat) (news : List Value) (hnl : news.length = m * 5) (hnews : ∀ j u, news[j]? = some u → w.cell? (ad.add j) = some u) (h1 : ∀ u ∈ news, u.oneCell' = true) (hm : m ≤ 65536) :
  Calls Tryz.prog 67 #[.slice (some ad) m c] w fun e w' => ∃ g c', e = .returned (.slice (some ⟨g, 0, none⟩) m c') ∧ w'.ownsRow 0 38 5 (.slice (some ⟨g, 0, none⟩) m c') m news ∧ Mod (fun _ => False) w w' ∧ w.heap.size ≤ g := by
 have E : (binOp .eql 28 (.slice (some ad) m c) (.slice none 0 0)).run Tryz.prog w = .ok (.bool false) w := run_eql_slice_nil w _ _ _ _ _ Tryz.underlying28
 obtain ⟨i0, hi0, hzz⟩ := Option.map_eq_some_iff.1 infoS7
 simp only [Prod.mk.injEq] at hzz
 obtain ⟨hz0, hz1, hz2⟩ := hzz
 obtain ⟨w2, hw2, own2, M2⟩ : ∃ w2, w.alloc (.cells #[] 38) = w2 ∧ w2.ownsRow 0 38 5 (.slice (some ⟨w.heap.size, 0, none⟩) 0 0) 0 [] ∧ Mod (fun _ => False) w w2 :=
  ⟨_, rfl, ⟨by simp, .inr ⟨w.heap.size, 0, #[], rfl, Nat.zero_le _, heap_alloc_new w _, Nat.le_refl _, by simp [maxLen], by simp, by simp⟩⟩, (Mod.refl _ _).alloc _⟩
 have hn2 : ∀ j u, news[j]? = some u → w2.cell? (ad.add j) = some u := fun j u hu => by
  have := hnews j u hu
  exact (World.cell?_of_block (by exact M2.block _ (World.block_lt_of_cell? w _ this) fun h => h)).trans this
 have hb : (0 + m) * 40 ≤ 140737488355328 := by omega
 replace own2 := hid own2
 replace hn2 := hid hn2
 replace h1 := hid h1
 replace hnl := hid hnl
 clear hnews
 go_enter Tryz.func67, Tryz.ntmps67
 go_wp2_with (at_builtin; refine wpList_append_own_at _ rfl (.tmp 5) (.tmp 6) 28 rfl 0 38 i0 _ 5 40 Tryz.underlying28 hi0 hz0 hz1 hz2 rfl (by omega) (.slice (some ⟨w.heap.size, 0, none⟩) 0 0) 0 [] rfl own2.out ad m c news rfl hnl.out hn2.out h1.out (by simp only [maxLen]; omega) hb (Nat.zero_le _) ?_; intro v1 w1 hown hgr hnil hat)
 go_ret
 rw [Nat.zero_add, List.nil_append] at hown
 have hz := M2.size
 obtain ⟨A1, cc1, rfl, _, _, hA1⟩ := own_slice hown
 have hsm : ∃ g, A1 = some ⟨g, 0, none⟩ := by
  rcases hown.2 with ⟨e, e2⟩ | ⟨g, cap, cur, e, _⟩
  ·have := hnil.1 (by rw [e]); cases this.1
  ·cases e; exact ⟨g, rfl⟩
 obtain ⟨g, rfl⟩ := hsm
 refine ⟨g, cc1, rfl, hown, M2.trans (Mod.of_grown hgr) fun i hi => .inr (by cases hi; exact Nat.le_refl _), ?_⟩
 rcases hat with e | e
 ·cases e; exact Nat.le_refl _
 ·cases e; exact hz
set_option maxHeartbeats 400000 in
theorem cloneIt {w : World} (ad : Addr) (m c : Nat) (news : List Value) (hnl : news.length = m * 1) (hnews : ∀ j u, news[j]? = some u → w.cell? (ad.add j) = some u) (h1 : ∀ u ∈ news, u.oneCell' = true) (hm : m ≤ 65536) :
  Calls Tryz.prog 68 #[.slice (some ad) m c] w fun e w' => ∃ g c', e = .returned (.slice (some ⟨g, 0, none⟩) m c') ∧ w'.ownsRow 0 3 1 (.slice (some ⟨g, 0, none⟩) m c') m news ∧ Mod (fun _ => False) w w' ∧ w.heap.size ≤ g := by
 have E : (binOp .eql 113 (.slice (some ad) m c) (.slice none 0 0)).run Tryz.prog w = .ok (.bool false) w := run_eql_slice_nil w _ _ _ _ _ Tryz.underlying113
 obtain ⟨i0, hi0, hzz⟩ := Option.map_eq_some_iff.1 infoI7
 simp only [Prod.mk.injEq] at hzz
 obtain ⟨hz0, hz1, hz2⟩ := hzz
 obtain ⟨w2, hw2, own2, M2⟩ : ∃ w2, w.alloc (.cells #[] 3) = w2 ∧ w2.ownsRow 0 3 1 (.slice (some ⟨w.heap.size, 0, none⟩) 0 0) 0 [] ∧ Mod (fun _ => False) w w2 :=
  ⟨_, rfl, ⟨by simp, .inr ⟨w.heap.size, 0, #[], rfl, Nat.zero_le _, heap_alloc_new w _, Nat.le_refl _, by simp [maxLen], by simp, by simp⟩⟩, (Mod.refl _ _).alloc _⟩
 have hn2 : ∀ j u, news[j]? = some u → w2.cell? (ad.add j) = some u := fun j u hu => by
  have := hnews j u hu
  exact (World.cell?_of_block (by exact M2.block _ (World.block_lt_of_cell? w _ this) fun h => h)).trans this
 have hb : (0 + m) * 8 ≤ 140737488355328 := by omega
 replace own2 := hid own2
 replace hn2 := hid hn2
 replace h1 := hid h1
 replace hnl := hid hnl
 clear hnews
 go_enter Tryz.func68, Tryz.ntmps68
 go_wp2_with (at_builtin; refine wpList_append_own_at _ rfl (.tmp 5) (.tmp 6) 113 rfl 0 3 i0 _ 1 8 Tryz.underlying113 hi0 hz0 hz1 hz2 rfl (by omega) (.slice (some ⟨w.heap.size, 0, none⟩) 0 0) 0 [] rfl own2.out ad m c news rfl hnl.out hn2.out h1.out (by simp only [maxLen]; omega) hb (Nat.zero_le _) ?_; intro v1 w1 hown hgr hnil hat)
 go_ret
 rw [Nat.zero_add, List.nil_append] at hown
 have hz := M2.size
 obtain ⟨A1, cc1, rfl, _, _, hA1⟩ := own_slice hown
 have hsm : ∃ g, A1 = some ⟨g, 0, none⟩ := by
  rcases hown.2 with ⟨e, e2⟩ | ⟨g, cap, cur, e, _⟩
  ·have := hnil.1 (by rw [e]); cases this.1
  ·cases e; exact ⟨g, rfl⟩
 obtain ⟨g, rfl⟩ := hsm
 refine ⟨g, cc1, rfl, hown, M2.trans (Mod.of_grown hgr) fun i hi => .inr (by cases hi; exact Nat.le_refl _), ?_⟩
 rcases hat with e | e
 ·cases e; exact Nat.le_refl _
 ·cases e; exact hz
open Go Go.RowKit
theorem own_part {w : World} {e : TypeId} {size g n c : Nat} {xs XA XM XB : List Value} (h : w.ownsRow 0 e size (.slice (some ⟨g, 0, none⟩) n c) n xs) (he : xs = XA ++ (XM ++ XB)) :
  ∀ j u, XM[j]? = some u → w.cell? ((⟨g, XA.length, none⟩ : Addr).add j) = some u := by
 intro j u hu
 have e : ∀ (o n : Nat), (⟨g, o, none⟩ : Addr).add n = ⟨g, o + n, none⟩ := by intro o n; unfold Addr.add; split <;> simp_all
 rw [e]
 have hj := (List.getElem?_eq_some_iff.1 hu).1
 refine (own_cell h (j := XA.length + j) (u := u) ?_).1
 rw [he, List.getElem?_append_right (by omega), Nat.add_sub_cancel_left, List.getElem?_append_left hj, hu]
theorem StB.set_set (S : StB) (i : Nat) (u v : Option (List Sg × List Nat)) : (S.set i u).set i v = S.set i v := by funext j; unfold StB.set; split <;> rfl
theorem own_none0 {w : World} {e : TypeId} {size : Nat} : w.ownsRow 0 e size (.slice none 0 0) 0 [] := ⟨by simp, .inl ⟨rfl, rfl⟩⟩
theorem one_segs (l : List Sg) : ∀ u ∈ l.flatMap encS, u.oneCell' = true := by
 intro u hu
 obtain ⟨x, _, hx⟩ := List.mem_flatMap.1 hu
 simp only [encS, List.mem_cons, List.not_mem_nil, or_false] at hx
 rcases hx with rfl | rfl | rfl | rfl | rfl <;> rfl
theorem one_nums (l : List Nat) : ∀ u ∈ numsV l, u.oneCell' = true := by
 intro u hu
 obtain ⟨x, _, rfl⟩ := List.mem_map.1 hu
 rfl
theorem flat5_cut (l : List Sg) (k : Nat) (hk : k ≤ l.length) : (l.flatMap encS).take (k * 5) = (l.take k).flatMap encS ∧ (l.flatMap encS).drop (k * 5) = (l.drop k).flatMap encS := by
 have e : l.flatMap encS = (l.take k).flatMap encS ++ (l.drop k).flatMap encS := by rw [← List.flatMap_append, List.take_append_drop]
 have hl : ((l.take k).flatMap encS).length = k * 5 := by rw [flat5_len, List.length_take, Nat.min_eq_left hk]
 rw [e]
 exact ⟨List.take_left' hl, List.drop_left' hl⟩
theorem flat5_ins (l : List Sg) (k : Nat) (s : Sg) (hk : k ≤ l.length) : (l.flatMap encS).take (k * 5) ++ encS s ++ (l.flatMap encS).drop (k * 5) = (l.take k ++ s :: l.drop k).flatMap encS := by
 rw [(flat5_cut l k hk).1, (flat5_cut l k hk).2]
 simp
theorem nums_ins (l : List Nat) (k j : Nat) : (numsV l).take (k * 1) ++ [.int .i64 (j : Int)] ++ (numsV l).drop (k * 1) = numsV (l.take k ++ j :: l.drop k) := by
 simp [numsV]
section
variable {w : World} {b : Bn} {l : List Sg} {ks : List Nat}
theorem NodeB.segs (hn : NodeB w b l ks) {A M B : List Sg} (e : l = A ++ (M ++ B)) (h0 : 0 < l.length) : ∃ g, b.la = some ⟨g, 0, none⟩ ∧ ∀ j u, (M.flatMap encS)[j]? = some u → w.cell? ((⟨g, A.length * 5, none⟩ : Addr).add j) = some u := by
 obtain ⟨A', c, e1, _, _, hA⟩ := own_slice hn.1
 obtain ⟨g, rfl⟩ := hA h0
 have e1 : Value.slice b.la b.ln b.lc = .slice (some ⟨g, 0, none⟩) l.length c := e1
 injection e1 with e1 e2 e3
 have h2 : w.ownsRow 0 38 5 (.slice b.la b.ln b.lc) l.length (l.flatMap encS) := hn.1
 rw [e1, e2] at h2
 refine ⟨g, e1, ?_⟩
 rw [← flat5_len A]
 exact own_part (XA := A.flatMap encS) (XM := M.flatMap encS) (XB := B.flatMap encS) h2 (by rw [e]; simp)
theorem NodeB.kids (hn : NodeB w b l ks) {A M B : List Nat} (e : ks = A ++ (M ++ B)) (h0 : 0 < ks.length) : ∃ g, b.ka = some ⟨g, 0, none⟩ ∧ ∀ j u, (numsV M)[j]? = some u → w.cell? ((⟨g, A.length, none⟩ : Addr).add j) = some u := by
 obtain ⟨A', c, e1, _, _, hA⟩ := own_slice hn.2
 obtain ⟨g, rfl⟩ := hA h0
 have e1 : Value.slice b.ka b.kn b.kc = .slice (some ⟨g, 0, none⟩) ks.length c := e1
 injection e1 with e1 e2 e3
 have h2 : w.ownsRow 0 3 1 (.slice b.ka b.kn b.kc) ks.length (numsV ks) := hn.2
 rw [e1, e2] at h2
 refine ⟨g, e1, ?_⟩
 have := own_part (XA := numsV A) (XM := numsV M) (XB := numsV B) h2 (by rw [e]; simp [numsV])
 simpa [numsV] using this
end
end Go.Proofs.Bo
