import Derived.Test.YtofgoehkahcajaaGreatRow7
import Derived.Test.YtofgoehkahcajaaGreatProg
import Derived.Test.YtofgoehkahcajaaGreatArG
set_option linter.unusedVariables false
set_option linter.unusedSimpArgs false
namespace Go.Proofs.Bo
open Go Go.RowKit
theorem infoS7 : (Tryz.prog.info? 39).map (fun i => (i.zero, i.size, i.bytes)) = some (some (.agg #[.int .i64 0, .int .i64 0, .int .i64 0, .int .i64 0, .int .i64 0]), 5, 40) := by kernel_rfl
theorem infoI7 : (Tryz.prog.info? 3).map (fun i => (i.zero, i.size, i.bytes)) = some (some (.int .i64 0), 1, 8) := by kernel_rfl

set_option maxHeartbeats 1000000 in
theorem delSg {w : World} {g n c : Nat} {xs : List Value} (h : w.ownsRow 0 39 5 (.slice (some ⟨g, 0, none⟩) n c) n xs) (h1 : ∀ u ∈ xs, u.oneCell' = true) (k : Nat) (hk : k < n) (hn : n ≤ 65536) :
    Calls Tryz.prog 91 #[.slice (some ⟨g, 0, none⟩) n c, .int .i64 k, .int .i64 ((k : Int) + 1)] w fun e w' => e = .returned (.slice (some ⟨g, 0, none⟩) (n - 1) c) ∧
      w'.ownsRow 0 39 5 (.slice (some ⟨g, 0, none⟩) (n - 1) c) (n - 1) (xs.take (k * 5) ++ xs.drop ((k + 1) * 5)) ∧ Mod (fun j => j = g) w w' := by
  obtain ⟨cur, hg, hnc, hcm, hcs, ht, hxl⟩ := own_open h
  obtain ⟨m, hm⟩ : ∃ m, n = k + 1 + m := ⟨n - (k + 1), by omega⟩
  subst hm
  obtain ⟨news, hnews⟩ : ∃ news, xs.drop ((k + 1) * 5) = news := ⟨_, rfl⟩
  have hnl : news.length = m * 5 := by rw [← hnews, List.length_drop, hxl]; omega
  have hn1 : ∀ u ∈ news, u.oneCell' = true := fun u hu => h1 u (List.mem_of_mem_drop (by rw [hnews]; exact hu))
  have hsrc : ∀ j u, news[j]? = some u → w.drew.cell? ((⟨g, (k + 1) * 5, none⟩ : Addr).add j) = some u := by
    intro j u hu
    have := World.ownsRow.cells h rfl ((k + 1) * 5 + j) u (by rw [← hnews, List.getElem?_drop] at hu; exact hu)
    have e : ∀ (o n : Nat), (⟨g, o, none⟩ : Addr).add n = ⟨g, o + n, none⟩ := by intro o n; unfold Addr.add; split <;> simp_all
    rw [e] at this ⊢
    simpa using this
  obtain ⟨i0, hi0, hzz⟩ := Option.map_eq_some_iff.1 infoS7
  simp only [Prod.mk.injEq] at hzz
  obtain ⟨hz0, hz1, hz2⟩ := hzz
  have hfit : k * i0.size + news.length ≤ cur.size := by rw [hz1, hnl, hcs]; omega
  obtain ⟨c1, hc1⟩ : ∃ c1, (cur.toList.take (k * 5) ++ news ++ cur.toList.drop (k * 5 + news.length)).toArray = c1 := ⟨_, rfl⟩
  have hs1 : c1.size = c * 5 := by rw [← hc1, ← hcs]; simp; rw [hnl]; omega
  have hr1 : ∀ (A : Addr) ty cc, (0 < m → A = ⟨g, (k + 1) * 5, none⟩) → (Builtin.append_ #[28, 28] ty #[.slice (some ⟨g, 0, none⟩) k c, .slice (some A) m cc]).run Tryz.prog w.drew = .ok (.slice (some ⟨g, 0, none⟩) (k + m) c) (w.drew.setRow g c1) := by
    intro A ty cc hA
    have := run_append_room (P := Tryz.prog) w.drew 28 ty 39 i0 Tryz.underlying28 hi0 g k c cur hg A m cc news (by rw [hnl, hz1]) (fun j u hu => by
      by_cases hm0 : 0 < m
      · rw [hA hm0]; exact hsrc j u hu
      · have := (List.getElem?_eq_some_iff.1 hu).1; omega) hn1 (by omega) hfit
    rw [hz1, hc1] at this
    exact this
  obtain ⟨w1, hw1⟩ : ∃ w1, w.drew.setRow g c1 = w1 := ⟨_, rfl⟩
  have hg1 : w1.heap[g]? = some (.cells c1 39 (0, 0)) := by rw [← hw1]; exact setRow_heap w.drew g cur c1 39 _ hg
  have M1 : Mod (fun j => j = g) w w1 := by rw [← hw1]; exact (Mod.drew (Mod.refl _ w)).trans' (mod_setRow w.drew g c1)
  obtain ⟨c2, hc2⟩ : ∃ c2, (c1.toList.take ((k + m) * 5) ++ (.agg #[.int .i64 0, .int .i64 0, .int .i64 0, .int .i64 0, .int .i64 0] : Value).cells.toList ++ c1.toList.drop ((k + m) * 5 + 5)).toArray = c2 := ⟨_, rfl⟩
  have hr2 : ∀ o q ty cc, o = (k + m) * 5 → q = 1 → (Builtin.clear_ #[28] ty #[.slice (some ⟨g, o, none⟩) q cc]).run Tryz.prog w1 = .ok (.tuple #[]) (w1.setRow g c2) := by
    intro o q ty cc ho hq
    rw [ho, hq, ← hc2]
    exact run_clear1 w1 28 39 ty (.agg #[.int .i64 0, .int .i64 0, .int .i64 0, .int .i64 0, .int .i64 0]) 5 g ((k + m) * 5) cc c1 39 Tryz.underlying28 (by rw [hi0]; simp [hz0, hz1]) rfl (by omega) (by intro u hu; simp [Value.cells] at hu; rcases hu with rfl | rfl | rfl | rfl | rfl <;> rfl) hg1 (by rw [hs1]; omega)
  have hg2 : (w1.setRow g c2).heap[g]? = some (.cells c2 39 (0, 0)) := setRow_heap w1 g c1 c2 39 _ hg1
  have M2 : Mod (fun j => j = g) w (w1.setRow g c2) := M1.trans' (mod_setRow w1 g c2)
  have hzl : (.agg #[.int .i64 0, .int .i64 0, .int .i64 0, .int .i64 0, .int .i64 0] : Value).cells.toList.length = 5 := rfl
  have hc1l : c1.toList.length = c * 5 := by simpa using hs1
  have hs2 : c2.size = c * 5 := by rw [← hc2, List.size_toArray]; simp only [List.length_append, List.length_take, List.length_drop, hzl, hc1l]; omega
  have hx2 : c2.toList.take ((k + m) * 5) = xs.take (k * 5) ++ news := by
    rw [← hc2]
    rw [List.append_assoc, List.take_append_of_le_length (by simp only [List.length_take, hc1l]; omega), List.take_take, Nat.min_self, ← hc1]
    have e1 : cur.toList.take (k * 5) = xs.take (k * 5) := by have h := congrArg (List.take (k * 5)) ht; rw [List.take_take, Nat.min_eq_left (by omega)] at h; exact h
    rw [e1]
    have hl : (xs.take (k * 5) ++ news).length = (k + m) * 5 := by simp only [List.length_append, List.length_take, hxl, hnl]; omega
    rw [List.take_append_of_le_length (by omega), ← hl, List.take_length]
  have fin : (w1.setRow g c2).ownsRow 0 39 5 (.slice (some ⟨g, 0, none⟩) (k + m) c) (k + m) (xs.take (k * 5) ++ news) :=
    own_shut c2 hg2 (by omega) hcm hs2 hx2 (by simp only [List.length_append, List.length_take, hxl, hnl]; omega)
  rw [hw1] at hr1
  have hmn : k + 1 + m - 1 = k + m := by omega
  rw [hmn, hnews]
  clear h hg ht hxl hnews hn1 hsrc hfit hc1 hc2 hs1 hs2 hx2 hg1 hg2 hw1 hcs hzl M1 hnl hk hc1l
  have hk1 : ((k : Int) == (k : Int) + 1) = false := by simp; omega
  have e1 : ¬ (k : Int) = (k : Int) + 1 := by omega
  have hc64 : (c : Int) ≤ 9223372036854775807 := by simp only [maxLen] at hcm; omega
  have hp1 : (k : Int) ≤ (k : Int) + 1 := by omega
  have hp2 : (0 : Int) ≤ (k : Int) + 1 := by omega
  have hp3 : (k : Int) + 1 ≤ ((k + 1 + m : Nat) : Int) := by omega
  have hmm : k + 1 + m - (k + 1) = m := by omega
  replace fin := hid (And.intro fin M2)
  clear M2
  have ht1 : ((k : Int) + 1).toNat = k + 1 := by omega
  have hq1 : k ≤ c := by omega
  have hq7 : (k : Int) + 1 ≤ (k : Int) + 1 + m := by omega
  have hq2 : k + 1 ≤ k + 1 + m := by omega
  have hq3 : k ≤ k + 1 + m := by omega
  have hq4 : k + m ≤ c := by omega
  have hq5 : (k : Int) + m ≤ c := by omega
  have hq6 : (k : Int) + 1 + m ≤ c := by omega
  by_cases hb : c = k + 1
  · obtain rfl : m = 0 := by omega
    subst hb
    replace hr1 := fun ty => hr1 ⟨g, 0, none⟩ ty 0 (by omega)
    replace hr2 := fun ty cc => (show (Builtin.clear_ #[28] ty #[.slice (some ⟨g, k * 5, none⟩) 1 cc]).run Tryz.prog w1 = .ok (.tuple #[]) (w1.setRow g c2) from hr2 _ 1 ty cc (by omega) rfl)
    simp only [Nat.add_zero] at *
    go_enter Tryz.func91, Tryz.ntmps91
    go_wp2_with fail
    go_region_law (refine step_append_run rfl (.tmp 22) (.tmp 25) 28 28 rfl (.slice (some ⟨g, 0, none⟩) k (k + 1)) (.slice (some ⟨g, 0, none⟩) 0 0) (by simp [Act.eval, Act.put]) (by simp [Act.eval, Act.put]) (hr1 _) ?_)
    go_wp2_with (at_builtin; refine list_clear_run _ rfl (.tmp 31) 28 rfl (.slice (some ⟨g, k * 5, none⟩) 1 1) rfl (hr2 _ _) ?_)
    go_ret
    exact ⟨rfl, fin.out.1, fin.out.2⟩
  · have hb2 : ¬ c - (k + 1) = 0 := by omega
    have hb3 : ¬ c = k + 1 := hb
    have hb4 : k + 1 + m - (k + m) = 1 := by omega
    have hb5 : ¬ c = k + m := by omega
    have hb6 : ¬ c - (k + m) = 0 := by omega
    replace hr1 := fun ty cc => (show (Builtin.append_ #[28, 28] ty #[.slice (some ⟨g, 0, none⟩) k c, .slice (some ⟨g, (k + 1) * 5, none⟩) m cc]).run Tryz.prog w.drew = .ok (.slice (some ⟨g, 0, none⟩) (k + m) c) w1 from hr1 _ ty cc (fun _ => rfl))
    replace hr2 := fun ty cc => (show (Builtin.clear_ #[28] ty #[.slice (some ⟨g, (k + m) * 5, none⟩) 1 cc]).run Tryz.prog w1 = .ok (.tuple #[]) (w1.setRow g c2) from hr2 _ 1 ty cc (by omega) rfl)
    go_enter Tryz.func91, Tryz.ntmps91
    go_wp2_with fail
    go_region_law (refine step_append_run rfl (.tmp 22) (.tmp 25) 28 28 rfl (.slice (some ⟨g, 0, none⟩) k c) (.slice (some ⟨g, (k + 1) * 5, none⟩) m (c - (k + 1))) (by simp [Act.eval, Act.put]) (by simp [Act.eval, Act.put]) (hr1 _ _) ?_)
    go_wp2_with (at_builtin; refine list_clear_run _ rfl (.tmp 31) 28 rfl (.slice (some ⟨g, (k + m) * 5, none⟩) 1 (c - (k + m))) rfl (hr2 _ _) ?_)
    go_ret
    exact ⟨rfl, fin.out.1, fin.out.2⟩

set_option maxHeartbeats 1000000 in
theorem delIt {w : World} {g n c : Nat} {xs : List Value} (h : w.ownsRow 0 3 1 (.slice (some ⟨g, 0, none⟩) n c) n xs) (h1 : ∀ u ∈ xs, u.oneCell' = true) (k : Nat) (hk : k < n) (hn : n ≤ 65536) :
    Calls Tryz.prog 102 #[.slice (some ⟨g, 0, none⟩) n c, .int .i64 k, .int .i64 ((k : Int) + 1)] w fun e w' => e = .returned (.slice (some ⟨g, 0, none⟩) (n - 1) c) ∧
      w'.ownsRow 0 3 1 (.slice (some ⟨g, 0, none⟩) (n - 1) c) (n - 1) (xs.take (k * 1) ++ xs.drop ((k + 1) * 1)) ∧ Mod (fun j => j = g) w w' := by
  obtain ⟨cur, hg, hnc, hcm, hcs, ht, hxl⟩ := own_open h
  obtain ⟨m, hm⟩ : ∃ m, n = k + 1 + m := ⟨n - (k + 1), by omega⟩
  subst hm
  obtain ⟨news, hnews⟩ : ∃ news, xs.drop ((k + 1) * 1) = news := ⟨_, rfl⟩
  have hnl : news.length = m * 1 := by rw [← hnews, List.length_drop, hxl]; omega
  have hn1 : ∀ u ∈ news, u.oneCell' = true := fun u hu => h1 u (List.mem_of_mem_drop (by rw [hnews]; exact hu))
  have hsrc : ∀ j u, news[j]? = some u → w.drew.cell? ((⟨g, (k + 1) * 1, none⟩ : Addr).add j) = some u := by
    intro j u hu
    have := World.ownsRow.cells h rfl ((k + 1) * 1 + j) u (by rw [← hnews, List.getElem?_drop] at hu; exact hu)
    have e : ∀ (o n : Nat), (⟨g, o, none⟩ : Addr).add n = ⟨g, o + n, none⟩ := by intro o n; unfold Addr.add; split <;> simp_all
    rw [e] at this ⊢
    simpa using this
  obtain ⟨i0, hi0, hzz⟩ := Option.map_eq_some_iff.1 infoI7
  simp only [Prod.mk.injEq] at hzz
  obtain ⟨hz0, hz1, hz2⟩ := hzz
  have hfit : k * i0.size + news.length ≤ cur.size := by rw [hz1, hnl, hcs]; omega
  obtain ⟨c1, hc1⟩ : ∃ c1, (cur.toList.take (k * 1) ++ news ++ cur.toList.drop (k * 1 + news.length)).toArray = c1 := ⟨_, rfl⟩
  have hs1 : c1.size = c * 1 := by rw [← hc1, ← hcs]; simp; rw [hnl]; omega
  have hr1 : ∀ (A : Addr) ty cc, (0 < m → A = ⟨g, (k + 1) * 1, none⟩) → (Builtin.append_ #[86, 86] ty #[.slice (some ⟨g, 0, none⟩) k c, .slice (some A) m cc]).run Tryz.prog w.drew = .ok (.slice (some ⟨g, 0, none⟩) (k + m) c) (w.drew.setRow g c1) := by
    intro A ty cc hA
    have := run_append_room (P := Tryz.prog) w.drew 86 ty 3 i0 Tryz.underlying86 hi0 g k c cur hg A m cc news (by rw [hnl, hz1]) (fun j u hu => by
      by_cases hm0 : 0 < m
      · rw [hA hm0]; exact hsrc j u hu
      · have := (List.getElem?_eq_some_iff.1 hu).1; omega) hn1 (by omega) hfit
    rw [hz1, hc1] at this
    exact this
  obtain ⟨w1, hw1⟩ : ∃ w1, w.drew.setRow g c1 = w1 := ⟨_, rfl⟩
  have hg1 : w1.heap[g]? = some (.cells c1 3 (0, 0)) := by rw [← hw1]; exact setRow_heap w.drew g cur c1 3 _ hg
  have M1 : Mod (fun j => j = g) w w1 := by rw [← hw1]; exact (Mod.drew (Mod.refl _ w)).trans' (mod_setRow w.drew g c1)
  obtain ⟨c2, hc2⟩ : ∃ c2, (c1.toList.take ((k + m) * 1) ++ (.int .i64 0 : Value).cells.toList ++ c1.toList.drop ((k + m) * 1 + 1)).toArray = c2 := ⟨_, rfl⟩
  have hr2 : ∀ o q ty cc, o = (k + m) * 1 → q = 1 → (Builtin.clear_ #[86] ty #[.slice (some ⟨g, o, none⟩) q cc]).run Tryz.prog w1 = .ok (.tuple #[]) (w1.setRow g c2) := by
    intro o q ty cc ho hq
    rw [ho, hq, ← hc2]
    exact run_clear1 w1 86 3 ty (.int .i64 0) 1 g ((k + m) * 1) cc c1 3 Tryz.underlying86 (by rw [hi0]; simp [hz0, hz1]) rfl (by omega) (by intro u hu; simp [Value.cells] at hu; rcases hu with rfl <;> rfl) hg1 (by rw [hs1]; omega)
  have hg2 : (w1.setRow g c2).heap[g]? = some (.cells c2 3 (0, 0)) := setRow_heap w1 g c1 c2 3 _ hg1
  have M2 : Mod (fun j => j = g) w (w1.setRow g c2) := M1.trans' (mod_setRow w1 g c2)
  have hzl : (.int .i64 0 : Value).cells.toList.length = 1 := rfl
  have hc1l : c1.toList.length = c * 1 := by simpa using hs1
  have hs2 : c2.size = c * 1 := by rw [← hc2, List.size_toArray]; simp only [List.length_append, List.length_take, List.length_drop, hzl, hc1l]; omega
  have hx2 : c2.toList.take ((k + m) * 1) = xs.take (k * 1) ++ news := by
    rw [← hc2]
    rw [List.append_assoc, List.take_append_of_le_length (by simp only [List.length_take, hc1l]; omega), List.take_take, Nat.min_self, ← hc1]
    have e1 : cur.toList.take (k * 1) = xs.take (k * 1) := by have h := congrArg (List.take (k * 1)) ht; rw [List.take_take, Nat.min_eq_left (by omega)] at h; exact h
    rw [e1]
    have hl : (xs.take (k * 1) ++ news).length = (k + m) * 1 := by simp only [List.length_append, List.length_take, hxl, hnl]; omega
    rw [List.take_append_of_le_length (by omega), ← hl, List.take_length]
  have fin : (w1.setRow g c2).ownsRow 0 3 1 (.slice (some ⟨g, 0, none⟩) (k + m) c) (k + m) (xs.take (k * 1) ++ news) :=
    own_shut c2 hg2 (by omega) hcm hs2 hx2 (by simp only [List.length_append, List.length_take, hxl, hnl]; omega)
  rw [hw1] at hr1
  have hmn : k + 1 + m - 1 = k + m := by omega
  rw [hmn, hnews]
  clear h hg ht hxl hnews hn1 hsrc hfit hc1 hc2 hs1 hs2 hx2 hg1 hg2 hw1 hcs hzl M1 hnl hk hc1l
  have hk1 : ((k : Int) == (k : Int) + 1) = false := by simp; omega
  have e1 : ¬ (k : Int) = (k : Int) + 1 := by omega
  have hc64 : (c : Int) ≤ 9223372036854775807 := by simp only [maxLen] at hcm; omega
  have hp1 : (k : Int) ≤ (k : Int) + 1 := by omega
  have hp2 : (0 : Int) ≤ (k : Int) + 1 := by omega
  have hp3 : (k : Int) + 1 ≤ ((k + 1 + m : Nat) : Int) := by omega
  have hmm : k + 1 + m - (k + 1) = m := by omega
  replace fin := hid (And.intro fin M2)
  clear M2
  have ht1 : ((k : Int) + 1).toNat = k + 1 := by omega
  have hq1 : k ≤ c := by omega
  have hq7 : (k : Int) + 1 ≤ (k : Int) + 1 + m := by omega
  have hq2 : k + 1 ≤ k + 1 + m := by omega
  have hq3 : k ≤ k + 1 + m := by omega
  have hq4 : k + m ≤ c := by omega
  have hq5 : (k : Int) + m ≤ c := by omega
  have hq6 : (k : Int) + 1 + m ≤ c := by omega
  by_cases hb : c = k + 1
  · obtain rfl : m = 0 := by omega
    subst hb
    replace hr1 := fun ty => hr1 ⟨g, 0, none⟩ ty 0 (by omega)
    replace hr2 := fun ty cc => (show (Builtin.clear_ #[86] ty #[.slice (some ⟨g, k, none⟩) 1 cc]).run Tryz.prog w1 = .ok (.tuple #[]) (w1.setRow g c2) from hr2 _ 1 ty cc (by omega) rfl)
    simp only [Nat.add_zero] at *
    go_enter Tryz.func102, Tryz.ntmps102
    go_wp2_with fail
    go_region_law (refine step_append_run rfl (.tmp 22) (.tmp 25) 86 86 rfl (.slice (some ⟨g, 0, none⟩) k (k + 1)) (.slice (some ⟨g, 0, none⟩) 0 0) (by simp [Act.eval, Act.put]) (by simp [Act.eval, Act.put]) (hr1 _) ?_)
    go_wp2_with (at_builtin; refine list_clear_run _ rfl (.tmp 31) 86 rfl (.slice (some ⟨g, k, none⟩) 1 1) rfl (hr2 _ _) ?_)
    go_ret
    exact ⟨rfl, fin.out.1, fin.out.2⟩
  · have hb2 : ¬ c - (k + 1) = 0 := by omega
    have hb3 : ¬ c = k + 1 := hb
    have hb4 : k + 1 + m - (k + m) = 1 := by omega
    have hb5 : ¬ c = k + m := by omega
    have hb6 : ¬ c - (k + m) = 0 := by omega
    replace hr1 := fun ty cc => (show (Builtin.append_ #[86, 86] ty #[.slice (some ⟨g, 0, none⟩) k c, .slice (some ⟨g, k + 1, none⟩) m cc]).run Tryz.prog w.drew = .ok (.slice (some ⟨g, 0, none⟩) (k + m) c) w1 from hr1 _ ty cc (fun _ => by rw [Nat.mul_one]))
    replace hr2 := fun ty cc => (show (Builtin.clear_ #[86] ty #[.slice (some ⟨g, k + m, none⟩) 1 cc]).run Tryz.prog w1 = .ok (.tuple #[]) (w1.setRow g c2) from hr2 _ 1 ty cc (by omega) rfl)
    go_enter Tryz.func102, Tryz.ntmps102
    go_wp2_with fail
    go_region_law (refine step_append_run rfl (.tmp 22) (.tmp 25) 86 86 rfl (.slice (some ⟨g, 0, none⟩) k c) (.slice (some ⟨g, k + 1, none⟩) m (c - (k + 1))) (by simp [Act.eval, Act.put]) (by simp [Act.eval, Act.put]) (hr1 _ _) ?_)
    go_wp2_with (at_builtin; refine list_clear_run _ rfl (.tmp 31) 86 rfl (.slice (some ⟨g, k + m, none⟩) 1 (c - (k + m))) rfl (hr2 _ _) ?_)
    go_ret
    exact ⟨rfl, fin.out.1, fin.out.2⟩
end Go.Proofs.Bo
