import Derived.Test.YtofgoehkahcajaaGreatSlIns2
import Derived.Laws.Cover3
set_option linter.unusedVariables false
set_option linter.unusedSimpArgs false
namespace Go.Proofs.Bo
open Go Go.RowKit
theorem run_eql_slice_nil {P : Program} (w : World) (t e : TypeId) (a : Option Addr) (l c : Nat) (h : P.underlying t = some (.slice e)) : (binOp .eql t (.slice a l c) (.slice none 0 0)).run P w = .ok (.bool a.isNone) w := by
  simp only [binOp]
  simp [run_equal_slice_nil w t e a l c h]

set_option maxHeartbeats 400000 in
theorem cloneSg_nil (w : World) : Calls Tryz.prog 82 #[.slice none 0 0] w fun e w' => e = .returned (.slice none 0 0) ∧ w' = w := by
  have E : (binOp .eql 28 (.slice none 0 0) (.slice none 0 0)).run Tryz.prog w = .ok (.bool true) w := run_eql_slice_nil w _ _ _ _ _ Tryz.underlying28
  go_enter Tryz.func82, Tryz.ntmps82
  go_wp2
  go_ret
  exact ⟨rfl, rfl⟩

set_option maxHeartbeats 400000 in
theorem cloneSg {w : World} (ad : Addr) (m c : Nat) (news : List Value) (hnl : news.length = m * 5) (hnews : ∀ j u, news[j]? = some u → w.cell? (ad.add j) = some u) (h1 : ∀ u ∈ news, u.oneCell' = true) (hm : m ≤ 65536) :
    Calls Tryz.prog 82 #[.slice (some ad) m c] w fun e w' => ∃ g c', e = .returned (.slice (some ⟨g, 0, none⟩) m c') ∧ w'.ownsRow 0 39 5 (.slice (some ⟨g, 0, none⟩) m c') m news ∧ Mod (fun _ => False) w w' ∧ w.heap.size ≤ g := by
  have E : (binOp .eql 28 (.slice (some ad) m c) (.slice none 0 0)).run Tryz.prog w = .ok (.bool false) w := run_eql_slice_nil w _ _ _ _ _ Tryz.underlying28
  obtain ⟨i0, hi0, hzz⟩ := Option.map_eq_some_iff.1 infoS7
  simp only [Prod.mk.injEq] at hzz
  obtain ⟨hz0, hz1, hz2⟩ := hzz
  obtain ⟨w2, hw2, own2, M2⟩ : ∃ w2, w.alloc (.cells #[] 39) = w2 ∧ w2.ownsRow 0 39 5 (.slice (some ⟨w.heap.size, 0, none⟩) 0 0) 0 [] ∧ Mod (fun _ => False) w w2 :=
    ⟨_, rfl, ⟨by simp, .inr ⟨w.heap.size, 0, #[], rfl, Nat.zero_le _, heap_alloc_new w _, Nat.le_refl _, by simp [maxLen], by simp, by simp⟩⟩, (Mod.refl _ _).alloc _⟩
  have hn2 : ∀ j u, news[j]? = some u → w2.cell? (ad.add j) = some u := fun j u hu => by
    have := hnews j u hu
    exact (World.cell?_of_block (by exact M2.block _ (World.block_lt_of_cell? w _ this) fun h => h)).trans this
  have hb : (0 + m) * 40 ≤ 140737488355328 := by omega
  replace own2 := hid own2
  replace hn2 := hid hn2
  replace h1 := hid h1
  replace hnl := hid hnl
  clear hnews
  go_enter Tryz.func82, Tryz.ntmps82
  go_wp2_with (at_builtin; refine wpList_append_own_at _ rfl (.tmp 5) (.tmp 6) 28 rfl 0 39 i0 _ 5 40 Tryz.underlying28 hi0 hz0 hz1 hz2 rfl (by omega) (.slice (some ⟨w.heap.size, 0, none⟩) 0 0) 0 [] rfl own2.out ad m c news rfl hnl.out hn2.out h1.out (by simp only [maxLen]; omega) hb (Nat.zero_le _) ?_; intro v1 w1 hown hgr hnil hat)
  go_ret
  rw [Nat.zero_add, List.nil_append] at hown
  have hz := M2.size
  obtain ⟨A1, cc1, rfl, _, _, hA1⟩ := own_slice hown
  have hsm : ∃ g, A1 = some ⟨g, 0, none⟩ := by
    rcases hown.2 with ⟨e, e2⟩ | ⟨g, cap, cur, e, _⟩
    · have := hnil.1 (by rw [e]); cases this.1
    · cases e; exact ⟨g, rfl⟩
  obtain ⟨g, rfl⟩ := hsm
  refine ⟨g, cc1, rfl, hown, M2.trans (Mod.of_grown hgr) fun i hi => .inr (by cases hi; exact Nat.le_refl _), ?_⟩
  rcases hat with e | e
  · cases e; exact Nat.le_refl _
  · cases e; exact hz

set_option maxHeartbeats 400000 in
theorem cloneIt_nil (w : World) : Calls Tryz.prog 83 #[.slice none 0 0] w fun e w' => e = .returned (.slice none 0 0) ∧ w' = w := by
  have E : (binOp .eql 86 (.slice none 0 0) (.slice none 0 0)).run Tryz.prog w = .ok (.bool true) w := run_eql_slice_nil w _ _ _ _ _ Tryz.underlying86
  go_enter Tryz.func83, Tryz.ntmps83
  go_wp2
  go_ret
  exact ⟨rfl, rfl⟩

set_option maxHeartbeats 400000 in
theorem cloneIt {w : World} (ad : Addr) (m c : Nat) (news : List Value) (hnl : news.length = m * 1) (hnews : ∀ j u, news[j]? = some u → w.cell? (ad.add j) = some u) (h1 : ∀ u ∈ news, u.oneCell' = true) (hm : m ≤ 65536) :
    Calls Tryz.prog 83 #[.slice (some ad) m c] w fun e w' => ∃ g c', e = .returned (.slice (some ⟨g, 0, none⟩) m c') ∧ w'.ownsRow 0 3 1 (.slice (some ⟨g, 0, none⟩) m c') m news ∧ Mod (fun _ => False) w w' ∧ w.heap.size ≤ g := by
  have E : (binOp .eql 86 (.slice (some ad) m c) (.slice none 0 0)).run Tryz.prog w = .ok (.bool false) w := run_eql_slice_nil w _ _ _ _ _ Tryz.underlying86
  obtain ⟨i0, hi0, hzz⟩ := Option.map_eq_some_iff.1 infoI7
  simp only [Prod.mk.injEq] at hzz
  obtain ⟨hz0, hz1, hz2⟩ := hzz
  obtain ⟨w2, hw2, own2, M2⟩ : ∃ w2, w.alloc (.cells #[] 3) = w2 ∧ w2.ownsRow 0 3 1 (.slice (some ⟨w.heap.size, 0, none⟩) 0 0) 0 [] ∧ Mod (fun _ => False) w w2 :=
    ⟨_, rfl, ⟨by simp, .inr ⟨w.heap.size, 0, #[], rfl, Nat.zero_le _, heap_alloc_new w _, Nat.le_refl _, by simp [maxLen], by simp, by simp⟩⟩, (Mod.refl _ _).alloc _⟩
  have hn2 : ∀ j u, news[j]? = some u → w2.cell? (ad.add j) = some u := fun j u hu => by
    have := hnews j u hu
    exact (World.cell?_of_block (by exact M2.block _ (World.block_lt_of_cell? w _ this) fun h => h)).trans this
  have hb : (0 + m) * 8 ≤ 140737488355328 := by omega
  replace own2 := hid own2
  replace hn2 := hid hn2
  replace h1 := hid h1
  replace hnl := hid hnl
  clear hnews
  go_enter Tryz.func83, Tryz.ntmps83
  go_wp2_with (at_builtin; refine wpList_append_own_at _ rfl (.tmp 5) (.tmp 6) 86 rfl 0 3 i0 _ 1 8 Tryz.underlying86 hi0 hz0 hz1 hz2 rfl (by omega) (.slice (some ⟨w.heap.size, 0, none⟩) 0 0) 0 [] rfl own2.out ad m c news rfl hnl.out hn2.out h1.out (by simp only [maxLen]; omega) hb (Nat.zero_le _) ?_; intro v1 w1 hown hgr hnil hat)
  go_ret
  rw [Nat.zero_add, List.nil_append] at hown
  have hz := M2.size
  obtain ⟨A1, cc1, rfl, _, _, hA1⟩ := own_slice hown
  have hsm : ∃ g, A1 = some ⟨g, 0, none⟩ := by
    rcases hown.2 with ⟨e, e2⟩ | ⟨g, cap, cur, e, _⟩
    · have := hnil.1 (by rw [e]); cases this.1
    · cases e; exact ⟨g, rfl⟩
  obtain ⟨g, rfl⟩ := hsm
  refine ⟨g, cc1, rfl, hown, M2.trans (Mod.of_grown hgr) fun i hi => .inr (by cases hi; exact Nat.le_refl _), ?_⟩
  rcases hat with e | e
  · cases e; exact Nat.le_refl _
  · cases e; exact hz
end Go.Proofs.Bo
