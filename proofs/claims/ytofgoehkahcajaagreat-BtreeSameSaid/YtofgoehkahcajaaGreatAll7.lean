import Derived.Test.YtofgoehkahcajaaGreatRngG
import Derived.Test.YtofgoehkahcajaaGreatApiG
import Derived.Test.YtofgoehkahcajaaGreatIter7
import Derived.Test.YtofgoehkahcajaaGreatRDel
set_option linter.unusedVariables false
set_option linter.unusedSimpArgs false
namespace Go.Proofs.Bo
open Go Go.RowKit Go.Shelf

/-- The row so far: it lies in the box's slice. -/
def AllJ7 (b : Nat) (W0 : World) (pre : List Sg) (G : Nat → Prop) (W : World) : Prop := ∃ v, (∀ k, G k ↔ (k = b ∨ v.ownBlock = some k)) ∧ W.heap[b]? = some (.cells #[v] 28 (0, 0)) ∧ RowV W v pre ∧ (∀ k, v.ownBlock = some k → W0.heap.size ≤ k) ∧ Mod (fun k => k = b) W0 W
theorem AllJ7.stab (b : Nat) (W0 : World) : Stab W0.heap.size (AllJ7 b W0) := by
  rintro s G W W' T ⟨v, g1, g2, g3, g4, g5⟩ m t
  exact ⟨v, g1, m.heap g2 fun h => (t b h).2 ((g1 b).2 (.inl rfl)), own_mod g3 m fun k hk h => (t k h).2 ((g1 k).2 (.inr hk)), g4, g5.trans m fun j h => .inr (t j h).1⟩

section
variable {w : World} {tb d : Nat} {room : Int} {l : List Sg} {X : Nat → Prop}
attribute [local go_sem] Oper.semAt_some
set_option maxHeartbeats 2000000 in
set_option maxRecDepth 100000 in
theorem allR7 (h : BB X w tb d room l) (hlen : l.length ≤ 65535) : Calls Tryz.prog 16 #[.pointer (some ⟨tb, 0, none⟩)] w fun e w' => ∃ v, e = .returned v ∧ RowV w' v l ∧ (∀ k, v.ownBlock = some k → w.heap.size ≤ k) ∧ Mod (fun _ => False) w w' := by
  obtain ⟨ab, lv, fv, σ, free, root, S, hT, hPT, _, hdd, _, _, _⟩ := h
  obtain ⟨w1, hw1, b1, M1, hs1⟩ : ∃ w1, w.alloc (.cells #[.slice none 0 0] 28) = w1 ∧ w1.heap[w.heap.size]? = some (.cells #[.slice none 0 0] 28 (0, 0)) ∧ Mod (fun _ => False) w w1 ∧ w1.heap.size = w.heap.size + 1 := ⟨_, rfl, alloc_0 _ _, (Mod.refl _ _).alloc _, by simp⟩
  have hTF : ∀ j, FootB tb ab lv fv σ j → j < w.heap.size := fun k hk => hT.lt hk
  have HA := allBZ w1 tb
  replace hs1 := hid hs1
  refine calls_of_wp_marks Tryz.func16 rfl ?_
  simp only [Tryz.ntmps16, List.size_toArray, List.length_cons, List.length_nil, Nat.reduceAdd, Nat.reduceSub, Array.replicate_succ, Array.replicate_zero, List.push_toArray, List.append_toArray, List.nil_append, List.cons_append]
  go_wp2_with fail
  refine HA.mono ?_; rintro e w2 ⟨rfl, hw2⟩
  have M2 : Mod (fun _ => False) w1 w2 := by rw [hw2]; exact (Mod.refl _ _).alloc _
  have k1 : w2.heap[w1.heap.size]? = some (.cells #[.pointer (some ⟨tb, 0, none⟩)] 27 (0, 0)) := by rw [hw2]; exact alloc_0 _ _
  have hz2 : w2.heap.size = w1.heap.size + 1 := by rw [hw2]; simp
  clear hw2 HA hw1
  replace b1 := M2.heap b1 fun h => h
  replace hT := (hT.mod0 M1).mod0 M2
  replace M1 := M1.trans' M2
  replace hs1 := hs1.out
  rw [hs1] at k1 hz2
  go_wp2_with fail
  refine wp_range1G (gf := 74) (lb := #[.pointer (some ⟨w.heap.size + 1, 0, none⟩)]) rfl (enters_of Tryz.func74 (by kernel_rfl) rfl) (all_iter hT hPT hdd (by omega) k1) (fun _ => rfl)
    (fun j => j = w.heap.size) (fun j hj => by have : j = w.heap.size := hj; omega) (fun j hj h => by have h : j = w.heap.size := h; rcases hj with hj | hj; omega; have := hTF j hj; omega) (fun j hj => by rcases hj with rfl | hj; omega; have := hTF j hj; omega)
    (AllJ7 w.heap.size w2) (fun c pre G W => False) (AllJ7.stab _ _) (fun c s G W W' T h m t => h.elim)
    (fun pre G W ⟨v, g1, g2, g3, g4, g5⟩ => ⟨g5.size, fun k hk => by rcases (g1 k).1 hk with rfl | hk; exact blkl g2; exact own_lt g3 hk⟩)
    ⟨.slice none 0 0, fun k => ⟨.inl, fun h => h.elim id fun h => by cases h⟩, b1, RowV.nil _, fun k hk => (by cases hk), Mod.refl _ _⟩
    (fun x => #[.int .i64 x.ls, .int .i64 x.la, .int .i64 x.hs, .int .i64 x.ha, .int .i64 x.v]) 39 ?body ?done ?stop
  case stop => exact fun c pre G W _ h => h.elim
  case body =>
    apply Exists.intro
    constructor
    · intro yl x W KK hKK
      simp [encSB]
      gi_wp2_with fail
      generalize W.heap.size = b at hKK ⊢
      exact hKK
    · intro yl pre x rest b G W hx hb hGb hbz hI hne
      obtain ⟨v, g1, g2, g3, g4, g5⟩ := hI
      obtain ⟨q1, q2⟩ := blkc g2
      obtain ⟨p1, p2⟩ := blkc hb
      have hx' : l = pre ++ x :: rest := hx
      have hlp : pre.length ≤ 65536 := by rw [hx'] at hlen; simp at hlen; omega
      clear hx hx'
      obtain ⟨xl, xa, xh, xg, xv⟩ := x
      gi_wp2_with (refine app_oneIn [.int .i64 xl, .int .i64 xa, .int .i64 xh, .int .i64 xg, .int .i64 xv] v pre.length (pre.flatMap encS) (.tmp 8) (.tmp 10) 28 39 (.agg #[.int .i64 0, .int .i64 0, .int .i64 0, .int .i64 0, .int .i64 0]) 5 40 rfl rfl Tryz.underlying28 infoSg rfl (by omega) (by omega) rfl rfl g3 rfl (by simp [Value.oneCell']) (by omega) ?_)
      intro v6 w6 own gr bl
      have Mg : Mod (fun k => v.ownBlock = some k) W w6 := Mod.of_grown gr
      have g26 := Mg.heap g2 (fun h => by have := g4 _ h; omega)
      obtain ⟨r1, r2⟩ := blkc g26
      have hown : ∀ k, v6.ownBlock = some k → k < w6.heap.size := fun k hk => own_lt own hk
      have hg6 : ∀ k, v6.ownBlock = some k → w2.heap.size ≤ k := fun k hk => by
        rcases bl k hk with e | e
        · exact g4 k e
        · exact Nat.le_trans g5.size e
      have R6 : RowV w6 v6 (pre ++ [⟨xl, xa, xh, xg, xv⟩]) := by
        unfold RowV
        rw [List.flatMap_append, List.length_append]
        simpa [encS] using own
      obtain ⟨A6, c6, hv6, _⟩ := own_slice own
      have hz6 := Mg.size
      have hbl := blkl g26
      have fin : roundEnd (AllJ7 w.heap.size w2) (fun c pre G W => False) (pre ++ [⟨xl, xa, xh, xg, xv⟩]) G W .normal { tmps := #[], defers := [] } (w6.setCell ⟨w.heap.size, 0, none⟩ v6) := by
        have MS : Mod (fun k => k = w.heap.size) w6 (w6.setCell ⟨w.heap.size, 0, none⟩ v6) := Mod.setCell (S := fun k => k = w.heap.size) (p := ⟨w.heap.size, 0, none⟩) (Mod.refl _ _) (.inl rfl) _
        refine ⟨fun k => k = w.heap.size ∨ v6.ownBlock = some k, fun k hk => ?_, ?_, v6, fun k => Iff.rfl, setL_whole (cs := [v]) (us := [v6]) g26 rfl, own_mod R6 MS fun k hk h => ?_, hg6, ?_⟩
        · rcases hk with rfl | hk
          · exact ⟨.inl ((g1 _).2 (.inl rfl)), by simpa using hbl⟩
          · refine ⟨?_, by simpa using hown k hk⟩
            rcases bl k hk with e | e
            · exact .inl ((g1 k).2 (.inr e))
            · exact .inr e
        · exact ((Mg.mono fun i hi => .inl ((g1 i).2 (.inr hi))).trans MS fun i hi => .inl ((g1 i).2 (.inl hi)))
        · have := hg6 k hk; have h : k = w.heap.size := h; omega
        · exact (g5.trans Mg fun i hi => .inr (g4 i hi)).trans MS fun i hi => .inl hi
      subst hv6
      clear q1 q2 p1 p2
      replace fin := hid fin
      gi_wp2_with fail
      exact fin.out
  case done =>
    rintro G W ⟨v, g1, g2, g3, g4, g5⟩ hne hk
    obtain ⟨q1, q2⟩ := blkc g2
    go_wp2_with fail
    refine retM1 (D := w2.heap.size) hk rfl (results_tmp rfl _ _ _) ⟨v, rfl, own_mod g3 (mod_put1 _ _ _) fun k hk h => ?_, fun k hk => by have := g4 k hk; omega, mod_putObj (M1.trans g5 fun j h => .inr (by have : j = w.heap.size := h; omega)) (.inr (by omega)) _⟩
    have h : k = w2.heap.size := h
    exact (hne k ((g1 k).2 (.inr hk))).1 h
end
end Go.Proofs.Bo
