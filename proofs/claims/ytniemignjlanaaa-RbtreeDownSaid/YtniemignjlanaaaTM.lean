import Derived.Test.YtniemignjlanaaaArN
set_option linter.unusedVariables false
namespace Go.Proofs.Bo
open Go Go.RowKit

/-- A tree in memory. -/
structure TM (w : World) (tb ab : Nat) (lv fv : Value) (room root : Int) (σ : List (Option Nd)) (free : List Int) : Prop where
  t : w.heap[tb]? = some (.cells #[.pointer (some ⟨ab, 0, none⟩), .int .i64 root] 76 (0, 0))
  a : ArN w ab lv fv room σ free

section
variable {w : World} {tb ab : Nat} {lv fv : Value} {room root : Int} {σ : List (Option Nd)} {free : List Int}

theorem TM.drewN (h : TM w tb ab lv fv room root σ free) (n : Nat) : TM (w.drewN n) tb ab lv fv room root σ free := ⟨h.t, h.a.drewN n⟩
theorem TM.mod {S : Nat → Prop} {w' : World} (h : TM w tb ab lv fv room root σ free) (hm : Mod S w w') (ht : ¬ S tb) (hs : ∀ k, Foot ab lv fv k → ¬ S k) : TM w' tb ab lv fv room root σ free := ⟨hm.heap h.t ht, h.a.mod hm hs⟩
theorem TM.mod0 {w' : World} (h : TM w tb ab lv fv room root σ free) (hm : Mod (fun _ => False) w w') : TM w' tb ab lv fv room root σ free := h.mod hm (fun h => h) fun _ _ h => h
/-- The tree's block is none of the arena's. -/
theorem TM.ne (h : TM w tb ab lv fv room root σ free) : ¬ Foot ab lv fv tb := by
  rintro (e | e | e)
  · subst e
    have := h.t.symm.trans h.a.blk
    injection this with this; injection this with _ this; exact absurd this (by decide)
  · obtain ⟨cs, hc⟩ := own_type h.a.row e
    have := h.t.symm.trans hc
    injection this with this; injection this with _ this; exact absurd this (by decide)
  · obtain ⟨cs, hc⟩ := own_type h.a.fre e
    have := h.t.symm.trans hc
    injection this with this; injection this with _ this; exact absurd this (by decide)

theorem atT {lb n c k : Nat} {v : Nd} (h : TM w tb ab (.slice (some ⟨lb, 0, none⟩) n c) fv room root σ free) (hp : σ[k]? = some (some v)) :
    Calls Try.prog 46 #[.pointer (some ⟨tb, 0, none⟩), .int .i64 k] w fun e w' => e = .returned (.pointer (some ⟨lb, k * 10, none⟩)) ∧ w' = w := by
  obtain ⟨c0, f0⟩ := blkc h.t
  have H := atN_yes h.a hp
  go_enter Try.func46, Try.ntmps46
  go_wp2_with (go_at_call 69; refine H.mono ?_; rintro e w' ⟨rfl, rfl⟩)
  go_ret
  exact ⟨rfl, rfl⟩

/-- A cell of a node. -/
theorem TM.cell {lb n c k : Nat} {v : Nd} (h : TM w tb ab (.slice (some ⟨lb, 0, none⟩) n c) fv room root σ free) (hp : σ[k]? = some (some v)) {j : Nat} {u : Value} (hu : (encNd v)[j]? = some u) :
    w.cell? ⟨lb, k * 10 + j, none⟩ = some u ∧ w.frozen? ⟨lb, k * 10 + j, none⟩ = false := by
  refine h.a.cell hp (j := j) ?_
  show (encNd v ++ [.bool true])[j]? = some u
  rw [List.getElem?_append_left (List.getElem?_eq_some_iff.1 hu).1]; exact hu

theorem redT_none (w : World) (tb : Nat) : Calls Try.prog 53 #[.pointer (some ⟨tb, 0, none⟩), .int .i64 (-1)] w fun e w' => e = .returned (.bool false) ∧ w' = w := by
  go_enter Try.func53, Try.ntmps53
  go_wp2
  go_ret
  exact ⟨rfl, rfl⟩

theorem redT {k : Nat} {v : Nd} (h : TM w tb ab lv fv room root σ free) (hp : σ[k]? = some (some v)) :
    Calls Try.prog 53 #[.pointer (some ⟨tb, 0, none⟩), .int .i64 k] w fun e w' => e = .returned (.bool v.red) ∧ w' = w := by
  obtain ⟨lb, c, rfl, _, _⟩ := h.a.place (by have := (List.getElem?_eq_some_iff.1 hp).1; omega)
  have H := atT h hp
  have c8 := (h.cell hp (j := 8) rfl).1
  have hk : ((k : Int) != -1) = true := by simp
  go_enter Try.func53, Try.ntmps53
  go_wp2_with (go_at_call 46; refine H.mono ?_; rintro e w' ⟨rfl, rfl⟩)
  go_ret
  exact ⟨rfl, rfl⟩

theorem sideT {k : Nat} {v : Nd} (h : TM w tb ab lv fv room root σ free) (hp : σ[k]? = some (some v)) (i : Int) :
    Calls Try.prog 70 #[.pointer (some ⟨tb, 0, none⟩), .int .i64 i, .int .i64 k] w fun e w' => e = .returned (.int .i64 (if v.k0 = i then 0 else 1)) ∧ w' = w := by
  obtain ⟨lb, c, rfl, _, _⟩ := h.a.place (by have := (List.getElem?_eq_some_iff.1 hp).1; omega)
  have H := atT h hp
  have c5 := (h.cell hp (j := 5) rfl).1
  by_cases hi : v.k0 = i
  · have hb : (v.k0 == i) = true := by simpa using hi
    go_enter Try.func70, Try.ntmps70
    go_wp2_with (go_at_call 46; refine H.mono ?_; rintro e w' ⟨rfl, rfl⟩)
    go_ret
    exact ⟨by simp [hi], rfl⟩
  · have hb : (v.k0 == i) = false := by simpa using hi
    go_enter Try.func70, Try.ntmps70
    go_wp2_with (go_at_call 46; refine H.mono ?_; rintro e w' ⟨rfl, rfl⟩)
    go_ret
    exact ⟨by simp [hi], rfl⟩

set_option maxHeartbeats 400000 in
theorem keyT {k : Nat} {v : Nd} (h : TM w tb ab lv fv room root σ free) (hp : σ[k]? = some (some v)) :
    Calls Try.prog 68 #[.pointer (some ⟨tb, 0, none⟩), .int .i64 k] w fun e w' => e = .returned (.agg #[.int .i64 v.s.ls, .int .i64 v.s.la]) ∧ Mod (fun _ => False) w w' := by
  obtain ⟨w0, hw0⟩ : ∃ w0, w.alloc (.cells #[.int .i64 0, .int .i64 0] 32) = w0 := ⟨_, rfl⟩
  have b0 : w0.heap[w.heap.size]? = some (.cells #[.int .i64 0, .int .i64 0] 32 (0, 0)) := by rw [← hw0]; exact alloc_0 _ _
  have M0 : Mod (fun _ => False) w w0 := by rw [← hw0]; exact (Mod.refl _ _).alloc _
  obtain ⟨d0, e0⟩ := blkc b0
  have h := h.mod0 M0
  obtain ⟨lb, c, rfl, _, _⟩ := h.a.place (by have := (List.getElem?_eq_some_iff.1 hp).1; omega)
  have H := atT h hp
  have c0 := (h.cell hp (j := 0) rfl).1
  have c1 := (h.cell hp (j := 1) rfl).1
  simp only [Nat.add_zero] at c0
  clear h
  go_enter Try.func68, Try.ntmps68
  go_wp2_with (go_at_call 46; refine H.mono ?_; rintro e w' ⟨rfl, hw⟩; subst hw)
  refine ret_row w.heap.size [.int .i64 v.s.ls, .int .i64 v.s.la] rfl rfl (setL_whole (cs := [.int .i64 0, .int .i64 0]) (us := [.int .i64 v.s.ls, .int .i64 v.s.la]) b0 rfl) Try.underlying32 rfl (by kernel_rfl) rfl ⟨rfl, ?_⟩
  exact (M0.setCell (.inr (Nat.le_refl _)) _).setCell (.inr (Nat.le_refl _)) _

/-- A store into a field of a node. -/
theorem TM.setF {lb n c k j : Nat} {v v' : Nd} {u : Value} (h : TM w tb ab (.slice (some ⟨lb, 0, none⟩) n c) fv room root σ free) (hp : σ[k]? = some (some v)) (hj : j < 9) (hv : encNd v' = (encNd v).set j u) :
    TM (w.setCell ⟨lb, k * 10 + j, none⟩ u) tb ab (.slice (some ⟨lb, 0, none⟩) n c) fv room root (σ.set k (some v')) free ∧ Mod (fun i => i = lb) w (w.setCell ⟨lb, k * 10 + j, none⟩ u) := by
  have hM : Mod (fun i => i = lb) w (w.setCell ⟨lb, k * 10 + j, none⟩ u) := (Mod.refl (fun i => i = lb) w).setCell (.inl rfl) _
  have hlb : Foot ab (.slice (some ⟨lb, 0, none⟩) n c) fv lb := .inr (.inl rfl)
  have hr := h.a.row
  obtain ⟨_, _, e, _⟩ := own_slice hr
  cases e
  refine ⟨⟨hM.heap h.t fun e => h.ne (e ▸ hlb), ⟨hM.heap h.a.blk fun e => h.a.ne_l (by decide) (by rw [e]; rfl), ?_, own_mod h.a.fre hM fun i e e2 => by subst e2; exact h.a.ne_lf (by decide) (k := i) rfl e, h.a.encl, h.a.inv.set hp v'⟩⟩, hM⟩
  have hlen : (σ.flatMap (encP encNd zNd)).length = σ.length * 10 := flat_length _ 10 (encP_length h.a.encl) σ
  have hk := (List.getElem?_eq_some_iff.1 hp).1
  have := own_set hr (k * 10 + j) (by rw [hlen]; omega) u
  rw [flat_set (encP encNd zNd) 10 (encP_length h.a.encl) σ k j (by omega) u (some v) (some v') hp (by
    show encNd v' ++ [Value.bool true] = (encNd v ++ [Value.bool true]).set j u
    rw [List.set_append_left _ _ (by simp [encNd]; omega), hv])] at this
  simpa using this
/-- .. into the tree's own root. -/
theorem TM.setRoot (h : TM w tb ab lv fv room root σ free) (r : Int) : TM (w.setCell ⟨tb, 1, none⟩ (.int .i64 r)) tb ab lv fv room r σ free ∧ Mod (fun i => i = tb) w (w.setCell ⟨tb, 1, none⟩ (.int .i64 r)) := by
  have hM : Mod (fun i => i = tb) w (w.setCell ⟨tb, 1, none⟩ (.int .i64 r)) := (Mod.refl (fun i => i = tb) w).setCell (.inl rfl) _
  have hk := heap_setCell_same w tb 1 #[.pointer (some ⟨ab, 0, none⟩), .int .i64 root] 76 (.int .i64 r) h.t
  exact ⟨⟨by simpa using hk, h.a.mod hM fun k hk e => h.ne (e ▸ hk)⟩, hM⟩
end
end Go.Proofs.Bo
