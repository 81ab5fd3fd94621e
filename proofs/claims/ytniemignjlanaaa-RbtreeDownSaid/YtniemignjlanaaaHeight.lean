import Derived.Test.YtniemignjlanaaaEachN
import Derived.Test.YtniemignjlanaaaBoG
set_option linter.unusedVariables false
namespace Go.Proofs.Bo
open Go Go.RowKit Go.Shelf

theorem items_spec {α : Type} : ∀ (l : List (Option α)) (b : Nat) (x : Nat × α), x ∈ items b l → b ≤ x.1 ∧ l[x.1 - b]? = some (some x.2)
  | [], _, _, h => by simp [items] at h
  | none :: l, b, x, h => by
    obtain ⟨h1, h2⟩ := items_spec l (b + 1) x h
    refine ⟨by omega, ?_⟩
    rw [show x.1 - b = (x.1 - (b + 1)) + 1 by omega]; simpa using h2
  | some v :: l, b, x, h => by
    simp only [items, List.mem_cons] at h
    rcases h with rfl | h
    · simp
    · obtain ⟨h1, h2⟩ := items_spec l (b + 1) x h
      refine ⟨by omega, ?_⟩
      rw [show x.1 - b = (x.1 - (b + 1)) + 1 by omega]; simpa using h2
theorem items_mem {α : Type} : ∀ (l : List (Option α)) (b k : Nat) (v : α), l[k]? = some (some v) → (b + k, v) ∈ items b l
  | [], _, _, _, h => by simp at h
  | p :: l, b, 0, v, h => by simp at h; subst h; simp [items]
  | none :: l, b, k + 1, v, h => by
    have := items_mem l (b + 1) k v (by simpa using h)
    rw [show b + (k + 1) = b + 1 + k by omega]; simpa [items] using this
  | some u :: l, b, k + 1, v, h => by
    have := items_mem l (b + 1) k v (by simpa using h)
    rw [show b + (k + 1) = b + 1 + k by omega]; simp [items, this]

section
variable {w w' : World} {tb ab N : Nat} {lv fv : Value} {room : Int} {free : List Int} {t : T}

/-- What an arena's things are to the tree. -/
theorem Holds.item {σ : List (Option Nd)} {root : Int} (h : Holds σ root t) {x : Nat × Nd} (hx : x ∈ items 0 σ) : ∃ c b s l r, t = plug c (.N x.1 b s l r) := by
  have := (items_spec σ 0 x hx).2
  simp only [Nat.sub_zero] at this
  exact mem_path t x.1 (h.just _ _ (nod_of this))
theorem Holds.items {σ : List (Option Nd)} {root : Int} (h : Holds σ root t) : ∀ k ∈ t.ids, k ∈ (items 0 σ).map (fun x => (x.1 : Int)) := by
  intro k hk
  obtain ⟨n, hn⟩ := h.ex hk
  obtain ⟨i, rfl, hi⟩ := nod_some hn
  rw [List.mem_map]
  have := items_mem σ 0 i n hi
  simp only [Nat.zero_add] at this
  exact ⟨_, this, rfl⟩

attribute [local go_sem] Oper.semAt_some

def HgtR (t : T) (nb : Nat) : List (Nat × Nd) → World → Prop := fun pre W => W.heap[nb]? = some (.cells #[.int .i64 (maxD t (pre.map (fun x => (x.1 : Int))))] 3 (0, 0))

set_option maxHeartbeats 2000000 in
theorem heightZ (h : TS w tb ab lv fv room N free t) : Calls Try.prog 21 #[.pointer (some ⟨tb, 0, none⟩)] w fun e w' => e = .returned (.int .i64 t.height) ∧ Mod (fun _ => False) w w' := by
  obtain ⟨w0, hw0⟩ : ∃ w0, (w.alloc (.cells #[.pointer (some ⟨tb, 0, none⟩)] 23)).alloc (.cells #[.int .i64 0] 3) = w0 := ⟨_, rfl⟩
  obtain ⟨w1, hw1⟩ : ∃ w1, w0.setCell ⟨w.heap.size + 1, 0, none⟩ (.int .i64 0) = w1 := ⟨_, rfl⟩
  have z1 : w0.heap[w.heap.size]? = some (.cells #[.pointer (some ⟨tb, 0, none⟩)] 23 (0, 0)) := by rw [← hw0]; exact alloc2_0 _ _ _
  have z2 : w0.heap[w.heap.size + 1]? = some (.cells #[.int .i64 0] 3 (0, 0)) := by rw [← hw0]; exact alloc2_1 _ _ _
  have a1 : w1.heap[w.heap.size]? = some (.cells #[.pointer (some ⟨tb, 0, none⟩)] 23 (0, 0)) := by rw [← hw1, heap_set_ne (by simp)]; exact z1
  have a2 : w1.heap[w.heap.size + 1]? = some (.cells #[.int .i64 0] 3 (0, 0)) := by rw [← hw1]; exact setL_whole (cs := [.int .i64 0]) (us := [.int .i64 0]) z2 rfl
  have M1 : Mod (fun _ => False) w w1 := by rw [← hw1, ← hw0]; exact (((Mod.refl _ _).alloc _).alloc _).setCell (.inr (by simp)) _
  have hs1 : w1.heap.size = w.heap.size + 2 := by rw [← hw1, ← hw0]; simp
  have hlt := fun k hk => h.lt (k := k) hk
  replace hlt := hid hlt
  replace h := h.mod0 M1
  have hrt := h.root.2.1
  obtain ⟨d1, e1⟩ := blkc a1
  obtain ⟨y2, f2⟩ := blkc z2
  clear z1
  replace hs1 := hid hs1
  refine calls_of_wp_marks Try.func21 rfl ?_
  simp only [Try.ntmps21, List.size_toArray, List.length_cons, List.length_nil, Nat.reduceAdd, Nat.reduceSub, Array.replicate_succ, Array.replicate_zero, List.push_toArray, List.append_toArray, List.nil_append, List.cons_append]
  go_wp2_with fail
  clear hw0 hw1 z2 y2 f2
  refine (eachN _ _).mono ?_
  rintro e w2 ⟨rfl, hw2⟩
  have M2 : Mod (fun _ => False) w1 w2 := by rw [hw2]; exact (Mod.refl _ _).alloc _
  have hs2 : w2.heap.size = w.heap.size + 3 := by rw [hw2]; simp [hs1.out]
  have hcl : w2.heap[w.heap.size + 2]? = some (.cells #[.pointer (some ⟨ab, 0, none⟩)] 69 (0, 0)) := by rw [hw2, ← hs1.out]; exact alloc_0 _ _
  have b1 := M2.heap a1 fun h => h
  have b2 := M2.heap a2 fun h => h
  have h2 := h.mod0 M2
  have M := M1.trans' M2
  rw [hs1.out]
  clear hw2 a1 a2 d1 e1 hrt h M1 M2
  have hTF : ∀ j, TF tb ab lv fv j → j < w.heap.size := hlt.out
  obtain ⟨root, σ, m, hh, hN⟩ := h2
  go_wp2_with fail
  refine wp_range' (gf := 73) (lb := #[.pointer (some ⟨w.heap.size + 2, 0, none⟩)]) rfl (enters_of Try.func73 (by kernel_rfl) rfl) (eachN_iter m.a hcl) (Mod.refl _ _) (fun _ => rfl)
    (fun j => j = w.heap.size + 1) (fun j hj => by omega) (fun j hj h => by rcases hj with hj | hj; omega; have := hTF j (.inr hj); omega) (fun j hj => by rcases hj with rfl | hj; omega; have := hTF j (.inr hj); omega)
    (RngI w2 (fun j => j = w.heap.size + 1) (HgtR t (w.heap.size + 1))) (fun c pre G W => False)
    (RngI.stab (fun pre W W' hr hk => (hk _ rfl).trans hr) (fun j hj => by omega)) (fun c s G W W' T h m t => h.elim) (RngI.start b2) ?body ?done ?stop
  case stop => exact fun c pre G W _ h => h.elim
  case body =>
    apply Exists.intro
    constructor
    · intro yl x W K hK
      gi_wp2_with fail
      simp [encNV]
      exact hK
    · intro yl pre x rest G W hx hI hg
      have hmem : x ∈ items 0 σ := by rw [hx]; simp
      obtain ⟨c, b, s, l, r, ht⟩ := hh.item hmem
      have hdep : dep t x.1 = c.length + 1 := by have := hh.nodup; rw [ht] at this ⊢; exact dep_at this
      have hT : TS w2 tb ab lv fv room N free t := ⟨root, σ, m, hh, hN⟩
      have hTW : TS W tb ab lv fv room N free t := hT.mod hI.2.1 fun k hk e => by have := hTF k hk; omega
      rw [ht] at hTW
      have P := deepZ hTW
      rw [← hdep] at P
      have n1 := hI.2.1.heap b1 (by omega)
      have n2 := hI.2.2
      unfold HgtR at n2
      obtain ⟨d1, e1⟩ := blkc n1
      obtain ⟨d2, e2⟩ := blkc n2
      have hS : ∀ j, (fun j => j = w.heap.size + 1) j → j < w2.heap.size := fun j hj => by have : j = w.heap.size + 1 := hj; omega
      replace hI := hid hI
      replace hdep := hid hdep
      replace hs2 := hid hs2
      replace ht := hid ht
      clear hTW hT
      gi_wp2_with fail
      refine ⟨trivial, rfl, (callsIn_wide.2 (P.mono ?_)).inRound yl⟩
      rintro e w3 ⟨rfl, hw⟩
      subst hw
      clear P
      gi_wp2_with fail
      all_goals
        refine RngI.step hI.out hS (Mod.setCell (S := fun j => j = w.heap.size + 1) (p := ⟨w.heap.size + 1, 0, none⟩) (Mod.refl _ _) (.inl rfl) _) ?_
        unfold HgtR
        have hm : maxD t ((pre ++ [x]).map (fun x => (x.1 : Int))) = max (maxD t (pre.map (fun x => (x.1 : Int)))) (dep t x.1) := by simp [maxD_snoc]
        rw [hm]
        first
          | rw [Nat.max_eq_right (by omega)]
          | rw [Nat.max_eq_left (by omega)]
        exact setL_whole (cs := [_]) (us := [_]) n2 rfl
  case done =>
    intro G W hI hg hk
    obtain ⟨d1, e1⟩ := blkc hI.2.2
    have hfin : maxD t ((items 0 σ).map (fun x => (x.1 : Int))) = t.height := maxD_all t hh.nodup _ hh.items
    rw [hfin] at d1
    replace hfin := hid hfin
    go_wp2_with fail
    refine retM1 (D := w2.heap.size) hk rfl (results_tmp rfl _ _ _) ⟨rfl, ?_⟩
    exact (M.trans hI.2.1 fun j h => .inr (by omega)).trans (mod_put1 _ _ _) fun j h => .inr (by omega)
end
end Go.Proofs.Bo
