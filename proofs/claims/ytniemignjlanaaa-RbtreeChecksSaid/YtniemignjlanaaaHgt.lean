import Derived.Test.YtniemignjlanaaaOrd
set_option linter.unusedVariables false
namespace Go.Proofs.Bo
/-! How deep a node lies; black nodes above. -/
def T.height : T → Nat | .E => 0 | .N _ _ _ l r => max l.height r.height + 1
def dep : T → Int → Nat
  | .E, _ => 0
  | .N i _ _ l r, k => if k = i then 1 else if k ∈ l.ids then dep l k + 1 else dep r k + 1
theorem dep_mk (d : Bool) (i : Int) (b : Bool) (s : Sg) (x y : T) (k : Int) (hk : k ∈ x.ids) (hn : (T.mk d i b s x y).ids.Nodup) : dep (T.mk d i b s x y) k = dep x k + 1 := by
  have hp := ids_mk d i b s x y
  rw [hp.nodup_iff] at hn
  simp only [List.nodup_cons, List.mem_append, not_or, List.nodup_append] at hn
  obtain ⟨⟨h1, h2⟩, h3, h4, h5⟩ := hn
  have hki : k ≠ i := by rintro rfl; exact h1 hk
  have hky : k ∉ y.ids := fun e => h5 k hk k e rfl
  cases d <;> simp [T.mk, dep, hki, hk, hky]
theorem dep_plug : ∀ (c : Ctx) (t : T) (k : Int), k ∈ t.ids → (plug c t).ids.Nodup → dep (plug c t) k = c.length + dep t k
  | [], t, k, _, _ => by simp [plug]
  | a :: c, t, k, hk, hn => by
    rw [plug] at hn ⊢
    rw [dep_plug c _ k ((ids_mk ..).mem_iff.2 (by simp [hk])) hn]
    rw [nodup_plug] at hn
    rw [dep_mk _ _ _ _ _ _ _ hk hn.2.1]
    simp only [List.length_cons]; omega
theorem dep_at {c : Ctx} {i : Int} {b : Bool} {s : Sg} {l r : T} (hn : (plug c (.N i b s l r)).ids.Nodup) : dep (plug c (.N i b s l r)) i = c.length + 1 := by
  rw [dep_plug c _ i (by simp [T.ids]) hn]; simp [dep]
theorem dep_le : ∀ (t : T) (k : Int), dep t k ≤ t.height
  | .E, _ => Nat.le_refl _
  | .N i b s l r, k => by
    have h1 := dep_le l k
    have h2 := dep_le r k
    simp only [dep, T.height]
    split
    · omega
    · split <;> omega
theorem dep_max : ∀ (t : T), t.ids.Nodup → t ≠ .E → ∃ k, k ∈ t.ids ∧ dep t k = t.height
  | .E, _, h => absurd rfl h
  | .N i b s l r, hn, _ => by
    simp only [T.ids, List.nodup_cons, List.mem_append, not_or, List.nodup_append] at hn
    obtain ⟨⟨h1, h2⟩, h3, h4, h5⟩ := hn
    by_cases hl : l = .E
    · by_cases hr : r = .E
      · subst hl; subst hr; exact ⟨i, by simp [T.ids], by simp [dep, T.height]⟩
      · obtain ⟨k, hk, e⟩ := dep_max r h4 hr
        subst hl
        refine ⟨k, by simp [T.ids, hk], ?_⟩
        have : k ≠ i := by rintro rfl; exact h2 hk
        simp [dep, this, T.ids, T.height, e]
    · obtain ⟨k1, hk1, e1⟩ := dep_max l h3 hl
      by_cases hr : r.height ≤ l.height
      · refine ⟨k1, by simp [T.ids, hk1], ?_⟩
        have : k1 ≠ i := by rintro rfl; exact h1 hk1
        simp only [dep, this, if_false, hk1, if_true, T.height, e1]; omega
      · have hrE : r ≠ .E := by rintro rfl; simp [T.height] at hr
        obtain ⟨k, hk, e⟩ := dep_max r h4 hrE
        refine ⟨k, by simp [T.ids, hk], ?_⟩
        have h6 : k ≠ i := by rintro rfl; exact h2 hk
        have h7 : k ∉ l.ids := fun e => h5 k e k hk rfl
        simp only [dep, h6, if_false, h7, T.height, e]; omega
/-- The greatest depth of some. -/
def maxD (t : T) (ks : List Int) : Nat := ks.foldl (fun m k => max m (dep t k)) 0
theorem maxD_snoc (t : T) (ks : List Int) (k : Int) : maxD t (ks ++ [k]) = max (maxD t ks) (dep t k) := by simp [maxD]
theorem maxD_le (t : T) : ∀ (ks : List Int) (m : Nat), m ≤ t.height → ks.foldl (fun m k => max m (dep t k)) m ≤ t.height
  | [], m, h => h
  | k :: ks, m, h => maxD_le t ks _ (by have := dep_le t k; show max m (dep t k) ≤ t.height; omega)
theorem maxD_ge (t : T) : ∀ (ks : List Int) (m : Nat), m ≤ ks.foldl (fun m k => max m (dep t k)) m ∧ ∀ k ∈ ks, dep t k ≤ ks.foldl (fun m k => max m (dep t k)) m
  | [], m => ⟨Nat.le_refl _, by simp⟩
  | k :: ks, m => by
    obtain ⟨h1, h2⟩ := maxD_ge t ks (max m (dep t k))
    refine ⟨by simp only [List.foldl_cons]; omega, ?_⟩
    intro j hj
    rcases List.mem_cons.1 hj with rfl | hj
    · simp only [List.foldl_cons]; omega
    · exact h2 j hj
theorem maxD_all (t : T) (hn : t.ids.Nodup) (ks : List Int) (hk : ∀ k ∈ t.ids, k ∈ ks) : maxD t ks = t.height := by
  refine Nat.le_antisymm (maxD_le t ks 0 (Nat.zero_le _)) ?_
  by_cases ht : t = .E
  · subst ht; exact Nat.zero_le _
  · obtain ⟨k, h1, h2⟩ := dep_max t hn ht
    rw [← h2]
    exact (maxD_ge t ks 0).2 k (hk k h1)
theorem mem_path : ∀ (t : T) (k : Int), k ∈ t.ids → ∃ c b s l r, t = plug c (.N k b s l r)
  | .E, k, h => by simp [T.ids] at h
  | .N i b s l r, k, h => by
    simp only [T.ids, List.mem_cons, List.mem_append] at h
    rcases h with rfl | h | h
    · exact ⟨[], b, s, l, r, rfl⟩
    · obtain ⟨c, b', s', l', r', rfl⟩ := mem_path l k h
      refine ⟨c ++ [⟨false, i, b, s, r⟩], b', s', l', r', ?_⟩
      have : ∀ (F : Ctx) (c : Ctx) (x : T), plug (F ++ c) x = plug c (plug F x) := by
        intro F; induction F with
        | nil => intro c x; rfl
        | cons a F ih => intro c x; simp only [List.cons_append, plug]; exact ih c _
      rw [this]; rfl
    · obtain ⟨c, b', s', l', r', rfl⟩ := mem_path r k h
      refine ⟨c ++ [⟨true, i, b, s, l⟩], b', s', l', r', ?_⟩
      have : ∀ (F : Ctx) (c : Ctx) (x : T), plug (F ++ c) x = plug c (plug F x) := by
        intro F; induction F with
        | nil => intro c x; rfl
        | cons a F ih => intro c x; simp only [List.cons_append, plug]; exact ih c _
      rw [this]; rfl
/-- Black nodes on the way to a place. -/
def cblk : Ctx → Nat | [] => 0 | a :: c => (if a.red then 0 else 1) + cblk c
def nblk (b : Bool) : Nat := if b then 0 else 1
theorem rbt_split : ∀ (c : Ctx) (t : T) (n : Nat), RBT (plug c t) n → ∃ m, RBT t m ∧ m + cblk c = n
  | [], t, n, h => ⟨n, h, rfl⟩
  | a :: c, t, n, h => by
    obtain ⟨m, h1, h2⟩ := rbt_split c _ n h
    rw [rbt_mk] at h1
    simp only [cblk]
    cases ha : a.red
    · rw [ha] at h1
      simp only [Bool.false_eq_true, if_false] at h1 ⊢
      obtain ⟨k, rfl, h3, _⟩ := h1
      exact ⟨k, h3, by omega⟩
    · rw [ha] at h1
      simp only [if_true] at h1 ⊢
      exact ⟨m, h1.2.2.1, by omega⟩
/-- A node that lacks a child: as many black ones as with any other such one. -/
theorem rbt_leaf {c : Ctx} {i : Int} {b : Bool} {s : Sg} {l r : T} {n : Nat} (h : RBT (plug c (.N i b s l r)) n) (hl : l = .E ∨ r = .E) : cblk c + nblk b = n := by
  obtain ⟨m, h1, h2⟩ := rbt_split c _ n h
  cases b
  · simp only [RBT, Bool.false_eq_true, if_false] at h1
    obtain ⟨k, rfl, h3, h4⟩ := h1
    have : k = 0 := by rcases hl with rfl | rfl <;> assumption
    simp only [nblk, Bool.false_eq_true, if_false]; omega
  · simp only [RBT, if_true] at h1
    have : m = 0 := by rcases hl with rfl | rfl; exact h1.2.2.1; exact h1.2.2.2
    simp only [nblk, if_true]; omega
/-- A red-black tree is not too high. -/
theorem rbt_height : ∀ (t : T) (n : Nat), RBT t n → t.height ≤ 2 * n + (if t.red then 1 else 0) ∧ 2 ^ n ≤ t.size + 1
  | .E, n, h => by simp only [RBT] at h; subst h; simp [T.height, T.size]
  | .N i b s l r, n, h => by
    cases b
    · simp only [RBT, Bool.false_eq_true, if_false] at h
      obtain ⟨m, rfl, h1, h2⟩ := h
      obtain ⟨a1, a2⟩ := rbt_height l m h1
      obtain ⟨b1, b2⟩ := rbt_height r m h2
      simp only [T.height, T.size, T.red, Bool.false_eq_true, if_false]
      have : (if l.red then 1 else 0) ≤ 1 := by split <;> omega
      have : (if r.red then 1 else 0) ≤ 1 := by split <;> omega
      refine ⟨by omega, by rw [Nat.pow_succ]; omega⟩
    · simp only [RBT, if_true] at h
      obtain ⟨h1, h2, h3, h4⟩ := h
      obtain ⟨a1, a2⟩ := rbt_height l n h3
      obtain ⟨b1, b2⟩ := rbt_height r n h4
      rw [h1] at a1
      rw [h2] at b1
      simp only [T.height, T.size, T.red, if_true, Bool.false_eq_true, if_false] at *
      omega
theorem fine_kids {c : Ctx} {i : Int} {b : Bool} {s : Sg} {l r : T} (h : Fine (plug c (.N i b s l r))) (hb : b = true) : l.red = false ∧ r.red = false := by
  obtain ⟨n, _, h2, _⟩ := fine_split c _ h
  subst hb
  simp only [RBT, if_true] at h2
  exact ⟨h2.1, h2.2.1⟩
end Go.Proofs.Bo
