import Derived.Test.YtniemignjlanaaaRT
set_option linter.unusedVariables false
namespace Go.Proofs.Bo

/-- A store with a root holds just this tree. -/
structure Holds (σ : List (Option Nd)) (root : Int) (t : T) : Prop where
  root : root = t.ix
  rep : Rep (nod σ) (-1) t
  nodup : t.ids.Nodup
  just : ∀ k n, nod σ k = some n → k ∈ t.ids


theorem Rep.pos {σ : List (Option Nd)} : ∀ {t : T} {p : Int}, Rep (nod σ) p t → ∀ k, k ∈ t.ids → 0 ≤ k ∧ ∃ n, nod σ k = some n
  | .N i b s l r, p, h, k, hk => by
    simp only [T.ids, List.mem_cons, List.mem_append] at hk
    rcases hk with rfl | hk | hk
    · obtain ⟨j, e, _⟩ := nod_some h.1
      exact ⟨by omega, _, h.1⟩
    · exact h.2.1.pos k hk
    · exact h.2.2.pos k hk
theorem Holds.pos {σ : List (Option Nd)} {root : Int} {t : T} (h : Holds σ root t) {k : Int} (hk : k ∈ t.ids) : 0 ≤ k := (h.rep.pos k hk).1
theorem Holds.ex {σ : List (Option Nd)} {root : Int} {t : T} (h : Holds σ root t) {k : Int} (hk : k ∈ t.ids) : ∃ n, nod σ k = some n := (h.rep.pos k hk).2
theorem ix_mem {t : T} (h : t ≠ .E) : t.ix ∈ t.ids := by cases t with | E => exact absurd rfl h | N => simp [T.ix, T.ids]
theorem Holds.is1 {σ : List (Option Nd)} {root : Int} {t : T} (h : Holds σ root t) {u : T} (hs : ∀ k, k ∈ u.ids → k ∈ t.ids) : Is1 σ u.ix := by
  by_cases e : u = .E
  · subst e; exact .inl rfl
  · exact .inr (h.ex (hs _ (ix_mem e)))
theorem ix_neg {t : T} {k : Int} (hk : k ∉ t.ids) (h0 : 0 ≤ k) : t.ix ≠ k := by
  cases t with
  | E => simp [T.ix]; omega
  | N i b s l r => simp [T.ix]; rintro rfl; exact hk (by simp [T.ids])
theorem cix_mem {c : Ctx} : cix c = -1 ∧ c = [] ∨ cix c ∈ cids c := by cases c <;> simp [cix, cids]
theorem Holds.is1c {σ : List (Option Nd)} {root : Int} {t : T} (h : Holds σ root t) {c : Ctx} (hs : ∀ k, k ∈ cids c → k ∈ t.ids) : Is1 σ (cix c) := by
  rcases cix_mem (c := c) with ⟨e, _⟩ | e
  · exact .inl e
  · exact .inr (h.ex (hs _ e))

theorem root_plug (c : Ctx) (t : T) : (plug c t).ix = if cix c = -1 ∧ c = [] then t.ix else (plug c t).ix := by
  cases c <;> simp [plug, cix]
/-- The root is above the hole, whatever hangs there. -/
theorem plug_ix : ∀ (c : Ctx) (hc : c ≠ []) (t u : T), (plug c t).ix = (plug c u).ix
  | [], h, _, _ => absurd rfl h
  | [a], _, t, u => by simp [plug, ix_mk]
  | a :: b :: c, _, t, u => by
    rw [plug, plug]; exact plug_ix (b :: c) (by simp) _ _
theorem hangR_plug {σ : List (Option Nd)} {root : Int} {c : Ctx} {t : T} (h : Holds σ root (plug c t)) (u : T) : hangR root u.ix (cix c) = (plug c u).ix := by
  unfold hangR
  rcases cix_mem (c := c) with ⟨e, rfl⟩ | e
  · simp [cix, plug]
  · have : cix c ≠ -1 := by have := h.pos ((mem_plug c t _).2 (.inl e)); omega
    rw [if_neg this, h.root]
    exact plug_ix c (by rintro rfl; simp [cids] at e) _ _

/-- A changed hole's parent's child. -/
theorem hangK_hole {c : Ctx} {a : Fr} {c' : Ctx} {σ : List (Option Nd)} {i u : Int} (hc : c = a :: c') (H : RepC (nod σ) c i) (hi : i ∉ cids c) (h0 : 0 ≤ i) (n : Nd) (hn : nod σ a.i = some n) :
    hangK i u n = n.setKid (di a.d) u := by
  subst hc
  have := H.1
  rw [hn] at this
  injection this with this
  subst this
  have hne : a.o.ix ≠ i := ix_neg (by simp [cids] at hi; exact hi.2.1) h0
  cases hd : a.d <;> simp [hangK, hne, di]

theorem rot_just {σ : List (Option Nd)} {a b c e f : Int} {k : Int} {n : Nd} (h : nod (rotS σ a b c e f) k = some n) : ∃ m, nod σ k = some m := by
  unfold rotS hangS at h
  simp only [nod_modN] at h
  cases hk : nod σ k with
  | none => simp [hk] at h
  | some m => exact ⟨m, rfl⟩
end Go.Proofs.Bo
