import Derived.Test.YtniemignjlanaaaNd
set_option linter.unusedVariables false
namespace Go.Proofs.Bo
/-- The node in a place, if there is one. -/
def nod (σ : List (Option Nd)) (i : Int) : Option Nd := if 0 ≤ i then (σ[i.toNat]?).join else none
/-- A place's node is another one now. -/
def pnod (σ : List (Option Nd)) (i : Int) (n : Nd) : List (Option Nd) := σ.set i.toNat (some n)
theorem nod_some {σ : List (Option Nd)} {i : Int} {n : Nd} (h : nod σ i = some n) : ∃ k : Nat, i = k ∧ σ[k]? = some (some n) := by
  unfold nod at h
  split at h
  · refine ⟨i.toNat, by omega, ?_⟩
    cases hl : σ[i.toNat]? with
    | none => rw [hl] at h; cases h
    | some p => rw [hl] at h; cases p with | none => cases h | some u => simp at h; rw [h]
  · cases h
theorem nod_of {σ : List (Option Nd)} {k : Nat} {n : Nd} (h : σ[k]? = some (some n)) : nod σ k = some n := by
  unfold nod; rw [if_pos (by omega)]; simp [h]
theorem nod_neg (σ : List (Option Nd)) : nod σ (-1) = none := rfl
theorem nod_none {σ : List (Option Nd)} {i : Int} (h : nod σ i = none) : ∀ (k : Nat) (v : Nd), i = k → σ[k]? ≠ some (some v) := by
  rintro k v rfl hk
  rw [nod_of hk] at h; cases h
theorem nod_pnod {σ : List (Option Nd)} {k : Int} {n n' : Nd} (h : nod σ k = some n) (i : Int) : nod (pnod σ k n') i = if i = k then some n' else nod σ i := by
  obtain ⟨k, rfl, hk⟩ := nod_some h
  have hl := (List.getElem?_eq_some_iff.1 hk).1
  unfold nod pnod
  rw [Int.toNat_natCast]
  by_cases h0 : 0 ≤ i
  · obtain ⟨j, rfl⟩ := Int.eq_ofNat_of_zero_le h0
    rw [if_pos h0, Int.toNat_natCast]
    by_cases e : j = k
    · subst e; rw [if_pos rfl, List.getElem?_set_self hl]; rfl
    · rw [if_neg (by omega), List.getElem?_set_ne (Ne.symm e), if_pos h0]; try simp
  · rw [if_neg h0, if_neg (by omega), if_neg h0]
theorem pnod_length (σ : List (Option Nd)) (k : Int) (n : Nd) : (pnod σ k n).length = σ.length := by simp [pnod]
/-- A child's place: 0 is the left one. -/
def Nd.kid (n : Nd) (d : Int) : Int := if d = 0 then n.k0 else n.k1
def Nd.setKid (n : Nd) (d : Int) (i : Int) : Nd := if d = 0 then { n with k0 := i } else { n with k1 := i }

/-- A place's node, if there is one, is turned. -/
def modN (σ : List (Option Nd)) (i : Int) (f : Nd → Nd) : List (Option Nd) := match nod σ i with
  | none => σ
  | some n => pnod σ i (f n)
theorem modN_neg (σ : List (Option Nd)) (f : Nd → Nd) : modN σ (-1) f = σ := rfl
theorem modN_some {σ : List (Option Nd)} {i : Int} {n : Nd} (h : nod σ i = some n) (f : Nd → Nd) : modN σ i f = pnod σ i (f n) := by unfold modN; rw [h]
theorem nod_modN (σ : List (Option Nd)) (k : Int) (f : Nd → Nd) (i : Int) : nod (modN σ k f) i = if i = k then (nod σ i).map f else nod σ i := by
  unfold modN
  cases h : nod σ k with
  | none => by_cases e : i = k
            · subst e; simp [h]
            · simp [e]
  | some n => simp only []
              rw [nod_pnod h]
              by_cases e : i = k
              · subst e; simp [h]
              · simp [e]
theorem modN_length (σ : List (Option Nd)) (k : Int) (f : Nd → Nd) : (modN σ k f).length = σ.length := by
  unfold modN; split
  · rfl
  · exact pnod_length _ _ _
/-- A place is none, or has a node. -/
def Is1 (σ : List (Option Nd)) (i : Int) : Prop := i = -1 ∨ ∃ n, nod σ i = some n
theorem Is1.modN {σ : List (Option Nd)} {i : Int} (h : Is1 σ i) (k : Int) (f : Nd → Nd) : Is1 (modN σ k f) i := by
  rcases h with h | ⟨n, h⟩
  · exact .inl h
  · refine .inr ?_
    rw [nod_modN]
    split
    · exact ⟨f n, by rw [h]; rfl⟩
    · exact ⟨n, h⟩
def hangK (old i : Int) (np : Nd) : Nd := np.setKid (if np.k0 = old then 0 else 1) i
def parN (p : Int) (n : Nd) : Nd := { n with p := p }
def redN (b : Bool) (n : Nd) : Nd := { n with red := b }
/-- The root then. -/
def hangR (root i parent : Int) : Int := if parent = -1 then i else root
def hangS (σ : List (Option Nd)) (i parent old : Int) : List (Option Nd) := modN (modN σ parent (hangK old i)) i (parN parent)
/-- The store after 'rotate'. -/
def rotS (σ : List (Option Nd)) (i up inner pp d : Int) : List (Option Nd) :=
  modN (modN (modN (modN (hangS σ up pp i) up (fun n => n.setKid d i)) i (parN up)) i (fun n => n.setKid (1 - d) inner)) inner (parN i)
end Go.Proofs.Bo
