import Derived.Test.YtniemignjlanaaaOrd
import Derived.Test.YtniemignjlanaaaBo2
set_option linter.unusedVariables false
namespace Go.Proofs.Bo

/-! How many nodes; rows with a segment put, taken. -/
theorem nod_isSome {σ : List (Option Nd)} {k : Int} : (∃ n, nod σ k = some n) ↔ ∃ i : Nat, k = i ∧ i < σ.length ∧ σ[i]? ≠ some none := by
  constructor
  · rintro ⟨n, h⟩
    obtain ⟨i, e, hi⟩ := nod_some h
    refine ⟨i, e, (List.getElem?_eq_some_iff.1 hi).1, ?_⟩
    rw [hi]; simp
  · rintro ⟨i, rfl, hl, hn⟩
    cases hp : σ[i]? with
    | none => rw [List.getElem?_eq_none_iff] at hp; omega
    | some p =>
      cases p with
      | none => exact absurd hp hn
      | some n => exact ⟨n, nod_of hp⟩

theorem Holds.count {σ : List (Option Nd)} {root room : Int} {free : List Int} {t : T} (h : Holds σ root t) (ha : ArInv room σ free) : (t.size : Int) = (σ.length : Int) - free.length := by
  have hp : (t.ids ++ free).Perm ((List.range σ.length).map (fun i : Nat => (i : Int))) := by
    rw [List.perm_ext_iff_of_nodup]
    · intro k
      rw [List.mem_append, List.mem_map, ha.mem]
      constructor
      · rintro (hk | ⟨i, rfl, hi⟩)
        · obtain ⟨i, rfl, hl, _⟩ := nod_isSome.1 (h.ex hk)
          exact ⟨i, List.mem_range.2 hl, rfl⟩
        · exact ⟨i, List.mem_range.2 (List.getElem?_eq_some_iff.1 hi).1, rfl⟩
      · rintro ⟨i, hi, rfl⟩
        rw [List.mem_range] at hi
        by_cases hn : σ[i]? = some none
        · exact .inr ⟨i, rfl, hn⟩
        · obtain ⟨n, hx⟩ := nod_isSome.2 ⟨i, rfl, hi, hn⟩
          exact .inl (h.just _ n hx)
    · rw [List.nodup_append]
      refine ⟨h.nodup, ha.nodup, ?_⟩
      rintro a h1 b h2 rfl
      obtain ⟨i, e, hl, hn⟩ := nod_isSome.1 (h.ex h1)
      obtain ⟨j, e2, hj⟩ := (ha.mem _).1 h2
      obtain rfl : i = j := by omega
      exact hn hj
    · rw [List.nodup_iff_pairwise_ne, List.pairwise_map]
      exact List.Pairwise.imp (fun h e => h (by omega)) List.nodup_range
  have := hp.length_eq
  rw [List.length_append, List.length_map, List.length_range, size_ids] at this
  omega

theorem nod_app {σ : List (Option Nd)} (n : Nd) (j : Int) : nod (σ ++ [some n]) j = if j = (σ.length : Int) then some n else nod σ j := by
  unfold nod
  by_cases h0 : 0 ≤ j
  · obtain ⟨k, rfl⟩ := Int.eq_ofNat_of_zero_le h0
    simp only [h0, if_true, Int.toNat_natCast]
    by_cases e : k = σ.length
    · subst e; simp
    · rw [if_neg (by omega)]
      by_cases hl : k < σ.length
      · rw [List.getElem?_append_left hl]
      · rw [List.getElem?_eq_none (by simp; omega), List.getElem?_eq_none (by omega)]
  · rw [if_neg h0, if_neg (by omega), if_neg h0]
theorem nod_set {σ : List (Option Nd)} {k : Nat} (hk : k < σ.length) (p : Option Nd) (j : Int) : nod (σ.set k p) j = if j = (k : Int) then p else nod σ j := by
  unfold nod
  by_cases h0 : 0 ≤ j
  · obtain ⟨i, rfl⟩ := Int.eq_ofNat_of_zero_le h0
    simp only [h0, if_true, Int.toNat_natCast]
    by_cases e : i = k
    · subst e; rw [List.getElem?_set_self hk]; simp
    · rw [if_neg (by omega), List.getElem?_set_ne (Ne.symm e)]
  · rw [if_neg h0, if_neg (by omega), if_neg h0]

theorem modN_modN (σ : List (Option Nd)) (k : Int) (f g : Nd → Nd) : modN (modN σ k f) k g = modN σ k (fun n => g (f n)) := by
  cases h : nod σ k with
  | none => unfold modN; simp [h]
  | some n =>
    have h2 : nod (pnod σ k (f n)) k = some (f n) := by rw [nod_pnod h, if_pos rfl]
    rw [modN_some h, modN_some h, modN_some h2]
    unfold pnod; rw [List.set_set]
/-- A row in which a segment was put, or from which a key was taken. -/
def insL (s : Sg) (l : List Sg) : List Sg := l.filter (fun x => ky x < ky s) ++ s :: l.filter (fun x => ky s < ky x)
def delL (k : Int) (l : List Sg) : List Sg := l.filter (fun x => ky x ≠ k)
def hasK (k : Int) (l : List Sg) : Bool := l.any (fun x => ky x = k)

theorem filt_lo {a b : List Sg} {k : Int} (ha : ∀ x ∈ a, ky x < k) (hb : ∀ x ∈ b, k ≤ ky x) : (a ++ b).filter (fun x => ky x < k) = a := by
  rw [List.filter_append, List.filter_eq_self.2 (by simpa using ha), List.filter_eq_nil_iff.2 (by intro x hx; have := hb x hx; simp; omega), List.append_nil]
theorem filt_hi {a b : List Sg} {k : Int} (ha : ∀ x ∈ a, ky x ≤ k) (hb : ∀ x ∈ b, k < ky x) : (a ++ b).filter (fun x => k < ky x) = b := by
  rw [List.filter_append, List.filter_eq_nil_iff.2 (by intro x hx; have := ha x hx; simp; omega), List.filter_eq_self.2 (by simpa using hb), List.nil_append]
theorem ins_new {a b : List Sg} {s : Sg} (ha : ∀ x ∈ a, ky x < ky s) (hb : ∀ x ∈ b, ky s < ky x) : insL s (a ++ b) = a ++ s :: b := by
  unfold insL
  rw [filt_lo ha (fun x h => Int.le_of_lt (hb x h)), filt_hi (fun x h => Int.le_of_lt (ha x h)) hb]
theorem ins_old {a b : List Sg} {s y : Sg} (hy : ky y = ky s) (ha : ∀ x ∈ a, ky x < ky s) (hb : ∀ x ∈ b, ky s < ky x) : insL s (a ++ y :: b) = a ++ s :: b := by
  unfold insL
  rw [filt_lo ha (by intro x hx; rcases List.mem_cons.1 hx with rfl | hx; omega; exact Int.le_of_lt (hb x hx))]
  have : a ++ y :: b = (a ++ [y]) ++ b := by simp
  rw [this, filt_hi (by intro x hx; rcases List.mem_append.1 hx with hx | hx; exact Int.le_of_lt (ha x hx); simp at hx; subst hx; omega) hb]
theorem del_old {a b : List Sg} {y : Sg} {k : Int} (hy : ky y = k) (ha : ∀ x ∈ a, ky x < k) (hb : ∀ x ∈ b, k < ky x) : delL k (a ++ y :: b) = a ++ b := by
  unfold delL
  rw [List.filter_append, List.filter_cons, if_neg (by simpa using hy), List.filter_eq_self.2 (by intro x hx; have := ha x hx; simp; omega), List.filter_eq_self.2 (by intro x hx; have := hb x hx; simp; omega)]
theorem has_old {a b : List Sg} {y : Sg} {k : Int} (hy : ky y = k) : hasK k (a ++ y :: b) = true := by simp [hasK, hy]
theorem has_new {a b : List Sg} {k : Int} (ha : ∀ x ∈ a, ky x < k) (hb : ∀ x ∈ b, k < ky x) : hasK k (a ++ b) = false := by
  rw [hasK, List.any_eq_false]
  intro x hx
  rcases List.mem_append.1 hx with hx | hx
  · have := ha x hx; simp; omega
  · have := hb x hx; simp; omega
theorem Row.mid {a b : List Sg} {s : Sg} (h : Row (a ++ b)) (hs : KeyOK s) (ha : ∀ x ∈ a, ky x < ky s) (hb : ∀ x ∈ b, ky s < ky x) : Row (a ++ s :: b) := by
  obtain ⟨h1, h2⟩ := h
  unfold Srt at h1
  rw [List.pairwise_append] at h1
  refine ⟨?_, ?_⟩
  · unfold Srt
    rw [List.pairwise_append]
    refine ⟨h1.1, List.pairwise_cons.2 ⟨hb, h1.2.1⟩, ?_⟩
    intro x hx y hy
    rcases List.mem_cons.1 hy with rfl | hy
    · exact ha x hx
    · exact h1.2.2 x hx y hy
  · intro x hx
    rcases List.mem_append.1 hx with hx | hx
    · exact h2 x (by simp [hx])
    · rcases List.mem_cons.1 hx with rfl | hx
      · exact hs
      · exact h2 x (by simp [hx])
theorem Row.out {a b : List Sg} {s : Sg} (h : Row (a ++ s :: b)) : Row (a ++ b) := by
  obtain ⟨h1, h2⟩ := h
  refine ⟨?_, fun x hx => h2 x (by rcases List.mem_append.1 hx with hx | hx <;> simp [hx])⟩
  unfold Srt at *
  exact h1.sublist (List.Sublist.append_left (List.sublist_cons_self _ _) _)
end Go.Proofs.Bo
