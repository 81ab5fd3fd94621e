import Derived.Test.YtniemignjlanaaaRd
import Derived.ProofKit
import Derived.OpenShut
import Derived.ShutString
import Derived.ChangeOld
import Derived.SizedLaws
import Derived.Deep.Slices
import Derived.Deep.Fields
import Derived.ChangeSlices
set_option linter.unusedVariables false
namespace Go.Proofs.Bo
open Go Go.RowKit Go.ChangeShapes Go.WideShapes Go.ChangeAt Go.Deep

/-- The kind of a cell of a type that is made of numbers and bools alone. -/
inductive Fl where
  | int (k : IntKind)
  | bool

def Fl.Is : Fl → Value → Prop
  | .int k, v => ∃ n, v = .int k n ∧ (Lit.int k n).wf = true
  | .bool, v => ∃ b, v = .bool b

/-- Cells of these kinds. -/
inductive Fit : List Fl → List Value → Prop
  | nil : Fit [] []
  | cons {k : Fl} {v : Value} {ks : List Fl} {vs : List Value} : k.Is v → Fit ks vs → Fit (k :: ks) (v :: vs)

theorem Fit.append {a b : List Fl} {x y : List Value} (h : Fit a x) (k : Fit b y) : Fit (a ++ b) (x ++ y) := by
  induction h with
  | nil => exact k
  | cons h1 _ ih => exact .cons h1 ih
theorem Fit.length {a : List Fl} {x : List Value} (h : Fit a x) : x.length = a.length := by
  induction h with
  | nil => rfl
  | cons _ _ ih => simp [ih]
theorem Fit.cons_inv {k : Fl} {ks : List Fl} {x : List Value} (h : Fit (k :: ks) x) : ∃ v vs, x = v :: vs ∧ k.Is v ∧ Fit ks vs := by
  cases h with | cons h1 h2 => exact ⟨_, _, rfl, h1, h2⟩
theorem Fit.nil_inv {x : List Value} (h : Fit [] x) : x = [] := by cases h; rfl

def flatFs (P : Program) (f : TypeId → Option (List Fl)) : List Field → Nat → Option (List Fl)
  | [], _ => some []
  | fd :: fs, o => if fd.offset = o then
      match f fd.type with
      | some ks => if P.cellsOf fd.type = ks.length then (flatFs P f fs (o + ks.length)).map (ks ++ ·) else none
      | none => none
    else none

/-- A type's cells, if it is made of numbers and bools alone. -/
def flat (P : Program) : Nat → TypeId → Option (List Fl)
  | 0, _ => none
  | n + 1, t => match P.underlying t with
    | some (.int k) => some [.int k]
    | some .bool => some [.bool]
    | some (.struct fs) => (flatFs P (flat P n) fs.toList 0).filter fun ks => P.cellsOf t == ks.length
    | some (.array m e) => match flat P n e with
      | some ks => if P.cellsOf e = ks.length ∧ P.cellsOf t = m * ks.length then some (List.replicate m ks).flatten else none
      | none => none
    | _ => none

section
variable {H : Type} {enc : TypeId × Value → H} {P : Program} {w : World} {base : Nat} {spare : Nat → Bool} {held : Bool}

theorem flatFs_fit {f : TypeId → Option (List Fl)} {cs : List Value} (hf : ∀ t ks cs, f t = some ks → (∃ m x, DataW.trod enc P w base spare held m t cs = some x) → Fit ks cs) :
    ∀ (fs : List Field) (o : Nat) (ks : List Fl), flatFs P f fs o = some ks → (∀ (i : Nat) fd, fs[i]? = some fd → ∃ m x, DataW.trod enc P w base spare held m fd.type ((cs.drop fd.offset).take (P.cellsOf fd.type)) = some x) → o + ks.length ≤ cs.length →
      Fit ks ((cs.drop o).take ks.length)
  | [], o, ks, h, _, _ => by simp [flatFs] at h; subst h; simp; exact .nil
  | fd :: fs, o, ks, h, ht, hl => by
    simp only [flatFs] at h
    split at h
    · rename_i ho
      split at h
      · rename_i k1 hk1
        split at h
        · rename_i hc
          obtain ⟨k2, hk2, rfl⟩ := Option.map_eq_some_iff.1 h
          have h0 := hf _ _ _ hk1 (ht 0 fd rfl)
          rw [hc, ho] at h0
          have h1 := flatFs_fit hf fs (o + k1.length) k2 hk2 (fun i fd' hi => ht (i + 1) fd' (by simpa using hi)) (by simp at hl; omega)
          have := h0.append h1
          rw [List.length_append, List.take_add, List.drop_drop]
          exact this
        · cases h
      · cases h
    · cases h

theorem flat_fit : ∀ (n : Nat) (t : TypeId) (ks : List Fl) (cs : List Value), flat P n t = some ks → (∃ m x, DataW.trod enc P w base spare held m t cs = some x) → Fit ks cs
  | 0, _, _, _, h, _ => by simp [flat] at h
  | n + 1, t, ks, cs, h, ⟨m, x, ht⟩ => by
    simp only [flat] at h
    split at h
    · rename_i k hu
      simp at h; subst h
      obtain ⟨v, rfl, _, hw⟩ := DataW.trod_int hu ht
      exact .cons ⟨v, rfl, hw⟩ .nil
    · rename_i hu
      simp at h; subst h
      obtain ⟨v, rfl, _⟩ := DataW.trod_bool hu ht
      exact .cons ⟨v, rfl⟩ .nil
    · rename_i fs hu
      obtain ⟨h1, h2⟩ := Option.filter_eq_some_iff.1 h
      simp at h2
      obtain ⟨xs, n', _, _, hlen, hxl, hg⟩ := DataW.trod_struct hu ht
      have := flatFs_fit (cs := cs) (fun t ks cs h1 h2 => flat_fit n t ks cs h1 h2) fs.toList 0 ks h1 (fun i fd hi => by
        have hi' : fs[i]? = some fd := by simpa using hi
        have hil : i < xs.length := by rw [hxl]; exact (Array.getElem?_eq_some_iff.1 hi').1
        exact ⟨n', xs[i], by rw [hg i fd hi']; simp [hil]⟩) (by omega)
      rw [List.drop_zero, List.take_of_length_le (by omega)] at this
      exact this
    · rename_i q e hu
      split at h
      · rename_i k1 hk1
        split at h
        · rename_i hc
          simp at h; subst h
          obtain ⟨xs, n', _, _, hlen, hxl, hg⟩ := DataW.trod_array hu ht
          have key : ∀ j, j ≤ q → Fit (List.replicate j k1).flatten (cs.take (j * k1.length)) := by
            intro j
            induction j with
            | zero => intro _; simp; exact .nil
            | succ j ih =>
              intro hj
              have h1 := flat_fit n e k1 _ hk1 ⟨n', xs[j]'(by omega), by rw [hg j (by omega)]; simp [show j < xs.length by omega]⟩
              have h2 := (ih (by omega)).append h1
              rw [hc.1] at h2
              rw [List.replicate_succ', List.flatten_concat, Nat.succ_mul, List.take_add]
              exact h2
          have := key q (Nat.le_refl _)
          rwa [List.take_of_length_le (by rw [hlen, hc.2]; exact Nat.le_refl _)] at this
        · cases h
      · cases h
    · cases h

/-- A parameter by value. -/
theorem open_flat {n : Nat} {t : TypeId} {ks : List Fl} {v : Value} {d : DataW H} {ps : List MemPlace} (hk : flat P n t = some ks) (h : DataW.Trod enc P w base spare held t v d ps) : Fit ks v.cells.toList := by
  obtain ⟨m, hm⟩ := h; exact flat_fit n t ks _ hk ⟨m, _, hm⟩

/-- A slice of such. -/
theorem open_flat_slice {β : Type} {n : Nat} {t e : TypeId} {ks : List Fl} {a : Option Addr} {len cap : Nat} {d : DataW H} {ps : List MemPlace} {f : β → List Value} {G : β → Prop} (hu : P.underlying t = some (.slice e)) (hk : flat P n e = some ks) (hc : P.cellsOf e = ks.length) (h0 : 0 < ks.length)
    (hf : ∀ cs, Fit ks cs → ∃ b, f b = cs ∧ G b) (hlen : ∀ b, (f b).length = ks.length) (h : DataW.Trod enc P w base spare held t (.slice a len cap) d ps)
    {ts : List TypeId} {ds : List (DataW H)} {j : Nat} (hsz : (DataW.weightsEach P ts ds).all (· ≤ reachBytes) = true) (ht : ts[j]? = some t) (hd : ds[j]? = some d) :
    ∃ zs : List β, RdS f ks.length w a len zs ∧ (∀ z ∈ zs, G z) ∧ len * P.bytesOf e ≤ 140737488351232 := by
  obtain ⟨fuel, hfu⟩ := h
  rcases open_slice hu hfu with ⟨hcs, _⟩ | ⟨a', l', c', m, n', D, Pl, hcs, _, hl, _, hm, hx, hi⟩
  · simp [Value.cells] at hcs
    obtain ⟨rfl, rfl, rfl⟩ := hcs
    exact ⟨[], ⟨rfl, hlen, fun h => absurd h (by omega)⟩, by simp, by simp⟩
  · simp [Value.cells] at hcs
    obtain ⟨rfl, rfl, rfl⟩ := hcs
    have hml : len ≤ m := by rw [hm]; split; exact hl; exact Nat.le_refl _
    have each : ∀ i, i < len → ∃ b : β, G b ∧ ∀ j, j < ks.length → w.cell? ((a'.add (i * ks.length)).add j) = (f b)[j]? := by
      intro i hil
      obtain ⟨cs', h1, h2⟩ := hi i (by omega)
      have hfit := flat_fit n e ks cs' hk ⟨_, _, h2⟩
      obtain ⟨b, hb, hG⟩ := hf _ hfit
      obtain ⟨_, _, h4⟩ := World.cells?_some h1
      rw [hc] at h4
      exact ⟨b, hG, fun j hj => by rw [h4 j hj, hb]⟩
    have hch : ∃ zs : List β, zs.length = len ∧ ∀ i b, zs[i]? = some b → G b ∧ ∀ j, j < ks.length → w.cell? ((a'.add (i * ks.length)).add j) = (f b)[j]? := by
      have key : ∀ q, q ≤ len → ∃ zs : List β, zs.length = q ∧ ∀ i b, zs[i]? = some b → G b ∧ ∀ j, j < ks.length → w.cell? ((a'.add (i * ks.length)).add j) = (f b)[j]? := by
        intro q
        induction q with
        | zero => exact fun _ => ⟨[], rfl, by simp⟩
        | succ q ih =>
          intro hq
          obtain ⟨zs, hz, hzs⟩ := ih (by omega)
          obtain ⟨b, hb⟩ := each q (by omega)
          refine ⟨zs ++ [b], by simp [hz], fun i b' hb' => ?_⟩
          rw [List.getElem?_append] at hb'
          split at hb'
          · exact hzs i b' hb'
          · rename_i hn
            have : i = q := by
              rcases Nat.lt_trichotomy i q with h | h | h
              · omega
              · exact h
              · rw [List.getElem?_eq_none (by simp; omega)] at hb'; cases hb'
            subst this
            rw [hz, Nat.sub_self] at hb'
            simp at hb'; subst hb'; exact hb
      exact key len (Nat.le_refl _)
    obtain ⟨zs, hz, hzs⟩ := hch
    refine ⟨zs, ⟨hz, hlen, fun h1 => ?_⟩, fun z hzm => ?_, ?_⟩
    · obtain ⟨b, o, s⟩ := a'
      have hz0 : zs[0]? = some (zs[0]'(by omega)) := by simp [show 0 < zs.length by omega]
      obtain ⟨_, h2⟩ := hzs 0 _ hz0
      have h3 := h2 0 h0
      have hs : s = none := by
        cases s with
        | none => rfl
        | some q =>
          exfalso
          have h4 : w.cell? ⟨b, o, some q⟩ = none := by
            simp only [World.cell?]
            split <;> simp
          rw [Nat.zero_mul, Addr.add, if_pos rfl, Addr.add, if_pos rfl, h4] at h3
          have := hlen (zs[0]'(by omega))
          rw [eq_comm, List.getElem?_eq_none_iff] at h3
          omega
      subst hs
      refine ⟨b, o, rfl, fun i z hz' j u hu' => ?_⟩
      obtain ⟨_, h5⟩ := hzs i z hz'
      have hj : j < ks.length := by have := (List.getElem?_eq_some_iff.1 hu').1; rw [hlen] at this; exact this
      have h6 := h5 j hj
      rw [Addr.add_lit, Addr.add_lit, hu'] at h6
      exact h6
    · obtain ⟨i, hi', rfl⟩ := List.getElem_of_mem hzm
      exact (hzs i _ (by simp [hi'])).1
    · have hx1 := (Prod.mk.inj hx).1
      subst hx1
      have z := sized_slice hsz ht hd hu
      simp at z
      have : len * P.bytesOf e ≤ (len + (m - len)) * P.bytesOf e := Nat.mul_le_mul_right _ (by omega)
      exact Nat.le_trans this z
end
end Go.Proofs.Bo
