import Derived.Test.YtniemignjlanaaaRFind
import Derived.Test.YtniemignjlanaaaNear
set_option linter.unusedVariables false
namespace Go.Proofs.Bo

def neK (a b : Sg) : Prop := ¬ a.ls = b.ls ∨ (a.ls = b.ls ∧ ¬ a.la = b.la)
theorem neK_of {a b : Sg} (h : ky a ≠ ky b) : neK a b := by
  unfold neK
  by_cases e : a.ls = b.ls
  · refine .inr ⟨e, fun e2 => h ?_⟩
    unfold ky; rw [e, e2]
  · exact .inl e
theorem Srt.split {L : List Sg} (h : Srt L) (k : Int) : L = L.filter (fun x => decide (ky x ≤ k)) ++ L.filter (fun x => decide (k < ky x)) := by
  induction L with
  | nil => rfl
  | cons x L ih =>
    obtain ⟨h1, h2⟩ := List.pairwise_cons.1 h
    by_cases hx : ky x ≤ k
    · rw [List.filter_cons_of_pos (by simpa using hx), List.filter_cons_of_neg (by simpa using hx), List.cons_append, ← ih h2]
    · have e : L.filter (fun x => decide (ky x ≤ k)) = [] := List.filter_eq_nil_iff.2 fun y hy => by have := h1 y hy; simp; omega
      have e2 : L.filter (fun x => decide (k < ky x)) = L := List.filter_eq_self.2 fun y hy => by have := h1 y hy; simp; omega
      rw [List.filter_cons_of_neg (by simpa using hx), List.filter_cons_of_pos (by simp; omega), e, e2]; rfl

theorem betw {L : List Sg} (hr : Row L) (k : Int) : ∃ (b1 b2 b5 : Bool) (a b : Sg) (cnt : Nat → Int),
    nearS false true k L = (if b1 then some a else none) ∧ nearS true false k L = (if b2 then some b else none) ∧
    ((b5 = true ∧ b1 = true ∧ nearS true true k L = some a ∧ getS k L = some a) ∨
     (b5 = false ∧ nearS false false k L = (if b1 then some a else none) ∧ nearS true true k L = (if b2 then some b else none) ∧ getS k L = none ∧ (b1 = true → b2 = true → neK a b))) ∧
    cnt 0 = 0 ∧ (∀ i, 0 ≤ cnt i ∧ cnt i ≤ 2) ∧
    (∀ (i : Nat) (h : i < L.length), (b1 = true ∧ L[i] = a ∧ cnt (i + 1) = cnt i + 1) ∨ ((b1 = true → neK L[i] a) ∧ ((b2 = true ∧ L[i] = b ∧ cnt (i + 1) = cnt i + 1) ∨ ((b2 = true → neK L[i] b) ∧ cnt (i + 1) = cnt i)))) ∧
    cnt L.length = (if b1 then 1 else 0) + (if b2 then 1 else 0) := by
  obtain ⟨lo, hlo⟩ : ∃ lo, L.filter (fun x => decide (ky x ≤ k)) = lo := ⟨_, rfl⟩
  obtain ⟨hi, hhi⟩ : ∃ hi, L.filter (fun x => decide (k < ky x)) = hi := ⟨_, rfl⟩
  have hsp := hr.1.split k
  rw [hlo, hhi] at hsp
  have n1 : nearS false true k L = lo.getLast? := by
    unfold nearS
    rw [← hlo]
    simp only [Bool.false_eq_true, if_false]
    congr 2
    funext x; simp [fitB]; rw [Bool.eq_iff_iff]; simp; omega
  have n2 : nearS true false k L = hi.head? := by
    unfold nearS
    rw [← hhi]
    simp only [if_true]
    congr 2
    funext x; simp [fitB]
  have hlok : ∀ x ∈ lo, ky x ≤ k := fun x hx => by rw [← hlo] at hx; simpa using (List.mem_filter.1 hx).2
  have hhik : ∀ x ∈ hi, k < ky x := fun x hx => by rw [← hhi] at hx; simpa using (List.mem_filter.1 hx).2
  have hlt : ∀ i j (hi : i < L.length) (hj : j < L.length), i < j → ky L[i] < ky L[j] := fun i j h1 h2 h => List.pairwise_iff_getElem.1 hr.1 i j h1 h2 h
  have hne : ∀ i j (hi : i < L.length) (hj : j < L.length), i ≠ j → neK L[i] L[j] := fun i j h1 h2 h => neK_of (by
    rcases Nat.lt_or_gt_of_ne h with h | h
    · have := hlt i j h1 h2 h; omega
    · have := hlt j i h2 h1 h; omega)
  have hlen : L.length = lo.length + hi.length := by rw [hsp, List.length_append]
  refine ⟨decide (0 < lo.length), decide (lo.length < L.length), (getS k L).isSome, (lo.getLast?).getD zSg, (hi.head?).getD zSg, fun i => (if 0 < lo.length ∧ lo.length ≤ i then 1 else 0) + (if lo.length < i then 1 else 0), ?_, ?_, ?_, ?_, ?_, ?_, ?_⟩
  · rw [n1]
    cases hl : lo.getLast? with
    | none => rw [List.getLast?_eq_none_iff] at hl; subst hl; simp
    | some x => have : lo ≠ [] := fun e => by subst e; simp at hl
                have := List.length_pos_iff.2 this; simp [this]
  · rw [n2]
    cases hi with
    | nil => simp at hlen; simp [hlen]
    | cons y ys => simp at hlen; simp [hlen]
  · cases hg : getS k L with
    | none =>
      refine .inr ⟨rfl, ?_, ?_, rfl, ?_⟩
      · have e : nearS false false k L = nearS false true k L := by
          unfold nearS
          simp only [Bool.false_eq_true, if_false]
          congr 1
          refine List.filter_congr fun x hx => ?_
          have := List.find?_eq_none.1 hg x hx
          simp at this
          simp [fitB, this]
        rw [e, n1]
        cases hl : lo.getLast? with
        | none => rw [List.getLast?_eq_none_iff] at hl; subst hl; simp
        | some x => have : lo ≠ [] := fun e => by subst e; simp at hl
                    have := List.length_pos_iff.2 this; simp [this]
      · have e : nearS true true k L = nearS true false k L := by
          unfold nearS
          simp only [if_true]
          congr 1
          refine List.filter_congr fun x hx => ?_
          have := List.find?_eq_none.1 hg x hx
          simp at this
          simp [fitB, this]
        rw [e, n2]
        cases hi with
        | nil => simp at hlen; simp [hlen]
        | cons y ys => simp at hlen; simp [hlen]
      · intro h1 h2
        simp at h1 h2
        refine neK_of ?_
        cases hl : lo.getLast? with
        | none => rw [List.getLast?_eq_none_iff] at hl; subst hl; simp at h1
        | some x =>
          cases hi with
          | nil => simp at hlen; omega
          | cons y ys =>
            have a1 := hlok x (List.mem_of_getLast? hl)
            have a2 := hhik y (by simp)
            simp; omega
    | some x =>
      obtain ⟨h1, pre, rest, h2, h3⟩ := List.find?_eq_some_iff_append.1 hg
      have hx : ky x = k := by simpa using h1
      have hs := hr.1
      rw [h2] at hs
      obtain ⟨s1, s2⟩ := hs.app
      have e1 : lo = pre ++ [x] := by
        rw [← hlo, h2, List.filter_append, List.filter_cons_of_pos (by simp; omega), List.filter_eq_self.2 (fun y hy => by have := s1 y hy; simp; omega), List.filter_eq_nil_iff.2 (fun y hy => by have := s2 y hy; simp; omega)]
      have e2 : nearS true true k L = some x := by
        unfold nearS
        simp only [if_true]
        rw [h2, List.filter_append, List.filter_cons_of_pos (by simp [fitB, hx]), List.filter_eq_nil_iff.2 (fun y hy => by have := s1 y hy; simp [fitB]; omega)]
        rfl
      refine .inl ⟨rfl, by simp [e1], by rw [e2, e1]; simp, by rw [e1]; simp⟩
  · dsimp only
    rw [if_neg (show ¬ (0 < lo.length ∧ lo.length ≤ 0) by omega), if_neg (show ¬ lo.length < 0 by omega)]; rfl
  · intro i; dsimp only; split <;> split <;> omega
  · intro i hil
    by_cases c1 : i + 1 = lo.length
    · refine .inl ⟨by simp; omega, ?_, ?_⟩
      · have : L[i]? = lo.getLast? := by
          rw [List.getLast?_eq_getElem?]
          conv => lhs; rw [hsp]
          rw [List.getElem?_append_left (by omega)]
          congr 1; omega
        rw [List.getElem?_eq_getElem hil] at this
        rw [← this]; rfl
      · dsimp only
        rw [if_pos (show 0 < lo.length ∧ lo.length ≤ i + 1 by omega), if_neg (show ¬ lo.length < i + 1 by omega), if_neg (show ¬ (0 < lo.length ∧ lo.length ≤ i) by omega), if_neg (show ¬ lo.length < i by omega)]; rfl
    · refine .inr ⟨fun h => ?_, ?_⟩
      · simp at h
        have hq : lo.length - 1 < L.length := by omega
        have : L[lo.length - 1]? = lo.getLast? := by
          rw [List.getLast?_eq_getElem?]
          conv => lhs; rw [hsp]
          rw [List.getElem?_append_left (by omega)]
        rw [List.getElem?_eq_getElem hq] at this
        rw [← this]
        exact hne i (lo.length - 1) hil hq (by omega)
      · by_cases c2 : i = lo.length
        · refine .inl ⟨by simp; omega, ?_, ?_⟩
          · subst c2
            have : L[lo.length]? = hi.head? := by
              rw [List.head?_eq_getElem?]
              conv => lhs; rw [hsp]
              rw [List.getElem?_append_right (by omega)]
              congr 1; omega
            rw [List.getElem?_eq_getElem hil] at this
            rw [← this]; rfl
          · dsimp only
            subst c2
            by_cases h0 : 0 < lo.length
            · rw [if_pos (show 0 < lo.length ∧ lo.length ≤ lo.length + 1 by omega), if_pos (show lo.length < lo.length + 1 by omega), if_pos (show 0 < lo.length ∧ lo.length ≤ lo.length by omega), if_neg (show ¬ lo.length < lo.length by omega)]; rfl
            · rw [if_neg (show ¬ (0 < lo.length ∧ lo.length ≤ lo.length + 1) by omega), if_pos (show lo.length < lo.length + 1 by omega), if_neg (show ¬ (0 < lo.length ∧ lo.length ≤ lo.length) by omega), if_neg (show ¬ lo.length < lo.length by omega)]; rfl
        · refine .inr ⟨fun h => ?_, ?_⟩
          · simp at h
            have : L[lo.length]? = hi.head? := by
              rw [List.head?_eq_getElem?]
              conv => lhs; rw [hsp]
              rw [List.getElem?_append_right (by omega)]
              congr 1; omega
            rw [List.getElem?_eq_getElem h] at this
            rw [← this]
            exact hne i lo.length hil h c2
          · dsimp only
            congr 1
            · split <;> split <;> omega
            · split <;> split <;> omega
  · dsimp only
    by_cases h0 : 0 < lo.length <;> by_cases h1 : lo.length < L.length
    · rw [if_pos (by omega), if_pos h1, if_pos (by simpa using h0), if_pos (by simpa using h1)]
    · rw [if_pos (by omega), if_neg h1, if_pos (by simpa using h0), if_neg (by simpa using h1)]
    · rw [if_neg (by omega), if_pos h1, if_neg (by simpa using h0), if_pos (by simpa using h1)]
    · rw [if_neg (by omega), if_neg h1, if_neg (by simpa using h0), if_neg (by simpa using h1)]
end Go.Proofs.Bo
