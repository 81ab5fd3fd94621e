import Derived.Test.YtofgoehkahcajaaGreatBoG
import Derived.Test.YtofgoehkahcajaaGreatPlace
set_option linter.unusedVariables false
set_option linter.unusedSimpArgs false
namespace Go.Proofs.Bo

/-! The rows of a B-tree's nodes, in order. -/
def pre : List Sg → List (List Sg) → List Sg
  | x :: l, p :: ps => p ++ x :: pre l ps
  | _, _ => []
def post : List Sg → List (List Sg) → List Sg
  | x :: l, p :: ps => x :: (p ++ post l ps)
  | _, _ => []
/-- A node's segments between its children's. -/
def inter (l : List Sg) : List (List Sg) → List Sg
  | [] => []
  | p :: ps => p ++ post l ps

theorem post_app : ∀ (l1 l2 : List Sg) (ps1 ps2 : List (List Sg)), ps1.length = l1.length → post (l1 ++ l2) (ps1 ++ ps2) = post l1 ps1 ++ post l2 ps2
  | [], l2, [], ps2, _ => rfl
  | x :: l1, l2, p :: ps1, ps2, h => by
    have := post_app l1 l2 ps1 ps2 (by simpa using h)
    simp [post, this]
theorem pre_app : ∀ (l1 l2 : List Sg) (ps1 ps2 : List (List Sg)), ps1.length = l1.length → pre (l1 ++ l2) (ps1 ++ ps2) = pre l1 ps1 ++ pre l2 ps2
  | [], l2, [], ps2, _ => rfl
  | x :: l1, l2, p :: ps1, ps2, h => by
    have := pre_app l1 l2 ps1 ps2 (by simpa using h)
    simp [pre, this]
theorem inter_cons (x : Sg) (l : List Sg) (p : List Sg) (ps : List (List Sg)) (h : 0 < ps.length) : inter (x :: l) (p :: ps) = p ++ x :: inter l ps := by
  cases ps with
  | nil => simp at h
  | cons q qs => simp [inter, post]
/-- What stands ahead of a child, its own, and what stands behind it. -/
theorem inter_mid : ∀ (l1 l2 : List Sg) (ps1 : List (List Sg)) (p : List Sg) (ps2 : List (List Sg)), ps1.length = l1.length → inter (l1 ++ l2) (ps1 ++ p :: ps2) = pre l1 ps1 ++ (p ++ post l2 ps2)
  | [], l2, [], p, ps2, _ => by simp [inter, pre]
  | x :: l1, l2, q :: ps1, p, ps2, h => by
    have := inter_mid l1 l2 ps1 p ps2 (by simpa using h)
    rw [List.cons_append, List.cons_append, inter_cons _ _ _ _ (by simp; omega), this]
    simp [pre]
/-- A segment of its own, what stands ahead of it and behind it. -/
theorem inter_seg (l1 : List Sg) (x : Sg) (l2 : List Sg) (ps1 ps2 : List (List Sg)) (h1 : ps1.length = l1.length + 1) (h2 : ps2.length = l2.length + 1) : inter (l1 ++ x :: l2) (ps1 ++ ps2) = inter l1 ps1 ++ x :: inter l2 ps2 := by
  obtain ⟨qs, q, rfl⟩ : ∃ qs q, ps1 = qs ++ [q] := by
    rcases List.eq_nil_or_concat ps1 with rfl | ⟨qs, q, rfl⟩
    · simp at h1
    · exact ⟨qs, q, by simp⟩
  have hq : qs.length = l1.length := by simpa using h1
  obtain ⟨r, rs, rfl⟩ : ∃ r rs, ps2 = r :: rs := by
    cases ps2 with
    | nil => simp at h2
    | cons r rs => exact ⟨r, rs, rfl⟩
  have e1 := inter_mid l1 [] qs q [] hq
  have e2 := inter_mid l1 (x :: l2) qs q (r :: rs) hq
  rw [List.append_nil] at e1
  rw [List.append_assoc, List.singleton_append, e2, e1]
  simp [post, inter]
theorem pre_last : ∀ (l : List Sg) (x : Sg) (ps : List (List Sg)) (p : List Sg), ps.length = l.length → pre (l ++ [x]) (ps ++ [p]) = pre l ps ++ (p ++ [x])
  | l, x, ps, p, h => by rw [pre_app l [x] ps [p] h]; simp [pre]

/-- A child: its number, its segments, its nodes. -/
structure Ch where
  i : Nat
  L : List Sg
  F : List Nat

/-- What stands below a node: the height, the least number of its segments, the node, the segments in order, the nodes. -/
def Sub (d : Nat) (S : Nat → Option (List Sg × List Nat)) : Nat → Nat → Nat → List Sg → List Nat → Prop
  | 0, lo, i, L, F => S i = some (L, []) ∧ F = [i] ∧ lo ≤ L.length ∧ L.length ≤ 2 * d - 1
  | h + 1, lo, i, L, F => ∃ (l : List Sg) (cs : List Ch), S i = some (l, cs.map Ch.i) ∧ lo ≤ l.length ∧ l.length ≤ 2 * d - 1 ∧ cs.length = l.length + 1 ∧ (∀ c ∈ cs, Sub d S h (d - 1) c.i c.L c.F) ∧ L = inter l (cs.map Ch.L) ∧ F = i :: (cs.map Ch.F).flatten

theorem Sub.keep {d : Nat} {S S' : Nat → Option (List Sg × List Nat)} : ∀ {h lo i : Nat} {L : List Sg} {F : List Nat}, Sub d S h lo i L F → (∀ j ∈ F, S' j = S j) → Sub d S' h lo i L F
  | 0, lo, i, L, F, ⟨h1, h2, h3⟩, hk => ⟨(hk i (by rw [h2]; simp)).trans h1, h2, h3⟩
  | h + 1, lo, i, L, F, ⟨l, cs, h1, h2, h3, h4, h5, h6, h7⟩, hk => by
    refine ⟨l, cs, (hk i (by rw [h7]; simp)).trans h1, h2, h3, h4, fun c hc => (h5 c hc).keep fun j hj => hk j ?_, h6, h7⟩
    rw [h7]
    exact List.mem_cons_of_mem _ (List.mem_flatten.2 ⟨c.F, List.mem_map.2 ⟨c, hc, rfl⟩, hj⟩)
theorem Sub.mem {d : Nat} {S : Nat → Option (List Sg × List Nat)} {h lo i : Nat} {L : List Sg} {F : List Nat} (hs : Sub d S h lo i L F) : i ∈ F := by
  cases h with
  | zero => obtain ⟨_, h2, _⟩ := hs; rw [h2]; simp
  | succ h => obtain ⟨l, cs, h1, h2, h3, h4, h5, h6, h7⟩ := hs; rw [h7]; simp
theorem Sub.low {d : Nat} {S : Nat → Option (List Sg × List Nat)} {h lo lo' i : Nat} {L : List Sg} {F : List Nat} (hs : Sub d S h lo i L F) (hl : lo' ≤ lo) : Sub d S h lo' i L F := by
  cases h with
  | zero => obtain ⟨h1, h2, h3, h4⟩ := hs; exact ⟨h1, h2, by omega, h4⟩
  | succ h => obtain ⟨l, cs, h1, h2, h3⟩ := hs; exact ⟨l, cs, h1, by omega, h3⟩
/-- A node: its own segments and its children. -/
theorem Sub.node {d : Nat} {S : Nat → Option (List Sg × List Nat)} {h lo i : Nat} {L : List Sg} {F : List Nat} (hs : Sub d S h lo i L F) : ∃ l ks, S i = some (l, ks) ∧ lo ≤ l.length ∧ l.length ≤ 2 * d - 1 ∧ (ks = [] ↔ h = 0) := by
  cases h with
  | zero => obtain ⟨h1, h2, h3, h4⟩ := hs; exact ⟨L, [], h1, h3, h4, by simp⟩
  | succ h =>
    obtain ⟨l, cs, h1, h2, h3, h4, _⟩ := hs
    refine ⟨l, _, h1, h2, h3, ?_⟩
    constructor
    · intro e; rw [List.map_eq_nil_iff] at e; rw [e] at h4; simp at h4
    · intro e; omega
theorem post_sub : ∀ (l : List Sg) (ps : List (List Sg)), ps.length = l.length → l.Sublist (post l ps)
  | [], [], _ => List.Sublist.slnil
  | x :: l, p :: ps, h => by
    have := post_sub l ps (by simpa using h)
    exact (this.trans (List.sublist_append_right p _)).cons_cons x
theorem inter_sub (l : List Sg) (ps : List (List Sg)) (h : ps.length = l.length + 1) : l.Sublist (inter l ps) := by
  cases ps with
  | nil => simp at h
  | cons p ps => exact (post_sub l ps (by simpa using h)).trans (List.sublist_append_right p _)
theorem Row.sub {l l' : List Sg} (h : Row l) (hs : l'.Sublist l) : Row l' := ⟨h.1.sublist hs, fun s hm => h.2 s (hs.subset hm)⟩
theorem Srt.ap {a b : List Sg} (h : Srt (a ++ b)) : ∀ x ∈ a, ∀ y ∈ b, ky x < ky y := fun x hx y hy => (List.pairwise_append.1 h).2.2 x hx y hy

/-- A key's place parts a node's segments, and all that stands below it. -/
theorem posL_lo {k : Int} {l : List Sg} (h : Srt l) : (∀ x ∈ l.take (posL k l), ky x < k) ∧ ∀ x ∈ l.drop (posL k l), k ≤ ky x := by
  induction l with
  | nil => simp
  | cons x l ih =>
    obtain ⟨h1, h2⟩ := List.pairwise_cons.1 h
    by_cases hx : ky x < k
    · have e : posL k (x :: l) = posL k l + 1 := by unfold posL; rw [List.filter_cons_of_pos (by simpa using hx)]; rfl
      rw [e]
      refine ⟨fun y hy => ?_, fun y hy => (ih h2).2 y (by simpa using hy)⟩
      rcases List.mem_cons.1 (by simpa using hy) with rfl | hy
      · exact hx
      · exact (ih h2).1 y hy
    · have e : posL k (x :: l) = 0 := by
        unfold posL
        rw [List.filter_cons_of_neg (by simpa using hx), List.length_eq_zero_iff, List.filter_eq_nil_iff]
        intro y hy; have := h1 y hy; simp; omega
      rw [e]
      refine ⟨fun y hy => (by simp at hy), fun y hy => ?_⟩
      rcases List.mem_cons.1 (by simpa using hy) with rfl | hy
      · omega
      · have := h1 y hy; omega
theorem pre_lt {k : Int} : ∀ (l : List Sg) (ps : List (List Sg)), ps.length = l.length → Srt (pre l ps) → (∀ x ∈ l, ky x < k) → ∀ x ∈ pre l ps, ky x < k
  | [], [], _, _, _, x, hx => by simp [pre] at hx
  | a :: l, p :: ps, h, hs, hl, x, hx => by
    simp only [pre] at hs hx
    rcases List.mem_append.1 hx with hx | hx
    · have := hs.ap x hx a (by simp); have := hl a (by simp); omega
    · rcases List.mem_cons.1 hx with rfl | hx
      · exact hl _ (by simp)
      · exact pre_lt l ps (by simpa using h) ((List.pairwise_cons.1 (List.pairwise_append.1 hs).2.1).2) (fun y hy => hl y (by simp [hy])) x hx
theorem post_ge {k : Int} (l : List Sg) (ps : List (List Sg)) (hs : Srt (post l ps)) (hl : ∀ x ∈ l, k ≤ ky x) : ∀ x ∈ post l ps, k ≤ ky x := by
  intro x hx
  cases l with
  | nil => simp [post] at hx
  | cons a l =>
    cases ps with
    | nil => simp [post] at hx
    | cons p ps =>
      simp only [post] at hs hx
      have ha := hl a (by simp)
      rcases List.mem_cons.1 hx with rfl | hx
      · exact ha
      · have := (List.pairwise_cons.1 hs).1 x hx; omega
end Go.Proofs.Bo
set_option linter.unusedVariables false
set_option linter.unusedSimpArgs false
namespace Go.Proofs.Bo

theorem hasK_pos {k : Int} {l : List Sg} (h : Srt l) : hasK k l = true ↔ ∃ (hp : posL k l < l.length), ky l[posL k l] = k := by
  obtain ⟨h1, h2⟩ := posL_lo (k := k) h
  have hle := posL_le k l
  constructor
  · intro hk
    unfold hasK at hk
    obtain ⟨x, hx, e⟩ := List.any_eq_true.1 hk
    have e : ky x = k := by simpa using e
    rw [← List.take_append_drop (posL k l) l] at hx
    rcases List.mem_append.1 hx with hx | hx
    · have := h1 x hx; omega
    · have hp : posL k l < l.length := by
        have := List.length_pos_of_mem hx
        simp at this; omega
      refine ⟨hp, ?_⟩
      obtain ⟨j, hj, rfl⟩ := List.mem_iff_getElem.1 hx
      have hj' : posL k l + j < l.length := by simp at hj; omega
      rw [List.getElem_drop] at e
      have h3 := h2 l[posL k l] (by rw [List.mem_iff_getElem]; exact ⟨0, by simp; omega, by simp⟩)
      by_cases hj0 : j = 0
      · subst hj0; simpa using e
      · have := List.pairwise_iff_getElem.1 h (posL k l) (posL k l + j) hp hj' (by omega); omega
  · rintro ⟨hp, e⟩
    unfold hasK
    exact List.any_eq_true.2 ⟨_, List.getElem_mem hp, by simpa using e⟩

/-- Which child a search goes down to. -/
def wayT (d : Bool) (k : Int) (l : List Sg) : Nat := if d && hasK k l then posL k l + 1 else posL k l
theorem way_le {d : Bool} {k : Int} {l : List Sg} (h : Srt l) : wayT d k l ≤ l.length := by
  have := posL_le k l
  unfold wayT
  split
  · rename_i hd
    simp only [Bool.and_eq_true] at hd
    obtain ⟨hp, _⟩ := (hasK_pos h).1 hd.2
    omega
  · exact this
theorem way_facts {d own : Bool} {k : Int} {l : List Sg} (h : Srt l) (hno : ¬ (hasK k l = true ∧ own = true)) :
    ∃ a b : Int, (∀ x ∈ l.take (wayT d k l), ky x < a) ∧ (∀ x ∈ l.drop (wayT d k l), b ≤ ky x) ∧ (∀ y, y < a → fitB d own k y = !d) ∧ (∀ y, b ≤ y → fitB d own k y = d) := by
  obtain ⟨h1, h2⟩ := posL_lo (k := k) h
  by_cases hk : hasK k l = true
  · have ho : own = false := by cases own; rfl; exact absurd ⟨hk, rfl⟩ hno
    subst ho
    obtain ⟨hp, he⟩ := (hasK_pos h).1 hk
    cases d
    · refine ⟨k, k, by simpa [wayT] using h1, by simpa [wayT] using h2, fun y hy => by simp [fitB, hy], fun y hy => by simp [fitB]; omega⟩
    · refine ⟨k + 1, k + 1, ?_, ?_, fun y hy => by simp [fitB]; omega, fun y hy => by simp [fitB]; omega⟩
      · intro x hx
        simp only [wayT, hk, Bool.and_self, if_true] at hx
        obtain ⟨j, hj, rfl⟩ := List.mem_iff_getElem.1 hx
        have hj' : j < posL k l + 1 ∧ j < l.length := by simp at hj; omega
        rw [List.getElem_take]
        by_cases e : j = posL k l
        · subst e; omega
        · have := List.pairwise_iff_getElem.1 h j (posL k l) hj'.2 hp (by omega); omega
      · intro x hx
        simp only [wayT, hk, Bool.and_self, if_true] at hx
        obtain ⟨j, hj, rfl⟩ := List.mem_iff_getElem.1 hx
        have hj' : posL k l + 1 + j < l.length := by simp at hj; omega
        rw [List.getElem_drop]
        have := List.pairwise_iff_getElem.1 h (posL k l) (posL k l + 1 + j) hp hj' (by omega); omega
  · have hw : wayT d k l = posL k l := by simp [wayT, hk]
    have h3 : ∀ x ∈ l.drop (posL k l), k + 1 ≤ ky x := by
      intro x hx
      have := h2 x hx
      have : ky x ≠ k := fun e => hk (by unfold hasK; exact List.any_eq_true.2 ⟨x, List.mem_of_mem_drop hx, by simpa using e⟩)
      omega
    rw [hw]
    refine ⟨k, k + 1, h1, h3, fun y hy => ?_, fun y hy => ?_⟩
    · cases d <;> simp [fitB] <;> omega
    · cases d <;> simp [fitB] <;> omega

/-- The best one so far. -/
def bst7 (d : Bool) (A B : List Sg) : Option Sg := if d then B.head? else A.getLast?
theorem bst_end {d own : Bool} {k : Int} {A B : List Sg} (h1 : ∀ x ∈ A, fitB d own k (ky x) = !d) (h2 : ∀ x ∈ B, fitB d own k (ky x) = d) : nearS d own k (A ++ B) = bst7 d A B := by
  unfold nearS bst7
  cases d
  · simp only [Bool.false_eq_true, if_false, List.filter_append]
    rw [List.filter_eq_self.2 (fun x hx => by simpa using h1 x hx), List.filter_eq_nil_iff.2 (fun x hx => by simp [h2 x hx]), List.append_nil]
  · simp only [if_true, List.filter_append]
    rw [List.filter_eq_nil_iff.2 (fun x hx => by simp [h1 x hx]), List.filter_eq_self.2 (fun x hx => by simpa using h2 x hx), List.nil_append]
theorem near_own {d : Bool} {k : Int} {P Q : List Sg} {x : Sg} (h : Srt (P ++ x :: Q)) (hx : ky x = k) : nearS d true k (P ++ x :: Q) = some x := by
  obtain ⟨s1, s2⟩ := h.app
  cases d
  · have e : P ++ x :: Q = (P ++ [x]) ++ Q := by simp
    rw [e, bst_end (d := false) (own := true)]
    · simp [bst7]
    · intro y hy
      rcases List.mem_append.1 hy with hy | hy
      · have := s1 y hy; simp [fitB]; omega
      · simp at hy; subst hy; simp [fitB, hx]
    · intro y hy; have := s2 y hy; simp [fitB]; omega
  · rw [bst_end (d := true) (own := true)]
    · simp [bst7]
    · intro y hy; have := s1 y hy; simp [fitB]; omega
    · intro y hy
      rcases List.mem_cons.1 hy with rfl | hy
      · simp [fitB, hx]
      · have := s2 y hy; simp [fitB]; omega
theorem pre_getLast (l : List Sg) (ps : List (List Sg)) (h : ps.length = l.length) (hl : l ≠ []) (A : List Sg) : (A ++ pre l ps).getLast? = l.getLast? := by
  obtain ⟨q, x, rfl⟩ : ∃ q x, l = q ++ [x] := ⟨l.dropLast, l.getLast hl, (List.dropLast_concat_getLast hl).symm⟩
  obtain ⟨qs, p, rfl⟩ : ∃ qs p, ps = qs ++ [p] := by
    rcases List.eq_nil_or_concat ps with rfl | ⟨qs, p, rfl⟩
    · simp at h
    · exact ⟨qs, p, by simp⟩
  rw [pre_last q x qs p (by simpa using h)]
  simp [← List.append_assoc]
theorem post_head (l : List Sg) (ps : List (List Sg)) (h : ps.length = l.length) (hl : l ≠ []) (B : List Sg) : (post l ps ++ B).head? = l.head? := by
  cases l with
  | nil => exact absurd rfl hl
  | cons x l => cases ps with
    | nil => simp at h
    | cons p ps => simp [post]

/-- One step of a search: at a node whose segments are l (children's ps, or none), between A and B. -/
theorem near_step {d own : Bool} {k : Int} {A B Li l : List Sg} (hs : Srt (A ++ (Li ++ B))) (hA : ∀ x ∈ A, fitB d own k (ky x) = !d) (hB : ∀ x ∈ B, fitB d own k (ky x) = d) (hno : ¬ (hasK k l = true ∧ own = true))
    {P Q : List Sg} (hP : ∀ a, (∀ x ∈ l.take (wayT d k l), ky x < a) → ∀ x ∈ P, ky x < a) (hQ : ∀ b, (∀ x ∈ l.drop (wayT d k l), b ≤ ky x) → ∀ x ∈ Q, b ≤ ky x) (hl : Srt l) :
    (∀ x ∈ A ++ P, fitB d own k (ky x) = !d) ∧ (∀ x ∈ Q ++ B, fitB d own k (ky x) = d) := by
  obtain ⟨a, b, f1, f2, f3, f4⟩ := way_facts (d := d) (own := own) hl hno
  refine ⟨fun x hx => ?_, fun x hx => ?_⟩
  · rcases List.mem_append.1 hx with hx | hx
    · exact hA x hx
    · exact f3 _ (hP a f1 x hx)
  · rcases List.mem_append.1 hx with hx | hx
    · exact f4 _ (hQ b f2 x hx)
    · exact hB x hx
end Go.Proofs.Bo
set_option linter.unusedVariables false
set_option linter.unusedSimpArgs false
namespace Go.Proofs.Bo
abbrev StB' := Nat → Option (List Sg × List Nat)

/-- What a node parts at a place t of its segments: P ahead, Q behind, and the child between them if it is no leaf. -/
structure PartB (l : List Sg) (t : Nat) (P Q : List Sg) : Prop where
  lt : ∀ a, (∀ x ∈ l.take t, ky x < a) → ∀ x ∈ P, ky x < a
  ge : ∀ b, (∀ x ∈ l.drop t, b ≤ ky x) → ∀ x ∈ Q, b ≤ ky x
  last : ∀ A : List Sg, l.take t ≠ [] → (A ++ P).getLast? = (l.take t).getLast?
  head : ∀ B : List Sg, l.drop t ≠ [] → (Q ++ B).head? = (l.drop t).head?
  noP : l.take t = [] → P = []
  noQ : l.drop t = [] → Q = []

theorem Sub.row {d : Nat} {S : StB'} {h lo i : Nat} {L l : List Sg} {ks : List Nat} {F : List Nat} (hs : Sub d S h lo i L F) (hl : S i = some (l, ks)) : l.Sublist L := by
  cases h with
  | zero => obtain ⟨h1, _⟩ := hs; rw [hl] at h1; cases h1; exact List.Sublist.refl _
  | succ h =>
    obtain ⟨l', cs, h1, h2, h3, h4, h5, h6, h7⟩ := hs
    rw [hl] at h1; cases h1
    rw [h6]
    exact inter_sub l _ (by simpa using h4)

theorem Sub.leaf {d : Nat} {S : StB'} {lo i : Nat} {L l : List Sg} {ks : List Nat} {F : List Nat} (hs : Sub d S 0 lo i L F) (hl : S i = some (l, ks)) (t : Nat) : ks = [] ∧ L = l ∧ L = l.take t ++ l.drop t ∧ PartB l t (l.take t) (l.drop t) := by
  obtain ⟨h1, _⟩ := hs
  have e := hl.symm.trans h1
  have e1 : l = L := by injection e with e; exact (Prod.mk.inj e).1
  have e2 : ks = [] := by injection e with e; exact (Prod.mk.inj e).2
  subst e1
  refine ⟨e2, rfl, (List.take_append_drop t l).symm, fun a h => h, fun b h => h, fun A h => ?_, fun B h => ?_, fun h => h, fun h => h⟩
  · rw [List.getLast?_append]
    cases hx : (l.take t).getLast? with
    | none => rw [List.getLast?_eq_none_iff] at hx; exact absurd hx h
    | some x => rfl
  · cases hd : l.drop t with
    | nil => exact absurd hd h
    | cons x r => rfl

theorem Sub.inner {d : Nat} {S : StB'} {h lo i : Nat} {L l : List Sg} {ks : List Nat} {F : List Nat} (hs : Sub d S (h + 1) lo i L F) (hl : S i = some (l, ks)) (hr : Srt L) (t : Nat) (ht : t ≤ l.length) :
    ∃ (ht2 : t < ks.length) (P Q L' : List Sg) (F' : List Nat), Sub d S h (d - 1) ks[t] L' F' ∧ L = P ++ (L' ++ Q) ∧ PartB l t P Q := by
  obtain ⟨l', cs, h1, h2, h3, h4, h5, h6, h7⟩ := hs
  rw [hl] at h1; cases h1
  have hct : t < cs.length := by omega
  have e1 : cs = cs.take t ++ cs[t] :: cs.drop (t + 1) := by rw [← List.drop_eq_getElem_cons hct, List.take_append_drop]
  have hm := inter_mid (l.take t) (l.drop t) ((cs.take t).map Ch.L) cs[t].L ((cs.drop (t + 1)).map Ch.L) (by simp; omega)
  have hm2 : L = pre (l.take t) ((cs.take t).map Ch.L) ++ (cs[t].L ++ post (l.drop t) ((cs.drop (t + 1)).map Ch.L)) := by
    have e2 := congrArg (List.map Ch.L) e1
    rw [List.map_append, List.map_cons] at e2
    rw [h6, ← hm, List.take_append_drop, ← e2]
  have hlp : ((cs.take t).map Ch.L).length = (l.take t).length := by simp; omega
  have hlq : ((cs.drop (t + 1)).map Ch.L).length = (l.drop t).length := by simp; omega
  have hs1 : Srt (pre (l.take t) ((cs.take t).map Ch.L)) := by rw [hm2] at hr; exact (List.pairwise_append.1 hr).1
  have hs2 : Srt (post (l.drop t) ((cs.drop (t + 1)).map Ch.L)) := by rw [hm2] at hr; exact (List.pairwise_append.1 (List.pairwise_append.1 hr).2.1).2.1
  refine ⟨by simpa using hct, _, _, cs[t].L, cs[t].F, by simpa using h5 cs[t] (List.getElem_mem hct), hm2, fun a h => pre_lt _ _ hlp hs1 h, fun b h => post_ge _ _ hs2 h, fun A h => pre_getLast _ _ hlp h A, fun B h => post_head _ _ hlq h B, fun h => ?_, fun h => ?_⟩
  · rw [h]; simp [pre]
  · rw [h]; simp [post]

/-- The best one behind a step. -/
theorem bst_next {A B P Q l : List Sg} {t : Nat} (h : PartB l t P Q) (htl : t ≤ l.length) : bst7 false (A ++ P) (Q ++ B) = (if ht : 0 < t then some l[t - 1] else bst7 false A B) ∧ bst7 true (A ++ P) (Q ++ B) = (if ht : t < l.length then some l[t] else bst7 true A B) := by
  constructor
  · simp only [Bool.false_eq_true, if_false, bst7]
    by_cases h0 : 0 < t
    · rw [dif_pos h0]
      have hne : l.take t ≠ [] := by
        intro e
        rw [List.take_eq_nil_iff] at e
        rcases e with e | e
        · omega
        · subst e; simp at htl; omega
      rw [h.last A hne, List.getLast?_eq_getElem?, List.length_take, Nat.min_eq_left htl, List.getElem?_take, if_pos (by omega), List.getElem?_eq_getElem (by omega)]
    · rw [dif_neg h0]
      have : l.take t = [] := by rw [show t = 0 by omega]; rfl
      rw [h.noP this, List.append_nil]
  · simp only [if_true, bst7]
    by_cases h0 : t < l.length
    · rw [dif_pos h0]
      have hne : l.drop t ≠ [] := by intro e; rw [List.drop_eq_nil_iff] at e; omega
      rw [h.head B hne, List.head?_drop, List.getElem?_eq_getElem h0]
    · rw [dif_neg h0, h.noQ (List.drop_of_length_le (by omega)), List.nil_append]
end Go.Proofs.Bo
set_option linter.unusedVariables false
set_option linter.unusedSimpArgs false
namespace Go.Proofs.Bo

/-- A subtree stands in a tree: with another one in its place it is a tree again. -/
def Hole (d : Nat) (S : StB') (H lo0 : Nat) (root : Nat) (A B : List Sg) (Fl Fr : List Nat) (h lo i : Nat) : Prop :=
  ∀ (S' : StB') (L' : List Sg) (F' : List Nat), (∀ j ∈ Fl ++ Fr, S' j = S j) → Sub d S' h lo i L' F' → Sub d S' H lo0 root (A ++ (L' ++ B)) (Fl ++ (F' ++ Fr))
theorem Hole.root (d : Nat) (S : StB') (H lo0 root : Nat) : Hole d S H lo0 root [] [] [] [] H lo0 root := by
  intro S' L' F' _ h
  simpa using h
theorem Hole.keep {d : Nat} {S S2 : StB'} {H lo0 root : Nat} {A B : List Sg} {Fl Fr : List Nat} {h lo i : Nat} (q : Hole d S H lo0 root A B Fl Fr h lo i) (e : ∀ j ∈ Fl ++ Fr, S2 j = S j) : Hole d S2 H lo0 root A B Fl Fr h lo i :=
  fun S' L' F' h1 h2 => q S' L' F' (fun j hj => (h1 j hj).trans (e j hj)) h2
theorem Hole.low {d : Nat} {S : StB'} {H lo0 root : Nat} {A B : List Sg} {Fl Fr : List Nat} {h lo lo' i : Nat} (q : Hole d S H lo0 root A B Fl Fr h lo i) (e : lo ≤ lo') : Hole d S H lo0 root A B Fl Fr h lo' i :=
  fun S' L' F' h1 h2 => q S' L' F' h1 (h2.low e)

/-- A child of a node, and the node with another child there. -/
theorem Sub.hole {d : Nat} {S : StB'} {h lo i : Nat} {L l : List Sg} {ks : List Nat} {F : List Nat} (hs : Sub d S (h + 1) lo i L F) (hl : S i = some (l, ks)) (hr : Srt L) (t : Nat) (ht : t ≤ l.length) :
    ∃ (ht2 : t < ks.length) (P Q L' : List Sg) (F' F1 F2 : List Nat), Sub d S h (d - 1) ks[t] L' F' ∧ L = P ++ (L' ++ Q) ∧ PartB l t P Q ∧ F = (i :: F1) ++ (F' ++ F2) ∧ Hole d S (h + 1) lo i P Q (i :: F1) F2 h (d - 1) ks[t] := by
  obtain ⟨l', cs, h1, h2, h3, h4, h5, h6, h7⟩ := hs
  rw [hl] at h1; cases h1
  have hct : t < cs.length := by omega
  have e1 : cs = cs.take t ++ cs[t] :: cs.drop (t + 1) := by rw [← List.drop_eq_getElem_cons hct, List.take_append_drop]
  have hm := inter_mid (l.take t) (l.drop t) ((cs.take t).map Ch.L) cs[t].L ((cs.drop (t + 1)).map Ch.L) (by simp; omega)
  have hm2 : L = pre (l.take t) ((cs.take t).map Ch.L) ++ (cs[t].L ++ post (l.drop t) ((cs.drop (t + 1)).map Ch.L)) := by
    have e2 := congrArg (List.map Ch.L) e1
    rw [List.map_append, List.map_cons] at e2
    rw [h6, ← hm, List.take_append_drop, ← e2]
  have hlp : ((cs.take t).map Ch.L).length = (l.take t).length := by simp; omega
  have hlq : ((cs.drop (t + 1)).map Ch.L).length = (l.drop t).length := by simp; omega
  have hs1 : Srt (pre (l.take t) ((cs.take t).map Ch.L)) := by rw [hm2] at hr; exact (List.pairwise_append.1 hr).1
  have hs2 : Srt (post (l.drop t) ((cs.drop (t + 1)).map Ch.L)) := by rw [hm2] at hr; exact (List.pairwise_append.1 (List.pairwise_append.1 hr).2.1).2.1
  have hF : F = (i :: ((cs.take t).map Ch.F).flatten) ++ (cs[t].F ++ ((cs.drop (t + 1)).map Ch.F).flatten) := by
    have e2 := congrArg (List.map Ch.F) e1
    rw [List.map_append, List.map_cons] at e2
    rw [h7, e2]
    simp only [List.flatten_append, List.flatten_cons, List.cons_append]
  refine ⟨by simpa using hct, _, _, cs[t].L, cs[t].F, _, _, by simpa using h5 cs[t] (List.getElem_mem hct), hm2, ⟨fun a h => pre_lt _ _ hlp hs1 h, fun b h => post_ge _ _ hs2 h, fun A h => pre_getLast _ _ hlp h A, fun B h => post_head _ _ hlq h B, fun h => ?_, fun h => ?_⟩, hF, ?_⟩
  · rw [h]; simp [pre]
  · rw [h]; simp [post]
  · intro S' L2 G hk hg
    have hi : (cs.map Ch.i)[t]'(by simpa using hct) = cs[t].i := by simp
    rw [hi] at hg
    refine ⟨l, cs.take t ++ ⟨cs[t].i, L2, G⟩ :: cs.drop (t + 1), ?_, h2, h3, ?_, ?_, ?_, ?_⟩
    · rw [hk i (by simp), hl]
      have e2 := congrArg (List.map Ch.i) e1
      rw [List.map_append, List.map_cons] at e2
      rw [e2, List.map_append, List.map_cons]
    · simp; omega
    · intro c hc
      rcases List.mem_append.1 hc with hc | hc
      · exact (h5 c (List.mem_of_mem_take hc)).keep fun j hj => hk j (by
          simp only [List.cons_append, List.mem_cons, List.mem_append, List.mem_flatten, List.mem_map]
          exact .inr (.inl ⟨c.F, ⟨c, hc, rfl⟩, hj⟩))
      · rcases List.mem_cons.1 hc with rfl | hc
        · exact hg
        · exact (h5 c (List.mem_of_mem_drop hc)).keep fun j hj => hk j (by
            simp only [List.cons_append, List.mem_cons, List.mem_append, List.mem_flatten, List.mem_map]
            exact .inr (.inr ⟨c.F, ⟨c, hc, rfl⟩, hj⟩))
    · rw [List.map_append, List.map_cons]
      have := inter_mid (l.take t) (l.drop t) ((cs.take t).map Ch.L) L2 ((cs.drop (t + 1)).map Ch.L) (by simp; omega)
      rw [List.take_append_drop] at this
      exact this.symm
    · simp
/-- A hole below a hole. -/
theorem Hole.down {d : Nat} {S : StB'} {H lo0 root : Nat} {A B P Q : List Sg} {Fl Fr F1 F2 : List Nat} {h lo i h' lo' i' : Nat} (q : Hole d S H lo0 root A B Fl Fr h lo i) (r : Hole d S h lo i P Q F1 F2 h' lo' i') : Hole d S H lo0 root (A ++ P) (Q ++ B) (Fl ++ F1) (F2 ++ Fr) h' lo' i' := by
  intro S' L' F' hk hs
  have h1 := r S' L' F' (fun j hj => hk j (by simp only [List.mem_append] at hj ⊢; rcases hj with hj | hj; exact .inl (.inr hj); exact .inr (.inl hj))) hs
  have h2 := q S' _ _ (fun j hj => hk j (by simp only [List.mem_append] at hj ⊢; rcases hj with hj | hj; exact .inl (.inl hj); exact .inr (.inr hj))) h1
  simpa using h2

/-- A segment in a node's own row is another one: the whole row so too. -/
theorem Sub.swap {d : Nat} {S S' : StB'} {h lo i : Nat} {L l : List Sg} {ks : List Nat} {F : List Nat} (hs : Sub d S h lo i L F) (hl : S i = some (l, ks)) (hn : F.Nodup) {t : Nat} (ht : t < l.length) (s : Sg) (hi : S' i = some (l.set t s, ks)) (hk : ∀ j, j ≠ i → S' j = S j) :
    ∃ P Q : List Sg, L = P ++ l[t] :: Q ∧ Sub d S' h lo i (P ++ s :: Q) F := by
  cases h with
  | zero =>
    obtain ⟨h1, h2, h3, h4⟩ := hs
    rw [hl] at h1; cases h1
    refine ⟨L.take t, L.drop (t + 1), ?_, ?_⟩
    · rw [← List.drop_eq_getElem_cons ht, List.take_append_drop]
    · have e := List.set_eq_take_append_cons_drop (l := L) (i := t) (a := s)
      rw [if_pos ht] at e
      rw [← e]
      exact ⟨hi, h2, by simpa using h3, by simpa using h4⟩
  | succ h =>
    obtain ⟨l', cs, h1, h2, h3, h4, h5, h6, h7⟩ := hs
    rw [hl] at h1; cases h1
    have e1 : l = l.take t ++ l[t] :: l.drop (t + 1) := by rw [← List.drop_eq_getElem_cons ht, List.take_append_drop]
    have e2 : cs.map Ch.L = (cs.map Ch.L).take (t + 1) ++ (cs.map Ch.L).drop (t + 1) := (List.take_append_drop _ _).symm
    have hp1 : ((cs.map Ch.L).take (t + 1)).length = (l.take t).length + 1 := by simp; omega
    have hp2 : ((cs.map Ch.L).drop (t + 1)).length = (l.drop (t + 1)).length + 1 := by simp; omega
    have i1 := inter_seg (l.take t) l[t] (l.drop (t + 1)) _ _ hp1 hp2
    have i2 := inter_seg (l.take t) s (l.drop (t + 1)) _ _ hp1 hp2
    rw [← e1, ← e2] at i1
    have e := List.set_eq_take_append_cons_drop (l := l) (i := t) (a := s)
    rw [if_pos ht] at e
    rw [← e, ← e2] at i2
    refine ⟨_, _, h6.trans i1, l.set t s, cs, hi, by simpa using h2, by simpa using h3, by simpa using h4, fun c hc => (h5 c hc).keep fun j hj => hk j fun e => ?_, i2.symm, h7⟩
    subst e
    rw [h7, List.nodup_cons] at hn
    exact hn.1 (List.mem_flatten.2 ⟨c.F, List.mem_map.2 ⟨c, hc, rfl⟩, hj⟩)
end Go.Proofs.Bo
set_option linter.unusedVariables false
set_option linter.unusedSimpArgs false
namespace Go.Proofs.Bo

/-! Nodes with their children parted at a place: taken apart, put together. -/
def sumL (ps : List (List Sg)) : Nat := (ps.map List.length).sum
theorem post_len : ∀ (l : List Sg) (ps : List (List Sg)), ps.length = l.length → (post l ps).length = l.length + sumL ps
  | [], [], _ => rfl
  | x :: l, p :: ps, h => by
    have := post_len l ps (by simpa using h)
    simp only [post, List.length_cons, List.length_append, this, sumL, List.map_cons, List.sum_cons]
    omega
theorem inter_len (l : List Sg) (ps : List (List Sg)) (h : ps.length = l.length + 1) : (inter l ps).length = l.length + sumL ps := by
  cases ps with
  | nil => simp at h
  | cons p ps =>
    simp only [inter, List.length_append, post_len l ps (by simpa using h), sumL, List.map_cons, List.sum_cons]
    omega
theorem Sub.live {d : Nat} {S : StB'} : ∀ {h lo i : Nat} {L : List Sg} {F : List Nat}, Sub d S h lo i L F → ∀ x ∈ F, S x ≠ none
  | 0, lo, i, L, F, ⟨h1, h2, _⟩, x, hx => by rw [h2] at hx; simp at hx; subst hx; rw [h1]; simp
  | h + 1, lo, i, L, F, ⟨l, cs, h1, h2, h3, h4, h5, h6, h7⟩, x, hx => by
    rw [h7] at hx
    rcases List.mem_cons.1 hx with rfl | hx
    · rw [h1]; simp
    · obtain ⟨G, hG, hx⟩ := List.mem_flatten.1 hx
      obtain ⟨c, hc, rfl⟩ := List.mem_map.1 hG
      exact (h5 c hc).live x hx
theorem flat_le (cs : List Ch) (h : ∀ c ∈ cs, c.F.length ≤ c.L.length) : (cs.map Ch.F).flatten.length ≤ sumL (cs.map Ch.L) := by
  induction cs with
  | nil => simp [sumL]
  | cons c cs ih =>
    have h1 := h c (by simp)
    have h2 := ih fun x hx => h x (by simp [hx])
    simp only [List.map_cons, List.flatten_cons, List.length_append, sumL, List.sum_cons] at h2 ⊢
    omega
/-- There are no more nodes than segments (but for a root without one). -/
theorem Sub.size {d : Nat} (hd : 2 ≤ d) {S : StB'} : ∀ {h lo i : Nat} {L : List Sg} {F : List Nat}, Sub d S h lo i L F → (1 ≤ lo → F.length ≤ L.length) ∧ F.length ≤ L.length + 1
  | 0, lo, i, L, F, ⟨h1, h2, h3, _⟩ => by rw [h2]; exact ⟨fun h => by simp; omega, by simp⟩
  | h + 1, lo, i, L, F, ⟨l, cs, h1, h2, h3, h4, h5, h6, h7⟩ => by
    have q := flat_le cs fun c hc => (Sub.size hd (h5 c hc)).1 (by omega)
    have e := inter_len l (cs.map Ch.L) (by simpa using h4)
    rw [h6, h7, e]
    exact ⟨fun _ => by simp only [List.length_cons]; omega, by simp only [List.length_cons]; omega⟩

/-- A node's child at a place. -/
theorem Sub.one {d : Nat} {S : StB'} {h lo i : Nat} {L l : List Sg} {ks : List Nat} {F : List Nat} (hs : Sub d S (h + 1) lo i L F) (hl : S i = some (l, ks)) (k : Nat) (hk : k ≤ l.length) :
    ∃ (C1 : List Ch) (a : Ch) (C2 : List Ch), ks = C1.map Ch.i ++ a.i :: C2.map Ch.i ∧ C1.length = k ∧ C2.length = l.length - k ∧ (∀ c ∈ C1, Sub d S h (d - 1) c.i c.L c.F) ∧ Sub d S h (d - 1) a.i a.L a.F ∧ (∀ c ∈ C2, Sub d S h (d - 1) c.i c.L c.F) ∧
      L = pre (l.take k) (C1.map Ch.L) ++ (a.L ++ post (l.drop k) (C2.map Ch.L)) ∧ F = i :: ((C1.map Ch.F).flatten ++ (a.F ++ (C2.map Ch.F).flatten)) ∧ lo ≤ l.length ∧ l.length ≤ 2 * d - 1 := by
  obtain ⟨l', cs, h1, h2, h3, h4, h5, h6, h7⟩ := hs
  rw [hl] at h1; cases h1
  have hct : k < cs.length := by omega
  have e1 : cs = cs.take k ++ cs[k] :: cs.drop (k + 1) := by rw [← List.drop_eq_getElem_cons hct, List.take_append_drop]
  refine ⟨cs.take k, cs[k], cs.drop (k + 1), ?_, by simp; omega, by simp; omega, fun c hc => h5 c (List.mem_of_mem_take hc), h5 _ (List.getElem_mem hct), fun c hc => h5 c (List.mem_of_mem_drop hc), ?_, ?_, h2, h3⟩
  · have e2 := congrArg (List.map Ch.i) e1
    rw [List.map_append, List.map_cons] at e2
    exact e2
  · have hm := inter_mid (l.take k) (l.drop k) ((cs.take k).map Ch.L) cs[k].L ((cs.drop (k + 1)).map Ch.L) (by simp; omega)
    have e2 := congrArg (List.map Ch.L) e1
    rw [List.map_append, List.map_cons] at e2
    rw [h6, ← hm, List.take_append_drop, ← e2]
  · have e2 := congrArg (List.map Ch.F) e1
    rw [List.map_append, List.map_cons] at e2
    rw [h7, e2]
    simp only [List.flatten_append, List.flatten_cons]
theorem Sub.mk1 {d : Nat} {S : StB'} {h lo i : Nat} {A B : List Sg} {C1 : List Ch} {a : Ch} {C2 : List Ch} (hl : S i = some (A ++ B, C1.map Ch.i ++ a.i :: C2.map Ch.i)) (hA : C1.length = A.length) (hB : C2.length = B.length)
    (h1 : ∀ c ∈ C1, Sub d S h (d - 1) c.i c.L c.F) (h2 : Sub d S h (d - 1) a.i a.L a.F) (h3 : ∀ c ∈ C2, Sub d S h (d - 1) c.i c.L c.F) (hlo : lo ≤ A.length + B.length) (hhi : A.length + B.length ≤ 2 * d - 1) :
    Sub d S (h + 1) lo i (pre A (C1.map Ch.L) ++ (a.L ++ post B (C2.map Ch.L))) (i :: ((C1.map Ch.F).flatten ++ (a.F ++ (C2.map Ch.F).flatten))) := by
  refine ⟨A ++ B, C1 ++ a :: C2, by rw [hl]; simp, by simpa using hlo, by simpa using hhi, by simp; omega, ?_, ?_, by simp⟩
  · intro c hc
    rcases List.mem_append.1 hc with hc | hc
    · exact h1 c hc
    · rcases List.mem_cons.1 hc with rfl | hc
      · exact h2
      · exact h3 c hc
  · rw [List.map_append, List.map_cons]
    exact (inter_mid A B (C1.map Ch.L) a.L (C2.map Ch.L) (by simpa using hA)).symm
/-- A segment of a node's, and the children on its sides. -/
theorem Sub.two {d : Nat} {S : StB'} {h lo i : Nat} {L l : List Sg} {ks : List Nat} {F : List Nat} (hs : Sub d S (h + 1) lo i L F) (hl : S i = some (l, ks)) (k : Nat) (hk : k < l.length) :
    ∃ (C1 : List Ch) (a b : Ch) (C2 : List Ch), ks = C1.map Ch.i ++ a.i :: b.i :: C2.map Ch.i ∧ C1.length = k ∧ C2.length = l.length - (k + 1) ∧ (∀ c ∈ C1, Sub d S h (d - 1) c.i c.L c.F) ∧ Sub d S h (d - 1) a.i a.L a.F ∧ Sub d S h (d - 1) b.i b.L b.F ∧ (∀ c ∈ C2, Sub d S h (d - 1) c.i c.L c.F) ∧
      L = pre (l.take k) (C1.map Ch.L) ++ (a.L ++ l[k] :: (b.L ++ post (l.drop (k + 1)) (C2.map Ch.L))) ∧ F = i :: ((C1.map Ch.F).flatten ++ (a.F ++ (b.F ++ (C2.map Ch.F).flatten))) ∧ lo ≤ l.length ∧ l.length ≤ 2 * d - 1 := by
  obtain ⟨C1, a, C2, q1, q2, q3, q4, q5, q6, q7, q8, q9, q10⟩ := hs.one hl k (by omega)
  cases C2 with
  | nil => simp at q3; omega
  | cons b C2 =>
    refine ⟨C1, a, b, C2, q1, q2, by simp at q3; omega, q4, q5, q6 b (by simp), fun c hc => q6 c (by simp [hc]), ?_, by simpa using q8, q9, q10⟩
    have e : l.drop k = l[k] :: l.drop (k + 1) := List.drop_eq_getElem_cons hk
    rw [q7, e]
    simp only [List.map_cons, post]
theorem Sub.mk2 {d : Nat} {S : StB'} {h lo i : Nat} {A B : List Sg} {x : Sg} {C1 : List Ch} {a b : Ch} {C2 : List Ch} (hl : S i = some (A ++ x :: B, C1.map Ch.i ++ a.i :: b.i :: C2.map Ch.i)) (hA : C1.length = A.length) (hB : C2.length = B.length)
    (h1 : ∀ c ∈ C1, Sub d S h (d - 1) c.i c.L c.F) (h2 : Sub d S h (d - 1) a.i a.L a.F) (h4 : Sub d S h (d - 1) b.i b.L b.F) (h3 : ∀ c ∈ C2, Sub d S h (d - 1) c.i c.L c.F) (hlo : lo ≤ A.length + B.length + 1) (hhi : A.length + B.length + 1 ≤ 2 * d - 1) :
    Sub d S (h + 1) lo i (pre A (C1.map Ch.L) ++ (a.L ++ x :: (b.L ++ post B (C2.map Ch.L)))) (i :: ((C1.map Ch.F).flatten ++ (a.F ++ (b.F ++ (C2.map Ch.F).flatten)))) := by
  have := Sub.mk1 (S := S) (A := A) (B := x :: B) (C1 := C1) (a := a) (C2 := b :: C2) (lo := lo) (h := h) (d := d) (i := i) (by rw [hl]; rfl) hA (by simp; omega) h1 h2 (fun c hc => by
    rcases List.mem_cons.1 hc with rfl | hc
    · exact h4
    · exact h3 c hc) (by simp; omega) (by simp; omega)
  simpa [post] using this

/-! Two children, alone. -/
/-- A full child is parted. -/
theorem Sub.cut {d : Nat} {S : StB'} {h lo i : Nat} {L l1 l2 : List Sg} {up : Sg} {k1 k2 : List Nat} {F : List Nat} (hs : Sub d S h lo i L F) (hl : S i = some (l1 ++ up :: l2, k1 ++ k2)) (hk : 0 < h → k1.length = l1.length + 1) (hk0 : h = 0 → k1 = []) (h1 : d - 1 ≤ l1.length) (h2 : d - 1 ≤ l2.length) :
    ∃ (La Lb : List Sg) (Fa Fb : List Nat), L = La ++ up :: Lb ∧ F = i :: (Fa ++ Fb) ∧ ∀ (S' : StB') (j : Nat), S' i = some (l1, k1) → S' j = some (l2, k2) → (∀ x ∈ Fa ++ Fb, S' x = S x) → Sub d S' h (d - 1) i La (i :: Fa) ∧ Sub d S' h (d - 1) j Lb (j :: Fb) := by
  cases h with
  | zero =>
    obtain ⟨q1, q2, q3, q4⟩ := hs
    rw [hl] at q1
    have e1 : l1 ++ up :: l2 = L := by injection q1 with q1; exact (Prod.mk.inj q1).1
    have e2 : k1 ++ k2 = [] := by injection q1 with q1; exact (Prod.mk.inj q1).2
    obtain ⟨rfl, rfl⟩ := List.append_eq_nil_iff.1 e2
    subst e1
    simp only [List.length_append, List.length_cons] at q4
    exact ⟨l1, l2, [], [], rfl, by simpa using q2, fun S' j r1 r2 _ => ⟨⟨r1, rfl, h1, by omega⟩, ⟨r2, rfl, h2, by omega⟩⟩⟩
  | succ h =>
    obtain ⟨l, cs, q1, q2, q3, q4, q5, q6, q7⟩ := hs
    rw [hl] at q1
    have e1 : l1 ++ up :: l2 = l := by injection q1 with q1; exact (Prod.mk.inj q1).1
    have e2 : k1 ++ k2 = cs.map Ch.i := by injection q1 with q1; exact (Prod.mk.inj q1).2
    subst e1
    have hk := hk (by omega)
    simp only [List.length_append, List.length_cons] at q4 q3
    have hcs : cs = cs.take k1.length ++ cs.drop k1.length := (List.take_append_drop _ _).symm
    have n1 : (cs.take k1.length).map Ch.i = k1 := by rw [List.map_take, ← e2, List.take_left']; rfl
    have n2 : (cs.drop k1.length).map Ch.i = k2 := by rw [List.map_drop, ← e2, List.drop_left']; rfl
    have hl1 : (cs.take k1.length).length = k1.length := by simp; omega
    have hm := inter_seg l1 up l2 ((cs.take k1.length).map Ch.L) ((cs.drop k1.length).map Ch.L) (by simp; omega) (by simp; omega)
    rw [← List.map_append, ← hcs] at hm
    refine ⟨_, _, ((cs.take k1.length).map Ch.F).flatten, ((cs.drop k1.length).map Ch.F).flatten, q6.trans hm, ?_, fun S' j r1 r2 r3 => ⟨⟨l1, cs.take k1.length, by rw [n1]; exact r1, h1, by omega, by omega, fun c hc => (q5 c (List.mem_of_mem_take hc)).keep fun x hx => r3 x ?_, rfl, rfl⟩, ⟨l2, cs.drop k1.length, by rw [n2]; exact r2, h2, by omega, by simp; omega, fun c hc => (q5 c (List.mem_of_mem_drop hc)).keep fun x hx => r3 x ?_, rfl, rfl⟩⟩⟩
    · rw [q7, ← List.flatten_append, ← List.map_append, ← hcs]
    · exact List.mem_append.2 (.inl (List.mem_flatten.2 ⟨c.F, List.mem_map.2 ⟨c, hc, rfl⟩, hx⟩))
    · exact List.mem_append.2 (.inr (List.mem_flatten.2 ⟨c.F, List.mem_map.2 ⟨c, hc, rfl⟩, hx⟩))
/-- Two children are put together. -/
theorem Sub.glue {d : Nat} {S : StB'} {h lo i j : Nat} {La Lb l1 l2 : List Sg} {x : Sg} {k1 k2 : List Nat} {Fa Fb : List Nat} (ha : Sub d S h lo i La Fa) (hb : Sub d S h lo j Lb Fb) (hi : S i = some (l1, k1)) (hj : S j = some (l2, k2)) {lo' : Nat} (h1 : lo' ≤ l1.length + l2.length + 1) (h2 : l1.length + l2.length + 1 ≤ 2 * d - 1) :
    ∃ (Ga Gb : List Nat), Fa = i :: Ga ∧ Fb = j :: Gb ∧ ∀ (S' : StB'), S' i = some (l1 ++ x :: l2, k1 ++ k2) → (∀ y ∈ Ga ++ Gb, S' y = S y) → Sub d S' h lo' i (La ++ x :: Lb) (i :: (Ga ++ Gb)) := by
  cases h with
  | zero =>
    obtain ⟨q1, q2, q3, q4⟩ := ha
    obtain ⟨r1, r2, r3, r4⟩ := hb
    rw [hi] at q1; cases q1
    rw [hj] at r1; cases r1
    exact ⟨[], [], by simpa using q2, by simpa using r2, fun S' e _ => ⟨by simpa using e, by simp, by simp; omega, by simp; omega⟩⟩
  | succ h =>
    obtain ⟨l, cs, q1, q2, q3, q4, q5, q6, q7⟩ := ha
    obtain ⟨l', cs', r1, r2, r3, r4, r5, r6, r7⟩ := hb
    rw [hi] at q1; cases q1
    rw [hj] at r1; cases r1
    refine ⟨_, _, q7, r7, fun S' e he => ⟨l1 ++ x :: l2, cs ++ cs', by rw [e]; simp, by simp; omega, by simp; omega, by simp; omega, ?_, ?_, by simp⟩⟩
    · intro c hc
      rcases List.mem_append.1 hc with hc | hc
      · exact (q5 c hc).keep fun y hy => he y (List.mem_append.2 (.inl (List.mem_flatten.2 ⟨c.F, List.mem_map.2 ⟨c, hc, rfl⟩, hy⟩)))
      · exact (r5 c hc).keep fun y hy => he y (List.mem_append.2 (.inr (List.mem_flatten.2 ⟨c.F, List.mem_map.2 ⟨c, hc, rfl⟩, hy⟩)))
    · rw [List.map_append, inter_seg l1 x l2 _ _ (by simpa using q4) (by simpa using r4), q6, r6]
end Go.Proofs.Bo
set_option linter.unusedVariables false
set_option linter.unusedSimpArgs false
namespace Go.Proofs.Bo

/-- What a change of nodes is: F's nodes are now F'. -/
structure Chg (S S' : StB') (F F' : List Nat) : Prop where
  out : ∀ x, x ∉ F → x ∉ F' → S' x = S x
  nd : F'.Nodup
  new : ∀ x ∈ F', x ∈ F ∨ S x = none
  old : ∀ x ∈ F, x ∉ F' → S' x = none
/-- All nodes of a tree. -/
def Alls (S : StB') (F : List Nat) : Prop := F.Nodup ∧ ∀ i, i ∈ F ↔ S i ≠ none
theorem Chg.all {S S' : StB'} {F F' Fl Fr : List Nat} (h : Chg S S' F F') (hA : Alls S (Fl ++ (F ++ Fr))) (hl : ∀ x ∈ F', S' x ≠ none) : Alls S' (Fl ++ (F' ++ Fr)) ∧ ∀ x ∈ Fl ++ Fr, S' x = S x := by
  obtain ⟨h1, h2⟩ := hA
  have n1 := List.nodup_append.1 h1
  have n2 := List.nodup_append.1 n1.2.1
  have key : ∀ x, x ∈ Fl ++ Fr → x ∉ F ∧ x ∉ F' := by
    intro x hx
    have hxF : x ∉ F := fun e => by
      rcases List.mem_append.1 hx with hx | hx
      · exact n1.2.2 x hx x (by simp [e]) rfl
      · exact n2.2.2 x e x hx rfl
    refine ⟨hxF, fun e => ?_⟩
    rcases h.new x e with e2 | e2
    · exact hxF e2
    · exact (h2 x).1 (by rcases List.mem_append.1 hx with hx | hx <;> simp [hx]) e2
  have keep : ∀ x ∈ Fl ++ Fr, S' x = S x := fun x hx => h.out x (key x hx).1 (key x hx).2
  refine ⟨⟨?_, fun i => ?_⟩, keep⟩
  · rw [List.nodup_append]
    refine ⟨n1.1, List.nodup_append.2 ⟨h.nd, n2.2.1, ?_⟩, ?_⟩
    · rintro a ha b hb rfl; exact (key a (by simp [hb])).2 ha
    · rintro a ha b hb rfl
      rcases List.mem_append.1 hb with hb | hb
      · exact (key a (by simp [ha])).2 hb
      · exact n1.2.2 a ha a (by simp [hb]) rfl
  · constructor
    · intro hi
      simp only [List.mem_append] at hi
      rcases hi with hi | hi | hi
      · rw [keep i (by simp [hi])]; exact (h2 i).1 (by simp [hi])
      · exact hl i hi
      · rw [keep i (by simp [hi])]; exact (h2 i).1 (by simp [hi])
    · intro hi
      by_cases hF' : i ∈ F'
      · simp [hF']
      · by_cases hF : i ∈ F
        · exact absurd (h.old i hF hF') hi
        · rw [h.out i hF hF'] at hi
          have := (h2 i).2 hi
          simp only [List.mem_append] at this ⊢
          rcases this with q | q | q
          · exact .inl q
          · exact absurd q hF
          · exact .inr (.inr q)
theorem Alls.nil {S : StB'} {F : List Nat} (h : Alls S F) : Alls S ([] ++ (F ++ [])) := by simpa using h
theorem Alls.of_nil {S : StB'} {F : List Nat} (h : Alls S ([] ++ (F ++ []))) : Alls S F := by simpa using h

theorem take_mid {C1 C2 : List Nat} {x : Nat} {k : Nat} (h : C1.length = k) : (C1 ++ x :: C2).take (k + 1) = C1 ++ [x] ∧ (C1 ++ x :: C2).drop (k + 1) = C2 ∧ (C1 ++ x :: C2)[k]? = some x := by
  subst h
  refine ⟨?_, ?_, by simp⟩
  · rw [List.take_append]; simp [List.take_of_length_le]
  · rw [List.drop_append]; simp [List.drop_of_length_le]

/-- A full child is split. -/
theorem Sub.split {d : Nat} {S : StB'} {g lo i : Nat} {L l : List Sg} {ks : List Nat} {F : List Nat} (hs : Sub d S (g + 1) lo i L F) (hi : S i = some (l, ks)) (hnd : F.Nodup) {k : Nat} (hk : k ≤ l.length) {kid j : Nat} (hkid : ks[k]? = some kid) {l1 l2 : List Sg} {up : Sg} {k1 k2 : List Nat}
    (hkl : S kid = some (l1 ++ up :: l2, k1 ++ k2)) (hk1 : 0 < g → k1.length = l1.length + 1) (hk0 : g = 0 → k1 = []) (h1 : d - 1 ≤ l1.length) (h2 : d - 1 ≤ l2.length) (hj : S j = none) (hlen : l.length + 1 ≤ 2 * d - 1) {S' : StB'}
    (e1 : S' kid = some (l1, k1)) (e2 : S' j = some (l2, k2)) (e3 : S' i = some (l.take k ++ up :: l.drop k, ks.take (k + 1) ++ j :: ks.drop (k + 1))) (e4 : ∀ x, x ≠ kid → x ≠ j → x ≠ i → S' x = S x) :
    ∃ F', Sub d S' (g + 1) (lo + 1) i L F' ∧ Chg S S' F F' := by
  obtain ⟨C1, a, C2, q1, q2, q3, q4, q5, q6, q7, q8, q9, q10⟩ := hs.one hi k hk
  obtain ⟨t1, t2, t3⟩ := take_mid (C1 := C1.map Ch.i) (C2 := C2.map Ch.i) (x := a.i) (k := k) (by simpa using q2)
  rw [q1, t3] at hkid
  obtain rfl : a.i = kid := by injection hkid
  obtain ⟨La, Lb, Fa, Fb, r1, r2, r3⟩ := q5.cut hkl hk1 hk0 h1 h2
  have hji : ∀ x ∈ F, x ≠ j := fun x hx e => by subst e; exact hs.live x hx hj
  have hnd' := hnd
  rw [q8, r2] at hnd
  have nd0 := List.nodup_cons.1 hnd
  have nd1 := List.nodup_append.1 nd0.2
  have nd2 := List.nodup_append.1 nd1.2.1
  have nd3 := List.nodup_cons.1 nd2.1
  have nd4 := List.nodup_append.1 nd3.2
  have m0 : ∀ x ∈ (C1.map Ch.F).flatten ++ (C2.map Ch.F).flatten, S' x = S x := by
    intro x hx
    refine e4 x (fun e => ?_) (hji x (by rw [q8]; rcases List.mem_append.1 hx with hx | hx <;> simp only [List.mem_cons, List.mem_append] <;> simp [hx])) (fun e => ?_)
    · subst e
      rcases List.mem_append.1 hx with hx | hx
      · exact nd1.2.2 _ hx a.i (by simp) rfl
      · exact nd2.2.2 a.i (by simp) _ hx rfl
    · subst e
      refine nd0.1 ?_
      rcases List.mem_append.1 hx with hx | hx <;> simp only [List.mem_append] <;> simp [hx]
  have m1 : ∀ x ∈ Fa ++ Fb, S' x = S x := by
    intro x hx
    refine e4 x (fun e => ?_) (hji x (by rw [q8, r2]; simp only [List.mem_cons, List.mem_append] at hx ⊢; rcases hx with hx | hx <;> simp [hx])) (fun e => ?_)
    · subst e; exact nd3.1 hx
    · subst e
      refine nd0.1 ?_
      simp only [List.mem_append, List.mem_cons] at hx ⊢
      rcases hx with hx | hx <;> simp [hx]
  obtain ⟨s1, s2⟩ := r3 S' j e1 e2 m1
  have M := Sub.mk2 (S := S') (d := d) (h := g) (lo := lo + 1) (i := i) (A := l.take k) (B := l.drop k) (x := up) (C1 := C1) (C2 := C2) (a := ⟨a.i, La, a.i :: Fa⟩) (b := ⟨j, Lb, j :: Fb⟩) (by
      rw [e3, q1, t1, t2]; simp) (by simp; omega) (by simp; omega)
    (fun c hc => (q4 c hc).keep fun x hx => m0 x (List.mem_append.2 (.inl (List.mem_flatten.2 ⟨c.F, List.mem_map.2 ⟨c, hc, rfl⟩, hx⟩)))) s1 s2
    (fun c hc => (q6 c hc).keep fun x hx => m0 x (List.mem_append.2 (.inr (List.mem_flatten.2 ⟨c.F, List.mem_map.2 ⟨c, hc, rfl⟩, hx⟩))))
    (by simp; omega) (by simp; omega)
  have hp : (i :: ((C1.map Ch.F).flatten ++ ((a.i :: Fa) ++ ((j :: Fb) ++ (C2.map Ch.F).flatten)))).Perm (j :: F) := by
    rw [q8, r2]
    refine List.perm_iff_count.2 fun x => ?_
    simp only [List.count_cons, List.count_append]
    omega
  refine ⟨i :: ((C1.map Ch.F).flatten ++ ((a.i :: Fa) ++ ((j :: Fb) ++ (C2.map Ch.F).flatten))), ?_, ⟨fun x hx hx' => ?_, ?_, fun x hx => ?_, fun x hx hx' => absurd (hp.mem_iff.2 (by simp [hx])) hx'⟩⟩
  · rw [q7, r1]
    simpa using M
  · have hxj : x ≠ j := fun e => hx' (hp.mem_iff.2 (by simp [e]))
    exact e4 x (fun e => hx (by rw [q8, r2, e]; simp)) hxj (fun e => hx (by rw [e]; exact hs.mem))
  · exact hp.nodup_iff.2 (List.nodup_cons.2 ⟨fun e => hji j e rfl, hnd'⟩)
  · rcases List.mem_cons.1 (hp.mem_iff.1 hx) with rfl | hx
    · exact .inr hj
    · exact .inl hx
end Go.Proofs.Bo
set_option linter.unusedVariables false
set_option linter.unusedSimpArgs false
namespace Go.Proofs.Bo

/-! A segment goes from one child by the node to the next one; two children are put together. -/
theorem Sub.lens {d : Nat} {S : StB'} {h lo i : Nat} {L l : List Sg} {ks : List Nat} {F : List Nat} (hs : Sub d S h lo i L F) (hl : S i = some (l, ks)) : lo ≤ l.length ∧ l.length ≤ 2 * d - 1 ∧ (h = 0 → ks = []) ∧ (0 < h → ks.length = l.length + 1) := by
  cases h with
  | zero =>
    obtain ⟨q1, q2, q3, q4⟩ := hs
    rw [hl] at q1; cases q1
    exact ⟨q3, q4, fun _ => rfl, fun h => by omega⟩
  | succ h =>
    obtain ⟨l', cs, h1, h2, h3, h4, _⟩ := hs
    rw [hl] at h1; cases h1
    exact ⟨h2, h3, fun h => by omega, fun _ => by simpa using h4⟩

/-- The last child (if any) of the left one goes over, and its segment. -/
theorem Sub.giveR {d : Nat} {S : StB'} {h lo i j : Nat} {La Lb la lb : List Sg} {x y : Sg} {ka kq kb : List Nat} {Fa Fb : List Nat} (ha : Sub d S h lo i La Fa) (hb : Sub d S h lo j Lb Fb) (hi : S i = some (la ++ [y], ka ++ kq)) (hj : S j = some (lb, kb))
    (h0 : h = 0 → kq = []) (h1 : 0 < h → kq.length = 1) (ea : d - 1 ≤ la.length) (eb : lb.length + 1 ≤ 2 * d - 1) (ebl : d - 1 ≤ lb.length + 1) :
    ∃ (La' Lb' : List Sg) (Fa' Fb' : List Nat), La ++ x :: Lb = La' ++ y :: Lb' ∧ y ∈ La ∧ (i :: Fa' ++ j :: Fb').Perm (Fa ++ Fb) ∧ ∀ (S' : StB'), S' i = some (la, ka) → S' j = some (x :: lb, kq ++ kb) → (∀ z, z ≠ i → z ≠ j → z ∈ Fa ++ Fb → S' z = S z) → i ∉ Fa' → j ∉ Fa' → i ∉ Fb' → j ∉ Fb' → Sub d S' h (d - 1) i La' (i :: Fa') ∧ Sub d S' h (d - 1) j Lb' (j :: Fb') := by
  cases h with
  | zero =>
    obtain rfl := h0 rfl
    obtain ⟨q1, q2, q3, q4⟩ := ha
    obtain ⟨r1, r2, r3, r4⟩ := hb
    rw [hi] at q1
    have e1 : la ++ [y] = La := by injection q1 with q1; exact (Prod.mk.inj q1).1
    have e2 : ka ++ [] = [] := by injection q1 with q1; exact (Prod.mk.inj q1).2
    rw [hj] at r1; cases r1
    simp at e2
    subst e1 e2
    simp only [List.length_append, List.length_cons, List.length_nil] at q4
    refine ⟨la, x :: Lb, [], [], by simp, by simp, by rw [q2, r2], fun S' s1 s2 _ _ _ _ _ => ⟨⟨s1, rfl, ea, by omega⟩, ⟨by simpa using s2, rfl, by simpa using ebl, by simpa using eb⟩⟩⟩
  | succ h =>
    have h1 := h1 (by omega)
    obtain ⟨q, rfl⟩ : ∃ q, kq = [q] := by
      match kq, h1 with
      | [q], _ => exact ⟨q, rfl⟩
    obtain ⟨l, cs, q1, q2, q3, q4, q5, q6, q7⟩ := ha
    obtain ⟨l', cs', r1, r2, r3, r4, r5, r6, r7⟩ := hb
    rw [hi] at q1
    have e1 : la ++ [y] = l := by injection q1 with q1; exact (Prod.mk.inj q1).1
    have e2 : ka ++ [q] = cs.map Ch.i := by injection q1 with q1; exact (Prod.mk.inj q1).2
    rw [hj] at r1
    have e3 : lb = l' := by injection r1 with r1; exact (Prod.mk.inj r1).1
    have e4 : kb = cs'.map Ch.i := by injection r1 with r1; exact (Prod.mk.inj r1).2
    subst e1 e3 e4
    obtain ⟨cs0, c, rfl⟩ : ∃ cs0 c, cs = cs0 ++ [c] := by
      rcases List.eq_nil_or_concat cs with rfl | ⟨cs0, c, rfl⟩
      · simp at q4
      · exact ⟨cs0, c, by simp⟩
    simp only [List.map_append, List.map_cons, List.map_nil] at e2
    obtain ⟨rfl, e5⟩ := List.append_inj' e2 rfl
    obtain rfl : q = c.i := by simpa using e5
    simp only [List.length_append, List.length_cons, List.length_nil] at q3 q4
    have hm := inter_seg la y [] (cs0.map Ch.L) [c.L] (by simp; omega) rfl
    have hm2 : inter (x :: lb) (c.L :: cs'.map Ch.L) = c.L ++ x :: inter lb (cs'.map Ch.L) := inter_cons _ _ _ _ (by simp; omega)
    have hone : inter [] [c.L] = c.L := by simp [inter, post]
    rw [hone] at hm
    refine ⟨inter la (cs0.map Ch.L), c.L ++ x :: inter lb (cs'.map Ch.L), (cs0.map Ch.F).flatten, c.F ++ (cs'.map Ch.F).flatten, ?_, ?_, ?_, fun S' s1 s2 s3 n1 n2 n3 n4 => ⟨⟨la, cs0, s1, ea, by omega, by omega, fun u hu => (q5 u (by simp [hu])).keep fun z hz => ?_, rfl, rfl⟩, ⟨x :: lb, c :: cs', by simpa using s2, by simpa using ebl, by simpa using eb, by simp; omega, fun u hu => ?_, hm2.symm, by simp⟩⟩⟩
    · rw [q6, r6, List.map_append, List.map_cons, List.map_nil, hm]; simp
    · rw [q6, List.map_append, List.map_cons, List.map_nil, hm]; simp
    · rw [q7, r7]
      refine List.perm_iff_count.2 fun z => ?_
      simp only [List.count_cons, List.count_append, List.map_append, List.map_cons, List.map_nil, List.flatten_append, List.flatten_cons, List.flatten_nil, List.append_nil]
      omega
    · have hm3 : z ∈ (cs0.map Ch.F).flatten := List.mem_flatten.2 ⟨u.F, List.mem_map.2 ⟨u, hu, rfl⟩, hz⟩
      exact s3 z (fun e => n1 (e ▸ hm3)) (fun e => n2 (e ▸ hm3)) (by rw [q7]; simp only [List.map_append, List.flatten_append, List.mem_append, List.mem_cons]; exact .inl (.inr (.inl hm3)))
    · have key : ∀ z ∈ u.F, z ∈ c.F ++ (cs'.map Ch.F).flatten := fun z hz => by
        rcases List.mem_cons.1 hu with rfl | hu
        · simp [hz]
        · exact List.mem_append.2 (.inr (List.mem_flatten.2 ⟨u.F, List.mem_map.2 ⟨u, hu, rfl⟩, hz⟩))
      have hsub : Sub d S h (d - 1) u.i u.L u.F := by
        rcases List.mem_cons.1 hu with rfl | hu
        · exact q5 _ (by simp)
        · exact r5 u hu
      refine hsub.keep fun z hz => s3 z (fun e => n3 (e ▸ key z hz)) (fun e => n4 (e ▸ key z hz)) ?_
      have := key z hz
      rw [q7, r7]
      simp only [List.map_append, List.map_cons, List.map_nil, List.flatten_append, List.flatten_cons, List.flatten_nil, List.append_nil, List.mem_append, List.mem_cons] at this ⊢
      rcases this with q | q
      · exact .inl (.inr (.inr q))
      · exact .inr (.inr q)

/-- The first child (if any) of the right one goes over, and its segment. -/
theorem Sub.giveL {d : Nat} {S : StB'} {h lo i j : Nat} {La Lb la lb : List Sg} {x y : Sg} {ka kq kb : List Nat} {Fa Fb : List Nat} (ha : Sub d S h lo i La Fa) (hb : Sub d S h lo j Lb Fb) (hi : S i = some (la, ka)) (hj : S j = some (y :: lb, kq ++ kb))
    (h0 : h = 0 → kq = []) (h1 : 0 < h → kq.length = 1) (ea : la.length + 1 ≤ 2 * d - 1) (eal : d - 1 ≤ la.length + 1) (eb : d - 1 ≤ lb.length) :
    ∃ (La' Lb' : List Sg) (Fa' Fb' : List Nat), La ++ x :: Lb = La' ++ y :: Lb' ∧ y ∈ Lb ∧ (i :: Fa' ++ j :: Fb').Perm (Fa ++ Fb) ∧ ∀ (S' : StB'), S' i = some (la ++ [x], ka ++ kq) → S' j = some (lb, kb) → (∀ z, z ≠ i → z ≠ j → z ∈ Fa ++ Fb → S' z = S z) → i ∉ Fa' → j ∉ Fa' → i ∉ Fb' → j ∉ Fb' → Sub d S' h (d - 1) i La' (i :: Fa') ∧ Sub d S' h (d - 1) j Lb' (j :: Fb') := by
  cases h with
  | zero =>
    obtain rfl := h0 rfl
    obtain ⟨q1, q2, q3, q4⟩ := ha
    obtain ⟨r1, r2, r3, r4⟩ := hb
    rw [hj] at r1
    have e1 : y :: lb = Lb := by injection r1 with r1; exact (Prod.mk.inj r1).1
    have e2 : [] ++ kb = [] := by injection r1 with r1; exact (Prod.mk.inj r1).2
    rw [hi] at q1; cases q1
    simp at e2
    subst e1 e2
    simp only [List.length_cons] at r4
    refine ⟨La ++ [x], lb, [], [], by simp, by simp, by rw [q2, r2], fun S' s1 s2 _ _ _ _ _ => ⟨⟨by simpa using s1, rfl, by simpa using eal, by simpa using ea⟩, ⟨s2, rfl, eb, by omega⟩⟩⟩
  | succ h =>
    have h1 := h1 (by omega)
    obtain ⟨q, rfl⟩ : ∃ q, kq = [q] := by
      match kq, h1 with
      | [q], _ => exact ⟨q, rfl⟩
    obtain ⟨l, cs, q1, q2, q3, q4, q5, q6, q7⟩ := ha
    obtain ⟨l', cs', r1, r2, r3, r4, r5, r6, r7⟩ := hb
    rw [hj] at r1
    have e1 : y :: lb = l' := by injection r1 with r1; exact (Prod.mk.inj r1).1
    have e2 : q :: kb = cs'.map Ch.i := by injection r1 with r1; exact (Prod.mk.inj r1).2
    rw [hi] at q1
    have e3 : la = l := by injection q1 with q1; exact (Prod.mk.inj q1).1
    have e4 : ka = cs.map Ch.i := by injection q1 with q1; exact (Prod.mk.inj q1).2
    subst e1 e3 e4
    cases cs' with
    | nil => simp at r4
    | cons c cs' =>
      simp only [List.map_cons, List.cons.injEq] at e2
      obtain ⟨rfl, rfl⟩ := e2
      simp only [List.length_cons] at r3 r4
      have hm := inter_cons y lb c.L (cs'.map Ch.L) (by simp; omega)
      have hm2 := inter_seg la x [] (cs.map Ch.L) [c.L] (by simp; omega) rfl
      have hone : inter [] [c.L] = c.L := by simp [inter, post]
      rw [hone] at hm2
      refine ⟨inter la (cs.map Ch.L) ++ x :: c.L, inter lb (cs'.map Ch.L), (cs.map Ch.F).flatten ++ c.F, (cs'.map Ch.F).flatten, ?_, ?_, ?_, fun S' s1 s2 s3 n1 n2 n3 n4 => ⟨⟨la ++ [x], cs ++ [c], by simpa using s1, by simpa using eal, by simpa using ea, by simp; omega, fun u hu => ?_, by rw [List.map_append, List.map_cons, List.map_nil]; exact hm2.symm, by simp⟩, ⟨lb, cs', s2, eb, by omega, by omega, fun u hu => (r5 u (by simp [hu])).keep fun z hz => ?_, rfl, rfl⟩⟩⟩
      · rw [q6, r6, List.map_cons, hm]; simp
      · rw [r6, List.map_cons, hm]; simp
      · rw [q7, r7]
        refine List.perm_iff_count.2 fun z => ?_
        simp only [List.count_cons, List.count_append, List.map_append, List.map_cons, List.map_nil, List.flatten_append, List.flatten_cons, List.flatten_nil, List.append_nil]
        omega
      · have key : ∀ z ∈ u.F, z ∈ (cs.map Ch.F).flatten ++ c.F := fun z hz => by
          rcases List.mem_append.1 hu with hu | hu
          · exact List.mem_append.2 (.inl (List.mem_flatten.2 ⟨u.F, List.mem_map.2 ⟨u, hu, rfl⟩, hz⟩))
          · simp at hu; subst hu; simp [hz]
        have hsub : Sub d S h (d - 1) u.i u.L u.F := by
          rcases List.mem_append.1 hu with hu | hu
          · exact q5 u hu
          · simp at hu; subst hu; exact r5 _ (by simp)
        refine hsub.keep fun z hz => s3 z (fun e => n1 (e ▸ key z hz)) (fun e => n2 (e ▸ key z hz)) ?_
        have := key z hz
        rw [q7, r7]
        simp only [List.map_append, List.map_cons, List.map_nil, List.flatten_append, List.flatten_cons, List.flatten_nil, List.append_nil, List.mem_append, List.mem_cons] at this ⊢
        rcases this with q | q
        · exact .inl (.inr q)
        · exact .inr (.inr (.inl q))
      · have hm3 : z ∈ (cs'.map Ch.F).flatten := List.mem_flatten.2 ⟨u.F, List.mem_map.2 ⟨u, hu, rfl⟩, hz⟩
        exact s3 z (fun e => n3 (e ▸ hm3)) (fun e => n4 (e ▸ hm3)) (by rw [r7]; simp only [List.map_cons, List.flatten_cons, List.mem_append, List.mem_cons]; exact .inr (.inr (.inr hm3)))
end Go.Proofs.Bo
set_option linter.unusedVariables false
set_option linter.unusedSimpArgs false
namespace Go.Proofs.Bo

theorem Sub.moveR {d : Nat} {S S' : StB'} {g lo i k f t : Nat} {L l la lb : List Sg} {y : Sg} {ks ka kq kb F : List Nat} (hs : Sub d S (g + 1) lo i L F) (hi : S i = some (l, ks)) (hnd : F.Nodup) (hk : k < l.length) (hf0 : ks[k]? = some f) (ht0 : ks[k + 1]? = some t) (hf : S f = some (la ++ [y], ka ++ kq)) (ht : S t = some (lb, kb))
    (h0 : g = 0 → kq = []) (h1 : 0 < g → kq.length = 1) (ea : d - 1 ≤ la.length) (eb : lb.length + 1 ≤ 2 * d - 1) (eb2 : d - 1 ≤ lb.length + 1) (e1 : S' i = some (l.set k y, ks)) (e2 : S' f = some (la, ka)) (e3 : S' t = some (l[k] :: lb, kq ++ kb)) (e4 : ∀ x, x ≠ i → x ≠ f → x ≠ t → S' x = S x) :
    ∃ F', Sub d S' (g + 1) lo i L F' ∧ Chg S S' F F' ∧ (Srt L → ky y < ky l[k]) := by
  obtain ⟨C1, a, b, C2, q1, q2, q3, q4, q5, q6, q7, q8, q9, q10, q11⟩ := hs.two hi k hk
  have hka : ks[k]? = some a.i := by rw [q1, List.getElem?_append_right (by simp; omega)]; simp [q2]
  have hkb : ks[k + 1]? = some b.i := by rw [q1, List.getElem?_append_right (by simp; omega)]; simp [q2]
  rw [hka] at hf0
  rw [hkb] at ht0
  obtain rfl : a.i = f := by injection hf0
  obtain rfl : b.i = t := by injection ht0
  have hsub : ∀ z ∈ a.F ++ b.F, z ∈ F := fun z hz => by
    rw [q9]; simp only [List.mem_cons, List.mem_append] at hz ⊢
    rcases hz with h | h
    · exact .inr (.inr (.inl h))
    · exact .inr (.inr (.inr (.inl h)))
  have haF := hsub _ (List.mem_append.2 (.inl q5.mem))
  have hbF := hsub _ (List.mem_append.2 (.inr q6.mem))
  have hiF := hs.mem
  have nd := hnd
  rw [q9] at nd
  have nd0 := List.nodup_cons.1 nd
  have hni : ∀ z ∈ a.F ++ b.F, z ≠ i := fun z hz e => by
    subst e
    refine nd0.1 ?_
    simp only [List.mem_append] at hz ⊢
    rcases hz with h | h
    · exact .inr (.inl h)
    · exact .inr (.inr (.inl h))
  obtain ⟨La', Lb', Fa', Fb', r1, r2, r3, r4⟩ := q5.giveR q6 (x := l[k]) hf ht h0 h1 ea eb eb2
  have hp : (i :: ((C1.map Ch.F).flatten ++ ((a.i :: Fa') ++ ((b.i :: Fb') ++ (C2.map Ch.F).flatten)))).Perm F := by
    rw [q9]
    refine List.Perm.cons _ (List.Perm.append_left _ ?_)
    rw [← List.append_assoc, ← List.append_assoc]
    exact List.Perm.append_right _ r3
  have nd' := hp.nodup_iff.2 hnd
  have n1 := (List.nodup_append.1 (List.nodup_cons.1 nd').2).2.1
  have n2 := List.nodup_append.1 n1
  have n3 := List.nodup_cons.1 n2.1
  have n4 := List.nodup_cons.1 (List.nodup_append.1 n2.2.1).1
  have keep : ∀ z, z ≠ a.i → z ≠ b.i → z ∈ a.F ++ b.F → S' z = S z := fun z h1 h2 h3 => e4 z (hni z h3) h1 h2
  obtain ⟨s1, s2⟩ := r4 S' e2 e3 keep n3.1 (fun h => n2.2.2 b.i (by simp [h]) b.i (by simp) rfl) (fun h => n2.2.2 a.i (by simp) a.i (by simp [h]) rfl) n4.1
  have m0 : ∀ c, (c ∈ C1 ∨ c ∈ C2) → ∀ z ∈ c.F, S' z = S z := by
    intro c hc z hz
    have hz2 : z ∈ (C1.map Ch.F).flatten ∨ z ∈ (C2.map Ch.F).flatten := hc.imp (fun h => List.mem_flatten.2 ⟨c.F, List.mem_map.2 ⟨c, h, rfl⟩, hz⟩) fun h => List.mem_flatten.2 ⟨c.F, List.mem_map.2 ⟨c, h, rfl⟩, hz⟩
    have k1 := List.nodup_append.1 nd0.2
    have k2 := List.nodup_append.1 k1.2.1
    have k3 := List.nodup_append.1 k2.2.1
    refine e4 z (fun e => ?_) (fun e => ?_) (fun e => ?_)
    · subst e
      exact nd0.1 (by simp only [List.mem_append]; rcases hz2 with h | h; exact .inl h; exact .inr (.inr (.inr h)))
    · subst e
      rcases hz2 with h | h
      · exact k1.2.2 _ h a.i (by simp [q5.mem]) rfl
      · exact k2.2.2 a.i q5.mem _ (by simp [h]) rfl
    · subst e
      rcases hz2 with h | h
      · exact k1.2.2 _ h b.i (by simp [q6.mem]) rfl
      · exact k3.2.2 b.i q6.mem _ h rfl
  have M := Sub.mk2 (S := S') (d := d) (h := g) (lo := lo) (i := i) (A := l.take k) (B := l.drop (k + 1)) (x := y) (C1 := C1) (C2 := C2) (a := ⟨a.i, La', a.i :: Fa'⟩) (b := ⟨b.i, Lb', b.i :: Fb'⟩) (by
      have e := List.set_eq_take_append_cons_drop (l := l) (i := k) (a := y)
      rw [if_pos hk] at e
      rw [e1, q1, e]) (by simp; omega) (by simp; omega)
    (fun c hc => (q4 c hc).keep fun x hx => m0 c (.inl hc) x hx) s1 s2 (fun c hc => (q7 c hc).keep fun x hx => m0 c (.inr hc) x hx) (by simp; omega) (by simp; omega)
  refine ⟨_, ?_, ⟨fun x hx _ => e4 x (fun e => hx (e ▸ hiF)) (fun e => hx (e ▸ haF)) (fun e => hx (e ▸ hbF)), nd', fun x hx => .inl (hp.mem_iff.1 hx), fun x hx hx' => absurd (hp.mem_iff.2 hx) hx'⟩, ?_⟩
  · have e : L = pre (l.take k) (C1.map Ch.L) ++ (La' ++ y :: (Lb' ++ post (l.drop (k + 1)) (C2.map Ch.L))) := by
      have := congrArg (fun u => pre (l.take k) (C1.map Ch.L) ++ (u ++ post (l.drop (k + 1)) (C2.map Ch.L))) r1
      simp only [List.append_assoc, List.cons_append] at this
      rw [q8, this]
    rw [e]
    exact M
  · intro hsr
    rw [q8] at hsr
    have h1 := (List.pairwise_append.1 hsr).2.1
    exact (List.pairwise_append.1 h1).2.2 y r2 l[k] (by simp)

theorem Sub.moveL {d : Nat} {S S' : StB'} {g lo i k f t : Nat} {L l la lb : List Sg} {y : Sg} {ks ka kq kb F : List Nat} (hs : Sub d S (g + 1) lo i L F) (hi : S i = some (l, ks)) (hnd : F.Nodup) (hk : k < l.length) (hf0 : ks[k]? = some f) (ht0 : ks[k + 1]? = some t) (hf : S f = some (la, ka)) (ht : S t = some (y :: lb, kq ++ kb))
    (h0 : g = 0 → kq = []) (h1 : 0 < g → kq.length = 1) (ea : la.length + 1 ≤ 2 * d - 1) (eb : d - 1 ≤ la.length + 1) (eb2 : d - 1 ≤ lb.length) (e1 : S' i = some (l.set k y, ks)) (e2 : S' f = some (la ++ [l[k]], ka ++ kq)) (e3 : S' t = some (lb, kb)) (e4 : ∀ x, x ≠ i → x ≠ f → x ≠ t → S' x = S x) :
    ∃ F', Sub d S' (g + 1) lo i L F' ∧ Chg S S' F F' ∧ (Srt L → ky l[k] < ky y) := by
  obtain ⟨C1, a, b, C2, q1, q2, q3, q4, q5, q6, q7, q8, q9, q10, q11⟩ := hs.two hi k hk
  have hka : ks[k]? = some a.i := by rw [q1, List.getElem?_append_right (by simp; omega)]; simp [q2]
  have hkb : ks[k + 1]? = some b.i := by rw [q1, List.getElem?_append_right (by simp; omega)]; simp [q2]
  rw [hka] at hf0
  rw [hkb] at ht0
  obtain rfl : a.i = f := by injection hf0
  obtain rfl : b.i = t := by injection ht0
  have hsub : ∀ z ∈ a.F ++ b.F, z ∈ F := fun z hz => by
    rw [q9]; simp only [List.mem_cons, List.mem_append] at hz ⊢
    rcases hz with h | h
    · exact .inr (.inr (.inl h))
    · exact .inr (.inr (.inr (.inl h)))
  have haF := hsub _ (List.mem_append.2 (.inl q5.mem))
  have hbF := hsub _ (List.mem_append.2 (.inr q6.mem))
  have hiF := hs.mem
  have nd := hnd
  rw [q9] at nd
  have nd0 := List.nodup_cons.1 nd
  have hni : ∀ z ∈ a.F ++ b.F, z ≠ i := fun z hz e => by
    subst e
    refine nd0.1 ?_
    simp only [List.mem_append] at hz ⊢
    rcases hz with h | h
    · exact .inr (.inl h)
    · exact .inr (.inr (.inl h))
  obtain ⟨La', Lb', Fa', Fb', r1, r2, r3, r4⟩ := q5.giveL q6 (x := l[k]) hf ht h0 h1 ea eb eb2
  have hp : (i :: ((C1.map Ch.F).flatten ++ ((a.i :: Fa') ++ ((b.i :: Fb') ++ (C2.map Ch.F).flatten)))).Perm F := by
    rw [q9]
    refine List.Perm.cons _ (List.Perm.append_left _ ?_)
    rw [← List.append_assoc, ← List.append_assoc]
    exact List.Perm.append_right _ r3
  have nd' := hp.nodup_iff.2 hnd
  have n1 := (List.nodup_append.1 (List.nodup_cons.1 nd').2).2.1
  have n2 := List.nodup_append.1 n1
  have n3 := List.nodup_cons.1 n2.1
  have n4 := List.nodup_cons.1 (List.nodup_append.1 n2.2.1).1
  have keep : ∀ z, z ≠ a.i → z ≠ b.i → z ∈ a.F ++ b.F → S' z = S z := fun z h1 h2 h3 => e4 z (hni z h3) h1 h2
  obtain ⟨s1, s2⟩ := r4 S' e2 e3 keep n3.1 (fun h => n2.2.2 b.i (by simp [h]) b.i (by simp) rfl) (fun h => n2.2.2 a.i (by simp) a.i (by simp [h]) rfl) n4.1
  have m0 : ∀ c, (c ∈ C1 ∨ c ∈ C2) → ∀ z ∈ c.F, S' z = S z := by
    intro c hc z hz
    have hz2 : z ∈ (C1.map Ch.F).flatten ∨ z ∈ (C2.map Ch.F).flatten := hc.imp (fun h => List.mem_flatten.2 ⟨c.F, List.mem_map.2 ⟨c, h, rfl⟩, hz⟩) fun h => List.mem_flatten.2 ⟨c.F, List.mem_map.2 ⟨c, h, rfl⟩, hz⟩
    have k1 := List.nodup_append.1 nd0.2
    have k2 := List.nodup_append.1 k1.2.1
    have k3 := List.nodup_append.1 k2.2.1
    refine e4 z (fun e => ?_) (fun e => ?_) (fun e => ?_)
    · subst e
      exact nd0.1 (by simp only [List.mem_append]; rcases hz2 with h | h; exact .inl h; exact .inr (.inr (.inr h)))
    · subst e
      rcases hz2 with h | h
      · exact k1.2.2 _ h a.i (by simp [q5.mem]) rfl
      · exact k2.2.2 a.i q5.mem _ (by simp [h]) rfl
    · subst e
      rcases hz2 with h | h
      · exact k1.2.2 _ h b.i (by simp [q6.mem]) rfl
      · exact k3.2.2 b.i q6.mem _ h rfl
  have M := Sub.mk2 (S := S') (d := d) (h := g) (lo := lo) (i := i) (A := l.take k) (B := l.drop (k + 1)) (x := y) (C1 := C1) (C2 := C2) (a := ⟨a.i, La', a.i :: Fa'⟩) (b := ⟨b.i, Lb', b.i :: Fb'⟩) (by
      have e := List.set_eq_take_append_cons_drop (l := l) (i := k) (a := y)
      rw [if_pos hk] at e
      rw [e1, q1, e]) (by simp; omega) (by simp; omega)
    (fun c hc => (q4 c hc).keep fun x hx => m0 c (.inl hc) x hx) s1 s2 (fun c hc => (q7 c hc).keep fun x hx => m0 c (.inr hc) x hx) (by simp; omega) (by simp; omega)
  refine ⟨_, ?_, ⟨fun x hx _ => e4 x (fun e => hx (e ▸ hiF)) (fun e => hx (e ▸ haF)) (fun e => hx (e ▸ hbF)), nd', fun x hx => .inl (hp.mem_iff.1 hx), fun x hx hx' => absurd (hp.mem_iff.2 hx) hx'⟩, ?_⟩
  · have e : L = pre (l.take k) (C1.map Ch.L) ++ (La' ++ y :: (Lb' ++ post (l.drop (k + 1)) (C2.map Ch.L))) := by
      have := congrArg (fun u => pre (l.take k) (C1.map Ch.L) ++ (u ++ post (l.drop (k + 1)) (C2.map Ch.L))) r1
      simp only [List.append_assoc, List.cons_append] at this
      rw [q8, this]
    rw [e]
    exact M
  · intro hsr
    rw [q8] at hsr
    have h1 := (List.pairwise_append.1 hsr).2.1
    have h2 := (List.pairwise_append.1 h1).2.1
    exact (List.pairwise_cons.1 h2).1 y (by simp [r2])

theorem Sub.joined {d : Nat} {S S' : StB'} {g lo i k f t : Nat} {L l la lb : List Sg} {ks ka kb F : List Nat} (hs : Sub d S (g + 1) lo i L F) (hi : S i = some (l, ks)) (hnd : F.Nodup) (hk : k < l.length) (hf0 : ks[k]? = some f) (ht0 : ks[k + 1]? = some t) (hf : S f = some (la, ka)) (ht : S t = some (lb, kb))
    (hlo : lo + 1 ≤ l.length) (ea : la.length + lb.length + 1 ≤ 2 * d - 1) (ea2 : d - 1 ≤ la.length + lb.length + 1) (e1 : S' i = some (l.take k ++ l.drop (k + 1), ks.take (k + 1) ++ ks.drop (k + 2))) (e2 : S' f = some (la ++ l[k] :: lb, ka ++ kb)) (e3 : S' t = none) (e4 : ∀ x, x ≠ i → x ≠ f → x ≠ t → S' x = S x) :
    ∃ F', Sub d S' (g + 1) lo i L F' ∧ Chg S S' F F' := by
  obtain ⟨C1, a, b, C2, q1, q2, q3, q4, q5, q6, q7, q8, q9, q10, q11⟩ := hs.two hi k hk
  have hka : ks[k]? = some a.i := by rw [q1, List.getElem?_append_right (by simp; omega)]; simp [q2]
  have hkb : ks[k + 1]? = some b.i := by rw [q1, List.getElem?_append_right (by simp; omega)]; simp [q2]
  rw [hka] at hf0
  rw [hkb] at ht0
  obtain rfl : a.i = f := by injection hf0
  obtain rfl : b.i = t := by injection ht0
  have hsub : ∀ z ∈ a.F ++ b.F, z ∈ F := fun z hz => by
    rw [q9]; simp only [List.mem_cons, List.mem_append] at hz ⊢
    rcases hz with h | h
    · exact .inr (.inr (.inl h))
    · exact .inr (.inr (.inr (.inl h)))
  have haF := hsub _ (List.mem_append.2 (.inl q5.mem))
  have hbF := hsub _ (List.mem_append.2 (.inr q6.mem))
  have hiF := hs.mem
  have nd := hnd
  rw [q9] at nd
  have nd0 := List.nodup_cons.1 nd
  have hni : ∀ z ∈ a.F ++ b.F, z ≠ i := fun z hz e => by
    subst e
    refine nd0.1 ?_
    simp only [List.mem_append] at hz ⊢
    rcases hz with h | h
    · exact .inr (.inl h)
    · exact .inr (.inr (.inl h))
  obtain ⟨Ga, Gb, r1, r2, r3⟩ := q5.glue q6 (x := l[k]) hf ht (lo' := d - 1) ea2 ea
  have hp : (b.i :: i :: ((C1.map Ch.F).flatten ++ ((a.i :: (Ga ++ Gb)) ++ (C2.map Ch.F).flatten))).Perm F := by
    rw [q9, r1, r2]
    refine List.perm_iff_count.2 fun z => ?_
    simp only [List.count_cons, List.count_append]
    omega
  have nd2 := hp.nodup_iff.2 hnd
  have nd3 := List.nodup_cons.1 nd2
  have k1 := List.nodup_append.1 nd0.2
  have k2 := List.nodup_append.1 k1.2.1
  have k3 := List.nodup_append.1 k2.2.1
  have nda := r1 ▸ k2.1
  have ndb := r2 ▸ k3.1
  have keep : ∀ z ∈ Ga ++ Gb, S' z = S z := fun z hz => by
    have hz2 : z ∈ a.F ++ b.F := by rw [r1, r2]; simp only [List.mem_append, List.mem_cons] at hz ⊢; rcases hz with h | h; exact .inl (.inr h); exact .inr (.inr h)
    refine e4 z (hni z hz2) (fun e => ?_) (fun e => ?_)
    · subst e
      rcases List.mem_append.1 hz with h | h
      · exact (List.nodup_cons.1 nda).1 h
      · exact k2.2.2 a.i q5.mem a.i (by rw [r2]; simp [h]) rfl
    · subst e
      rcases List.mem_append.1 hz with h | h
      · exact k2.2.2 b.i (by rw [r1]; simp [h]) b.i (by simp [q6.mem]) rfl
      · exact (List.nodup_cons.1 ndb).1 h
  have s1 := r3 S' e2 keep
  have m0 : ∀ c, (c ∈ C1 ∨ c ∈ C2) → ∀ z ∈ c.F, S' z = S z := by
    intro c hc z hz
    have hz2 : z ∈ (C1.map Ch.F).flatten ∨ z ∈ (C2.map Ch.F).flatten := hc.imp (fun h => List.mem_flatten.2 ⟨c.F, List.mem_map.2 ⟨c, h, rfl⟩, hz⟩) fun h => List.mem_flatten.2 ⟨c.F, List.mem_map.2 ⟨c, h, rfl⟩, hz⟩
    refine e4 z (fun e => ?_) (fun e => ?_) (fun e => ?_)
    · subst e
      exact nd0.1 (by simp only [List.mem_append]; rcases hz2 with h | h; exact .inl h; exact .inr (.inr (.inr h)))
    · subst e
      rcases hz2 with h | h
      · exact k1.2.2 _ h a.i (by simp [q5.mem]) rfl
      · exact k2.2.2 a.i q5.mem _ (by simp [h]) rfl
    · subst e
      rcases hz2 with h | h
      · exact k1.2.2 _ h b.i (by simp [q6.mem]) rfl
      · exact k3.2.2 b.i q6.mem _ h rfl
  have hks : ks.take (k + 1) ++ ks.drop (k + 2) = C1.map Ch.i ++ a.i :: C2.map Ch.i := by
    have hl : (C1.map Ch.i).length = k := by simpa using q2
    rw [q1, List.take_append, List.drop_append, hl, List.take_of_length_le (by omega), List.drop_of_length_le (by omega)]
    simp
  have M := Sub.mk1 (S := S') (d := d) (h := g) (lo := lo) (i := i) (A := l.take k) (B := l.drop (k + 1)) (C1 := C1) (C2 := C2) (a := ⟨a.i, a.L ++ l[k] :: b.L, a.i :: (Ga ++ Gb)⟩) (by rw [e1, hks]) (by simp; omega) (by simp; omega)
    (fun c hc => (q4 c hc).keep fun x hx => m0 c (.inl hc) x hx) s1 (fun c hc => (q7 c hc).keep fun x hx => m0 c (.inr hc) x hx) (by simp; omega) (by simp; omega)
  refine ⟨_, ?_, ⟨fun x hx _ => e4 x (fun e => hx (e ▸ hiF)) (fun e => hx (e ▸ haF)) (fun e => hx (e ▸ hbF)), nd3.2, fun x hx => .inl (hp.mem_iff.1 (List.mem_cons_of_mem _ hx)), fun x hx hx' => ?_⟩⟩
  · have e : L = pre (l.take k) (C1.map Ch.L) ++ ((a.L ++ l[k] :: b.L) ++ post (l.drop (k + 1)) (C2.map Ch.L)) := by rw [q8]; simp
    rw [e]
    exact M
  · rcases List.mem_cons.1 (hp.mem_iff.2 hx) with rfl | h
    · exact e3
    · exact absurd h hx'
end Go.Proofs.Bo
set_option linter.unusedVariables false
set_option linter.unusedSimpArgs false
namespace Go.Proofs.Bo

/-! A way down a tree: nodes, and how many of their segments were passed. -/

/-- A node on a way: k of its segments are passed; R is left of what stands below it, and n nodes with it. -/
def StepB (d : Nat) (S : StB') : Nat → Nat → Nat → List Sg → Nat → Prop
  | 0, i, k, R, n => ∃ l, S i = some (l, []) ∧ k ≤ l.length ∧ l.length ≤ 2 * d - 1 ∧ R = l.drop k ∧ n = 1
  | h + 1, i, k, R, n => ∃ (l : List Sg) (cs : List Ch), S i = some (l, cs.map Ch.i) ∧ k ≤ l.length ∧ l.length ≤ 2 * d - 1 ∧ cs.length = l.length + 1 ∧ (∀ c ∈ cs, Sub d S h (d - 1) c.i c.L c.F) ∧ R = post (l.drop k) ((cs.map Ch.L).drop (k + 1)) ∧ n = 1 + ((cs.map Ch.F).drop (k + 1)).flatten.length

theorem Sub.step {d : Nat} {S : StB'} {h lo i : Nat} {L l : List Sg} {ks F : List Nat} (hs : Sub d S h lo i L F) (hl : S i = some (l, ks)) :
    (ks = [] ∧ StepB d S h i 0 L F.length) ∨ ∃ (h' kid : Nat) (L0 : List Sg) (F0 : List Nat) (R : List Sg) (n : Nat), h = h' + 1 ∧ ks[0]? = some kid ∧ Sub d S h' (d - 1) kid L0 F0 ∧ StepB d S h i 0 R n ∧ L = L0 ++ R ∧ F.length = F0.length + n := by
  cases h with
  | zero =>
    obtain ⟨h1, h2, h3, h4⟩ := hs
    rw [hl] at h1; cases h1
    exact .inl ⟨rfl, L, hl, Nat.zero_le _, h4, by simp, by simp [h2]⟩
  | succ h =>
    obtain ⟨l', cs, h1, h2, h3, h4, h5, h6, h7⟩ := hs
    rw [hl] at h1; cases h1
    cases cs with
    | nil => simp at h4
    | cons c cs =>
      refine .inr ⟨h, c.i, c.L, c.F, post l (cs.map Ch.L), 1 + (cs.map Ch.F).flatten.length, rfl, by simp, h5 c (by simp), ⟨l, c :: cs, hl, Nat.zero_le _, h3, h4, h5, by simp, by simp⟩, by rw [h6]; simp [inter], ?_⟩
      rw [h7]; simp; omega
theorem StepB.node {d : Nat} {S : StB'} {h i k n : Nat} {R : List Sg} (hs : StepB d S h i k R n) : ∃ l ks, S i = some (l, ks) ∧ k ≤ l.length ∧ l.length ≤ 2 * d - 1 ∧ (ks = [] → h = 0) ∧ (ks ≠ [] → ks.length = l.length + 1) := by
  cases h with
  | zero => obtain ⟨l, h1, h2, h3, h4⟩ := hs; exact ⟨l, [], h1, h2, h3, fun _ => rfl, fun e => absurd rfl e⟩
  | succ h =>
    obtain ⟨l, cs, h1, h2, h3, h4, h5, h6⟩ := hs
    exact ⟨l, _, h1, h2, h3, fun e => by rw [List.map_eq_nil_iff] at e; subst e; simp at h4, fun _ => by simpa using h4⟩
theorem StepB.done {d : Nat} {S : StB'} {h i n : Nat} {l : List Sg} {ks : List Nat} {R : List Sg} (hs : StepB d S h i l.length R n) (hl : S i = some (l, ks)) : R = [] ∧ n = 1 := by
  cases h with
  | zero => obtain ⟨l', h1, h2, h3, h4, h5⟩ := hs; rw [hl] at h1; cases h1; exact ⟨by simpa using h4, h5⟩
  | succ h =>
    obtain ⟨l', cs, h1, h2, h3, h4, h5, h6, h7⟩ := hs
    rw [hl] at h1; cases h1
    refine ⟨by rw [h6]; simp [post], ?_⟩
    rw [h7, List.drop_eq_nil_of_le (by simp; omega)]; rfl
theorem StepB.pos {d : Nat} {S : StB'} {h i k n : Nat} {R : List Sg} (hs : StepB d S h i k R n) : 1 ≤ n := by
  cases h with
  | zero => obtain ⟨l', h1, h2, h3, h4, h5⟩ := hs; omega
  | succ h => obtain ⟨l', cs, h1, h2, h3, h4, h5, h6, h7⟩ := hs; omega
theorem StepB.next {d : Nat} {S : StB'} {h i k n : Nat} {l : List Sg} {ks : List Nat} {R : List Sg} (hs : StepB d S h i k R n) (hl : S i = some (l, ks)) (hk : k < l.length) :
    (ks = [] ∧ ∃ R', R = l[k] :: R' ∧ StepB d S h i (k + 1) R' n) ∨
    ∃ (h' kid : Nat) (Lk : List Sg) (Fk : List Nat) (R' : List Sg) (n' : Nat), ks ≠ [] ∧ ks[k + 1]? = some kid ∧ Sub d S h' (d - 1) kid Lk Fk ∧ R = l[k] :: (Lk ++ R') ∧ n = Fk.length + n' ∧ StepB d S h i (k + 1) R' n' := by
  cases h with
  | zero =>
    obtain ⟨l', h1, h2, h3, h4, h5⟩ := hs
    rw [hl] at h1; cases h1
    exact .inl ⟨rfl, l.drop (k + 1), by rw [h4, List.drop_eq_getElem_cons hk], l, hl, hk, h3, rfl, h5⟩
  | succ h =>
    obtain ⟨l', cs, h1, h2, h3, h4, h5, h6, h7⟩ := hs
    rw [hl] at h1; cases h1
    have hc : k + 1 < cs.length := by omega
    refine .inr ⟨h, cs[k + 1].i, cs[k + 1].L, cs[k + 1].F, post (l.drop (k + 1)) ((cs.map Ch.L).drop (k + 1 + 1)), 1 + ((cs.map Ch.F).drop (k + 1 + 1)).flatten.length, fun e => by rw [List.map_eq_nil_iff] at e; subst e; simp at h4, by simp [hc], h5 _ (List.getElem_mem hc), ?_, ?_, l, cs, hl, hk, h3, h4, h5, rfl, rfl⟩
    · rw [h6, List.drop_eq_getElem_cons hk, List.drop_eq_getElem_cons (l := cs.map Ch.L) (by simpa using hc)]
      simp [post]
    · rw [h7, List.drop_eq_getElem_cons (l := cs.map Ch.F) (by simpa using hc)]
      simp; omega
theorem StepB.keep {d : Nat} {S : StB'} {h i k n : Nat} {R : List Sg} (hs : StepB d S h i k R n) : StepB d S h i k R n := hs

/-- A way, its last node first: what is left, and how many nodes. -/
def WayB (d : Nat) (S : StB') : List (Nat × Nat) → List Sg → Nat → Prop
  | [], R, N => R = [] ∧ N = 0
  | (i, k) :: ws, R, N => ∃ (h : Nat) (R1 : List Sg) (n1 : Nat) (R2 : List Sg) (N2 : Nat), StepB d S h i k R1 n1 ∧ WayB d S ws R2 N2 ∧ R = R1 ++ R2 ∧ N = n1 + N2
theorem WayB.len {d : Nat} {S : StB'} : ∀ {ws : List (Nat × Nat)} {R : List Sg} {N : Nat}, WayB d S ws R N → ws.length ≤ N
  | [], _, _, _ => Nat.zero_le _
  | (i, k) :: ws, R, N, ⟨h, R1, n1, R2, N2, h1, h2, h3, h4⟩ => by
    have := WayB.len h2
    have := h1.pos
    simp; omega

/-- How many segments a tree has at least. -/
theorem sum_pow (m : Nat) (ps : List (List Sg)) (h : ∀ p ∈ ps, m ≤ p.length + 1) : ps.length * m ≤ sumL ps + ps.length := by
  induction ps with
  | nil => simp [sumL]
  | cons p ps ih =>
    have h1 := h p (by simp)
    have h2 := ih fun q hq => h q (by simp [hq])
    have e : sumL (p :: ps) = p.length + sumL ps := by simp [sumL]
    rw [e, List.length_cons, Nat.succ_mul]
    omega
theorem Sub.pow {d : Nat} (hd : 2 ≤ d) {S : StB'} : ∀ {h lo i : Nat} {L : List Sg} {F : List Nat}, Sub d S h lo i L F → (lo + 1) * d ^ h ≤ L.length + 1
  | 0, lo, i, L, F, ⟨h1, h2, h3, h4⟩ => by simp; omega
  | h + 1, lo, i, L, F, ⟨l, cs, h1, h2, h3, h4, h5, h6, h7⟩ => by
    have key := sum_pow (d ^ (h + 1)) (cs.map Ch.L) (by
      intro p hp
      obtain ⟨c, hc, rfl⟩ := List.mem_map.1 hp
      have := Sub.pow hd (h5 c hc)
      rw [Nat.sub_add_cancel (by omega)] at this
      rwa [Nat.pow_succ, Nat.mul_comm])
    have hlen := inter_len l (cs.map Ch.L) (by simpa using h4)
    rw [List.length_map, h4] at key
    have h8 : (lo + 1) * d ^ (h + 1) ≤ (l.length + 1) * d ^ (h + 1) := Nat.mul_le_mul_right _ (by omega)
    rw [h6, hlen]
    omega
end Go.Proofs.Bo
