import Derived.Test.YtgehgjaglgafdaaGreatG01
import Derived.Test.YtgehgjaglgafdaaGreatG16
set_option linter.unusedVariables false
set_option linter.unusedSimpArgs false
namespace Go.Proofs.Bo
def pre : List Sg → List (List Sg) → List Sg
 | x :: l, p :: ps => p ++ x :: pre l ps
 | _, _ => []
def post : List Sg → List (List Sg) → List Sg
 | x :: l, p :: ps => x :: (p ++ post l ps)
 | _, _ => []
def inter (l : List Sg) : List (List Sg) → List Sg
 | [] => []
 | p :: ps => p ++ post l ps
theorem pre_app : ∀ (l1 l2 : List Sg) (ps1 ps2 : List (List Sg)), ps1.length = l1.length → pre (l1 ++ l2) (ps1 ++ ps2) = pre l1 ps1 ++ pre l2 ps2
 | [], l2, [], ps2, _ => rfl
 | x :: l1, l2, p :: ps1, ps2, h => by
  have := pre_app l1 l2 ps1 ps2 (by simpa using h)
  simp [pre, this]
theorem inter_cons (x : Sg) (l : List Sg) (p : List Sg) (ps : List (List Sg)) (h : 0 < ps.length) : inter (x :: l) (p :: ps) = p ++ x :: inter l ps := by
 cases ps with
 | nil => simp at h
 | cons q qs => simp [inter, post]
theorem inter_mid : ∀ (l1 l2 : List Sg) (ps1 : List (List Sg)) (p : List Sg) (ps2 : List (List Sg)), ps1.length = l1.length → inter (l1 ++ l2) (ps1 ++ p :: ps2) = pre l1 ps1 ++ (p ++ post l2 ps2)
 | [], l2, [], p, ps2, _ => by simp [inter, pre]
 | x :: l1, l2, q :: ps1, p, ps2, h => by
  have := inter_mid l1 l2 ps1 p ps2 (by simpa using h)
  rw [List.cons_append, List.cons_append, inter_cons _ _ _ _ (by simp; omega), this]
  simp [pre]
theorem inter_seg (l1 : List Sg) (x : Sg) (l2 : List Sg) (ps1 ps2 : List (List Sg)) (h1 : ps1.length = l1.length + 1) (h2 : ps2.length = l2.length + 1) : inter (l1 ++ x :: l2) (ps1 ++ ps2) = inter l1 ps1 ++ x :: inter l2 ps2 := by
 obtain ⟨qs, q, rfl⟩ : ∃ qs q, ps1 = qs ++ [q] := by
  rcases List.eq_nil_or_concat ps1 with rfl | ⟨qs, q, rfl⟩
  ·simp at h1
  ·exact ⟨qs, q, by simp⟩
 have hq : qs.length = l1.length := by simpa using h1
 obtain ⟨r, rs, rfl⟩ : ∃ r rs, ps2 = r :: rs := by
  cases ps2 with
  | nil => simp at h2
  | cons r rs => exact ⟨r, rs, rfl⟩
 have e1 := inter_mid l1 [] qs q [] hq
 have e2 := inter_mid l1 (x :: l2) qs q (r :: rs) hq
 rw [List.append_nil] at e1
 rw [List.append_assoc, List.singleton_append, e2, e1]
 simp [post, inter]
theorem pre_last : ∀ (l : List Sg) (x : Sg) (ps : List (List Sg)) (p : List Sg), ps.length = l.length → pre (l ++ [x]) (ps ++ [p]) = pre l ps ++ (p ++ [x])
 | l, x, ps, p, h => by rw [pre_app l [x] ps [p] h]; simp [pre]
structure Ch where
 i : Nat
 L : List Sg
 F : List Nat
def Sub (d : Nat) (S : Nat → Option (List Sg × List Nat)) : Nat → Nat → Nat → List Sg → List Nat → Prop
 | 0, lo, i, L, F => S i = some (L, []) ∧ F = [i] ∧ lo ≤ L.length ∧ L.length ≤ 2 * d - 1
 | h + 1, lo, i, L, F => ∃ (l : List Sg) (cs : List Ch), S i = some (l, cs.map Ch.i) ∧ lo ≤ l.length ∧ l.length ≤ 2 * d - 1 ∧ cs.length = l.length + 1 ∧ (∀ c ∈ cs, Sub d S h (d - 1) c.i c.L c.F) ∧ L = inter l (cs.map Ch.L) ∧ F = i :: (cs.map Ch.F).flatten
theorem Sub.keep {d : Nat} {S S' : Nat → Option (List Sg × List Nat)} : ∀ {h lo i : Nat} {L : List Sg} {F : List Nat}, Sub d S h lo i L F → (∀ j ∈ F, S' j = S j) → Sub d S' h lo i L F
 | 0, lo, i, L, F, ⟨h1, h2, h3⟩, hk => ⟨(hk i (by rw [h2]; simp)).trans h1, h2, h3⟩
 | h + 1, lo, i, L, F, ⟨l, cs, h1, h2, h3, h4, h5, h6, h7⟩, hk => by
  refine ⟨l, cs, (hk i (by rw [h7]; simp)).trans h1, h2, h3, h4, fun c hc => (h5 c hc).keep fun j hj => hk j ?_, h6, h7⟩
  rw [h7]
  exact List.mem_cons_of_mem _ (List.mem_flatten.2 ⟨c.F, List.mem_map.2 ⟨c, hc, rfl⟩, hj⟩)
theorem Sub.mem {d : Nat} {S : Nat → Option (List Sg × List Nat)} {h lo i : Nat} {L : List Sg} {F : List Nat} (hs : Sub d S h lo i L F) : i ∈ F := by
 cases h with
 | zero => obtain ⟨_, h2, _⟩ := hs; rw [h2]; simp
 | succ h => obtain ⟨l, cs, h1, h2, h3, h4, h5, h6, h7⟩ := hs; rw [h7]; simp
theorem Sub.low {d : Nat} {S : Nat → Option (List Sg × List Nat)} {h lo lo' i : Nat} {L : List Sg} {F : List Nat} (hs : Sub d S h lo i L F) (hl : lo' ≤ lo) : Sub d S h lo' i L F := by
 cases h with
 | zero => obtain ⟨h1, h2, h3, h4⟩ := hs; exact ⟨h1, h2, by omega, h4⟩
 | succ h => obtain ⟨l, cs, h1, h2, h3⟩ := hs; exact ⟨l, cs, h1, by omega, h3⟩
theorem Sub.node {d : Nat} {S : Nat → Option (List Sg × List Nat)} {h lo i : Nat} {L : List Sg} {F : List Nat} (hs : Sub d S h lo i L F) : ∃ l ks, S i = some (l, ks) ∧ lo ≤ l.length ∧ l.length ≤ 2 * d - 1 ∧ (ks = [] ↔ h = 0) := by
 cases h with
 | zero => obtain ⟨h1, h2, h3, h4⟩ := hs; exact ⟨L, [], h1, h3, h4, by simp⟩
 | succ h =>
  obtain ⟨l, cs, h1, h2, h3, h4, _⟩ := hs
  refine ⟨l, _, h1, h2, h3, ?_⟩
  constructor
  ·intro e; rw [List.map_eq_nil_iff] at e; rw [e] at h4; simp at h4
  ·intro e; omega
theorem post_sub : ∀ (l : List Sg) (ps : List (List Sg)), ps.length = l.length → l.Sublist (post l ps)
 | [], [], _ => List.Sublist.slnil
 | x :: l, p :: ps, h => by
  have := post_sub l ps (by simpa using h)
  exact (this.trans (List.sublist_append_right p _)).cons_cons x
theorem inter_sub (l : List Sg) (ps : List (List Sg)) (h : ps.length = l.length + 1) : l.Sublist (inter l ps) := by
 cases ps with
 | nil => simp at h
 | cons p ps => exact (post_sub l ps (by simpa using h)).trans (List.sublist_append_right p _)
theorem Row.sub {l l' : List Sg} (h : Row l) (hs : l'.Sublist l) : Row l' := ⟨h.1.sublist hs, fun s hm => h.2 s (hs.subset hm)⟩
theorem Srt.ap {a b : List Sg} (h : Srt (a ++ b)) : ∀ x ∈ a, ∀ y ∈ b, ky x < ky y := fun x hx y hy => (List.pairwise_append.1 h).2.2 x hx y hy
theorem posL_lo {k : Int} {l : List Sg} (h : Srt l) : (∀ x ∈ l.take (posL k l), ky x < k) ∧ ∀ x ∈ l.drop (posL k l), k ≤ ky x := by
 induction l with
 | nil => simp
 | cons x l ih =>
  obtain ⟨h1, h2⟩ := List.pairwise_cons.1 h
  by_cases hx : ky x < k
  ·have e : posL k (x :: l) = posL k l + 1 := by unfold posL; rw [List.filter_cons_of_pos (by simpa using hx)]; rfl
   rw [e]
   refine ⟨fun y hy => ?_, fun y hy => (ih h2).2 y (by simpa using hy)⟩
   rcases List.mem_cons.1 (by simpa using hy) with rfl | hy
   ·exact hx
   ·exact (ih h2).1 y hy
  ·have e : posL k (x :: l) = 0 := by
    unfold posL
    rw [List.filter_cons_of_neg (by simpa using hx), List.length_eq_zero_iff, List.filter_eq_nil_iff]
    intro y hy; have := h1 y hy; simp; omega
   rw [e]
   refine ⟨fun y hy => (by simp at hy), fun y hy => ?_⟩
   rcases List.mem_cons.1 (by simpa using hy) with rfl | hy
   ·omega
   ·have := h1 y hy; omega
theorem pre_lt {k : Int} : ∀ (l : List Sg) (ps : List (List Sg)), ps.length = l.length → Srt (pre l ps) → (∀ x ∈ l, ky x < k) → ∀ x ∈ pre l ps, ky x < k
 | [], [], _, _, _, x, hx => by simp [pre] at hx
 | a :: l, p :: ps, h, hs, hl, x, hx => by
  simp only [pre] at hs hx
  rcases List.mem_append.1 hx with hx | hx
  ·have := hs.ap x hx a (by simp); have := hl a (by simp); omega
  ·rcases List.mem_cons.1 hx with rfl | hx
   ·exact hl _ (by simp)
   ·exact pre_lt l ps (by simpa using h) ((List.pairwise_cons.1 (List.pairwise_append.1 hs).2.1).2) (fun y hy => hl y (by simp [hy])) x hx
theorem post_ge {k : Int} (l : List Sg) (ps : List (List Sg)) (hs : Srt (post l ps)) (hl : ∀ x ∈ l, k ≤ ky x) : ∀ x ∈ post l ps, k ≤ ky x := by
 intro x hx
 cases l with
 | nil => simp [post] at hx
 | cons a l =>
  cases ps with
  | nil => simp [post] at hx
  | cons p ps =>
   simp only [post] at hs hx
   have ha := hl a (by simp)
   rcases List.mem_cons.1 hx with rfl | hx
   ·exact ha
   ·have := (List.pairwise_cons.1 hs).1 x hx; omega
theorem hasK_pos {k : Int} {l : List Sg} (h : Srt l) : hasK k l = true ↔ ∃ (hp : posL k l < l.length), ky l[posL k l] = k := by
 obtain ⟨h1, h2⟩ := posL_lo (k := k) h
 have hle := posL_le k l
 constructor
 ·intro hk
  unfold hasK at hk
  obtain ⟨x, hx, e⟩ := List.any_eq_true.1 hk
  have e : ky x = k := by simpa using e
  rw [← List.take_append_drop (posL k l) l] at hx
  rcases List.mem_append.1 hx with hx | hx
  ·have := h1 x hx; omega
  ·have hp : posL k l < l.length := by
    have := List.length_pos_of_mem hx
    simp at this; omega
   refine ⟨hp, ?_⟩
   obtain ⟨j, hj, rfl⟩ := List.mem_iff_getElem.1 hx
   have hj' : posL k l + j < l.length := by simp at hj; omega
   rw [List.getElem_drop] at e
   have h3 := h2 l[posL k l] (by rw [List.mem_iff_getElem]; exact ⟨0, by simp; omega, by simp⟩)
   by_cases hj0 : j = 0
   ·subst hj0; simpa using e
   ·have := List.pairwise_iff_getElem.1 h (posL k l) (posL k l + j) hp hj' (by omega); omega
 ·rintro ⟨hp, e⟩
  unfold hasK
  exact List.any_eq_true.2 ⟨_, List.getElem_mem hp, by simpa using e⟩
def wayT (d : Bool) (k : Int) (l : List Sg) : Nat := if d && hasK k l then posL k l + 1 else posL k l
theorem way_le {d : Bool} {k : Int} {l : List Sg} (h : Srt l) : wayT d k l ≤ l.length := by
 have := posL_le k l
 unfold wayT
 split
 ·rename_i hd
  simp only [Bool.and_eq_true] at hd
  obtain ⟨hp, _⟩ := (hasK_pos h).1 hd.2
  omega
 ·exact this
theorem way_facts {d own : Bool} {k : Int} {l : List Sg} (h : Srt l) (hno : ¬ (hasK k l = true ∧ own = true)) :
  ∃ a b : Int, (∀ x ∈ l.take (wayT d k l), ky x < a) ∧ (∀ x ∈ l.drop (wayT d k l), b ≤ ky x) ∧ (∀ y, y < a → fitB d own k y = !d) ∧ (∀ y, b ≤ y → fitB d own k y = d) := by
 obtain ⟨h1, h2⟩ := posL_lo (k := k) h
 by_cases hk : hasK k l = true
 ·have ho : own = false := by cases own; rfl; exact absurd ⟨hk, rfl⟩ hno
  subst ho
  obtain ⟨hp, he⟩ := (hasK_pos h).1 hk
  cases d
  ·refine ⟨k, k, by simpa [wayT] using h1, by simpa [wayT] using h2, fun y hy => by simp [fitB, hy], fun y hy => by simp [fitB]; omega⟩
  ·refine ⟨k + 1, k + 1, ?_, ?_, fun y hy => by simp [fitB]; omega, fun y hy => by simp [fitB]; omega⟩
   ·intro x hx
    simp only [wayT, hk, Bool.and_self, if_true] at hx
    obtain ⟨j, hj, rfl⟩ := List.mem_iff_getElem.1 hx
    have hj' : j < posL k l + 1 ∧ j < l.length := by simp at hj; omega
    rw [List.getElem_take]
    by_cases e : j = posL k l
    ·subst e; omega
    ·have := List.pairwise_iff_getElem.1 h j (posL k l) hj'.2 hp (by omega); omega
   ·intro x hx
    simp only [wayT, hk, Bool.and_self, if_true] at hx
    obtain ⟨j, hj, rfl⟩ := List.mem_iff_getElem.1 hx
    have hj' : posL k l + 1 + j < l.length := by simp at hj; omega
    rw [List.getElem_drop]
    have := List.pairwise_iff_getElem.1 h (posL k l) (posL k l + 1 + j) hp hj' (by omega); omega
 ·have hw : wayT d k l = posL k l := by simp [wayT, hk]
  have h3 : ∀ x ∈ l.drop (posL k l), k + 1 ≤ ky x := by
   intro x hx
   have := h2 x hx
   have : ky x ≠ k := fun e => hk (by unfold hasK; exact List.any_eq_true.2 ⟨x, List.mem_of_mem_drop hx, by simpa using e⟩)
   omega
  rw [hw]
  refine ⟨k, k + 1, h1, h3, fun y hy => ?_, fun y hy => ?_⟩
  ·cases d <;> simp [fitB] <;> omega
  ·cases d <;> simp [fitB] <;> omega
def bst7 (d : Bool) (A B : List Sg) : Option Sg := if d then B.head? else A.getLast?
theorem bst_end {d own : Bool} {k : Int} {A B : List Sg} (h1 : ∀ x ∈ A, fitB d own k (ky x) = !d) (h2 : ∀ x ∈ B, fitB d own k (ky x) = d) : nearS d own k (A ++ B) = bst7 d A B := by
 unfold nearS bst7
 cases d
 ·simp only [Bool.false_eq_true, if_false, List.filter_append]
  rw [List.filter_eq_self.2 (fun x hx => by simpa using h1 x hx), List.filter_eq_nil_iff.2 (fun x hx => by simp [h2 x hx]), List.append_nil]
 ·simp only [if_true, List.filter_append]
  rw [List.filter_eq_nil_iff.2 (fun x hx => by simp [h1 x hx]), List.filter_eq_self.2 (fun x hx => by simpa using h2 x hx), List.nil_append]
theorem near_own {d : Bool} {k : Int} {P Q : List Sg} {x : Sg} (h : Srt (P ++ x :: Q)) (hx : ky x = k) : nearS d true k (P ++ x :: Q) = some x := by
 obtain ⟨s1, s2⟩ := h.app
 cases d
 ·have e : P ++ x :: Q = (P ++ [x]) ++ Q := by simp
  rw [e, bst_end (d := false) (own := true)]
  ·simp [bst7]
  ·intro y hy
   rcases List.mem_append.1 hy with hy | hy
   ·have := s1 y hy; simp [fitB]; omega
   ·simp at hy; subst hy; simp [fitB, hx]
  ·intro y hy; have := s2 y hy; simp [fitB]; omega
 ·rw [bst_end (d := true) (own := true)]
  ·simp [bst7]
  ·intro y hy; have := s1 y hy; simp [fitB]; omega
  ·intro y hy
   rcases List.mem_cons.1 hy with rfl | hy
   ·simp [fitB, hx]
   ·have := s2 y hy; simp [fitB]; omega
theorem pre_getLast (l : List Sg) (ps : List (List Sg)) (h : ps.length = l.length) (hl : l ≠ []) (A : List Sg) : (A ++ pre l ps).getLast? = l.getLast? := by
 obtain ⟨q, x, rfl⟩ : ∃ q x, l = q ++ [x] := ⟨l.dropLast, l.getLast hl, (List.dropLast_concat_getLast hl).symm⟩
 obtain ⟨qs, p, rfl⟩ : ∃ qs p, ps = qs ++ [p] := by
  rcases List.eq_nil_or_concat ps with rfl | ⟨qs, p, rfl⟩
  ·simp at h
  ·exact ⟨qs, p, by simp⟩
 rw [pre_last q x qs p (by simpa using h)]
 simp [← List.append_assoc]
theorem post_head (l : List Sg) (ps : List (List Sg)) (h : ps.length = l.length) (hl : l ≠ []) (B : List Sg) : (post l ps ++ B).head? = l.head? := by
 cases l with
 | nil => exact absurd rfl hl
 | cons x l => cases ps with
  | nil => simp at h
  | cons p ps => simp [post]
theorem near_step {d own : Bool} {k : Int} {A B Li l : List Sg} (hs : Srt (A ++ (Li ++ B))) (hA : ∀ x ∈ A, fitB d own k (ky x) = !d) (hB : ∀ x ∈ B, fitB d own k (ky x) = d) (hno : ¬ (hasK k l = true ∧ own = true))
  {P Q : List Sg} (hP : ∀ a, (∀ x ∈ l.take (wayT d k l), ky x < a) → ∀ x ∈ P, ky x < a) (hQ : ∀ b, (∀ x ∈ l.drop (wayT d k l), b ≤ ky x) → ∀ x ∈ Q, b ≤ ky x) (hl : Srt l) :
  (∀ x ∈ A ++ P, fitB d own k (ky x) = !d) ∧ (∀ x ∈ Q ++ B, fitB d own k (ky x) = d) := by
 obtain ⟨a, b, f1, f2, f3, f4⟩ := way_facts (d := d) (own := own) hl hno
 refine ⟨fun x hx => ?_, fun x hx => ?_⟩
 ·rcases List.mem_append.1 hx with hx | hx
  ·exact hA x hx
  ·exact f3 _ (hP a f1 x hx)
 ·rcases List.mem_append.1 hx with hx | hx
  ·exact f4 _ (hQ b f2 x hx)
  ·exact hB x hx
abbrev StB' := Nat → Option (List Sg × List Nat)
structure PartB (l : List Sg) (t : Nat) (P Q : List Sg) : Prop where
 lt : ∀ a, (∀ x ∈ l.take t, ky x < a) → ∀ x ∈ P, ky x < a
 ge : ∀ b, (∀ x ∈ l.drop t, b ≤ ky x) → ∀ x ∈ Q, b ≤ ky x
 last : ∀ A : List Sg, l.take t ≠ [] → (A ++ P).getLast? = (l.take t).getLast?
 head : ∀ B : List Sg, l.drop t ≠ [] → (Q ++ B).head? = (l.drop t).head?
 noP : l.take t = [] → P = []
 noQ : l.drop t = [] → Q = []
theorem Sub.row {d : Nat} {S : StB'} {h lo i : Nat} {L l : List Sg} {ks : List Nat} {F : List Nat} (hs : Sub d S h lo i L F) (hl : S i = some (l, ks)) : l.Sublist L := by
 cases h with
 | zero => obtain ⟨h1, _⟩ := hs; rw [hl] at h1; cases h1; exact List.Sublist.refl _
 | succ h =>
  obtain ⟨l', cs, h1, h2, h3, h4, h5, h6, h7⟩ := hs
  rw [hl] at h1; cases h1
  rw [h6]
  exact inter_sub l _ (by simpa using h4)
theorem Sub.leaf {d : Nat} {S : StB'} {lo i : Nat} {L l : List Sg} {ks : List Nat} {F : List Nat} (hs : Sub d S 0 lo i L F) (hl : S i = some (l, ks)) (t : Nat) : ks = [] ∧ L = l ∧ L = l.take t ++ l.drop t ∧ PartB l t (l.take t) (l.drop t) := by
 obtain ⟨h1, _⟩ := hs
 have e := hl.symm.trans h1
 have e1 : l = L := by injection e with e; exact (Prod.mk.inj e).1
 have e2 : ks = [] := by injection e with e; exact (Prod.mk.inj e).2
 subst e1
 refine ⟨e2, rfl, (List.take_append_drop t l).symm, fun a h => h, fun b h => h, fun A h => ?_, fun B h => ?_, fun h => h, fun h => h⟩
 ·rw [List.getLast?_append]
  cases hx : (l.take t).getLast? with
  | none => rw [List.getLast?_eq_none_iff] at hx; exact absurd hx h
  | some x => rfl
 ·cases hd : l.drop t with
  | nil => exact absurd hd h
  | cons x r => rfl
theorem Sub.inner {d : Nat} {S : StB'} {h lo i : Nat} {L l : List Sg} {ks : List Nat} {F : List Nat} (hs : Sub d S (h + 1) lo i L F) (hl : S i = some (l, ks)) (hr : Srt L) (t : Nat) (ht : t ≤ l.length) :
  ∃ (ht2 : t < ks.length) (P Q L' : List Sg) (F' : List Nat), Sub d S h (d - 1) ks[t] L' F' ∧ L = P ++ (L' ++ Q) ∧ PartB l t P Q := by
 obtain ⟨l', cs, h1, h2, h3, h4, h5, h6, h7⟩ := hs
 rw [hl] at h1; cases h1
 have hct : t < cs.length := by omega
 have e1 : cs = cs.take t ++ cs[t] :: cs.drop (t + 1) := by rw [← List.drop_eq_getElem_cons hct, List.take_append_drop]
 have hm := inter_mid (l.take t) (l.drop t) ((cs.take t).map Ch.L) cs[t].L ((cs.drop (t + 1)).map Ch.L) (by simp; omega)
 have hm2 : L = pre (l.take t) ((cs.take t).map Ch.L) ++ (cs[t].L ++ post (l.drop t) ((cs.drop (t + 1)).map Ch.L)) := by
  have e2 := congrArg (List.map Ch.L) e1
  rw [List.map_append, List.map_cons] at e2
  rw [h6, ← hm, List.take_append_drop, ← e2]
 have hlp : ((cs.take t).map Ch.L).length = (l.take t).length := by simp; omega
 have hlq : ((cs.drop (t + 1)).map Ch.L).length = (l.drop t).length := by simp; omega
 have hs1 : Srt (pre (l.take t) ((cs.take t).map Ch.L)) := by rw [hm2] at hr; exact (List.pairwise_append.1 hr).1
 have hs2 : Srt (post (l.drop t) ((cs.drop (t + 1)).map Ch.L)) := by rw [hm2] at hr; exact (List.pairwise_append.1 (List.pairwise_append.1 hr).2.1).2.1
 refine ⟨by simpa using hct, _, _, cs[t].L, cs[t].F, by simpa using h5 cs[t] (List.getElem_mem hct), hm2, fun a h => pre_lt _ _ hlp hs1 h, fun b h => post_ge _ _ hs2 h, fun A h => pre_getLast _ _ hlp h A, fun B h => post_head _ _ hlq h B, fun h => ?_, fun h => ?_⟩
 ·rw [h]; simp [pre]
 ·rw [h]; simp [post]
theorem bst_next {A B P Q l : List Sg} {t : Nat} (h : PartB l t P Q) (htl : t ≤ l.length) : bst7 false (A ++ P) (Q ++ B) = (if ht : 0 < t then some l[t - 1] else bst7 false A B) ∧ bst7 true (A ++ P) (Q ++ B) = (if ht : t < l.length then some l[t] else bst7 true A B) := by
 constructor
 ·simp only [Bool.false_eq_true, if_false, bst7]
  by_cases h0 : 0 < t
  ·rw [dif_pos h0]
   have hne : l.take t ≠ [] := by
    intro e
    rw [List.take_eq_nil_iff] at e
    rcases e with e | e
    ·omega
    ·subst e; simp at htl; omega
   rw [h.last A hne, List.getLast?_eq_getElem?, List.length_take, Nat.min_eq_left htl, List.getElem?_take, if_pos (by omega), List.getElem?_eq_getElem (by omega)]
  ·rw [dif_neg h0]
   have : l.take t = [] := by rw [show t = 0 by omega]; rfl
   rw [h.noP this, List.append_nil]
 ·simp only [if_true, bst7]
  by_cases h0 : t < l.length
  ·rw [dif_pos h0]
   have hne : l.drop t ≠ [] := by intro e; rw [List.drop_eq_nil_iff] at e; omega
   rw [h.head B hne, List.head?_drop, List.getElem?_eq_getElem h0]
  ·rw [dif_neg h0, h.noQ (List.drop_of_length_le (by omega)), List.nil_append]
def Hole (d : Nat) (S : StB') (H lo0 : Nat) (root : Nat) (A B : List Sg) (Fl Fr : List Nat) (h lo i : Nat) : Prop :=
 ∀ (S' : StB') (L' : List Sg) (F' : List Nat), (∀ j ∈ Fl ++ Fr, S' j = S j) → Sub d S' h lo i L' F' → Sub d S' H lo0 root (A ++ (L' ++ B)) (Fl ++ (F' ++ Fr))
theorem Hole.root (d : Nat) (S : StB') (H lo0 root : Nat) : Hole d S H lo0 root [] [] [] [] H lo0 root := by
 intro S' L' F' _ h
 simpa using h
theorem Hole.keep {d : Nat} {S S2 : StB'} {H lo0 root : Nat} {A B : List Sg} {Fl Fr : List Nat} {h lo i : Nat} (q : Hole d S H lo0 root A B Fl Fr h lo i) (e : ∀ j ∈ Fl ++ Fr, S2 j = S j) : Hole d S2 H lo0 root A B Fl Fr h lo i :=
 fun S' L' F' h1 h2 => q S' L' F' (fun j hj => (h1 j hj).trans (e j hj)) h2
theorem Hole.low {d : Nat} {S : StB'} {H lo0 root : Nat} {A B : List Sg} {Fl Fr : List Nat} {h lo lo' i : Nat} (q : Hole d S H lo0 root A B Fl Fr h lo i) (e : lo ≤ lo') : Hole d S H lo0 root A B Fl Fr h lo' i :=
 fun S' L' F' h1 h2 => q S' L' F' h1 (h2.low e)
theorem Sub.hole {d : Nat} {S : StB'} {h lo i : Nat} {L l : List Sg} {ks : List Nat} {F : List Nat} (hs : Sub d S (h + 1) lo i L F) (hl : S i = some (l, ks)) (hr : Srt L) (t : Nat) (ht : t ≤ l.length) :
  ∃ (ht2 : t < ks.length) (P Q L' : List Sg) (F' F1 F2 : List Nat), Sub d S h (d - 1) ks[t] L' F' ∧ L = P ++ (L' ++ Q) ∧ PartB l t P Q ∧ F = (i :: F1) ++ (F' ++ F2) ∧ Hole d S (h + 1) lo i P Q (i :: F1) F2 h (d - 1) ks[t] := by
 obtain ⟨l', cs, h1, h2, h3, h4, h5, h6, h7⟩ := hs
 rw [hl] at h1; cases h1
 have hct : t < cs.length := by omega
 have e1 : cs = cs.take t ++ cs[t] :: cs.drop (t + 1) := by rw [← List.drop_eq_getElem_cons hct, List.take_append_drop]
 have hm := inter_mid (l.take t) (l.drop t) ((cs.take t).map Ch.L) cs[t].L ((cs.drop (t + 1)).map Ch.L) (by simp; omega)
 have hm2 : L = pre (l.take t) ((cs.take t).map Ch.L) ++ (cs[t].L ++ post (l.drop t) ((cs.drop (t + 1)).map Ch.L)) := by
  have e2 := congrArg (List.map Ch.L) e1
  rw [List.map_append, List.map_cons] at e2
  rw [h6, ← hm, List.take_append_drop, ← e2]
 have hlp : ((cs.take t).map Ch.L).length = (l.take t).length := by simp; omega
 have hlq : ((cs.drop (t + 1)).map Ch.L).length = (l.drop t).length := by simp; omega
 have hs1 : Srt (pre (l.take t) ((cs.take t).map Ch.L)) := by rw [hm2] at hr; exact (List.pairwise_append.1 hr).1
 have hs2 : Srt (post (l.drop t) ((cs.drop (t + 1)).map Ch.L)) := by rw [hm2] at hr; exact (List.pairwise_append.1 (List.pairwise_append.1 hr).2.1).2.1
 have hF : F = (i :: ((cs.take t).map Ch.F).flatten) ++ (cs[t].F ++ ((cs.drop (t + 1)).map Ch.F).flatten) := by
  have e2 := congrArg (List.map Ch.F) e1
  rw [List.map_append, List.map_cons] at e2
  rw [h7, e2]
  simp only [List.flatten_append, List.flatten_cons, List.cons_append]
 refine ⟨by simpa using hct, _, _, cs[t].L, cs[t].F, _, _, by simpa using h5 cs[t] (List.getElem_mem hct), hm2, ⟨fun a h => pre_lt _ _ hlp hs1 h, fun b h => post_ge _ _ hs2 h, fun A h => pre_getLast _ _ hlp h A, fun B h => post_head _ _ hlq h B, fun h => ?_, fun h => ?_⟩, hF, ?_⟩
 ·rw [h]; simp [pre]
 ·rw [h]; simp [post]
 ·intro S' L2 G hk hg
  have hi : (cs.map Ch.i)[t]'(by simpa using hct) = cs[t].i := by simp
  rw [hi] at hg
  refine ⟨l, cs.take t ++ ⟨cs[t].i, L2, G⟩ :: cs.drop (t + 1), ?_, h2, h3, ?_, ?_, ?_, ?_⟩
  ·rw [hk i (by simp), hl]
   have e2 := congrArg (List.map Ch.i) e1
   rw [List.map_append, List.map_cons] at e2
   rw [e2, List.map_append, List.map_cons]
  ·simp; omega
  ·intro c hc
   rcases List.mem_append.1 hc with hc | hc
   ·exact (h5 c (List.mem_of_mem_take hc)).keep fun j hj => hk j (by
     simp only [List.cons_append, List.mem_cons, List.mem_append, List.mem_flatten, List.mem_map]
     exact .inr (.inl ⟨c.F, ⟨c, hc, rfl⟩, hj⟩))
   ·rcases List.mem_cons.1 hc with rfl | hc
    ·exact hg
    ·exact (h5 c (List.mem_of_mem_drop hc)).keep fun j hj => hk j (by
      simp only [List.cons_append, List.mem_cons, List.mem_append, List.mem_flatten, List.mem_map]
      exact .inr (.inr ⟨c.F, ⟨c, hc, rfl⟩, hj⟩))
  ·rw [List.map_append, List.map_cons]
   have := inter_mid (l.take t) (l.drop t) ((cs.take t).map Ch.L) L2 ((cs.drop (t + 1)).map Ch.L) (by simp; omega)
   rw [List.take_append_drop] at this
   exact this.symm
  ·simp
theorem Hole.down {d : Nat} {S : StB'} {H lo0 root : Nat} {A B P Q : List Sg} {Fl Fr F1 F2 : List Nat} {h lo i h' lo' i' : Nat} (q : Hole d S H lo0 root A B Fl Fr h lo i) (r : Hole d S h lo i P Q F1 F2 h' lo' i') : Hole d S H lo0 root (A ++ P) (Q ++ B) (Fl ++ F1) (F2 ++ Fr) h' lo' i' := by
 intro S' L' F' hk hs
 have h1 := r S' L' F' (fun j hj => hk j (by simp only [List.mem_append] at hj ⊢; rcases hj with hj | hj; exact .inl (.inr hj); exact .inr (.inl hj))) hs
 have h2 := q S' _ _ (fun j hj => hk j (by simp only [List.mem_append] at hj ⊢; rcases hj with hj | hj; exact .inl (.inl hj); exact .inr (.inr hj))) h1
 simpa using h2
theorem Sub.swap {d : Nat} {S S' : StB'} {h lo i : Nat} {L l : List Sg} {ks : List Nat} {F : List Nat} (hs : Sub d S h lo i L F) (hl : S i = some (l, ks)) (hn : F.Nodup) {t : Nat} (ht : t < l.length) (s : Sg) (hi : S' i = some (l.set t s, ks)) (hk : ∀ j, j ≠ i → S' j = S j) :
  ∃ P Q : List Sg, L = P ++ l[t] :: Q ∧ Sub d S' h lo i (P ++ s :: Q) F := by
 cases h with
 | zero =>
  obtain ⟨h1, h2, h3, h4⟩ := hs
  rw [hl] at h1; cases h1
  refine ⟨L.take t, L.drop (t + 1), ?_, ?_⟩
  ·rw [← List.drop_eq_getElem_cons ht, List.take_append_drop]
  ·have e := List.set_eq_take_append_cons_drop (l := L) (i := t) (a := s)
   rw [if_pos ht] at e
   rw [← e]
   exact ⟨hi, h2, by simpa using h3, by simpa using h4⟩
 | succ h =>
  obtain ⟨l', cs, h1, h2, h3, h4, h5, h6, h7⟩ := hs
  rw [hl] at h1; cases h1
  have e1 : l = l.take t ++ l[t] :: l.drop (t + 1) := by rw [← List.drop_eq_getElem_cons ht, List.take_append_drop]
  have e2 : cs.map Ch.L = (cs.map Ch.L).take (t + 1) ++ (cs.map Ch.L).drop (t + 1) := (List.take_append_drop _ _).symm
  have hp1 : ((cs.map Ch.L).take (t + 1)).length = (l.take t).length + 1 := by simp; omega
  have hp2 : ((cs.map Ch.L).drop (t + 1)).length = (l.drop (t + 1)).length + 1 := by simp; omega
  have i1 := inter_seg (l.take t) l[t] (l.drop (t + 1)) _ _ hp1 hp2
  have i2 := inter_seg (l.take t) s (l.drop (t + 1)) _ _ hp1 hp2
  rw [← e1, ← e2] at i1
  have e := List.set_eq_take_append_cons_drop (l := l) (i := t) (a := s)
  rw [if_pos ht] at e
  rw [← e, ← e2] at i2
  refine ⟨_, _, h6.trans i1, l.set t s, cs, hi, by simpa using h2, by simpa using h3, by simpa using h4, fun c hc => (h5 c hc).keep fun j hj => hk j fun e => ?_, i2.symm, h7⟩
  subst e
  rw [h7, List.nodup_cons] at hn
  exact hn.1 (List.mem_flatten.2 ⟨c.F, List.mem_map.2 ⟨c, hc, rfl⟩, hj⟩)
def sumL (ps : List (List Sg)) : Nat := (ps.map List.length).sum
theorem post_len : ∀ (l : List Sg) (ps : List (List Sg)), ps.length = l.length → (post l ps).length = l.length + sumL ps
 | [], [], _ => rfl
 | x :: l, p :: ps, h => by
  have := post_len l ps (by simpa using h)
  simp only [post, List.length_cons, List.length_append, this, sumL, List.map_cons, List.sum_cons]
  omega
theorem inter_len (l : List Sg) (ps : List (List Sg)) (h : ps.length = l.length + 1) : (inter l ps).length = l.length + sumL ps := by
 cases ps with
 | nil => simp at h
 | cons p ps =>
  simp only [inter, List.length_append, post_len l ps (by simpa using h), sumL, List.map_cons, List.sum_cons]
  omega
theorem Sub.live {d : Nat} {S : StB'} : ∀ {h lo i : Nat} {L : List Sg} {F : List Nat}, Sub d S h lo i L F → ∀ x ∈ F, S x ≠ none
 | 0, lo, i, L, F, ⟨h1, h2, _⟩, x, hx => by rw [h2] at hx; simp at hx; subst hx; rw [h1]; simp
 | h + 1, lo, i, L, F, ⟨l, cs, h1, h2, h3, h4, h5, h6, h7⟩, x, hx => by
  rw [h7] at hx
  rcases List.mem_cons.1 hx with rfl | hx
  ·rw [h1]; simp
  ·obtain ⟨G, hG, hx⟩ := List.mem_flatten.1 hx
   obtain ⟨c, hc, rfl⟩ := List.mem_map.1 hG
   exact (h5 c hc).live x hx
theorem flat_le (cs : List Ch) (h : ∀ c ∈ cs, c.F.length ≤ c.L.length) : (cs.map Ch.F).flatten.length ≤ sumL (cs.map Ch.L) := by
 induction cs with
 | nil => simp [sumL]
 | cons c cs ih =>
  have h1 := h c (by simp)
  have h2 := ih fun x hx => h x (by simp [hx])
  simp only [List.map_cons, List.flatten_cons, List.length_append, sumL, List.sum_cons] at h2 ⊢
  omega
theorem Sub.size {d : Nat} (hd : 2 ≤ d) {S : StB'} : ∀ {h lo i : Nat} {L : List Sg} {F : List Nat}, Sub d S h lo i L F → (1 ≤ lo → F.length ≤ L.length) ∧ F.length ≤ L.length + 1
 | 0, lo, i, L, F, ⟨h1, h2, h3, _⟩ => by rw [h2]; exact ⟨fun h => by simp; omega, by simp⟩
 | h + 1, lo, i, L, F, ⟨l, cs, h1, h2, h3, h4, h5, h6, h7⟩ => by
  have q := flat_le cs fun c hc => (Sub.size hd (h5 c hc)).1 (by omega)
  have e := inter_len l (cs.map Ch.L) (by simpa using h4)
  rw [h6, h7, e]
  exact ⟨fun _ => by simp only [List.length_cons]; omega, by simp only [List.length_cons]; omega⟩
theorem Sub.one {d : Nat} {S : StB'} {h lo i : Nat} {L l : List Sg} {ks : List Nat} {F : List Nat} (hs : Sub d S (h + 1) lo i L F) (hl : S i = some (l, ks)) (k : Nat) (hk : k ≤ l.length) :
  ∃ (C1 : List Ch) (a : Ch) (C2 : List Ch), ks = C1.map Ch.i ++ a.i :: C2.map Ch.i ∧ C1.length = k ∧ C2.length = l.length - k ∧ (∀ c ∈ C1, Sub d S h (d - 1) c.i c.L c.F) ∧ Sub d S h (d - 1) a.i a.L a.F ∧ (∀ c ∈ C2, Sub d S h (d - 1) c.i c.L c.F) ∧
   L = pre (l.take k) (C1.map Ch.L) ++ (a.L ++ post (l.drop k) (C2.map Ch.L)) ∧ F = i :: ((C1.map Ch.F).flatten ++ (a.F ++ (C2.map Ch.F).flatten)) ∧ lo ≤ l.length ∧ l.length ≤ 2 * d - 1 := by
 obtain ⟨l', cs, h1, h2, h3, h4, h5, h6, h7⟩ := hs
 rw [hl] at h1; cases h1
 have hct : k < cs.length := by omega
 have e1 : cs = cs.take k ++ cs[k] :: cs.drop (k + 1) := by rw [← List.drop_eq_getElem_cons hct, List.take_append_drop]
 refine ⟨cs.take k, cs[k], cs.drop (k + 1), ?_, by simp; omega, by simp; omega, fun c hc => h5 c (List.mem_of_mem_take hc), h5 _ (List.getElem_mem hct), fun c hc => h5 c (List.mem_of_mem_drop hc), ?_, ?_, h2, h3⟩
 ·have e2 := congrArg (List.map Ch.i) e1
  rw [List.map_append, List.map_cons] at e2
  exact e2
 ·have hm := inter_mid (l.take k) (l.drop k) ((cs.take k).map Ch.L) cs[k].L ((cs.drop (k + 1)).map Ch.L) (by simp; omega)
  have e2 := congrArg (List.map Ch.L) e1
  rw [List.map_append, List.map_cons] at e2
  rw [h6, ← hm, List.take_append_drop, ← e2]
 ·have e2 := congrArg (List.map Ch.F) e1
  rw [List.map_append, List.map_cons] at e2
  rw [h7, e2]
  simp only [List.flatten_append, List.flatten_cons]
theorem Sub.mk1 {d : Nat} {S : StB'} {h lo i : Nat} {A B : List Sg} {C1 : List Ch} {a : Ch} {C2 : List Ch} (hl : S i = some (A ++ B, C1.map Ch.i ++ a.i :: C2.map Ch.i)) (hA : C1.length = A.length) (hB : C2.length = B.length)
  (h1 : ∀ c ∈ C1, Sub d S h (d - 1) c.i c.L c.F) (h2 : Sub d S h (d - 1) a.i a.L a.F) (h3 : ∀ c ∈ C2, Sub d S h (d - 1) c.i c.L c.F) (hlo : lo ≤ A.length + B.length) (hhi : A.length + B.length ≤ 2 * d - 1) :
  Sub d S (h + 1) lo i (pre A (C1.map Ch.L) ++ (a.L ++ post B (C2.map Ch.L))) (i :: ((C1.map Ch.F).flatten ++ (a.F ++ (C2.map Ch.F).flatten))) := by
 refine ⟨A ++ B, C1 ++ a :: C2, by rw [hl]; simp, by simpa using hlo, by simpa using hhi, by simp; omega, ?_, ?_, by simp⟩
 ·intro c hc
  rcases List.mem_append.1 hc with hc | hc
  ·exact h1 c hc
  ·rcases List.mem_cons.1 hc with rfl | hc
   ·exact h2
   ·exact h3 c hc
 ·rw [List.map_append, List.map_cons]
  exact (inter_mid A B (C1.map Ch.L) a.L (C2.map Ch.L) (by simpa using hA)).symm
theorem Sub.two {d : Nat} {S : StB'} {h lo i : Nat} {L l : List Sg} {ks : List Nat} {F : List Nat} (hs : Sub d S (h + 1) lo i L F) (hl : S i = some (l, ks)) (k : Nat) (hk : k < l.length) :
  ∃ (C1 : List Ch) (a b : Ch) (C2 : List Ch), ks = C1.map Ch.i ++ a.i :: b.i :: C2.map Ch.i ∧ C1.length = k ∧ C2.length = l.length - (k + 1) ∧ (∀ c ∈ C1, Sub d S h (d - 1) c.i c.L c.F) ∧ Sub d S h (d - 1) a.i a.L a.F ∧ Sub d S h (d - 1) b.i b.L b.F ∧ (∀ c ∈ C2, Sub d S h (d - 1) c.i c.L c.F) ∧
   L = pre (l.take k) (C1.map Ch.L) ++ (a.L ++ l[k] :: (b.L ++ post (l.drop (k + 1)) (C2.map Ch.L))) ∧ F = i :: ((C1.map Ch.F).flatten ++ (a.F ++ (b.F ++ (C2.map Ch.F).flatten))) ∧ lo ≤ l.length ∧ l.length ≤ 2 * d - 1 := by
 obtain ⟨C1, a, C2, q1, q2, q3, q4, q5, q6, q7, q8, q9, q10⟩ := hs.one hl k (by omega)
 cases C2 with
 | nil => simp at q3; omega
 | cons b C2 =>
  refine ⟨C1, a, b, C2, q1, q2, by simp at q3; omega, q4, q5, q6 b (by simp), fun c hc => q6 c (by simp [hc]), ?_, by simpa using q8, q9, q10⟩
  have e : l.drop k = l[k] :: l.drop (k + 1) := List.drop_eq_getElem_cons hk
  rw [q7, e]
  simp only [List.map_cons, post]
theorem Sub.mk2 {d : Nat} {S : StB'} {h lo i : Nat} {A B : List Sg} {x : Sg} {C1 : List Ch} {a b : Ch} {C2 : List Ch} (hl : S i = some (A ++ x :: B, C1.map Ch.i ++ a.i :: b.i :: C2.map Ch.i)) (hA : C1.length = A.length) (hB : C2.length = B.length)
  (h1 : ∀ c ∈ C1, Sub d S h (d - 1) c.i c.L c.F) (h2 : Sub d S h (d - 1) a.i a.L a.F) (h4 : Sub d S h (d - 1) b.i b.L b.F) (h3 : ∀ c ∈ C2, Sub d S h (d - 1) c.i c.L c.F) (hlo : lo ≤ A.length + B.length + 1) (hhi : A.length + B.length + 1 ≤ 2 * d - 1) :
  Sub d S (h + 1) lo i (pre A (C1.map Ch.L) ++ (a.L ++ x :: (b.L ++ post B (C2.map Ch.L)))) (i :: ((C1.map Ch.F).flatten ++ (a.F ++ (b.F ++ (C2.map Ch.F).flatten)))) := by
 have := Sub.mk1 (S := S) (A := A) (B := x :: B) (C1 := C1) (a := a) (C2 := b :: C2) (lo := lo) (h := h) (d := d) (i := i) (by rw [hl]; rfl) hA (by simp; omega) h1 h2 (fun c hc => by
  rcases List.mem_cons.1 hc with rfl | hc
  ·exact h4
  ·exact h3 c hc) (by simp; omega) (by simp; omega)
 simpa [post] using this
theorem Sub.cut {d : Nat} {S : StB'} {h lo i : Nat} {L l1 l2 : List Sg} {up : Sg} {k1 k2 : List Nat} {F : List Nat} (hs : Sub d S h lo i L F) (hl : S i = some (l1 ++ up :: l2, k1 ++ k2)) (hk : 0 < h → k1.length = l1.length + 1) (hk0 : h = 0 → k1 = []) (h1 : d - 1 ≤ l1.length) (h2 : d - 1 ≤ l2.length) :
  ∃ (La Lb : List Sg) (Fa Fb : List Nat), L = La ++ up :: Lb ∧ F = i :: (Fa ++ Fb) ∧ ∀ (S' : StB') (j : Nat), S' i = some (l1, k1) → S' j = some (l2, k2) → (∀ x ∈ Fa ++ Fb, S' x = S x) → Sub d S' h (d - 1) i La (i :: Fa) ∧ Sub d S' h (d - 1) j Lb (j :: Fb) := by
 cases h with
 | zero =>
  obtain ⟨q1, q2, q3, q4⟩ := hs
  rw [hl] at q1
  have e1 : l1 ++ up :: l2 = L := by injection q1 with q1; exact (Prod.mk.inj q1).1
  have e2 : k1 ++ k2 = [] := by injection q1 with q1; exact (Prod.mk.inj q1).2
  obtain ⟨rfl, rfl⟩ := List.append_eq_nil_iff.1 e2
  subst e1
  simp only [List.length_append, List.length_cons] at q4
  exact ⟨l1, l2, [], [], rfl, by simpa using q2, fun S' j r1 r2 _ => ⟨⟨r1, rfl, h1, by omega⟩, ⟨r2, rfl, h2, by omega⟩⟩⟩
 | succ h =>
  obtain ⟨l, cs, q1, q2, q3, q4, q5, q6, q7⟩ := hs
  rw [hl] at q1
  have e1 : l1 ++ up :: l2 = l := by injection q1 with q1; exact (Prod.mk.inj q1).1
  have e2 : k1 ++ k2 = cs.map Ch.i := by injection q1 with q1; exact (Prod.mk.inj q1).2
  subst e1
  have hk := hk (by omega)
  simp only [List.length_append, List.length_cons] at q4 q3
  have hcs : cs = cs.take k1.length ++ cs.drop k1.length := (List.take_append_drop _ _).symm
  have n1 : (cs.take k1.length).map Ch.i = k1 := by rw [List.map_take, ← e2, List.take_left']; rfl
  have n2 : (cs.drop k1.length).map Ch.i = k2 := by rw [List.map_drop, ← e2, List.drop_left']; rfl
  have hl1 : (cs.take k1.length).length = k1.length := by simp; omega
  have hm := inter_seg l1 up l2 ((cs.take k1.length).map Ch.L) ((cs.drop k1.length).map Ch.L) (by simp; omega) (by simp; omega)
  rw [← List.map_append, ← hcs] at hm
  refine ⟨_, _, ((cs.take k1.length).map Ch.F).flatten, ((cs.drop k1.length).map Ch.F).flatten, q6.trans hm, ?_, fun S' j r1 r2 r3 => ⟨⟨l1, cs.take k1.length, by rw [n1]; exact r1, h1, by omega, by omega, fun c hc => (q5 c (List.mem_of_mem_take hc)).keep fun x hx => r3 x ?_, rfl, rfl⟩, ⟨l2, cs.drop k1.length, by rw [n2]; exact r2, h2, by omega, by simp; omega, fun c hc => (q5 c (List.mem_of_mem_drop hc)).keep fun x hx => r3 x ?_, rfl, rfl⟩⟩⟩
  ·rw [q7, ← List.flatten_append, ← List.map_append, ← hcs]
  ·exact List.mem_append.2 (.inl (List.mem_flatten.2 ⟨c.F, List.mem_map.2 ⟨c, hc, rfl⟩, hx⟩))
  ·exact List.mem_append.2 (.inr (List.mem_flatten.2 ⟨c.F, List.mem_map.2 ⟨c, hc, rfl⟩, hx⟩))
theorem Sub.glue {d : Nat} {S : StB'} {h lo i j : Nat} {La Lb l1 l2 : List Sg} {x : Sg} {k1 k2 : List Nat} {Fa Fb : List Nat} (ha : Sub d S h lo i La Fa) (hb : Sub d S h lo j Lb Fb) (hi : S i = some (l1, k1)) (hj : S j = some (l2, k2)) {lo' : Nat} (h1 : lo' ≤ l1.length + l2.length + 1) (h2 : l1.length + l2.length + 1 ≤ 2 * d - 1) :
  ∃ (Ga Gb : List Nat), Fa = i :: Ga ∧ Fb = j :: Gb ∧ ∀ (S' : StB'), S' i = some (l1 ++ x :: l2, k1 ++ k2) → (∀ y ∈ Ga ++ Gb, S' y = S y) → Sub d S' h lo' i (La ++ x :: Lb) (i :: (Ga ++ Gb)) := by
 cases h with
 | zero =>
  obtain ⟨q1, q2, q3, q4⟩ := ha
  obtain ⟨r1, r2, r3, r4⟩ := hb
  rw [hi] at q1; cases q1
  rw [hj] at r1; cases r1
  exact ⟨[], [], by simpa using q2, by simpa using r2, fun S' e _ => ⟨by simpa using e, by simp, by simp; omega, by simp; omega⟩⟩
 | succ h =>
  obtain ⟨l, cs, q1, q2, q3, q4, q5, q6, q7⟩ := ha
  obtain ⟨l', cs', r1, r2, r3, r4, r5, r6, r7⟩ := hb
  rw [hi] at q1; cases q1
  rw [hj] at r1; cases r1
  refine ⟨_, _, q7, r7, fun S' e he => ⟨l1 ++ x :: l2, cs ++ cs', by rw [e]; simp, by simp; omega, by simp; omega, by simp; omega, ?_, ?_, by simp⟩⟩
  ·intro c hc
   rcases List.mem_append.1 hc with hc | hc
   ·exact (q5 c hc).keep fun y hy => he y (List.mem_append.2 (.inl (List.mem_flatten.2 ⟨c.F, List.mem_map.2 ⟨c, hc, rfl⟩, hy⟩)))
   ·exact (r5 c hc).keep fun y hy => he y (List.mem_append.2 (.inr (List.mem_flatten.2 ⟨c.F, List.mem_map.2 ⟨c, hc, rfl⟩, hy⟩)))
  ·rw [List.map_append, inter_seg l1 x l2 _ _ (by simpa using q4) (by simpa using r4), q6, r6]
end Go.Proofs.Bo
