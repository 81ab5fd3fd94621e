import Derived.Test.YtgehgjaglgafdaaGreatG18
import Derived.Test.YtgehgjaglgafdaaGreatG27
import Derived.Test.YtgehgjaglgafdaaGreatG26
import Derived.Test.YtgehgjaglgafdaaGreatG24
import Derived.Test.YtgehgjaglgafdaaGreatG22
import Derived.Laws.AppendOwnNone
set_option linter.unusedVariables false
set_option linter.unusedSimpArgs false
namespace Go.Proofs.Bo
theorem posL_app (c : Int) (A B : List Sg) : posL c (A ++ B) = posL c A + posL c B := by unfold posL; rw [List.filter_append, List.length_append]
theorem posL_cons (c : Int) (x : Sg) (B : List Sg) : posL c (x :: B) = (if ky x < c then 1 else 0) + posL c B := by
 unfold posL
 rw [List.filter_cons]
 by_cases h : ky x < c
 ·simp [h]; omega
 ·simp [h]
theorem split_at (l : List Sg) (k : Nat) (hk : k < l.length) : l = l.take k ++ l[k] :: l.drop (k + 1) := by rw [← List.drop_eq_getElem_cons hk, List.take_append_drop]
theorem set_at (l : List Sg) (k : Nat) (y : Sg) (hk : k < l.length) : l.set k y = l.take k ++ y :: l.drop (k + 1) := by
 have e := List.set_eq_take_append_cons_drop (l := l) (i := k) (a := y)
 rwa [if_pos hk] at e
theorem posL_set {c : Int} {l : List Sg} {k : Nat} {y : Sg} (hk : k < l.length) (h : ky l[k] < c ↔ ky y < c) : posL c (l.set k y) = posL c l := by
 have e := split_at l k hk
 rw [set_at l k y hk]
 conv => rhs; rw [e]
 rw [posL_app, posL_app, posL_cons, posL_cons]
 by_cases h1 : ky y < c
 ·rw [if_pos h1, if_pos (h.2 h1)]
 ·rw [if_neg h1, if_neg fun h2 => h1 (h.1 h2)]
theorem posL_del {c : Int} {l : List Sg} {k : Nat} (hk : k < l.length) : posL c l = posL c (l.take k ++ l.drop (k + 1)) + (if ky l[k] < c then 1 else 0) := by
 conv => lhs; rw [split_at l k hk]
 rw [posL_app, posL_app, posL_cons]
 omega
theorem hasK_false {c : Int} {l : List Sg} : hasK c l = false ↔ ∀ x ∈ l, ky x ≠ c := by
 unfold hasK
 rw [List.any_eq_false]
 simp
theorem hasK_set {c : Int} {l : List Sg} {k : Nat} {y : Sg} (hk : k < l.length) (h : hasK c l = false) (hy : ky y ≠ c) : hasK c (l.set k y) = false := by
 rw [hasK_false] at h ⊢
 intro x hx
 rcases List.mem_or_eq_of_mem_set hx with hx | rfl
 ·exact h x hx
 ·exact hy
theorem posL_get {c : Int} {l : List Sg} (hs : Srt l) (t : Nat) (ht : t < l.length) : (t < posL c l → ky l[t] < c) ∧ (posL c l ≤ t → c ≤ ky l[t]) := by
 obtain ⟨h1, h2⟩ := posL_lo (k := c) hs
 refine ⟨fun h => h1 _ ?_, fun h => h2 _ ?_⟩
 ·rw [List.mem_iff_getElem]
  exact ⟨t, by simp; omega, by simp⟩
 ·rw [List.mem_iff_getElem]
  exact ⟨t - posL c l, by simp; omega, by rw [List.getElem_drop]; congr 1; omega⟩
def SameP (l : List Sg) (k : Nat) (l' : List Sg) (k' : Nat) : Prop := ∀ c, posL c l = k → hasK c l = false → posL c l' = k' ∧ hasK c l' = false
theorem SameP.refl (l : List Sg) (k : Nat) : SameP l k l k := fun _ h1 h2 => ⟨h1, h2⟩
theorem SameP.left {l : List Sg} {k : Nat} {y : Sg} (hs : Srt l) (hk : k < l.length) (hy : ky y < ky l[k]) : SameP l (k + 1) (l.set k y) (k + 1) := by
 intro c h1 h2
 have h3 := (posL_get (c := c) hs k hk).1 (by omega)
 exact ⟨(posL_set hk ⟨fun _ => by omega, fun _ => h3⟩).trans h1, hasK_set hk h2 (by omega)⟩
theorem SameP.right {l : List Sg} {k : Nat} {y : Sg} (hs : Srt l) (hk : k < l.length) (hy : ky l[k] < ky y) : SameP l k (l.set k y) k := by
 intro c h1 h2
 have h3 := (posL_get (c := c) hs k hk).2 (by omega)
 exact ⟨(posL_set hk ⟨fun _ => by omega, fun _ => by omega⟩).trans h1, hasK_set hk h2 (by omega)⟩
theorem has_del {c : Int} {l : List Sg} (k : Nat) (h : hasK c l = false) : hasK c (l.take k ++ l.drop (k + 1)) = false := by
 rw [hasK_false] at h ⊢
 intro x hx
 rcases List.mem_append.1 hx with hx | hx
 ·exact h x (List.mem_of_mem_take hx)
 ·exact h x (List.mem_of_mem_drop hx)
theorem SameP.join {l : List Sg} {k : Nat} (hs : Srt l) (hk : k < l.length) : SameP l k (l.take k ++ l.drop (k + 1)) k := by
 intro c h1 h2
 have h3 := (posL_get (c := c) hs k hk).2 (by omega)
 have h4 := posL_del (c := c) hk
 rw [if_neg (by omega)] at h4
 exact ⟨by omega, has_del k h2⟩
theorem SameP.join2 {l : List Sg} {k : Nat} (hs : Srt l) (hk : k < l.length) : SameP l (k + 1) (l.take k ++ l.drop (k + 1)) k := by
 intro c h1 h2
 have h3 := (posL_get (c := c) hs k hk).1 (by omega)
 have h4 := posL_del (c := c) hk
 rw [if_pos h3] at h4
 exact ⟨by omega, has_del k h2⟩
def DropAt (d : Nat) (S : StB') (T : List Sg) (H r0 : Nat) (c : Int) (g r : Nat) : Prop :=
 ∃ (A B Li : List Sg) (Fl Fr F : List Nat) (lo : Nat), Alls S (Fl ++ (F ++ Fr)) ∧ Sub d S g (lo + 1) r Li F ∧ Hole d S H 0 r0 A B Fl Fr g lo r ∧ Row Li ∧ hasK c Li = true ∧ T = A ++ (delL c Li ++ B)
theorem del_mid {c : Int} {P M Q : List Sg} (h1 : ∀ x ∈ P, ky x ≠ c) (h2 : ∀ x ∈ Q, ky x ≠ c) : delL c (P ++ (M ++ Q)) = P ++ (delL c M ++ Q) := by
 unfold delL
 have e1 : P.filter (fun x => decide (ky x ≠ c)) = P := List.filter_eq_self.2 (by simpa using h1)
 have e2 : Q.filter (fun x => decide (ky x ≠ c)) = Q := List.filter_eq_self.2 (by simpa using h2)
 rw [List.filter_append, List.filter_append, e1, e2]
theorem DropAt.down {d : Nat} (hd : 2 ≤ d) {S : StB'} {T A B Li l : List Sg} {Fl Fr F ks : List Nat} {H r0 : Nat} {c : Int} {g r lo : Nat} (hAll : Alls S (Fl ++ (F ++ Fr))) (hs : Sub d S (g + 1) lo r Li F) (hH : Hole d S H 0 r0 A B Fl Fr (g + 1) lo r) (hr : Row Li) (hc : hasK c Li = true) (hT : T = A ++ (delL c Li ++ B))
  (hi : S r = some (l, ks)) (hno : hasK c l = false) {kt : Nat} {lt : List Sg} {kk : List Nat} (h1 : ks[posL c l]? = some kt) (h2 : S kt = some (lt, kk)) (h3 : d ≤ lt.length) : DropAt d S T H r0 c g kt := by
 have hsl : Srt l := hr.1.sublist (hs.row hi)
 have hnot := drop_gt hsl hno
 have hlo := (posL_lo (k := c) hsl).1
 obtain ⟨ht2, P, Q, L', F', F1, F2, hS', rfl, part, rfl, hH'⟩ := hs.hole hi hr.1 (posL c l) (posL_le c l)
 have hP := part.lt _ hlo
 have hQ := part.ge _ hnot
 rw [List.getElem?_eq_getElem ht2] at h1
 obtain rfl : ks[posL c l] = kt := by injection h1
 have hrow : Row L' := hr.sub ((List.sublist_append_left _ _).trans (List.sublist_append_right _ _))
 refine ⟨A ++ P, Q ++ B, L', Fl ++ (r :: F1), F2 ++ Fr, F', d - 1, by simpa using hAll, (hS'.raise h2 (by omega)), hH.down hH', hrow, ?_, ?_⟩
 ·rw [← hc]
  exact (has_mid hP hQ).symm
 ·rw [hT, del_mid (fun x hx => by have := hP x hx; omega) (fun x hx => by have := hQ x hx; omega)]
  simp
theorem Sub.holeA {d : Nat} {S S' : StB'} {g lo i k : Nat} {L l : List Sg} {ks F : List Nat} (hs : Sub d S (g + 1) lo i L F) (hi : S i = some (l, ks)) (hnd : F.Nodup) (hk : k < l.length) (s : Sg) (e1 : S' i = some (l.set k s, ks)) (e2 : ∀ x, x ≠ i → S' x = S x) :
  ∃ (kt : Nat) (P Q L' : List Sg) (F' F1 F2 : List Nat), ks[k]? = some kt ∧ Sub d S' g (d - 1) kt L' F' ∧ L = P ++ (L' ++ l[k] :: Q) ∧ F = (i :: F1) ++ (F' ++ F2) ∧ Hole d S' (g + 1) lo i P (s :: Q) (i :: F1) F2 g (d - 1) kt := by
 obtain ⟨C1, a, b, C2, q1, q2, q3, q4, q5, q6, q7, q8, q9, q10, q11⟩ := hs.two hi k hk
 have nd0 := List.nodup_cons.1 (q9 ▸ hnd)
 have kp : ∀ z, z ∈ ((C1.map Ch.F).flatten ++ (a.F ++ (b.F ++ (C2.map Ch.F).flatten))) → S' z = S z := fun z hz => e2 z fun e => nd0.1 (e ▸ hz)
 refine ⟨a.i, pre (l.take k) (C1.map Ch.L), b.L ++ post (l.drop (k + 1)) (C2.map Ch.L), a.L, a.F, (C1.map Ch.F).flatten, b.F ++ (C2.map Ch.F).flatten, ?_, q5.keep fun z hz => kp z (by simp [hz]), by rw [q8], by rw [q9]; simp, ?_⟩
 ·rw [q1, List.getElem?_append_right (by simp; omega)]; simp [q2]
 ·intro S2 L2 G hk2 hg
  have kp2 : ∀ z, z ∈ (C1.map Ch.F).flatten ++ (b.F ++ (C2.map Ch.F).flatten) → S2 z = S z := fun z hz => by
   refine (hk2 z ?_).trans (kp z ?_)
   ·simp only [List.mem_append, List.mem_cons] at hz ⊢; rcases hz with h | h; exact .inl (.inr h); exact .inr h
   ·simp only [List.mem_append] at hz ⊢; rcases hz with h | h; exact .inl h; exact .inr (.inr h)
  have M := Sub.mk2 (S := S2) (d := d) (h := g) (lo := lo) (i := i) (A := l.take k) (B := l.drop (k + 1)) (x := s) (C1 := C1) (C2 := C2) (a := ⟨a.i, L2, G⟩) (b := b) (by rw [hk2 i (by simp), e1, q1, set_at l k s hk]) (by simp; omega) (by simp; omega)
   (fun c hc => (q4 c hc).keep fun x hx => kp2 x (List.mem_append.2 (.inl (List.mem_flatten.2 ⟨c.F, List.mem_map.2 ⟨c, hc, rfl⟩, hx⟩)))) hg (q6.keep fun x hx => kp2 x (by simp [hx])) (fun c hc => (q7 c hc).keep fun x hx => kp2 x (List.mem_append.2 (.inr (List.mem_append.2 (.inr (List.mem_flatten.2 ⟨c.F, List.mem_map.2 ⟨c, hc, rfl⟩, hx⟩)))))) (by simp; omega) (by simp; omega)
  simpa using M
theorem Sub.holeB {d : Nat} {S S' : StB'} {g lo i k : Nat} {L l : List Sg} {ks F : List Nat} (hs : Sub d S (g + 1) lo i L F) (hi : S i = some (l, ks)) (hnd : F.Nodup) (hk : k < l.length) (s : Sg) (e1 : S' i = some (l.set k s, ks)) (e2 : ∀ x, x ≠ i → S' x = S x) :
  ∃ (kt : Nat) (P Q L' : List Sg) (F' F1 F2 : List Nat), ks[k + 1]? = some kt ∧ Sub d S' g (d - 1) kt L' F' ∧ L = P ++ l[k] :: (L' ++ Q) ∧ F = (i :: F1) ++ (F' ++ F2) ∧ Hole d S' (g + 1) lo i (P ++ [s]) Q (i :: F1) F2 g (d - 1) kt := by
 obtain ⟨C1, a, b, C2, q1, q2, q3, q4, q5, q6, q7, q8, q9, q10, q11⟩ := hs.two hi k hk
 have nd0 := List.nodup_cons.1 (q9 ▸ hnd)
 have kp : ∀ z, z ∈ ((C1.map Ch.F).flatten ++ (a.F ++ (b.F ++ (C2.map Ch.F).flatten))) → S' z = S z := fun z hz => e2 z fun e => nd0.1 (e ▸ hz)
 refine ⟨b.i, pre (l.take k) (C1.map Ch.L) ++ a.L, post (l.drop (k + 1)) (C2.map Ch.L), b.L, b.F, (C1.map Ch.F).flatten ++ a.F, (C2.map Ch.F).flatten, ?_, q6.keep fun z hz => kp z (by simp [hz]), by rw [q8]; simp, by rw [q9]; simp, ?_⟩
 ·rw [q1, List.getElem?_append_right (by simp; omega)]; simp [q2]
 ·intro S2 L2 G hk2 hg
  have kp2 : ∀ z, z ∈ (C1.map Ch.F).flatten ++ (a.F ++ (C2.map Ch.F).flatten) → S2 z = S z := fun z hz => by
   refine (hk2 z ?_).trans (kp z ?_)
   ·simp only [List.mem_append, List.mem_cons] at hz ⊢; rcases hz with h | h | h; exact .inl (.inr (.inl h)); exact .inl (.inr (.inr h)); exact .inr h
   ·simp only [List.mem_append] at hz ⊢; rcases hz with h | h | h; exact .inl h; exact .inr (.inl h); exact .inr (.inr (.inr h))
  have M := Sub.mk2 (S := S2) (d := d) (h := g) (lo := lo) (i := i) (A := l.take k) (B := l.drop (k + 1)) (x := s) (C1 := C1) (C2 := C2) (a := a) (b := ⟨b.i, L2, G⟩) (by rw [hk2 i (by simp), e1, q1, set_at l k s hk]) (by simp; omega) (by simp; omega)
   (fun c hc => (q4 c hc).keep fun x hx => kp2 x (List.mem_append.2 (.inl (List.mem_flatten.2 ⟨c.F, List.mem_map.2 ⟨c, hc, rfl⟩, hx⟩)))) (q5.keep fun x hx => kp2 x (by simp [hx])) hg (fun c hc => (q7 c hc).keep fun x hx => kp2 x (List.mem_append.2 (.inr (List.mem_append.2 (.inr (List.mem_flatten.2 ⟨c.F, List.mem_map.2 ⟨c, hc, rfl⟩, hx⟩)))))) (by simp; omega) (by simp; omega)
  simpa using M
def endS7 (first : Bool) (L : List Sg) : Option Sg := if first then L.head? else L.getLast?
theorem DropAt.pred {d : Nat} (hd : 2 ≤ d) {S S' : StB'} {T A B Li l : List Sg} {Fl Fr F ks : List Nat} {H r0 : Nat} {c : Int} {g r lo k : Nat} (hAll : Alls S (Fl ++ (F ++ Fr))) (hs : Sub d S (g + 1) (lo + 1) r Li F) (hH : Hole d S H 0 r0 A B Fl Fr (g + 1) lo r) (hr : Row Li) (hT : T = A ++ (delL c Li ++ B))
  (hi : S r = some (l, ks)) (hk : k < l.length) (hc : ky l[k] = c) (s : Sg) (e1 : S' r = some (l.set k s, ks)) (e2 : ∀ x, x ≠ r → S' x = S x) {kt : Nat} {lt : List Sg} {kk : List Nat} (h1 : ks[k]? = some kt) (h2 : S kt = some (lt, kk)) (h3 : d ≤ lt.length) :
  ∃ Lk Fk, Sub d S g d kt Lk Fk ∧ (endS7 false Lk = some s → DropAt d S' T H r0 (ky s) g kt) := by
 have hndF : F.Nodup := (List.nodup_append.1 (List.nodup_append.1 hAll.1).2.1).1
 obtain ⟨kt', P, Q, L', F', F1, F2, q1, q2, q3, q4, q5⟩ := hs.holeA hi hndF hk s e1 e2
 rw [h1] at q1
 obtain rfl : kt = kt' := by injection q1
 have hktr : kt ≠ r := fun e => by
  rw [q4] at hndF
  have := q2.mem
  rw [e] at this
  rw [List.cons_append, List.nodup_cons] at hndF
  exact hndF.1 (by simp [this])
 have hkt : S' kt = some (lt, kk) := (e2 kt hktr).trans h2
 have hsubS : Sub d S g (d - 1) kt L' F' := q2.keep fun j hj => (e2 j fun e => by
  subst e
  rw [q4, List.cons_append, List.nodup_cons] at hndF
  exact hndF.1 (by simp [hj])).symm
 refine ⟨L', F', hsubS.raise h2 h3, fun he => ?_⟩
 obtain ⟨Lp, rfl⟩ : ∃ Lp, L' = Lp ++ [s] := by
  rcases List.eq_nil_or_concat L' with rfl | ⟨Lp, x, rfl⟩
  ·simp [endS7] at he
  ·simp [endS7] at he; subst he; exact ⟨Lp, by simp⟩
 have hrow : Row (Lp ++ [s]) := hr.sub (by rw [q3]; exact (List.sublist_append_left _ _).trans (List.sublist_append_right _ _))
 have hsr := hr.1
 rw [q3] at hsr
 have hx := Srt.app (a := P ++ (Lp ++ [s])) (s := l[k]) (b := Q) (by simpa using hsr)
 have hlt := List.pairwise_append.1 hrow.1
 have hroot := hH.keep (S2 := S') (fun j hj => e2 j fun e => by
  subst e
  have n1 := List.nodup_append.1 hAll.1
  have n2 := List.nodup_append.1 n1.2.1
  rcases List.mem_append.1 hj with hj | hj
  ·exact n1.2.2 _ hj j (by simp [hs.mem]) rfl
  ·exact n2.2.2 j hs.mem _ hj rfl)
 refine ⟨A ++ P, (s :: Q) ++ B, Lp ++ [s], Fl ++ (r :: F1), F2 ++ Fr, F', d - 1, ?_, q2.raise hkt (by omega), hroot.down (fun S2 L2 F2' h1 h2 => (q5 S2 L2 F2' h1 h2).low (Nat.le_succ lo)), hrow, by simp [hasK], ?_⟩
 ·rw [q4] at hAll
  have : Fl ++ (r :: F1) ++ (F' ++ (F2 ++ Fr)) = Fl ++ ((r :: F1 ++ (F' ++ F2)) ++ Fr) := by simp
  rw [this]
  refine ⟨hAll.1, fun i => ?_⟩
  rw [hAll.2 i]
  by_cases e : i = r
  ·subst e; rw [e1, hi]; simp
  ·rw [e2 i e]
 ·have hd1 : delL c Li = P ++ ((Lp ++ [s]) ++ Q) := by
   rw [q3]
   have := del_old (a := P ++ (Lp ++ [s])) (y := l[k]) (b := Q) hc (fun x hx2 => by have := hx.1 x hx2; omega) (fun x hx2 => by have := hx.2 x hx2; omega)
   simpa using this
  have hd2 : delL (ky s) (Lp ++ [s]) = Lp := by
   have := del_old (a := Lp) (y := s) (b := []) rfl (fun x hx2 => hlt.2.2 x hx2 s (by simp)) (fun x hx2 => by simp at hx2)
   simpa using this
  rw [hT, hd1, hd2]
  simp
theorem DropAt.succ {d : Nat} (hd : 2 ≤ d) {S S' : StB'} {T A B Li l : List Sg} {Fl Fr F ks : List Nat} {H r0 : Nat} {c : Int} {g r lo k : Nat} (hAll : Alls S (Fl ++ (F ++ Fr))) (hs : Sub d S (g + 1) (lo + 1) r Li F) (hH : Hole d S H 0 r0 A B Fl Fr (g + 1) lo r) (hr : Row Li) (hT : T = A ++ (delL c Li ++ B))
  (hi : S r = some (l, ks)) (hk : k < l.length) (hc : ky l[k] = c) (s : Sg) (e1 : S' r = some (l.set k s, ks)) (e2 : ∀ x, x ≠ r → S' x = S x) {kt : Nat} {lt : List Sg} {kk : List Nat} (h1 : ks[k + 1]? = some kt) (h2 : S kt = some (lt, kk)) (h3 : d ≤ lt.length) :
  ∃ Lk Fk, Sub d S g d kt Lk Fk ∧ (endS7 true Lk = some s → DropAt d S' T H r0 (ky s) g kt) := by
 have hndF : F.Nodup := (List.nodup_append.1 (List.nodup_append.1 hAll.1).2.1).1
 obtain ⟨kt', P, Q, L', F', F1, F2, q1, q2, q3, q4, q5⟩ := hs.holeB hi hndF hk s e1 e2
 rw [h1] at q1
 obtain rfl : kt = kt' := by injection q1
 have hktr : kt ≠ r := fun e => by
  rw [q4] at hndF
  have := q2.mem
  rw [e] at this
  rw [List.cons_append, List.nodup_cons] at hndF
  exact hndF.1 (by simp [this])
 have hkt : S' kt = some (lt, kk) := (e2 kt hktr).trans h2
 have hsubS : Sub d S g (d - 1) kt L' F' := q2.keep fun j hj => (e2 j fun e => by
  subst e
  rw [q4, List.cons_append, List.nodup_cons] at hndF
  exact hndF.1 (by simp [hj])).symm
 refine ⟨L', F', hsubS.raise h2 h3, fun he => ?_⟩
 obtain ⟨Lp, rfl⟩ : ∃ Lp, L' = s :: Lp := by
  cases L' with
  | nil => simp [endS7] at he
  | cons x Lp => simp [endS7] at he; subst he; exact ⟨Lp, rfl⟩
 have hrow : Row (s :: Lp) := hr.sub (by rw [q3]; exact ((List.sublist_append_left _ _).trans (List.sublist_cons_self _ _)).trans (List.sublist_append_right _ _))
 have hsr := hr.1
 rw [q3] at hsr
 have hx := Srt.app (a := P) (s := l[k]) (b := (s :: Lp) ++ Q) hsr
 have hlt := List.pairwise_cons.1 hrow.1
 have hroot := hH.keep (S2 := S') (fun j hj => e2 j fun e => by
  subst e
  have n1 := List.nodup_append.1 hAll.1
  have n2 := List.nodup_append.1 n1.2.1
  rcases List.mem_append.1 hj with hj | hj
  ·exact n1.2.2 _ hj j (by simp [hs.mem]) rfl
  ·exact n2.2.2 j hs.mem _ hj rfl)
 refine ⟨A ++ (P ++ [s]), Q ++ B, s :: Lp, Fl ++ (r :: F1), F2 ++ Fr, F', d - 1, ?_, q2.raise hkt (by omega), hroot.down (fun S2 L2 F2' h1 h2 => (q5 S2 L2 F2' h1 h2).low (Nat.le_succ lo)), hrow, by simp [hasK], ?_⟩
 ·rw [q4] at hAll
  have : Fl ++ (r :: F1) ++ (F' ++ (F2 ++ Fr)) = Fl ++ ((r :: F1 ++ (F' ++ F2)) ++ Fr) := by simp
  rw [this]
  refine ⟨hAll.1, fun i => ?_⟩
  rw [hAll.2 i]
  by_cases e : i = r
  ·subst e; rw [e1, hi]; simp
  ·rw [e2 i e]
 ·have hd1 : delL c Li = P ++ ((s :: Lp) ++ Q) := by
   rw [q3]
   exact del_old (a := P) (y := l[k]) (b := (s :: Lp) ++ Q) hc (fun x hx2 => by have := hx.1 x hx2; omega) (fun x hx2 => by have := hx.2 x hx2; omega)
  have hd2 : delL (ky s) (s :: Lp) = Lp := by
   have := del_old (a := []) (y := s) (b := Lp) rfl (fun x hx2 => by simp at hx2) (fun x hx2 => hlt.1 x hx2)
   simpa using this
  rw [hT, hd1, hd2]
  simp
theorem DropAt.leaf {d : Nat} {S S' : StB'} {T l : List Sg} {ks : List Nat} {H r0 : Nat} {c : Int} {r k : Nat} (h : DropAt d S T H r0 c 0 r) (hi : S r = some (l, ks)) (hk : k < l.length) (hc : ky l[k] = c) (e1 : S' r = some (l.take k ++ l.drop (k + 1), ks)) (e2 : ∀ x, x ≠ r → S' x = S x) : ∃ F0, Sub d S' H 0 r0 T F0 ∧ Alls S' F0 := by
 obtain ⟨A, B, Li, Fl, Fr, F, lo, hAll, hs, hH, hr, _, hT⟩ := h
 obtain ⟨q1, q2, q3, q4⟩ := hs
 rw [hi] at q1
 have e3 : l = Li := by injection q1 with q1; exact (Prod.mk.inj q1).1
 have e4 : ks = [] := by injection q1 with q1; exact (Prod.mk.inj q1).2
 subst e3 e4 q2
 have hs' : Sub d S' 0 lo r (l.take k ++ l.drop (k + 1)) [r] := ⟨e1, rfl, by simp; omega, by simp; omega⟩
 obtain ⟨a1, a2⟩ := (Chg.mk (S := S) (S' := S') (F := [r]) (F' := [r]) (fun x hx _ => e2 x (by simpa using hx)) (by simp) (fun x hx => .inl hx) (fun x hx hx' => absurd hx hx')).all hAll (fun x hx => hs'.live x hx)
 have hroot := hH S' _ _ a2 hs'
 have hsr := hr.1
 rw [split_at l k hk] at hsr
 have hx := Srt.app hsr
 have hd1 : delL c l = l.take k ++ l.drop (k + 1) := by
  conv => lhs; rw [split_at l k hk]
  exact del_old hc (fun x hx2 => by have := hx.1 x hx2; omega) (fun x hx2 => by have := hx.2 x hx2; omega)
 rw [hT, hd1]
 exact ⟨_, hroot, a1⟩
open Go Go.RowKit
theorem root_some {d : Nat} {S : StB} {H r0 : Nat} {T l : List Sg} {ks F : List Nat} (hs : Sub d S H 0 r0 T F) (hA : Alls S F) (hi : S r0 = some (l, ks)) (hl : l ≠ []) : PT d S r0 T := by
 have : 0 < l.length := List.length_pos_iff.2 hl
 exact .inr ⟨r0, H, F, rfl, hs.raise hi this, hA.1, hA.2⟩
theorem root_leaf {d : Nat} {S : StB} {H r0 : Nat} {T : List Sg} {F : List Nat} (hs : Sub d S H 0 r0 T F) (hA : Alls S F) (hi : S r0 = some ([], [])) : PT d (S.set r0 none) (-1) T := by
 cases H with
 | zero =>
  obtain ⟨q1, q2, _⟩ := hs
  rw [hi] at q1; cases q1
  subst q2
  refine .inl ⟨rfl, rfl, fun i => ?_⟩
  by_cases e : i = r0
  ·subst e; exact StB.set_self ..
  ·rw [StB.set_ne _ _ e]
   refine Classical.byContradiction fun h => ?_
   have := (hA.2 i).2 h
   simp at this
   exact e this
 | succ H =>
  have := (hs.lens hi).2.2.2 (by omega)
  simp at this
theorem root_kid {d : Nat} (hd : 2 ≤ d) {S : StB} {H r0 : Nat} {T : List Sg} {ks F : List Nat} (hs : Sub d S H 0 r0 T F) (hA : Alls S F) (hi : S r0 = some ([], ks)) (hk : ks ≠ []) : ∃ (h0 : 0 < ks.length), PT d (S.set r0 none) (ks[0] : Nat) T := by
 cases H with
 | zero => exact absurd ((hs.lens hi).2.2.1 rfl) hk
 | succ H =>
  obtain ⟨l, cs, q1, q2, q3, q4, q5, q6, q7⟩ := hs
  rw [hi] at q1
  have e1 : [] = l := by injection q1 with q1; exact (Prod.mk.inj q1).1
  have e2 : ks = cs.map Ch.i := by injection q1 with q1; exact (Prod.mk.inj q1).2
  subst e1 e2
  match cs, q4 with
  | [c], _ =>
   have hc := q5 c (by simp)
   have hF : F = r0 :: c.F := by rw [q7]; simp
   rw [hF] at hA
   have nd := List.nodup_cons.1 hA.1
   refine ⟨by simp, .inr ⟨c.i, H, c.F, rfl, ?_, nd.2, fun i => ?_⟩⟩
   ·have e : T = c.L := by rw [q6]; simp [inter, post]
    rw [e]
    exact (hc.low (by omega)).keep fun j hj => StB.set_ne _ _ fun e => nd.1 (e ▸ hj)
   ·by_cases e : i = r0
    ·subst e
     rw [StB.set_self]
     exact ⟨fun h => absurd h nd.1, fun h => absurd rfl h⟩
    ·rw [StB.set_ne _ _ e, ← hA.2 i, List.mem_cons]
     exact ⟨.inr, fun h => h.resolve_left e⟩
open Go Go.RowKit
section
variable {w w' W : World} {tb ab : Nat} {lv fv : Value} {σ : List (Option Bn)} {free : List Int} {root deg room many : Int} {S : StB}
theorem MemB.nodeF {lb n c i : Nat} {l : List Sg} {ks : List Nat} (h : MemB w tb ab (.slice (some ⟨lb, 0, none⟩) n c) fv σ free root deg room many S) (hS : S i = some (l, ks)) :
  ∃ b, σ[i]? = some (some b) ∧ NodeB w b l ks ∧ w.cell? ⟨lb, i * 3, none⟩ = some (.slice b.la l.length b.lc) ∧ w.cell? ⟨lb, i * 3 + 1, none⟩ = some (.slice b.ka ks.length b.kc) ∧ w.frozen? ⟨lb, i * 3, none⟩ = false ∧ w.frozen? ⟨lb, i * 3 + 1, none⟩ = false := by
 obtain ⟨b, hb, hn⟩ := h.live hS
 obtain ⟨q0, q1, q2, q3⟩ := h.cells hb
 rw [hn.ln] at q0
 rw [hn.kn] at q1
 exact ⟨b, hb, hn, q0, q1, q2, q3⟩
theorem MemB.hdr {lb n c t i : Nat} {bt bi : Bn} (h : MemB w tb ab (.slice (some ⟨lb, 0, none⟩) n c) fv σ free root deg room many S) (hbt : σ[t]? = some (some bt)) (x : Bool) (M : Mod (fun j => (bt.v x).ownBlock = some j) w W) (hbi : σ[i]? = some (some bi)) :
  W.cell? ⟨lb, i * 3, none⟩ = some (.slice bi.la bi.ln bi.lc) ∧ W.cell? ⟨lb, i * 3 + 1, none⟩ = some (.slice bi.ka bi.kn bi.kc) ∧ W.frozen? ⟨lb, i * 3, none⟩ = false ∧ W.frozen? ⟨lb, i * 3 + 1, none⟩ = false := by
 have A1 := h.a.mod M (fun k hk e => (h.away t bt x k hbt e).2 hk)
 have a := A1.cell (i := i) (p := some bi) hbi (j := 0) (u := .slice bi.la bi.ln bi.lc) rfl
 have b := A1.cell (i := i) (p := some bi) hbi (j := 1) (u := .slice bi.ka bi.kn bi.kc) rfl
 simp only [zBn, List.length_cons, List.length_nil, Nat.zero_add, Nat.add_zero, Nat.reduceAdd] at a b
 exact ⟨a.1, b.1, a.2, b.2⟩
theorem MemB.other {t i : Nat} {bt bi : Bn} {l : List Sg} {ks : List Nat} (h : MemB w tb ab lv fv σ free root deg room many S) (hbt : σ[t]? = some (some bt)) (x : Bool) (M : Mod (fun j => (bt.v x).ownBlock = some j) w W) (hbi : σ[i]? = some (some bi)) (hn : NodeB w bi l ks) (hit : i ≠ t) : NodeB W bi l ks :=
 hn.keep fun y k e => M.block k (hn.lt e) fun e2 => hit (h.apart i t bi bt y x k hbi hbt e e2).1
theorem NodeB.newL {b : Bn} {l l' : List Sg} {ks : List Nat} (hn : NodeB w b l ks) (M : Mod (fun j => (b.v false).ownBlock = some j) w W) {A : Option Addr} {n c : Nat} {xs : List Value} (own : W.ownsRow 0 38 5 (.slice A n c) n xs) (hx : xs = l'.flatMap encS) (hl : l'.length = n) : NodeB W (b.upd false A n c) l' ks := by
 subst hx
 refine ⟨?_, ?_⟩
 ·rw [Bn.v_upd, hl]; exact own
 ·rw [Bn.v_upd_ne _ (by decide)]
  exact own_keep hn.2 fun x e => M.block x (hn.lt (x := true) e) fun e2 => absurd (hn.ne (x := true) (y := false) e e2) (by decide)
theorem NodeB.newK {b : Bn} {l : List Sg} {ks ks' : List Nat} (hn : NodeB w b l ks) (M : Mod (fun j => (b.v true).ownBlock = some j) w W) {A : Option Addr} {n c : Nat} {xs : List Value} (own : W.ownsRow 0 3 1 (.slice A n c) n xs) (hx : xs = numsV ks') (hl : ks'.length = n) : NodeB W (b.upd true A n c) l ks' := by
 subst hx
 refine ⟨?_, ?_⟩
 ·rw [Bn.v_upd_ne _ (by decide)]
  exact own_keep hn.1 fun x e => M.block x (hn.lt (x := false) e) fun e2 => absurd (hn.ne (x := false) (y := true) e e2) (by decide)
 ·rw [Bn.v_upd, hl]; exact own
theorem ownB_len (A : Option Addr) (n c n' c' : Nat) : (Value.slice A n c).ownBlock = (Value.slice A n' c').ownBlock := by
 unfold Value.ownBlock
 cases A with
 | none => rfl
 | some a => rfl
theorem MemB.cutL {lb n c f m : Nat} {b : Bn} {l : List Sg} {ks : List Nat} (h : MemB w tb ab (.slice (some ⟨lb, 0, none⟩) n c) fv σ free root deg room many S) (hb : σ[f]? = some (some b)) (hn : NodeB w b l ks) (hm : m ≤ l.length) :
  MemB (w.setCell ⟨lb, f * 3, none⟩ (.slice b.la m b.lc)) tb ab (.slice (some ⟨lb, 0, none⟩) n c) fv (σ.set f (some (b.upd false b.la m b.lc))) free root deg room many (S.set f (some (l.take m, ks))) ∧
   Mod (FootB tb ab (.slice (some ⟨lb, 0, none⟩) n c) fv σ) w (w.setCell ⟨lb, f * 3, none⟩ (.slice b.la m b.lc)) ∧
   MoreB tb ab (.slice (some ⟨lb, 0, none⟩) n c) fv σ w (.slice (some ⟨lb, 0, none⟩) n c) fv (σ.set f (some (b.upd false b.la m b.lc))) := by
 have h0 : w.ownsRow 0 38 5 (.slice b.la l.length b.lc) l.length (l.flatMap encS) := by
  have := hn.1
  rw [show b.v false = .slice b.la b.ln b.lc from rfl, hn.ln] at this
  exact this
 have h1 := own_take h0 m hm
 have NB := hn.newL (l' := l.take m) (Mod.refl _ _) h1 (flat5_cut l m hm).1 (by simp; omega)
 have := h.setF (x := false) hb (Mod.refl _ _) b.la m b.lc (l.take m) ks NB (fun k e => .inl (by rw [← e, show b.v false = .slice b.la b.ln b.lc from rfl]; exact ownB_len ..)) 0 rfl
 simpa only [Nat.add_zero] using this
theorem MemB.cutK {lb n c f m : Nat} {b : Bn} {l : List Sg} {ks : List Nat} (h : MemB w tb ab (.slice (some ⟨lb, 0, none⟩) n c) fv σ free root deg room many S) (hb : σ[f]? = some (some b)) (hn : NodeB w b l ks) (hm : m ≤ ks.length) :
  MemB (w.setCell ⟨lb, f * 3 + 1, none⟩ (.slice b.ka m b.kc)) tb ab (.slice (some ⟨lb, 0, none⟩) n c) fv (σ.set f (some (b.upd true b.ka m b.kc))) free root deg room many (S.set f (some (l, ks.take m))) ∧
   Mod (FootB tb ab (.slice (some ⟨lb, 0, none⟩) n c) fv σ) w (w.setCell ⟨lb, f * 3 + 1, none⟩ (.slice b.ka m b.kc)) ∧
   MoreB tb ab (.slice (some ⟨lb, 0, none⟩) n c) fv σ w (.slice (some ⟨lb, 0, none⟩) n c) fv (σ.set f (some (b.upd true b.ka m b.kc))) := by
 have h0 : w.ownsRow 0 3 1 (.slice b.ka ks.length b.kc) ks.length (numsV ks) := by
  have := hn.2
  rw [show b.v true = .slice b.ka b.kn b.kc from rfl, hn.kn] at this
  exact this
 have h1 := own_take h0 m hm
 have NB := hn.newK (ks' := ks.take m) (Mod.refl _ _) h1 (by simp [numsV]) (by simp; omega)
 exact h.setF (x := true) hb (Mod.refl _ _) b.ka m b.kc l (ks.take m) NB (fun k e => .inl (by rw [← e, show b.v true = .slice b.ka b.kn b.kc from rfl]; exact ownB_len ..)) 1 rfl
theorem share1 {G : Prop} (F : World → Option Addr → Nat → Prop) (h : ∃ P : World → Option Addr → Nat → Prop, ((∀ a b c, F a b c → P a b c) → G) ∧ ∀ a b c, F a b c → P a b c) : G := h.elim fun P q => q.1 q.2
theorem share2 {G : Prop} (F : World → Option Addr → Nat → Value → Prop) (h : ∃ P : World → Option Addr → Nat → Value → Prop, ((∀ a b c d, F a b c d → P a b c d) → G) ∧ ∀ a b c d, F a b c d → P a b c d) : G := h.elim fun P q => q.1 q.2
def Sh3 (w : World) (tb ab : Nat) (lv fv : Value) (σ : List (Option Bn)) (free : List Int) (root deg room many : Int) (S : StB) (i f t : Nat) (vi vf vt : List Sg × List Nat) (W : World) : Prop :=
 ∃ (S' : StB) (σ' : List (Option Bn)), MemB W tb ab lv fv σ' free root deg room many S' ∧ S' i = some vi ∧ S' f = some vf ∧ S' t = some vt ∧ (∀ x, x ≠ i → x ≠ f → x ≠ t → S' x = S x) ∧ σ'.length = σ.length ∧ Mod (FootB tb ab lv fv σ) w W ∧ ∀ x, FootB tb ab lv fv σ' x → FootB tb ab lv fv σ x ∨ w.heap.size ≤ x
theorem sh_next {σ' σ2 : List (Option Bn)} {w1 w2 : World} (M : Mod (FootB tb ab lv fv σ) w W) (F : ∀ x, FootB tb ab lv fv σ' x → FootB tb ab lv fv σ x ∨ w.heap.size ≤ x) (Mq : Mod (fun _ => False) W w1) (X : Mod (FootB tb ab lv fv σ') w1 w2) (F2 : ∀ x, FootB tb ab lv fv σ2 x → FootB tb ab lv fv σ' x ∨ w1.heap.size ≤ x) :
  Mod (FootB tb ab lv fv σ) w w2 ∧ ∀ x, FootB tb ab lv fv σ2 x → FootB tb ab lv fv σ x ∨ w.heap.size ≤ x := by
 have M1 := M.trans' (Mq.mono fun _ h => h.elim)
 exact ⟨M1.trans X F, fun x hx => (F2 x hx).elim (F x) fun q => .inr (Nat.le_trans M1.size q)⟩
section
variable {i f t : Nat} {vi vf vt v : List Sg × List Nat} {S' : StB} {σ' σ2 : List (Option Bn)} {w1 w2 : World}
theorem Sh3.setT (m2 : MemB w2 tb ab lv fv σ2 free root deg room many (S'.set t (some v))) (hi : S' i = some vi) (hf : S' f = some vf) (ho : ∀ x, x ≠ i → x ≠ f → x ≠ t → S' x = S x) (hti : i ≠ t) (htf : f ≠ t) (hl : σ2.length = σ.length)
  (H : Mod (FootB tb ab lv fv σ) w w2 ∧ ∀ x, FootB tb ab lv fv σ2 x → FootB tb ab lv fv σ x ∨ w.heap.size ≤ x) : Sh3 w tb ab lv fv σ free root deg room many S i f t vi vf v w2 :=
 ⟨_, σ2, m2, by rw [StB.set_ne _ _ hti]; exact hi, by rw [StB.set_ne _ _ htf]; exact hf, StB.set_self .., fun x h1 h2 h3 => by rw [StB.set_ne _ _ h3]; exact ho x h1 h2 h3, hl, H.1, H.2⟩
theorem Sh3.setFr (m2 : MemB w2 tb ab lv fv σ2 free root deg room many (S'.set f (some v))) (hi : S' i = some vi) (ht : S' t = some vt) (ho : ∀ x, x ≠ i → x ≠ f → x ≠ t → S' x = S x) (hif : i ≠ f) (htf : t ≠ f) (hl : σ2.length = σ.length)
  (H : Mod (FootB tb ab lv fv σ) w w2 ∧ ∀ x, FootB tb ab lv fv σ2 x → FootB tb ab lv fv σ x ∨ w.heap.size ≤ x) : Sh3 w tb ab lv fv σ free root deg room many S i f t vi v vt w2 :=
 ⟨_, σ2, m2, by rw [StB.set_ne _ _ hif]; exact hi, StB.set_self .., by rw [StB.set_ne _ _ htf]; exact ht, fun x h1 h2 h3 => by rw [StB.set_ne _ _ h2]; exact ho x h1 h2 h3, hl, H.1, H.2⟩
theorem Sh3.setI (m2 : MemB w2 tb ab lv fv σ2 free root deg room many (S'.set i (some v))) (hf : S' f = some vf) (ht : S' t = some vt) (ho : ∀ x, x ≠ i → x ≠ f → x ≠ t → S' x = S x) (hfi : f ≠ i) (hti : t ≠ i) (hl : σ2.length = σ.length)
  (H : Mod (FootB tb ab lv fv σ) w w2 ∧ ∀ x, FootB tb ab lv fv σ2 x → FootB tb ab lv fv σ x ∨ w.heap.size ≤ x) : Sh3 w tb ab lv fv σ free root deg room many S i f t v vf vt w2 :=
 ⟨_, σ2, m2, StB.set_self .., by rw [StB.set_ne _ _ hfi]; exact hf, by rw [StB.set_ne _ _ hti]; exact ht, fun x h1 h2 h3 => by rw [StB.set_ne _ _ h1]; exact ho x h1 h2 h3, hl, H.1, H.2⟩
end
def ShJ (w : World) (tb ab : Nat) (lv fv : Value) (σ : List (Option Bn)) (root deg room many : Int) (S : StB) (i f t : Nat) (vi vt : List Sg × List Nat) (W : World) : Prop :=
 ∃ (S' : StB) (fv' : Value) (σ' : List (Option Bn)) (free' : List Int), MemB W tb ab lv fv' σ' free' root deg room many S' ∧ S' i = some vi ∧ S' f = none ∧ S' t = some vt ∧ (∀ x, x ≠ i → x ≠ f → x ≠ t → S' x = S x) ∧ σ'.length = σ.length ∧ Mod (FootB tb ab lv fv σ) w W ∧ ∀ x, FootB tb ab lv fv' σ' x → FootB tb ab lv fv σ x ∨ w.heap.size ≤ x
theorem ShJ.setI {fv' : Value} {free' : List Int} {i f t : Nat} {vt v : List Sg × List Nat} {S' : StB} {σ2 : List (Option Bn)} {w2 : World} (m2 : MemB w2 tb ab lv fv' σ2 free' root deg room many (S'.set i (some v))) (hf : S' f = none) (ht : S' t = some vt) (ho : ∀ x, x ≠ i → x ≠ f → x ≠ t → S' x = S x) (hfi : f ≠ i) (hti : t ≠ i) (hl : σ2.length = σ.length)
  (H : Mod (FootB tb ab lv fv σ) w w2 ∧ ∀ x, FootB tb ab lv fv' σ2 x → FootB tb ab lv fv σ x ∨ w.heap.size ≤ x) : ShJ w tb ab lv fv σ root deg room many S i f t v vt w2 :=
 ⟨_, fv', σ2, free', m2, StB.set_self .., by rw [StB.set_ne _ _ hfi]; exact hf, by rw [StB.set_ne _ _ hti]; exact ht, fun x h1 h2 h3 => by rw [StB.set_ne _ _ h1]; exact ho x h1 h2 h3, hl, H.1, H.2⟩
theorem shj_next {fv' : Value} {σ' σ2 : List (Option Bn)} {w1 w2 : World} (M : Mod (FootB tb ab lv fv σ) w W) (F : ∀ x, FootB tb ab lv fv' σ' x → FootB tb ab lv fv σ x ∨ w.heap.size ≤ x) (Mq : Mod (fun _ => False) W w1) (X : Mod (FootB tb ab lv fv' σ') w1 w2) (F2 : ∀ x, FootB tb ab lv fv' σ2 x → FootB tb ab lv fv' σ' x ∨ w1.heap.size ≤ x) :
  Mod (FootB tb ab lv fv σ) w w2 ∧ ∀ x, FootB tb ab lv fv' σ2 x → FootB tb ab lv fv σ x ∨ w.heap.size ≤ x := by
 have M1 := M.trans' (Mq.mono fun _ h => h.elim)
 exact ⟨M1.trans X F, fun x hx => (F2 x hx).elim (F x) fun q => .inr (Nat.le_trans M1.size q)⟩
theorem step_appN {P : Program} {w : World} {ops : Array Oper} {o : Oper} {a : Act} {K : Act → World → Prop} {Q : Exit → Act → World → Prop} {E : Prop} (v : Value) (n : Nat) (xs : List Value) (s x : Operand) (t e : TypeId) (i : TypeInfo) (size : Nat) (hgd : o.guard = none)
  (ho : o.op = .call { callee := .builtin .append, args := #[s, x], argTypes := #[t, t] }) (ht : P.underlying t = some (.slice e)) (hi : P.info? e = some i) (hs : a.eval s = v) (hx : a.eval x = .slice none 0 0) (hown : w.ownsRow 0 e size v n xs) (h : K (a.put o.dst v) w) :
  if Region.wanted o (yielded ops a.tmps) = true then Oper.wp P o a w K Q else E := by
 have hw : Region.wanted o (yielded ops a.tmps) = true := by simp [Region.wanted, hgd]
 rw [if_pos hw]
 have hrun := run_append_owned_none (P := P) (w := w) 0 t o.type e i size ht hi v n xs hown
 unfold Oper.wp
 simp only [execOp, ho, resolve, invoke, builtin, Sem.run_bind, Sem.run_pure, Result.andThen_ok, List.map_toArray, List.map_cons, List.map_nil, hs, hx, hrun]
 exact h
end
end Go.Proofs.Bo
