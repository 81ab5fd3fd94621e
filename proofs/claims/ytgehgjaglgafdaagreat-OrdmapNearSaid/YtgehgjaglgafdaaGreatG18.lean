import Derived.Test.YtgehgjaglgafdaaGreatG17
import Derived.Test.YtgehgjaglgafdaaGreatG00
set_option linter.unusedVariables false
set_option linter.unusedSimpArgs false
namespace Go.Proofs.Bo
structure Chg (S S' : StB') (F F' : List Nat) : Prop where
 out : ∀ x, x ∉ F → x ∉ F' → S' x = S x
 nd : F'.Nodup
 new : ∀ x ∈ F', x ∈ F ∨ S x = none
 old : ∀ x ∈ F, x ∉ F' → S' x = none
def Alls (S : StB') (F : List Nat) : Prop := F.Nodup ∧ ∀ i, i ∈ F ↔ S i ≠ none
theorem Chg.all {S S' : StB'} {F F' Fl Fr : List Nat} (h : Chg S S' F F') (hA : Alls S (Fl ++ (F ++ Fr))) (hl : ∀ x ∈ F', S' x ≠ none) : Alls S' (Fl ++ (F' ++ Fr)) ∧ ∀ x ∈ Fl ++ Fr, S' x = S x := by
 obtain ⟨h1, h2⟩ := hA
 have n1 := List.nodup_append.1 h1
 have n2 := List.nodup_append.1 n1.2.1
 have key : ∀ x, x ∈ Fl ++ Fr → x ∉ F ∧ x ∉ F' := by
  intro x hx
  have hxF : x ∉ F := fun e => by
   rcases List.mem_append.1 hx with hx | hx
   ·exact n1.2.2 x hx x (by simp [e]) rfl
   ·exact n2.2.2 x e x hx rfl
  refine ⟨hxF, fun e => ?_⟩
  rcases h.new x e with e2 | e2
  ·exact hxF e2
  ·exact (h2 x).1 (by rcases List.mem_append.1 hx with hx | hx <;> simp [hx]) e2
 have keep : ∀ x ∈ Fl ++ Fr, S' x = S x := fun x hx => h.out x (key x hx).1 (key x hx).2
 refine ⟨⟨?_, fun i => ?_⟩, keep⟩
 ·rw [List.nodup_append]
  refine ⟨n1.1, List.nodup_append.2 ⟨h.nd, n2.2.1, ?_⟩, ?_⟩
  ·rintro a ha b hb rfl; exact (key a (by simp [hb])).2 ha
  ·rintro a ha b hb rfl
   rcases List.mem_append.1 hb with hb | hb
   ·exact (key a (by simp [ha])).2 hb
   ·exact n1.2.2 a ha a (by simp [hb]) rfl
 ·constructor
  ·intro hi
   simp only [List.mem_append] at hi
   rcases hi with hi | hi | hi
   ·rw [keep i (by simp [hi])]; exact (h2 i).1 (by simp [hi])
   ·exact hl i hi
   ·rw [keep i (by simp [hi])]; exact (h2 i).1 (by simp [hi])
  ·intro hi
   by_cases hF' : i ∈ F'
   ·simp [hF']
   ·by_cases hF : i ∈ F
    ·exact absurd (h.old i hF hF') hi
    ·rw [h.out i hF hF'] at hi
     have := (h2 i).2 hi
     simp only [List.mem_append] at this ⊢
     rcases this with q | q | q
     ·exact .inl q
     ·exact absurd q hF
     ·exact .inr (.inr q)
theorem Alls.nil {S : StB'} {F : List Nat} (h : Alls S F) : Alls S ([] ++ (F ++ [])) := by simpa using h
theorem take_mid {C1 C2 : List Nat} {x : Nat} {k : Nat} (h : C1.length = k) : (C1 ++ x :: C2).take (k + 1) = C1 ++ [x] ∧ (C1 ++ x :: C2).drop (k + 1) = C2 ∧ (C1 ++ x :: C2)[k]? = some x := by
 subst h
 refine ⟨?_, ?_, by simp⟩
 ·rw [List.take_append]; simp [List.take_of_length_le]
 ·rw [List.drop_append]; simp [List.drop_of_length_le]
theorem Sub.split {d : Nat} {S : StB'} {g lo i : Nat} {L l : List Sg} {ks : List Nat} {F : List Nat} (hs : Sub d S (g + 1) lo i L F) (hi : S i = some (l, ks)) (hnd : F.Nodup) {k : Nat} (hk : k ≤ l.length) {kid j : Nat} (hkid : ks[k]? = some kid) {l1 l2 : List Sg} {up : Sg} {k1 k2 : List Nat}
  (hkl : S kid = some (l1 ++ up :: l2, k1 ++ k2)) (hk1 : 0 < g → k1.length = l1.length + 1) (hk0 : g = 0 → k1 = []) (h1 : d - 1 ≤ l1.length) (h2 : d - 1 ≤ l2.length) (hj : S j = none) (hlen : l.length + 1 ≤ 2 * d - 1) {S' : StB'}
  (e1 : S' kid = some (l1, k1)) (e2 : S' j = some (l2, k2)) (e3 : S' i = some (l.take k ++ up :: l.drop k, ks.take (k + 1) ++ j :: ks.drop (k + 1))) (e4 : ∀ x, x ≠ kid → x ≠ j → x ≠ i → S' x = S x) :
  ∃ F', Sub d S' (g + 1) (lo + 1) i L F' ∧ Chg S S' F F' := by
 obtain ⟨C1, a, C2, q1, q2, q3, q4, q5, q6, q7, q8, q9, q10⟩ := hs.one hi k hk
 obtain ⟨t1, t2, t3⟩ := take_mid (C1 := C1.map Ch.i) (C2 := C2.map Ch.i) (x := a.i) (k := k) (by simpa using q2)
 rw [q1, t3] at hkid
 obtain rfl : a.i = kid := by injection hkid
 obtain ⟨La, Lb, Fa, Fb, r1, r2, r3⟩ := q5.cut hkl hk1 hk0 h1 h2
 have hji : ∀ x ∈ F, x ≠ j := fun x hx e => by subst e; exact hs.live x hx hj
 have hnd' := hnd
 rw [q8, r2] at hnd
 have nd0 := List.nodup_cons.1 hnd
 have nd1 := List.nodup_append.1 nd0.2
 have nd2 := List.nodup_append.1 nd1.2.1
 have nd3 := List.nodup_cons.1 nd2.1
 have nd4 := List.nodup_append.1 nd3.2
 have m0 : ∀ x ∈ (C1.map Ch.F).flatten ++ (C2.map Ch.F).flatten, S' x = S x := by
  intro x hx
  refine e4 x (fun e => ?_) (hji x (by rw [q8]; rcases List.mem_append.1 hx with hx | hx <;> simp only [List.mem_cons, List.mem_append] <;> simp [hx])) (fun e => ?_)
  ·subst e
   rcases List.mem_append.1 hx with hx | hx
   ·exact nd1.2.2 _ hx a.i (by simp) rfl
   ·exact nd2.2.2 a.i (by simp) _ hx rfl
  ·subst e
   refine nd0.1 ?_
   rcases List.mem_append.1 hx with hx | hx <;> simp only [List.mem_append] <;> simp [hx]
 have m1 : ∀ x ∈ Fa ++ Fb, S' x = S x := by
  intro x hx
  refine e4 x (fun e => ?_) (hji x (by rw [q8, r2]; simp only [List.mem_cons, List.mem_append] at hx ⊢; rcases hx with hx | hx <;> simp [hx])) (fun e => ?_)
  ·subst e; exact nd3.1 hx
  ·subst e
   refine nd0.1 ?_
   simp only [List.mem_append, List.mem_cons] at hx ⊢
   rcases hx with hx | hx <;> simp [hx]
 obtain ⟨s1, s2⟩ := r3 S' j e1 e2 m1
 have M := Sub.mk2 (S := S') (d := d) (h := g) (lo := lo + 1) (i := i) (A := l.take k) (B := l.drop k) (x := up) (C1 := C1) (C2 := C2) (a := ⟨a.i, La, a.i :: Fa⟩) (b := ⟨j, Lb, j :: Fb⟩) (by
   rw [e3, q1, t1, t2]; simp) (by simp; omega) (by simp; omega)
  (fun c hc => (q4 c hc).keep fun x hx => m0 x (List.mem_append.2 (.inl (List.mem_flatten.2 ⟨c.F, List.mem_map.2 ⟨c, hc, rfl⟩, hx⟩)))) s1 s2
  (fun c hc => (q6 c hc).keep fun x hx => m0 x (List.mem_append.2 (.inr (List.mem_flatten.2 ⟨c.F, List.mem_map.2 ⟨c, hc, rfl⟩, hx⟩))))
  (by simp; omega) (by simp; omega)
 have hp : (i :: ((C1.map Ch.F).flatten ++ ((a.i :: Fa) ++ ((j :: Fb) ++ (C2.map Ch.F).flatten)))).Perm (j :: F) := by
  rw [q8, r2]
  refine List.perm_iff_count.2 fun x => ?_
  simp only [List.count_cons, List.count_append]
  omega
 refine ⟨i :: ((C1.map Ch.F).flatten ++ ((a.i :: Fa) ++ ((j :: Fb) ++ (C2.map Ch.F).flatten))), ?_, ⟨fun x hx hx' => ?_, ?_, fun x hx => ?_, fun x hx hx' => absurd (hp.mem_iff.2 (by simp [hx])) hx'⟩⟩
 ·rw [q7, r1]
  simpa using M
 ·have hxj : x ≠ j := fun e => hx' (hp.mem_iff.2 (by simp [e]))
  exact e4 x (fun e => hx (by rw [q8, r2, e]; simp)) hxj (fun e => hx (by rw [e]; exact hs.mem))
 ·exact hp.nodup_iff.2 (List.nodup_cons.2 ⟨fun e => hji j e rfl, hnd'⟩)
 ·rcases List.mem_cons.1 (hp.mem_iff.1 hx) with rfl | hx
  ·exact .inr hj
  ·exact .inl hx
theorem Sub.lens {d : Nat} {S : StB'} {h lo i : Nat} {L l : List Sg} {ks : List Nat} {F : List Nat} (hs : Sub d S h lo i L F) (hl : S i = some (l, ks)) : lo ≤ l.length ∧ l.length ≤ 2 * d - 1 ∧ (h = 0 → ks = []) ∧ (0 < h → ks.length = l.length + 1) := by
 cases h with
 | zero =>
  obtain ⟨q1, q2, q3, q4⟩ := hs
  rw [hl] at q1; cases q1
  exact ⟨q3, q4, fun _ => rfl, fun h => by omega⟩
 | succ h =>
  obtain ⟨l', cs, h1, h2, h3, h4, _⟩ := hs
  rw [hl] at h1; cases h1
  exact ⟨h2, h3, fun h => by omega, fun _ => by simpa using h4⟩
theorem Sub.giveR {d : Nat} {S : StB'} {h lo i j : Nat} {La Lb la lb : List Sg} {x y : Sg} {ka kq kb : List Nat} {Fa Fb : List Nat} (ha : Sub d S h lo i La Fa) (hb : Sub d S h lo j Lb Fb) (hi : S i = some (la ++ [y], ka ++ kq)) (hj : S j = some (lb, kb))
  (h0 : h = 0 → kq = []) (h1 : 0 < h → kq.length = 1) (ea : d - 1 ≤ la.length) (eb : lb.length + 1 ≤ 2 * d - 1) (ebl : d - 1 ≤ lb.length + 1) :
  ∃ (La' Lb' : List Sg) (Fa' Fb' : List Nat), La ++ x :: Lb = La' ++ y :: Lb' ∧ y ∈ La ∧ (i :: Fa' ++ j :: Fb').Perm (Fa ++ Fb) ∧ ∀ (S' : StB'), S' i = some (la, ka) → S' j = some (x :: lb, kq ++ kb) → (∀ z, z ≠ i → z ≠ j → z ∈ Fa ++ Fb → S' z = S z) → i ∉ Fa' → j ∉ Fa' → i ∉ Fb' → j ∉ Fb' → Sub d S' h (d - 1) i La' (i :: Fa') ∧ Sub d S' h (d - 1) j Lb' (j :: Fb') := by
 cases h with
 | zero =>
  obtain rfl := h0 rfl
  obtain ⟨q1, q2, q3, q4⟩ := ha
  obtain ⟨r1, r2, r3, r4⟩ := hb
  rw [hi] at q1
  have e1 : la ++ [y] = La := by injection q1 with q1; exact (Prod.mk.inj q1).1
  have e2 : ka ++ [] = [] := by injection q1 with q1; exact (Prod.mk.inj q1).2
  rw [hj] at r1; cases r1
  simp at e2
  subst e1 e2
  simp only [List.length_append, List.length_cons, List.length_nil] at q4
  refine ⟨la, x :: Lb, [], [], by simp, by simp, by rw [q2, r2], fun S' s1 s2 _ _ _ _ _ => ⟨⟨s1, rfl, ea, by omega⟩, ⟨by simpa using s2, rfl, by simpa using ebl, by simpa using eb⟩⟩⟩
 | succ h =>
  have h1 := h1 (by omega)
  obtain ⟨q, rfl⟩ : ∃ q, kq = [q] := by
   match kq, h1 with
   | [q], _ => exact ⟨q, rfl⟩
  obtain ⟨l, cs, q1, q2, q3, q4, q5, q6, q7⟩ := ha
  obtain ⟨l', cs', r1, r2, r3, r4, r5, r6, r7⟩ := hb
  rw [hi] at q1
  have e1 : la ++ [y] = l := by injection q1 with q1; exact (Prod.mk.inj q1).1
  have e2 : ka ++ [q] = cs.map Ch.i := by injection q1 with q1; exact (Prod.mk.inj q1).2
  rw [hj] at r1
  have e3 : lb = l' := by injection r1 with r1; exact (Prod.mk.inj r1).1
  have e4 : kb = cs'.map Ch.i := by injection r1 with r1; exact (Prod.mk.inj r1).2
  subst e1 e3 e4
  obtain ⟨cs0, c, rfl⟩ : ∃ cs0 c, cs = cs0 ++ [c] := by
   rcases List.eq_nil_or_concat cs with rfl | ⟨cs0, c, rfl⟩
   ·simp at q4
   ·exact ⟨cs0, c, by simp⟩
  simp only [List.map_append, List.map_cons, List.map_nil] at e2
  obtain ⟨rfl, e5⟩ := List.append_inj' e2 rfl
  obtain rfl : q = c.i := by simpa using e5
  simp only [List.length_append, List.length_cons, List.length_nil] at q3 q4
  have hm := inter_seg la y [] (cs0.map Ch.L) [c.L] (by simp; omega) rfl
  have hm2 : inter (x :: lb) (c.L :: cs'.map Ch.L) = c.L ++ x :: inter lb (cs'.map Ch.L) := inter_cons _ _ _ _ (by simp; omega)
  have hone : inter [] [c.L] = c.L := by simp [inter, post]
  rw [hone] at hm
  refine ⟨inter la (cs0.map Ch.L), c.L ++ x :: inter lb (cs'.map Ch.L), (cs0.map Ch.F).flatten, c.F ++ (cs'.map Ch.F).flatten, ?_, ?_, ?_, fun S' s1 s2 s3 n1 n2 n3 n4 => ⟨⟨la, cs0, s1, ea, by omega, by omega, fun u hu => (q5 u (by simp [hu])).keep fun z hz => ?_, rfl, rfl⟩, ⟨x :: lb, c :: cs', by simpa using s2, by simpa using ebl, by simpa using eb, by simp; omega, fun u hu => ?_, hm2.symm, by simp⟩⟩⟩
  ·rw [q6, r6, List.map_append, List.map_cons, List.map_nil, hm]; simp
  ·rw [q6, List.map_append, List.map_cons, List.map_nil, hm]; simp
  ·rw [q7, r7]
   refine List.perm_iff_count.2 fun z => ?_
   simp only [List.count_cons, List.count_append, List.map_append, List.map_cons, List.map_nil, List.flatten_append, List.flatten_cons, List.flatten_nil, List.append_nil]
   omega
  ·have hm3 : z ∈ (cs0.map Ch.F).flatten := List.mem_flatten.2 ⟨u.F, List.mem_map.2 ⟨u, hu, rfl⟩, hz⟩
   exact s3 z (fun e => n1 (e ▸ hm3)) (fun e => n2 (e ▸ hm3)) (by rw [q7]; simp only [List.map_append, List.flatten_append, List.mem_append, List.mem_cons]; exact .inl (.inr (.inl hm3)))
  ·have key : ∀ z ∈ u.F, z ∈ c.F ++ (cs'.map Ch.F).flatten := fun z hz => by
    rcases List.mem_cons.1 hu with rfl | hu
    ·simp [hz]
    ·exact List.mem_append.2 (.inr (List.mem_flatten.2 ⟨u.F, List.mem_map.2 ⟨u, hu, rfl⟩, hz⟩))
   have hsub : Sub d S h (d - 1) u.i u.L u.F := by
    rcases List.mem_cons.1 hu with rfl | hu
    ·exact q5 _ (by simp)
    ·exact r5 u hu
   refine hsub.keep fun z hz => s3 z (fun e => n3 (e ▸ key z hz)) (fun e => n4 (e ▸ key z hz)) ?_
   have := key z hz
   rw [q7, r7]
   simp only [List.map_append, List.map_cons, List.map_nil, List.flatten_append, List.flatten_cons, List.flatten_nil, List.append_nil, List.mem_append, List.mem_cons] at this ⊢
   rcases this with q | q
   ·exact .inl (.inr (.inr q))
   ·exact .inr (.inr q)
theorem Sub.giveL {d : Nat} {S : StB'} {h lo i j : Nat} {La Lb la lb : List Sg} {x y : Sg} {ka kq kb : List Nat} {Fa Fb : List Nat} (ha : Sub d S h lo i La Fa) (hb : Sub d S h lo j Lb Fb) (hi : S i = some (la, ka)) (hj : S j = some (y :: lb, kq ++ kb))
  (h0 : h = 0 → kq = []) (h1 : 0 < h → kq.length = 1) (ea : la.length + 1 ≤ 2 * d - 1) (eal : d - 1 ≤ la.length + 1) (eb : d - 1 ≤ lb.length) :
  ∃ (La' Lb' : List Sg) (Fa' Fb' : List Nat), La ++ x :: Lb = La' ++ y :: Lb' ∧ y ∈ Lb ∧ (i :: Fa' ++ j :: Fb').Perm (Fa ++ Fb) ∧ ∀ (S' : StB'), S' i = some (la ++ [x], ka ++ kq) → S' j = some (lb, kb) → (∀ z, z ≠ i → z ≠ j → z ∈ Fa ++ Fb → S' z = S z) → i ∉ Fa' → j ∉ Fa' → i ∉ Fb' → j ∉ Fb' → Sub d S' h (d - 1) i La' (i :: Fa') ∧ Sub d S' h (d - 1) j Lb' (j :: Fb') := by
 cases h with
 | zero =>
  obtain rfl := h0 rfl
  obtain ⟨q1, q2, q3, q4⟩ := ha
  obtain ⟨r1, r2, r3, r4⟩ := hb
  rw [hj] at r1
  have e1 : y :: lb = Lb := by injection r1 with r1; exact (Prod.mk.inj r1).1
  have e2 : [] ++ kb = [] := by injection r1 with r1; exact (Prod.mk.inj r1).2
  rw [hi] at q1; cases q1
  simp at e2
  subst e1 e2
  simp only [List.length_cons] at r4
  refine ⟨La ++ [x], lb, [], [], by simp, by simp, by rw [q2, r2], fun S' s1 s2 _ _ _ _ _ => ⟨⟨by simpa using s1, rfl, by simpa using eal, by simpa using ea⟩, ⟨s2, rfl, eb, by omega⟩⟩⟩
 | succ h =>
  have h1 := h1 (by omega)
  obtain ⟨q, rfl⟩ : ∃ q, kq = [q] := by
   match kq, h1 with
   | [q], _ => exact ⟨q, rfl⟩
  obtain ⟨l, cs, q1, q2, q3, q4, q5, q6, q7⟩ := ha
  obtain ⟨l', cs', r1, r2, r3, r4, r5, r6, r7⟩ := hb
  rw [hj] at r1
  have e1 : y :: lb = l' := by injection r1 with r1; exact (Prod.mk.inj r1).1
  have e2 : q :: kb = cs'.map Ch.i := by injection r1 with r1; exact (Prod.mk.inj r1).2
  rw [hi] at q1
  have e3 : la = l := by injection q1 with q1; exact (Prod.mk.inj q1).1
  have e4 : ka = cs.map Ch.i := by injection q1 with q1; exact (Prod.mk.inj q1).2
  subst e1 e3 e4
  cases cs' with
  | nil => simp at r4
  | cons c cs' =>
   simp only [List.map_cons, List.cons.injEq] at e2
   obtain ⟨rfl, rfl⟩ := e2
   simp only [List.length_cons] at r3 r4
   have hm := inter_cons y lb c.L (cs'.map Ch.L) (by simp; omega)
   have hm2 := inter_seg la x [] (cs.map Ch.L) [c.L] (by simp; omega) rfl
   have hone : inter [] [c.L] = c.L := by simp [inter, post]
   rw [hone] at hm2
   refine ⟨inter la (cs.map Ch.L) ++ x :: c.L, inter lb (cs'.map Ch.L), (cs.map Ch.F).flatten ++ c.F, (cs'.map Ch.F).flatten, ?_, ?_, ?_, fun S' s1 s2 s3 n1 n2 n3 n4 => ⟨⟨la ++ [x], cs ++ [c], by simpa using s1, by simpa using eal, by simpa using ea, by simp; omega, fun u hu => ?_, by rw [List.map_append, List.map_cons, List.map_nil]; exact hm2.symm, by simp⟩, ⟨lb, cs', s2, eb, by omega, by omega, fun u hu => (r5 u (by simp [hu])).keep fun z hz => ?_, rfl, rfl⟩⟩⟩
   ·rw [q6, r6, List.map_cons, hm]; simp
   ·rw [r6, List.map_cons, hm]; simp
   ·rw [q7, r7]
    refine List.perm_iff_count.2 fun z => ?_
    simp only [List.count_cons, List.count_append, List.map_append, List.map_cons, List.map_nil, List.flatten_append, List.flatten_cons, List.flatten_nil, List.append_nil]
    omega
   ·have key : ∀ z ∈ u.F, z ∈ (cs.map Ch.F).flatten ++ c.F := fun z hz => by
     rcases List.mem_append.1 hu with hu | hu
     ·exact List.mem_append.2 (.inl (List.mem_flatten.2 ⟨u.F, List.mem_map.2 ⟨u, hu, rfl⟩, hz⟩))
     ·simp at hu; subst hu; simp [hz]
    have hsub : Sub d S h (d - 1) u.i u.L u.F := by
     rcases List.mem_append.1 hu with hu | hu
     ·exact q5 u hu
     ·simp at hu; subst hu; exact r5 _ (by simp)
    refine hsub.keep fun z hz => s3 z (fun e => n1 (e ▸ key z hz)) (fun e => n2 (e ▸ key z hz)) ?_
    have := key z hz
    rw [q7, r7]
    simp only [List.map_append, List.map_cons, List.map_nil, List.flatten_append, List.flatten_cons, List.flatten_nil, List.append_nil, List.mem_append, List.mem_cons] at this ⊢
    rcases this with q | q
    ·exact .inl (.inr q)
    ·exact .inr (.inr (.inl q))
   ·have hm3 : z ∈ (cs'.map Ch.F).flatten := List.mem_flatten.2 ⟨u.F, List.mem_map.2 ⟨u, hu, rfl⟩, hz⟩
    exact s3 z (fun e => n3 (e ▸ hm3)) (fun e => n4 (e ▸ hm3)) (by rw [r7]; simp only [List.map_cons, List.flatten_cons, List.mem_append, List.mem_cons]; exact .inr (.inr (.inr hm3)))
theorem Sub.moveR {d : Nat} {S S' : StB'} {g lo i k f t : Nat} {L l la lb : List Sg} {y : Sg} {ks ka kq kb F : List Nat} (hs : Sub d S (g + 1) lo i L F) (hi : S i = some (l, ks)) (hnd : F.Nodup) (hk : k < l.length) (hf0 : ks[k]? = some f) (ht0 : ks[k + 1]? = some t) (hf : S f = some (la ++ [y], ka ++ kq)) (ht : S t = some (lb, kb))
  (h0 : g = 0 → kq = []) (h1 : 0 < g → kq.length = 1) (ea : d - 1 ≤ la.length) (eb : lb.length + 1 ≤ 2 * d - 1) (eb2 : d - 1 ≤ lb.length + 1) (e1 : S' i = some (l.set k y, ks)) (e2 : S' f = some (la, ka)) (e3 : S' t = some (l[k] :: lb, kq ++ kb)) (e4 : ∀ x, x ≠ i → x ≠ f → x ≠ t → S' x = S x) :
  ∃ F', Sub d S' (g + 1) lo i L F' ∧ Chg S S' F F' ∧ (Srt L → ky y < ky l[k]) := by
 obtain ⟨C1, a, b, C2, q1, q2, q3, q4, q5, q6, q7, q8, q9, q10, q11⟩ := hs.two hi k hk
 have hka : ks[k]? = some a.i := by rw [q1, List.getElem?_append_right (by simp; omega)]; simp [q2]
 have hkb : ks[k + 1]? = some b.i := by rw [q1, List.getElem?_append_right (by simp; omega)]; simp [q2]
 rw [hka] at hf0
 rw [hkb] at ht0
 obtain rfl : a.i = f := by injection hf0
 obtain rfl : b.i = t := by injection ht0
 have hsub : ∀ z ∈ a.F ++ b.F, z ∈ F := fun z hz => by
  rw [q9]; simp only [List.mem_cons, List.mem_append] at hz ⊢
  rcases hz with h | h
  ·exact .inr (.inr (.inl h))
  ·exact .inr (.inr (.inr (.inl h)))
 have haF := hsub _ (List.mem_append.2 (.inl q5.mem))
 have hbF := hsub _ (List.mem_append.2 (.inr q6.mem))
 have hiF := hs.mem
 have nd := hnd
 rw [q9] at nd
 have nd0 := List.nodup_cons.1 nd
 have hni : ∀ z ∈ a.F ++ b.F, z ≠ i := fun z hz e => by
  subst e
  refine nd0.1 ?_
  simp only [List.mem_append] at hz ⊢
  rcases hz with h | h
  ·exact .inr (.inl h)
  ·exact .inr (.inr (.inl h))
 obtain ⟨La', Lb', Fa', Fb', r1, r2, r3, r4⟩ := q5.giveR q6 (x := l[k]) hf ht h0 h1 ea eb eb2
 have hp : (i :: ((C1.map Ch.F).flatten ++ ((a.i :: Fa') ++ ((b.i :: Fb') ++ (C2.map Ch.F).flatten)))).Perm F := by
  rw [q9]
  refine List.Perm.cons _ (List.Perm.append_left _ ?_)
  rw [← List.append_assoc, ← List.append_assoc]
  exact List.Perm.append_right _ r3
 have nd' := hp.nodup_iff.2 hnd
 have n1 := (List.nodup_append.1 (List.nodup_cons.1 nd').2).2.1
 have n2 := List.nodup_append.1 n1
 have n3 := List.nodup_cons.1 n2.1
 have n4 := List.nodup_cons.1 (List.nodup_append.1 n2.2.1).1
 have keep : ∀ z, z ≠ a.i → z ≠ b.i → z ∈ a.F ++ b.F → S' z = S z := fun z h1 h2 h3 => e4 z (hni z h3) h1 h2
 obtain ⟨s1, s2⟩ := r4 S' e2 e3 keep n3.1 (fun h => n2.2.2 b.i (by simp [h]) b.i (by simp) rfl) (fun h => n2.2.2 a.i (by simp) a.i (by simp [h]) rfl) n4.1
 have m0 : ∀ c, (c ∈ C1 ∨ c ∈ C2) → ∀ z ∈ c.F, S' z = S z := by
  intro c hc z hz
  have hz2 : z ∈ (C1.map Ch.F).flatten ∨ z ∈ (C2.map Ch.F).flatten := hc.imp (fun h => List.mem_flatten.2 ⟨c.F, List.mem_map.2 ⟨c, h, rfl⟩, hz⟩) fun h => List.mem_flatten.2 ⟨c.F, List.mem_map.2 ⟨c, h, rfl⟩, hz⟩
  have k1 := List.nodup_append.1 nd0.2
  have k2 := List.nodup_append.1 k1.2.1
  have k3 := List.nodup_append.1 k2.2.1
  refine e4 z (fun e => ?_) (fun e => ?_) (fun e => ?_)
  ·subst e
   exact nd0.1 (by simp only [List.mem_append]; rcases hz2 with h | h; exact .inl h; exact .inr (.inr (.inr h)))
  ·subst e
   rcases hz2 with h | h
   ·exact k1.2.2 _ h a.i (by simp [q5.mem]) rfl
   ·exact k2.2.2 a.i q5.mem _ (by simp [h]) rfl
  ·subst e
   rcases hz2 with h | h
   ·exact k1.2.2 _ h b.i (by simp [q6.mem]) rfl
   ·exact k3.2.2 b.i q6.mem _ h rfl
 have M := Sub.mk2 (S := S') (d := d) (h := g) (lo := lo) (i := i) (A := l.take k) (B := l.drop (k + 1)) (x := y) (C1 := C1) (C2 := C2) (a := ⟨a.i, La', a.i :: Fa'⟩) (b := ⟨b.i, Lb', b.i :: Fb'⟩) (by
   have e := List.set_eq_take_append_cons_drop (l := l) (i := k) (a := y)
   rw [if_pos hk] at e
   rw [e1, q1, e]) (by simp; omega) (by simp; omega)
  (fun c hc => (q4 c hc).keep fun x hx => m0 c (.inl hc) x hx) s1 s2 (fun c hc => (q7 c hc).keep fun x hx => m0 c (.inr hc) x hx) (by simp; omega) (by simp; omega)
 refine ⟨_, ?_, ⟨fun x hx _ => e4 x (fun e => hx (e ▸ hiF)) (fun e => hx (e ▸ haF)) (fun e => hx (e ▸ hbF)), nd', fun x hx => .inl (hp.mem_iff.1 hx), fun x hx hx' => absurd (hp.mem_iff.2 hx) hx'⟩, ?_⟩
 ·have e : L = pre (l.take k) (C1.map Ch.L) ++ (La' ++ y :: (Lb' ++ post (l.drop (k + 1)) (C2.map Ch.L))) := by
   have := congrArg (fun u => pre (l.take k) (C1.map Ch.L) ++ (u ++ post (l.drop (k + 1)) (C2.map Ch.L))) r1
   simp only [List.append_assoc, List.cons_append] at this
   rw [q8, this]
  rw [e]
  exact M
 ·intro hsr
  rw [q8] at hsr
  have h1 := (List.pairwise_append.1 hsr).2.1
  exact (List.pairwise_append.1 h1).2.2 y r2 l[k] (by simp)
theorem Sub.moveL {d : Nat} {S S' : StB'} {g lo i k f t : Nat} {L l la lb : List Sg} {y : Sg} {ks ka kq kb F : List Nat} (hs : Sub d S (g + 1) lo i L F) (hi : S i = some (l, ks)) (hnd : F.Nodup) (hk : k < l.length) (hf0 : ks[k]? = some f) (ht0 : ks[k + 1]? = some t) (hf : S f = some (la, ka)) (ht : S t = some (y :: lb, kq ++ kb))
  (h0 : g = 0 → kq = []) (h1 : 0 < g → kq.length = 1) (ea : la.length + 1 ≤ 2 * d - 1) (eb : d - 1 ≤ la.length + 1) (eb2 : d - 1 ≤ lb.length) (e1 : S' i = some (l.set k y, ks)) (e2 : S' f = some (la ++ [l[k]], ka ++ kq)) (e3 : S' t = some (lb, kb)) (e4 : ∀ x, x ≠ i → x ≠ f → x ≠ t → S' x = S x) :
  ∃ F', Sub d S' (g + 1) lo i L F' ∧ Chg S S' F F' ∧ (Srt L → ky l[k] < ky y) := by
 obtain ⟨C1, a, b, C2, q1, q2, q3, q4, q5, q6, q7, q8, q9, q10, q11⟩ := hs.two hi k hk
 have hka : ks[k]? = some a.i := by rw [q1, List.getElem?_append_right (by simp; omega)]; simp [q2]
 have hkb : ks[k + 1]? = some b.i := by rw [q1, List.getElem?_append_right (by simp; omega)]; simp [q2]
 rw [hka] at hf0
 rw [hkb] at ht0
 obtain rfl : a.i = f := by injection hf0
 obtain rfl : b.i = t := by injection ht0
 have hsub : ∀ z ∈ a.F ++ b.F, z ∈ F := fun z hz => by
  rw [q9]; simp only [List.mem_cons, List.mem_append] at hz ⊢
  rcases hz with h | h
  ·exact .inr (.inr (.inl h))
  ·exact .inr (.inr (.inr (.inl h)))
 have haF := hsub _ (List.mem_append.2 (.inl q5.mem))
 have hbF := hsub _ (List.mem_append.2 (.inr q6.mem))
 have hiF := hs.mem
 have nd := hnd
 rw [q9] at nd
 have nd0 := List.nodup_cons.1 nd
 have hni : ∀ z ∈ a.F ++ b.F, z ≠ i := fun z hz e => by
  subst e
  refine nd0.1 ?_
  simp only [List.mem_append] at hz ⊢
  rcases hz with h | h
  ·exact .inr (.inl h)
  ·exact .inr (.inr (.inl h))
 obtain ⟨La', Lb', Fa', Fb', r1, r2, r3, r4⟩ := q5.giveL q6 (x := l[k]) hf ht h0 h1 ea eb eb2
 have hp : (i :: ((C1.map Ch.F).flatten ++ ((a.i :: Fa') ++ ((b.i :: Fb') ++ (C2.map Ch.F).flatten)))).Perm F := by
  rw [q9]
  refine List.Perm.cons _ (List.Perm.append_left _ ?_)
  rw [← List.append_assoc, ← List.append_assoc]
  exact List.Perm.append_right _ r3
 have nd' := hp.nodup_iff.2 hnd
 have n1 := (List.nodup_append.1 (List.nodup_cons.1 nd').2).2.1
 have n2 := List.nodup_append.1 n1
 have n3 := List.nodup_cons.1 n2.1
 have n4 := List.nodup_cons.1 (List.nodup_append.1 n2.2.1).1
 have keep : ∀ z, z ≠ a.i → z ≠ b.i → z ∈ a.F ++ b.F → S' z = S z := fun z h1 h2 h3 => e4 z (hni z h3) h1 h2
 obtain ⟨s1, s2⟩ := r4 S' e2 e3 keep n3.1 (fun h => n2.2.2 b.i (by simp [h]) b.i (by simp) rfl) (fun h => n2.2.2 a.i (by simp) a.i (by simp [h]) rfl) n4.1
 have m0 : ∀ c, (c ∈ C1 ∨ c ∈ C2) → ∀ z ∈ c.F, S' z = S z := by
  intro c hc z hz
  have hz2 : z ∈ (C1.map Ch.F).flatten ∨ z ∈ (C2.map Ch.F).flatten := hc.imp (fun h => List.mem_flatten.2 ⟨c.F, List.mem_map.2 ⟨c, h, rfl⟩, hz⟩) fun h => List.mem_flatten.2 ⟨c.F, List.mem_map.2 ⟨c, h, rfl⟩, hz⟩
  have k1 := List.nodup_append.1 nd0.2
  have k2 := List.nodup_append.1 k1.2.1
  have k3 := List.nodup_append.1 k2.2.1
  refine e4 z (fun e => ?_) (fun e => ?_) (fun e => ?_)
  ·subst e
   exact nd0.1 (by simp only [List.mem_append]; rcases hz2 with h | h; exact .inl h; exact .inr (.inr (.inr h)))
  ·subst e
   rcases hz2 with h | h
   ·exact k1.2.2 _ h a.i (by simp [q5.mem]) rfl
   ·exact k2.2.2 a.i q5.mem _ (by simp [h]) rfl
  ·subst e
   rcases hz2 with h | h
   ·exact k1.2.2 _ h b.i (by simp [q6.mem]) rfl
   ·exact k3.2.2 b.i q6.mem _ h rfl
 have M := Sub.mk2 (S := S') (d := d) (h := g) (lo := lo) (i := i) (A := l.take k) (B := l.drop (k + 1)) (x := y) (C1 := C1) (C2 := C2) (a := ⟨a.i, La', a.i :: Fa'⟩) (b := ⟨b.i, Lb', b.i :: Fb'⟩) (by
   have e := List.set_eq_take_append_cons_drop (l := l) (i := k) (a := y)
   rw [if_pos hk] at e
   rw [e1, q1, e]) (by simp; omega) (by simp; omega)
  (fun c hc => (q4 c hc).keep fun x hx => m0 c (.inl hc) x hx) s1 s2 (fun c hc => (q7 c hc).keep fun x hx => m0 c (.inr hc) x hx) (by simp; omega) (by simp; omega)
 refine ⟨_, ?_, ⟨fun x hx _ => e4 x (fun e => hx (e ▸ hiF)) (fun e => hx (e ▸ haF)) (fun e => hx (e ▸ hbF)), nd', fun x hx => .inl (hp.mem_iff.1 hx), fun x hx hx' => absurd (hp.mem_iff.2 hx) hx'⟩, ?_⟩
 ·have e : L = pre (l.take k) (C1.map Ch.L) ++ (La' ++ y :: (Lb' ++ post (l.drop (k + 1)) (C2.map Ch.L))) := by
   have := congrArg (fun u => pre (l.take k) (C1.map Ch.L) ++ (u ++ post (l.drop (k + 1)) (C2.map Ch.L))) r1
   simp only [List.append_assoc, List.cons_append] at this
   rw [q8, this]
  rw [e]
  exact M
 ·intro hsr
  rw [q8] at hsr
  have h1 := (List.pairwise_append.1 hsr).2.1
  have h2 := (List.pairwise_append.1 h1).2.1
  exact (List.pairwise_cons.1 h2).1 y (by simp [r2])
theorem Sub.joined {d : Nat} {S S' : StB'} {g lo i k f t : Nat} {L l la lb : List Sg} {ks ka kb F : List Nat} (hs : Sub d S (g + 1) lo i L F) (hi : S i = some (l, ks)) (hnd : F.Nodup) (hk : k < l.length) (hf0 : ks[k]? = some f) (ht0 : ks[k + 1]? = some t) (hf : S f = some (la, ka)) (ht : S t = some (lb, kb))
  (hlo : lo + 1 ≤ l.length) (ea : la.length + lb.length + 1 ≤ 2 * d - 1) (ea2 : d - 1 ≤ la.length + lb.length + 1) (e1 : S' i = some (l.take k ++ l.drop (k + 1), ks.take (k + 1) ++ ks.drop (k + 2))) (e2 : S' f = some (la ++ l[k] :: lb, ka ++ kb)) (e3 : S' t = none) (e4 : ∀ x, x ≠ i → x ≠ f → x ≠ t → S' x = S x) :
  ∃ F', Sub d S' (g + 1) lo i L F' ∧ Chg S S' F F' := by
 obtain ⟨C1, a, b, C2, q1, q2, q3, q4, q5, q6, q7, q8, q9, q10, q11⟩ := hs.two hi k hk
 have hka : ks[k]? = some a.i := by rw [q1, List.getElem?_append_right (by simp; omega)]; simp [q2]
 have hkb : ks[k + 1]? = some b.i := by rw [q1, List.getElem?_append_right (by simp; omega)]; simp [q2]
 rw [hka] at hf0
 rw [hkb] at ht0
 obtain rfl : a.i = f := by injection hf0
 obtain rfl : b.i = t := by injection ht0
 have hsub : ∀ z ∈ a.F ++ b.F, z ∈ F := fun z hz => by
  rw [q9]; simp only [List.mem_cons, List.mem_append] at hz ⊢
  rcases hz with h | h
  ·exact .inr (.inr (.inl h))
  ·exact .inr (.inr (.inr (.inl h)))
 have haF := hsub _ (List.mem_append.2 (.inl q5.mem))
 have hbF := hsub _ (List.mem_append.2 (.inr q6.mem))
 have hiF := hs.mem
 have nd := hnd
 rw [q9] at nd
 have nd0 := List.nodup_cons.1 nd
 have hni : ∀ z ∈ a.F ++ b.F, z ≠ i := fun z hz e => by
  subst e
  refine nd0.1 ?_
  simp only [List.mem_append] at hz ⊢
  rcases hz with h | h
  ·exact .inr (.inl h)
  ·exact .inr (.inr (.inl h))
 obtain ⟨Ga, Gb, r1, r2, r3⟩ := q5.glue q6 (x := l[k]) hf ht (lo' := d - 1) ea2 ea
 have hp : (b.i :: i :: ((C1.map Ch.F).flatten ++ ((a.i :: (Ga ++ Gb)) ++ (C2.map Ch.F).flatten))).Perm F := by
  rw [q9, r1, r2]
  refine List.perm_iff_count.2 fun z => ?_
  simp only [List.count_cons, List.count_append]
  omega
 have nd2 := hp.nodup_iff.2 hnd
 have nd3 := List.nodup_cons.1 nd2
 have k1 := List.nodup_append.1 nd0.2
 have k2 := List.nodup_append.1 k1.2.1
 have k3 := List.nodup_append.1 k2.2.1
 have nda := r1 ▸ k2.1
 have ndb := r2 ▸ k3.1
 have keep : ∀ z ∈ Ga ++ Gb, S' z = S z := fun z hz => by
  have hz2 : z ∈ a.F ++ b.F := by rw [r1, r2]; simp only [List.mem_append, List.mem_cons] at hz ⊢; rcases hz with h | h; exact .inl (.inr h); exact .inr (.inr h)
  refine e4 z (hni z hz2) (fun e => ?_) (fun e => ?_)
  ·subst e
   rcases List.mem_append.1 hz with h | h
   ·exact (List.nodup_cons.1 nda).1 h
   ·exact k2.2.2 a.i q5.mem a.i (by rw [r2]; simp [h]) rfl
  ·subst e
   rcases List.mem_append.1 hz with h | h
   ·exact k2.2.2 b.i (by rw [r1]; simp [h]) b.i (by simp [q6.mem]) rfl
   ·exact (List.nodup_cons.1 ndb).1 h
 have s1 := r3 S' e2 keep
 have m0 : ∀ c, (c ∈ C1 ∨ c ∈ C2) → ∀ z ∈ c.F, S' z = S z := by
  intro c hc z hz
  have hz2 : z ∈ (C1.map Ch.F).flatten ∨ z ∈ (C2.map Ch.F).flatten := hc.imp (fun h => List.mem_flatten.2 ⟨c.F, List.mem_map.2 ⟨c, h, rfl⟩, hz⟩) fun h => List.mem_flatten.2 ⟨c.F, List.mem_map.2 ⟨c, h, rfl⟩, hz⟩
  refine e4 z (fun e => ?_) (fun e => ?_) (fun e => ?_)
  ·subst e
   exact nd0.1 (by simp only [List.mem_append]; rcases hz2 with h | h; exact .inl h; exact .inr (.inr (.inr h)))
  ·subst e
   rcases hz2 with h | h
   ·exact k1.2.2 _ h a.i (by simp [q5.mem]) rfl
   ·exact k2.2.2 a.i q5.mem _ (by simp [h]) rfl
  ·subst e
   rcases hz2 with h | h
   ·exact k1.2.2 _ h b.i (by simp [q6.mem]) rfl
   ·exact k3.2.2 b.i q6.mem _ h rfl
 have hks : ks.take (k + 1) ++ ks.drop (k + 2) = C1.map Ch.i ++ a.i :: C2.map Ch.i := by
  have hl : (C1.map Ch.i).length = k := by simpa using q2
  rw [q1, List.take_append, List.drop_append, hl, List.take_of_length_le (by omega), List.drop_of_length_le (by omega)]
  simp
 have M := Sub.mk1 (S := S') (d := d) (h := g) (lo := lo) (i := i) (A := l.take k) (B := l.drop (k + 1)) (C1 := C1) (C2 := C2) (a := ⟨a.i, a.L ++ l[k] :: b.L, a.i :: (Ga ++ Gb)⟩) (by rw [e1, hks]) (by simp; omega) (by simp; omega)
  (fun c hc => (q4 c hc).keep fun x hx => m0 c (.inl hc) x hx) s1 (fun c hc => (q7 c hc).keep fun x hx => m0 c (.inr hc) x hx) (by simp; omega) (by simp; omega)
 refine ⟨_, ?_, ⟨fun x hx _ => e4 x (fun e => hx (e ▸ hiF)) (fun e => hx (e ▸ haF)) (fun e => hx (e ▸ hbF)), nd3.2, fun x hx => .inl (hp.mem_iff.1 (List.mem_cons_of_mem _ hx)), fun x hx hx' => ?_⟩⟩
 ·have e : L = pre (l.take k) (C1.map Ch.L) ++ ((a.L ++ l[k] :: b.L) ++ post (l.drop (k + 1)) (C2.map Ch.L)) := by rw [q8]; simp
  rw [e]
  exact M
 ·rcases List.mem_cons.1 (hp.mem_iff.2 hx) with rfl | h
  ·exact e3
  ·exact absurd h hx'
def StepB (d : Nat) (S : StB') : Nat → Nat → Nat → List Sg → Nat → Prop
 | 0, i, k, R, n => ∃ l, S i = some (l, []) ∧ k ≤ l.length ∧ l.length ≤ 2 * d - 1 ∧ R = l.drop k ∧ n = 1
 | h + 1, i, k, R, n => ∃ (l : List Sg) (cs : List Ch), S i = some (l, cs.map Ch.i) ∧ k ≤ l.length ∧ l.length ≤ 2 * d - 1 ∧ cs.length = l.length + 1 ∧ (∀ c ∈ cs, Sub d S h (d - 1) c.i c.L c.F) ∧ R = post (l.drop k) ((cs.map Ch.L).drop (k + 1)) ∧ n = 1 + ((cs.map Ch.F).drop (k + 1)).flatten.length
theorem Sub.step {d : Nat} {S : StB'} {h lo i : Nat} {L l : List Sg} {ks F : List Nat} (hs : Sub d S h lo i L F) (hl : S i = some (l, ks)) :
  (ks = [] ∧ StepB d S h i 0 L F.length) ∨ ∃ (h' kid : Nat) (L0 : List Sg) (F0 : List Nat) (R : List Sg) (n : Nat), h = h' + 1 ∧ ks[0]? = some kid ∧ Sub d S h' (d - 1) kid L0 F0 ∧ StepB d S h i 0 R n ∧ L = L0 ++ R ∧ F.length = F0.length + n := by
 cases h with
 | zero =>
  obtain ⟨h1, h2, h3, h4⟩ := hs
  rw [hl] at h1; cases h1
  exact .inl ⟨rfl, L, hl, Nat.zero_le _, h4, by simp, by simp [h2]⟩
 | succ h =>
  obtain ⟨l', cs, h1, h2, h3, h4, h5, h6, h7⟩ := hs
  rw [hl] at h1; cases h1
  cases cs with
  | nil => simp at h4
  | cons c cs =>
   refine .inr ⟨h, c.i, c.L, c.F, post l (cs.map Ch.L), 1 + (cs.map Ch.F).flatten.length, rfl, by simp, h5 c (by simp), ⟨l, c :: cs, hl, Nat.zero_le _, h3, h4, h5, by simp, by simp⟩, by rw [h6]; simp [inter], ?_⟩
   rw [h7]; simp; omega
theorem StepB.node {d : Nat} {S : StB'} {h i k n : Nat} {R : List Sg} (hs : StepB d S h i k R n) : ∃ l ks, S i = some (l, ks) ∧ k ≤ l.length ∧ l.length ≤ 2 * d - 1 ∧ (ks = [] → h = 0) ∧ (ks ≠ [] → ks.length = l.length + 1) := by
 cases h with
 | zero => obtain ⟨l, h1, h2, h3, h4⟩ := hs; exact ⟨l, [], h1, h2, h3, fun _ => rfl, fun e => absurd rfl e⟩
 | succ h =>
  obtain ⟨l, cs, h1, h2, h3, h4, h5, h6⟩ := hs
  exact ⟨l, _, h1, h2, h3, fun e => by rw [List.map_eq_nil_iff] at e; subst e; simp at h4, fun _ => by simpa using h4⟩
theorem StepB.done {d : Nat} {S : StB'} {h i n : Nat} {l : List Sg} {ks : List Nat} {R : List Sg} (hs : StepB d S h i l.length R n) (hl : S i = some (l, ks)) : R = [] ∧ n = 1 := by
 cases h with
 | zero => obtain ⟨l', h1, h2, h3, h4, h5⟩ := hs; rw [hl] at h1; cases h1; exact ⟨by simpa using h4, h5⟩
 | succ h =>
  obtain ⟨l', cs, h1, h2, h3, h4, h5, h6, h7⟩ := hs
  rw [hl] at h1; cases h1
  refine ⟨by rw [h6]; simp [post], ?_⟩
  rw [h7, List.drop_eq_nil_of_le (by simp; omega)]; rfl
theorem StepB.pos {d : Nat} {S : StB'} {h i k n : Nat} {R : List Sg} (hs : StepB d S h i k R n) : 1 ≤ n := by
 cases h with
 | zero => obtain ⟨l', h1, h2, h3, h4, h5⟩ := hs; omega
 | succ h => obtain ⟨l', cs, h1, h2, h3, h4, h5, h6, h7⟩ := hs; omega
theorem StepB.next {d : Nat} {S : StB'} {h i k n : Nat} {l : List Sg} {ks : List Nat} {R : List Sg} (hs : StepB d S h i k R n) (hl : S i = some (l, ks)) (hk : k < l.length) :
  (ks = [] ∧ ∃ R', R = l[k] :: R' ∧ StepB d S h i (k + 1) R' n) ∨
  ∃ (h' kid : Nat) (Lk : List Sg) (Fk : List Nat) (R' : List Sg) (n' : Nat), ks ≠ [] ∧ ks[k + 1]? = some kid ∧ Sub d S h' (d - 1) kid Lk Fk ∧ R = l[k] :: (Lk ++ R') ∧ n = Fk.length + n' ∧ StepB d S h i (k + 1) R' n' := by
 cases h with
 | zero =>
  obtain ⟨l', h1, h2, h3, h4, h5⟩ := hs
  rw [hl] at h1; cases h1
  exact .inl ⟨rfl, l.drop (k + 1), by rw [h4, List.drop_eq_getElem_cons hk], l, hl, hk, h3, rfl, h5⟩
 | succ h =>
  obtain ⟨l', cs, h1, h2, h3, h4, h5, h6, h7⟩ := hs
  rw [hl] at h1; cases h1
  have hc : k + 1 < cs.length := by omega
  refine .inr ⟨h, cs[k + 1].i, cs[k + 1].L, cs[k + 1].F, post (l.drop (k + 1)) ((cs.map Ch.L).drop (k + 1 + 1)), 1 + ((cs.map Ch.F).drop (k + 1 + 1)).flatten.length, fun e => by rw [List.map_eq_nil_iff] at e; subst e; simp at h4, by simp [hc], h5 _ (List.getElem_mem hc), ?_, ?_, l, cs, hl, hk, h3, h4, h5, rfl, rfl⟩
  ·rw [h6, List.drop_eq_getElem_cons hk, List.drop_eq_getElem_cons (l := cs.map Ch.L) (by simpa using hc)]
   simp [post]
  ·rw [h7, List.drop_eq_getElem_cons (l := cs.map Ch.F) (by simpa using hc)]
   simp; omega
theorem StepB.keep {d : Nat} {S : StB'} {h i k n : Nat} {R : List Sg} (hs : StepB d S h i k R n) : StepB d S h i k R n := hs
def WayB (d : Nat) (S : StB') : List (Nat × Nat) → List Sg → Nat → Prop
 | [], R, N => R = [] ∧ N = 0
 | (i, k) :: ws, R, N => ∃ (h : Nat) (R1 : List Sg) (n1 : Nat) (R2 : List Sg) (N2 : Nat), StepB d S h i k R1 n1 ∧ WayB d S ws R2 N2 ∧ R = R1 ++ R2 ∧ N = n1 + N2
theorem WayB.len {d : Nat} {S : StB'} : ∀ {ws : List (Nat × Nat)} {R : List Sg} {N : Nat}, WayB d S ws R N → ws.length ≤ N
 | [], _, _, _ => Nat.zero_le _
 | (i, k) :: ws, R, N, ⟨h, R1, n1, R2, N2, h1, h2, h3, h4⟩ => by
  have := WayB.len h2
  have := h1.pos
  simp; omega
theorem sum_pow (m : Nat) (ps : List (List Sg)) (h : ∀ p ∈ ps, m ≤ p.length + 1) : ps.length * m ≤ sumL ps + ps.length := by
 induction ps with
 | nil => simp [sumL]
 | cons p ps ih =>
  have h1 := h p (by simp)
  have h2 := ih fun q hq => h q (by simp [hq])
  have e : sumL (p :: ps) = p.length + sumL ps := by simp [sumL]
  rw [e, List.length_cons, Nat.succ_mul]
  omega
theorem Sub.pow {d : Nat} (hd : 2 ≤ d) {S : StB'} : ∀ {h lo i : Nat} {L : List Sg} {F : List Nat}, Sub d S h lo i L F → (lo + 1) * d ^ h ≤ L.length + 1
 | 0, lo, i, L, F, ⟨h1, h2, h3, h4⟩ => by simp; omega
 | h + 1, lo, i, L, F, ⟨l, cs, h1, h2, h3, h4, h5, h6, h7⟩ => by
  have key := sum_pow (d ^ (h + 1)) (cs.map Ch.L) (by
   intro p hp
   obtain ⟨c, hc, rfl⟩ := List.mem_map.1 hp
   have := Sub.pow hd (h5 c hc)
   rw [Nat.sub_add_cancel (by omega)] at this
   rwa [Nat.pow_succ, Nat.mul_comm])
  have hlen := inter_len l (cs.map Ch.L) (by simpa using h4)
  rw [List.length_map, h4] at key
  have h8 : (lo + 1) * d ^ (h + 1) ≤ (l.length + 1) * d ^ (h + 1) := Nat.mul_le_mul_right _ (by omega)
  rw [h6, hlen]
  omega
open Go Go.RowKit
structure Bn where
 la : Option Addr
 ln : Nat
 lc : Nat
 ka : Option Addr
 kn : Nat
 kc : Nat
def Bn.lv (b : Bn) : Value := .slice b.la b.ln b.lc
def encBn (b : Bn) : List Value := [.slice b.la b.ln b.lc, .slice b.ka b.kn b.kc]
def zBn : List Value := [.slice none 0 0, .slice none 0 0]
end Go.Proofs.Bo
