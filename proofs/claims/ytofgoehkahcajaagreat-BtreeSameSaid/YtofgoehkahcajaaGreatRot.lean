import Derived.Test.YtofgoehkahcajaaGreatNG
set_option linter.unusedVariables false
set_option linter.unusedSimpArgs false
namespace Go.Proofs.Bo
open Go Go.RowKit

section
variable {w : World} {tb ab : Nat} {lv fv : Value} {room root : Int} {σ : List (Option Nd)} {free : List Int}

theorem TM.lb (h : TM w tb ab lv fv room root σ free) {i : Int} {n : Nd} (hi : nod σ i = some n) : ∃ lb c, lv = .slice (some ⟨lb, 0, none⟩) σ.length c := by
  obtain ⟨k, _, hk⟩ := nod_some hi
  obtain ⟨lb, c, e, _, _⟩ := h.a.place (by have := (List.getElem?_eq_some_iff.1 hk).1; omega)
  exact ⟨lb, c, e⟩

theorem TM.cell' {lb n c k : Nat} {v : Nd} (h : TM w tb ab (.slice (some ⟨lb, 0, none⟩) n c) fv room root σ free) (hp : nod σ k = some v) {j : Nat} {u : Value} (hu : (encNd v)[j]? = some u) :
    w.cell? ⟨lb, k * 10 + j, none⟩ = some u ∧ w.frozen? ⟨lb, k * 10 + j, none⟩ = false := by
  obtain ⟨k', e, hk⟩ := nod_some hp
  have : k = k' := by omega
  subst this
  exact h.cell hk hu
/-- A store into a field of a node that is there: what it needs, and what is then. -/
theorem TM.st {lb n c k : Nat} (h : TM w tb ab (.slice (some ⟨lb, 0, none⟩) n c) fv room root σ free) (hp : ∃ v, nod σ k = some v) (j : Nat) (u : Value) (f : Nd → Nd) (hj : j < 9) (hv : ∀ v, encNd (f v) = (encNd v).set j u) :
    (∃ x, w.cell? ⟨lb, k * 10 + j, none⟩ = some x) ∧ w.frozen? ⟨lb, k * 10 + j, none⟩ = false ∧ TM (w.setCell ⟨lb, k * 10 + j, none⟩ u) tb ab (.slice (some ⟨lb, 0, none⟩) n c) fv room root (modN σ k f) free ∧ Mod (fun i => i = tb ∨ Foot ab (.slice (some ⟨lb, 0, none⟩) n c) fv i) w (w.setCell ⟨lb, k * 10 + j, none⟩ u) := by
  obtain ⟨v, hp⟩ := hp
  rw [modN_some hp]
  obtain ⟨a, b⟩ := h.set' hp hj (hv v)
  have hl : j < (encNd v).length := by simp [encNd]; omega
  obtain ⟨x, y⟩ := h.cell' hp (j := j) (List.getElem?_eq_getElem hl)
  exact ⟨⟨_, x⟩, y, a, b.mono fun i e => .inl (.inr (.inr (.inl (by rw [e]; rfl))))⟩
theorem atT' {lb n c k : Nat} (h : TM w tb ab (.slice (some ⟨lb, 0, none⟩) n c) fv room root σ free) (hp : ∃ v, nod σ k = some v) :
    Calls Tryz.prog 31 #[.pointer (some ⟨tb, 0, none⟩), .int .i64 k] w fun e w' => e = .returned (.pointer (some ⟨lb, k * 10, none⟩)) ∧ w' = w := by
  obtain ⟨v, hp⟩ := hp
  obtain ⟨k', e, hk⟩ := nod_some hp
  have : k = k' := by omega
  subst this
  exact atT h hk
theorem Is1.some_of {σ : List (Option Nd)} {k : Nat} (h : Is1 σ k) : ∃ n, nod σ k = some n := by
  rcases h with h | h
  · omega
  · exact h
theorem ex_modN {σ : List (Option Nd)} {i : Int} (h : ∃ n, nod σ i = some n) (k : Int) (f : Nd → Nd) : ∃ n, nod (modN σ k f) i = some n := by
  obtain ⟨n, h⟩ := h
  rw [nod_modN]
  split
  · exact ⟨f n, by rw [h]; rfl⟩
  · exact ⟨n, h⟩
theorem ex_hang {σ : List (Option Nd)} {i : Int} (h : ∃ n, nod σ i = some n) (a b c : Int) : ∃ n, nod (hangS σ a b c) i = some n := ex_modN (ex_modN h _ _) _ _

set_option maxHeartbeats 2000000 in
theorem rotT_0_none (h : TM w tb ab lv fv room root σ free) {k m : Nat} {ni nu : Nd} (hi : nod σ k = some ni) (hup : ni.k1 = m) (hu : nod σ m = some nu) (hpp : Is1 σ ni.p) (hin : nu.k0 = -1) :
    Calls Tryz.prog 68 #[.pointer (some ⟨tb, 0, none⟩), .int .i64 k, .int .i64 0] w fun e w' => e = .returned (.tuple #[]) ∧ TM w' tb ab lv fv room (hangR root m ni.p) (rotS σ k m (-1) ni.p 0) free ∧ Mod (fun i => i = tb ∨ Foot ab lv fv i) w w' := by
  obtain ⟨lb, c, rfl⟩ := h.lb hi
  have H1 := atT' h ⟨_, hi⟩
  have H2 := atT' h ⟨_, hu⟩
  have c1 := (h.cell' hi (j := 6) (u := .int .i64 m) (by rw [← hup]; rfl)).1
  have c2 := (h.cell' hu (j := 5) (u := .int .i64 (-1)) (by rw [← hin]; rfl)).1
  have c3 := (h.cell' hi (j := 7) rfl).1
  have P := hangT h m ni.p k (.inr ⟨_, hu⟩) hpp
  have xi := ex_hang ⟨_, hi⟩ m ni.p k
  have xu := ex_hang ⟨_, hu⟩ m ni.p k
  
  clear h hi hu hpp hin hup
  go_enter Tryz.func68, Tryz.ntmps68
  go_wp2_with fail
  refine H1.mono ?_; rintro e w' ⟨rfl, hw⟩; subst hw
  go_wp2_with fail
  refine H2.mono ?_; rintro e w' ⟨rfl, hw⟩; subst hw
  go_wp2_with fail
  refine H1.mono ?_; rintro e w' ⟨rfl, hw⟩; subst hw
  go_wp2_with fail
  refine P.mono ?_
  rintro e w1 ⟨rfl, T1, M1⟩
  clear c1 c2 c3 P H1 H2
  obtain ⟨⟨y1, s1⟩, f1, T2, M2⟩ := T1.st xu 5 (.int .i64 k) (fun n => n.setKid 0 k) (by omega) (fun _ => rfl)
  have xi := ex_modN xi m (fun n => n.setKid 0 k)
  
  go_wp2_with fail
  refine (atT' T1 xu).mono ?_; rintro e w' ⟨rfl, hw⟩; subst hw
  go_wp2_with fail
  clear s1 f1
  obtain ⟨⟨y2, s2⟩, f2, T3, M3⟩ := T2.st xi 7 (.int .i64 m) (parN m) (by omega) (fun _ => rfl)
  refine (atT' T2 xi).mono ?_; rintro e w' ⟨rfl, hw⟩; subst hw
  have xi := ex_modN xi k (parN m)
  
  go_wp2_with fail
  clear s2 f2
  obtain ⟨⟨y3, s3⟩, f3, T4, M4⟩ := T3.st xi 6 (.int .i64 (-1)) (fun n => n.setKid (1 - 0) (-1)) (by omega) (fun _ => rfl)
  refine (atT' T3 xi).mono ?_; rintro e w' ⟨rfl, hw⟩; subst hw
  
  go_wp2_with fail
  go_end0
  exact ⟨rfl, T4, ((M1.trans' M2).trans' M3).trans' M4⟩

set_option maxHeartbeats 2000000 in
theorem rotT_0_some (h : TM w tb ab lv fv room root σ free) {k m q : Nat} {ni nu : Nd} (hi : nod σ k = some ni) (hup : ni.k1 = m) (hu : nod σ m = some nu) (hpp : Is1 σ ni.p) (hin : nu.k0 = (q : Int)) (hq : ∃ v, nod σ q = some v) :
    Calls Tryz.prog 68 #[.pointer (some ⟨tb, 0, none⟩), .int .i64 k, .int .i64 0] w fun e w' => e = .returned (.tuple #[]) ∧ TM w' tb ab lv fv room (hangR root m ni.p) (rotS σ k m q ni.p 0) free ∧ Mod (fun i => i = tb ∨ Foot ab lv fv i) w w' := by
  obtain ⟨lb, c, rfl⟩ := h.lb hi
  have H1 := atT' h ⟨_, hi⟩
  have H2 := atT' h ⟨_, hu⟩
  have c1 := (h.cell' hi (j := 6) (u := .int .i64 m) (by rw [← hup]; rfl)).1
  have c2 := (h.cell' hu (j := 5) (u := .int .i64 q) (by rw [← hin]; rfl)).1
  have c3 := (h.cell' hi (j := 7) rfl).1
  have P := hangT h m ni.p k (.inr ⟨_, hu⟩) hpp
  have xi := ex_hang ⟨_, hi⟩ m ni.p k
  have xu := ex_hang ⟨_, hu⟩ m ni.p k
  have xq := ex_hang hq m ni.p k
  clear h hi hu hpp hin hup
  go_enter Tryz.func68, Tryz.ntmps68
  go_wp2_with fail
  refine H1.mono ?_; rintro e w' ⟨rfl, hw⟩; subst hw
  go_wp2_with fail
  refine H2.mono ?_; rintro e w' ⟨rfl, hw⟩; subst hw
  go_wp2_with fail
  refine H1.mono ?_; rintro e w' ⟨rfl, hw⟩; subst hw
  go_wp2_with fail
  refine P.mono ?_
  rintro e w1 ⟨rfl, T1, M1⟩
  clear c1 c2 c3 P H1 H2
  obtain ⟨⟨y1, s1⟩, f1, T2, M2⟩ := T1.st xu 5 (.int .i64 k) (fun n => n.setKid 0 k) (by omega) (fun _ => rfl)
  have xi := ex_modN xi m (fun n => n.setKid 0 k)
  have xq := ex_modN xq m (fun n => n.setKid 0 k)
  go_wp2_with fail
  refine (atT' T1 xu).mono ?_; rintro e w' ⟨rfl, hw⟩; subst hw
  go_wp2_with fail
  clear s1 f1
  obtain ⟨⟨y2, s2⟩, f2, T3, M3⟩ := T2.st xi 7 (.int .i64 m) (parN m) (by omega) (fun _ => rfl)
  refine (atT' T2 xi).mono ?_; rintro e w' ⟨rfl, hw⟩; subst hw
  have xi := ex_modN xi k (parN m)
  have xq := ex_modN xq k (parN m)
  go_wp2_with fail
  clear s2 f2
  obtain ⟨⟨y3, s3⟩, f3, T4, M4⟩ := T3.st xi 6 (.int .i64 q) (fun n => n.setKid (1 - 0) q) (by omega) (fun _ => rfl)
  refine (atT' T3 xi).mono ?_; rintro e w' ⟨rfl, hw⟩; subst hw
  have xq := ex_modN xq k (fun n => n.setKid (1 - 0) q)
  go_wp2_with fail
  clear s3 f3
  obtain ⟨⟨y4, s4⟩, f4, T5, M5⟩ := T4.st xq 7 (.int .i64 k) (parN k) (by omega) (fun _ => rfl)
  refine (atT' T4 xq).mono ?_; rintro e w' ⟨rfl, hw⟩; subst hw
  go_wp2_with fail
  go_end0
  exact ⟨rfl, T5, (((M1.trans' M2).trans' M3).trans' M4).trans' M5⟩

set_option maxHeartbeats 2000000 in
theorem rotT_1_none (h : TM w tb ab lv fv room root σ free) {k m : Nat} {ni nu : Nd} (hi : nod σ k = some ni) (hup : ni.k0 = m) (hu : nod σ m = some nu) (hpp : Is1 σ ni.p) (hin : nu.k1 = -1) :
    Calls Tryz.prog 68 #[.pointer (some ⟨tb, 0, none⟩), .int .i64 k, .int .i64 1] w fun e w' => e = .returned (.tuple #[]) ∧ TM w' tb ab lv fv room (hangR root m ni.p) (rotS σ k m (-1) ni.p 1) free ∧ Mod (fun i => i = tb ∨ Foot ab lv fv i) w w' := by
  obtain ⟨lb, c, rfl⟩ := h.lb hi
  have H1 := atT' h ⟨_, hi⟩
  have H2 := atT' h ⟨_, hu⟩
  have c1 := (h.cell' hi (j := 5) (u := .int .i64 m) (by rw [← hup]; rfl)).1
  have c2 := (h.cell' hu (j := 6) (u := .int .i64 (-1)) (by rw [← hin]; rfl)).1
  have c3 := (h.cell' hi (j := 7) rfl).1
  have P := hangT h m ni.p k (.inr ⟨_, hu⟩) hpp
  have xi := ex_hang ⟨_, hi⟩ m ni.p k
  have xu := ex_hang ⟨_, hu⟩ m ni.p k
  
  clear h hi hu hpp hin hup
  go_enter Tryz.func68, Tryz.ntmps68
  go_wp2_with fail
  refine H1.mono ?_; rintro e w' ⟨rfl, hw⟩; subst hw
  go_wp2_with fail
  refine H2.mono ?_; rintro e w' ⟨rfl, hw⟩; subst hw
  go_wp2_with fail
  refine H1.mono ?_; rintro e w' ⟨rfl, hw⟩; subst hw
  go_wp2_with fail
  refine P.mono ?_
  rintro e w1 ⟨rfl, T1, M1⟩
  clear c1 c2 c3 P H1 H2
  obtain ⟨⟨y1, s1⟩, f1, T2, M2⟩ := T1.st xu 6 (.int .i64 k) (fun n => n.setKid 1 k) (by omega) (fun _ => rfl)
  have xi := ex_modN xi m (fun n => n.setKid 1 k)
  
  go_wp2_with fail
  refine (atT' T1 xu).mono ?_; rintro e w' ⟨rfl, hw⟩; subst hw
  go_wp2_with fail
  clear s1 f1
  obtain ⟨⟨y2, s2⟩, f2, T3, M3⟩ := T2.st xi 7 (.int .i64 m) (parN m) (by omega) (fun _ => rfl)
  refine (atT' T2 xi).mono ?_; rintro e w' ⟨rfl, hw⟩; subst hw
  have xi := ex_modN xi k (parN m)
  
  go_wp2_with fail
  clear s2 f2
  obtain ⟨⟨y3, s3⟩, f3, T4, M4⟩ := T3.st xi 5 (.int .i64 (-1)) (fun n => n.setKid (1 - 1) (-1)) (by omega) (fun _ => rfl)
  refine (atT' T3 xi).mono ?_; rintro e w' ⟨rfl, hw⟩; subst hw
  
  go_wp2_with fail
  go_end0
  exact ⟨rfl, T4, ((M1.trans' M2).trans' M3).trans' M4⟩

set_option maxHeartbeats 2000000 in
theorem rotT_1_some (h : TM w tb ab lv fv room root σ free) {k m q : Nat} {ni nu : Nd} (hi : nod σ k = some ni) (hup : ni.k0 = m) (hu : nod σ m = some nu) (hpp : Is1 σ ni.p) (hin : nu.k1 = (q : Int)) (hq : ∃ v, nod σ q = some v) :
    Calls Tryz.prog 68 #[.pointer (some ⟨tb, 0, none⟩), .int .i64 k, .int .i64 1] w fun e w' => e = .returned (.tuple #[]) ∧ TM w' tb ab lv fv room (hangR root m ni.p) (rotS σ k m q ni.p 1) free ∧ Mod (fun i => i = tb ∨ Foot ab lv fv i) w w' := by
  obtain ⟨lb, c, rfl⟩ := h.lb hi
  have H1 := atT' h ⟨_, hi⟩
  have H2 := atT' h ⟨_, hu⟩
  have c1 := (h.cell' hi (j := 5) (u := .int .i64 m) (by rw [← hup]; rfl)).1
  have c2 := (h.cell' hu (j := 6) (u := .int .i64 q) (by rw [← hin]; rfl)).1
  have c3 := (h.cell' hi (j := 7) rfl).1
  have P := hangT h m ni.p k (.inr ⟨_, hu⟩) hpp
  have xi := ex_hang ⟨_, hi⟩ m ni.p k
  have xu := ex_hang ⟨_, hu⟩ m ni.p k
  have xq := ex_hang hq m ni.p k
  clear h hi hu hpp hin hup
  go_enter Tryz.func68, Tryz.ntmps68
  go_wp2_with fail
  refine H1.mono ?_; rintro e w' ⟨rfl, hw⟩; subst hw
  go_wp2_with fail
  refine H2.mono ?_; rintro e w' ⟨rfl, hw⟩; subst hw
  go_wp2_with fail
  refine H1.mono ?_; rintro e w' ⟨rfl, hw⟩; subst hw
  go_wp2_with fail
  refine P.mono ?_
  rintro e w1 ⟨rfl, T1, M1⟩
  clear c1 c2 c3 P H1 H2
  obtain ⟨⟨y1, s1⟩, f1, T2, M2⟩ := T1.st xu 6 (.int .i64 k) (fun n => n.setKid 1 k) (by omega) (fun _ => rfl)
  have xi := ex_modN xi m (fun n => n.setKid 1 k)
  have xq := ex_modN xq m (fun n => n.setKid 1 k)
  go_wp2_with fail
  refine (atT' T1 xu).mono ?_; rintro e w' ⟨rfl, hw⟩; subst hw
  go_wp2_with fail
  clear s1 f1
  obtain ⟨⟨y2, s2⟩, f2, T3, M3⟩ := T2.st xi 7 (.int .i64 m) (parN m) (by omega) (fun _ => rfl)
  refine (atT' T2 xi).mono ?_; rintro e w' ⟨rfl, hw⟩; subst hw
  have xi := ex_modN xi k (parN m)
  have xq := ex_modN xq k (parN m)
  go_wp2_with fail
  clear s2 f2
  obtain ⟨⟨y3, s3⟩, f3, T4, M4⟩ := T3.st xi 5 (.int .i64 q) (fun n => n.setKid (1 - 1) q) (by omega) (fun _ => rfl)
  refine (atT' T3 xi).mono ?_; rintro e w' ⟨rfl, hw⟩; subst hw
  have xq := ex_modN xq k (fun n => n.setKid (1 - 1) q)
  go_wp2_with fail
  clear s3 f3
  obtain ⟨⟨y4, s4⟩, f4, T5, M5⟩ := T4.st xq 7 (.int .i64 k) (parN k) (by omega) (fun _ => rfl)
  refine (atT' T4 xq).mono ?_; rintro e w' ⟨rfl, hw⟩; subst hw
  go_wp2_with fail
  go_end0
  exact ⟨rfl, T5, (((M1.trans' M2).trans' M3).trans' M4).trans' M5⟩
end
end Go.Proofs.Bo
