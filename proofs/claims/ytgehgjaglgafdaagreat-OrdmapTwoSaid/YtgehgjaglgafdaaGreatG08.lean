import Derived.Test.YtgehgjaglgafdaaGreatG00
import Derived.Test.YtgehgjaglgafdaaGreatG07
import Derived.Test.YtgehgjaglgafdaaGreatG01
import Derived.Deep.QuietTactic
import Derived.BigQuiet
set_option linter.unusedVariables false
set_option linter.unusedSimpArgs false
namespace Go.Proofs.Bo
def nod (σ : List (Option Nd)) (i : Int) : Option Nd := if 0 ≤ i then (σ[i.toNat]?).join else none
def pnod (σ : List (Option Nd)) (i : Int) (n : Nd) : List (Option Nd) := σ.set i.toNat (some n)
theorem nod_some {σ : List (Option Nd)} {i : Int} {n : Nd} (h : nod σ i = some n) : ∃ k : Nat, i = k ∧ σ[k]? = some (some n) := by
 unfold nod at h
 split at h
 ·refine ⟨i.toNat, by omega, ?_⟩
  cases hl : σ[i.toNat]? with
  | none => rw [hl] at h; cases h
  | some p => rw [hl] at h; cases p with | none => cases h | some u => simp at h; rw [h]
 ·cases h
theorem nod_of {σ : List (Option Nd)} {k : Nat} {n : Nd} (h : σ[k]? = some (some n)) : nod σ k = some n := by
 unfold nod; rw [if_pos (by omega)]; simp [h]
theorem nod_neg (σ : List (Option Nd)) : nod σ (-1) = none := rfl
theorem nod_pnod {σ : List (Option Nd)} {k : Int} {n n' : Nd} (h : nod σ k = some n) (i : Int) : nod (pnod σ k n') i = if i = k then some n' else nod σ i := by
 obtain ⟨k, rfl, hk⟩ := nod_some h
 have hl := (List.getElem?_eq_some_iff.1 hk).1
 unfold nod pnod
 rw [Int.toNat_natCast]
 by_cases h0 : 0 ≤ i
 ·obtain ⟨j, rfl⟩ := Int.eq_ofNat_of_zero_le h0
  rw [if_pos h0, Int.toNat_natCast]
  by_cases e : j = k
  ·subst e; rw [if_pos rfl, List.getElem?_set_self hl]; rfl
  ·rw [if_neg (by omega), List.getElem?_set_ne (Ne.symm e), if_pos h0]; try simp
 ·rw [if_neg h0, if_neg (by omega), if_neg h0]
theorem pnod_length (σ : List (Option Nd)) (k : Int) (n : Nd) : (pnod σ k n).length = σ.length := by simp [pnod]
def Nd.setKid (n : Nd) (d : Int) (i : Int) : Nd := if d = 0 then { n with k0 := i } else { n with k1 := i }
def modN (σ : List (Option Nd)) (i : Int) (f : Nd → Nd) : List (Option Nd) := match nod σ i with
 | none => σ
 | some n => pnod σ i (f n)
theorem modN_neg (σ : List (Option Nd)) (f : Nd → Nd) : modN σ (-1) f = σ := rfl
theorem modN_some {σ : List (Option Nd)} {i : Int} {n : Nd} (h : nod σ i = some n) (f : Nd → Nd) : modN σ i f = pnod σ i (f n) := by unfold modN; rw [h]
theorem nod_modN (σ : List (Option Nd)) (k : Int) (f : Nd → Nd) (i : Int) : nod (modN σ k f) i = if i = k then (nod σ i).map f else nod σ i := by
 unfold modN
 cases h : nod σ k with
 | none => by_cases e : i = k
           ·subst e; simp [h]
           ·simp [e]
 | some n => simp only []
             rw [nod_pnod h]
             by_cases e : i = k
             ·subst e; simp [h]
             ·simp [e]
theorem modN_length (σ : List (Option Nd)) (k : Int) (f : Nd → Nd) : (modN σ k f).length = σ.length := by
 unfold modN; split
 ·rfl
 ·exact pnod_length _ _ _
def Is1 (σ : List (Option Nd)) (i : Int) : Prop := i = -1 ∨ ∃ n, nod σ i = some n
def hangK (old i : Int) (np : Nd) : Nd := np.setKid (if np.k0 = old then 0 else 1) i
def parN (p : Int) (n : Nd) : Nd := { n with p := p }
def redN (b : Bool) (n : Nd) : Nd := { n with red := b }
def hangR (root i parent : Int) : Int := if parent = -1 then i else root
def hangS (σ : List (Option Nd)) (i parent old : Int) : List (Option Nd) := modN (modN σ parent (hangK old i)) i (parN parent)
def rotS (σ : List (Option Nd)) (i up inner pp d : Int) : List (Option Nd) :=
 modN (modN (modN (modN (hangS σ up pp i) up (fun n => n.setKid d i)) i (parN up)) i (fun n => n.setKid (1 - d) inner)) inner (parN i)
open Go Go.RowKit
section
variable {w : World} {tb ab : Nat} {lv fv : Value} {room root : Int} {σ : List (Option Nd)} {free : List Int}
theorem TM.set' {lb n c k j : Nat} {v v' : Nd} {u : Value} (h : TM w tb ab (.slice (some ⟨lb, 0, none⟩) n c) fv room root σ free) (hp : nod σ k = some v) (hj : j < 9) (hv : encNd v' = (encNd v).set j u) :
  TM (w.setCell ⟨lb, k * 10 + j, none⟩ u) tb ab (.slice (some ⟨lb, 0, none⟩) n c) fv room root (pnod σ k v') free ∧ Mod (fun i => i = lb) w (w.setCell ⟨lb, k * 10 + j, none⟩ u) := by
 obtain ⟨k', e, hk⟩ := nod_some hp
 have : k = k' := by omega
 subst this
 exact h.setF hk hj hv
set_option maxHeartbeats 1000000 in
theorem hangT_00 (h : TM w tb ab lv fv room root σ free) (old : Int) :
  Calls Tryz.prog 173 #[.pointer (some ⟨tb, 0, none⟩), .int .i64 (-1), .int .i64 (-1), .int .i64 old] w fun e w' => e = .returned (.tuple #[]) ∧ TM w' tb ab lv fv room (-1) σ free ∧ Mod (fun i => i = tb ∨ Foot ab lv fv i) w w' := by
 obtain ⟨d0, e0⟩ := blkc h.t
 obtain ⟨T1, M1⟩ := h.setRoot (-1)
 go_enter Tryz.func173, Tryz.ntmps173
 go_wp2_with fail
 go_end0
 exact ⟨rfl, T1, M1.mono fun j h => .inl (.inl h)⟩
set_option maxHeartbeats 1000000 in
theorem hangT_0k (h : TM w tb ab lv fv room root σ free) (old : Int) {k : Nat} {v : Nd} (hk : σ[k]? = some (some v)) :
  Calls Tryz.prog 173 #[.pointer (some ⟨tb, 0, none⟩), .int .i64 k, .int .i64 (-1), .int .i64 old] w fun e w' => e = .returned (.tuple #[]) ∧ TM w' tb ab lv fv room k (pnod σ k { v with p := -1 }) free ∧ Mod (fun i => i = tb ∨ Foot ab lv fv i) w w' := by
 obtain ⟨lb, c, rfl, _, _⟩ := h.a.place (by have := (List.getElem?_eq_some_iff.1 hk).1; omega)
 obtain ⟨d0, e0⟩ := blkc h.t
 obtain ⟨T1, M1⟩ := h.setRoot k
 obtain ⟨T2, M2⟩ := T1.set' (j := 7) (u := .int .i64 (-1)) (nod_of hk) (by omega) (v' := { v with p := -1 }) rfl
 have H := atT T1 hk
 obtain ⟨c7, f7⟩ := T1.cell hk (j := 7) rfl
 have hb : ((k : Int) != -1) = true := by simp
 go_enter Tryz.func173, Tryz.ntmps173
 go_wp2_with (go_at_call 169; refine H.mono ?_; rintro e w' ⟨rfl, hw⟩; subst hw)
 go_end0
 exact ⟨rfl, T2, (M1.mono fun j h => .inl (.inl h)).trans M2 fun j h => .inl (.inr (.inr (.inl (by rw [h]; rfl))))⟩
set_option maxHeartbeats 2000000 in
theorem hangT_p0 (h : TM w tb ab lv fv room root σ free) (old : Int) {p : Nat} {np : Nd} (hp : σ[p]? = some (some np))  :
  Calls Tryz.prog 173 #[.pointer (some ⟨tb, 0, none⟩), .int .i64 (-1), .int .i64 p, .int .i64 old] w fun e w' => e = .returned (.tuple #[]) ∧ TM w' tb ab lv fv room root (pnod σ p (np.setKid (if np.k0 = old then 0 else 1) (-1))) free ∧ Mod (fun i => i = tb ∨ Foot ab lv fv i) w w' := by
 obtain ⟨lb, c, rfl, _, _⟩ := h.a.place (by have := (List.getElem?_eq_some_iff.1 hp).1; omega)
 have H := fun n => atT (h.drewN n) hp
 have S := fun n => sideT (h.drewN n) hp old
 have hb : ((p : Int) == -1) = false := by simp
 by_cases hs : np.k0 = old
 ·simp only [hs, if_true] at S ⊢
  obtain ⟨c5, f5⟩ := h.cell hp (j := 5) rfl
  go_enter Tryz.func173, Tryz.ntmps173
  go_wp2_with fail
  refine wp_region_quiet_tail 11 (by kernel_rfl) (by kernel_rfl) ?_
  simp only [List.take_succ_cons, List.take_zero, List.drop_succ_cons, List.drop_zero]
  repeat (any_goals (first | go_big_quiet_step ((first | (go_at_call 169; exact Calls.quiet_of_same (H _)) | (go_at_call 187; exact Calls.quiet_of_same (S _)))) | quiet_step ((first | (go_at_call 169; exact Calls.quiet_of_same (H _)) | (go_at_call 187; exact Calls.quiet_of_same (S _))))))
  refine wpQuiet_nil ?_
  rintro W6 ⟨nq, rfl⟩
  obtain ⟨T1, M1⟩ := (h.drewN nq).set' (j := 5) (u := .int .i64 (-1)) (nod_of hp) (by omega) (v' := np.setKid 0 (-1)) rfl
  have M1 := M1.of_drewN
  go_wp2_with fail
  go_end0
  exact ⟨rfl, T1, M1.mono fun j h => .inl (.inr (.inr (.inl (by rw [h]; rfl))))⟩
 ·simp only [hs, if_false] at S ⊢
  obtain ⟨c5, f5⟩ := h.cell hp (j := 6) rfl
  go_enter Tryz.func173, Tryz.ntmps173
  go_wp2_with fail
  refine wp_region_quiet_tail 11 (by kernel_rfl) (by kernel_rfl) ?_
  simp only [List.take_succ_cons, List.take_zero, List.drop_succ_cons, List.drop_zero]
  repeat (any_goals (first | go_big_quiet_step ((first | (go_at_call 169; exact Calls.quiet_of_same (H _)) | (go_at_call 187; exact Calls.quiet_of_same (S _)))) | quiet_step ((first | (go_at_call 169; exact Calls.quiet_of_same (H _)) | (go_at_call 187; exact Calls.quiet_of_same (S _))))))
  refine wpQuiet_nil ?_
  rintro W6 ⟨nq, rfl⟩
  obtain ⟨T1, M1⟩ := (h.drewN nq).set' (j := 6) (u := .int .i64 (-1)) (nod_of hp) (by omega) (v' := np.setKid 1 (-1)) rfl
  have M1 := M1.of_drewN
  go_wp2_with fail
  go_end0
  exact ⟨rfl, T1, M1.mono fun j h => .inl (.inr (.inr (.inl (by rw [h]; rfl))))⟩
set_option maxHeartbeats 2000000 in
theorem hangT_pk (h : TM w tb ab lv fv room root σ free) (old : Int) {p : Nat} {np : Nd} (hp : σ[p]? = some (some np)) {k : Nat} {nk : Nd} (hk : nod (pnod σ p (np.setKid (if np.k0 = old then 0 else 1) k)) k = some nk) :
  Calls Tryz.prog 173 #[.pointer (some ⟨tb, 0, none⟩), .int .i64 k, .int .i64 p, .int .i64 old] w fun e w' => e = .returned (.tuple #[]) ∧ TM w' tb ab lv fv room root (pnod (pnod σ p (np.setKid (if np.k0 = old then 0 else 1) k)) k { nk with p := p }) free ∧ Mod (fun i => i = tb ∨ Foot ab lv fv i) w w' := by
 obtain ⟨lb, c, rfl, _, _⟩ := h.a.place (by have := (List.getElem?_eq_some_iff.1 hp).1; omega)
 have H := fun n => atT (h.drewN n) hp
 have S := fun n => sideT (h.drewN n) hp old
 have hb : ((p : Int) == -1) = false := by simp
 have hb2 : ((k : Int) != -1) = true := by simp
 by_cases hs : np.k0 = old
 ·simp only [hs, if_true] at S hk ⊢
  obtain ⟨c5, f5⟩ := h.cell hp (j := 5) rfl
  go_enter Tryz.func173, Tryz.ntmps173
  go_wp2_with fail
  refine wp_region_quiet_tail 11 (by kernel_rfl) (by kernel_rfl) ?_
  simp only [List.take_succ_cons, List.take_zero, List.drop_succ_cons, List.drop_zero]
  repeat (any_goals (first | go_big_quiet_step ((first | (go_at_call 169; exact Calls.quiet_of_same (H _)) | (go_at_call 187; exact Calls.quiet_of_same (S _)))) | quiet_step ((first | (go_at_call 169; exact Calls.quiet_of_same (H _)) | (go_at_call 187; exact Calls.quiet_of_same (S _))))))
  refine wpQuiet_nil ?_
  rintro W6 ⟨nq, rfl⟩
  obtain ⟨T1, M1⟩ := (h.drewN nq).set' (j := 5) (u := .int .i64 k) (nod_of hp) (by omega) (v' := np.setKid 0 k) rfl
  have M1 := M1.of_drewN
  obtain ⟨T2, M2⟩ := T1.set' (j := 7) (u := .int .i64 p) hk (by omega) (v' := { nk with p := p }) rfl
  obtain ⟨k', ek, hk'⟩ := nod_some hk
  have ek' : k = k' := by omega
  subst ek'
  have H2 := atT T1 hk'
  obtain ⟨c7, f7⟩ := T1.cell hk' (j := 7) rfl
  clear H S
  go_wp2_with (go_at_call 169; refine H2.mono ?_; rintro e w' ⟨rfl, hw⟩; subst hw)
  go_end0
  exact ⟨rfl, T2, (M1.mono fun j h => .inl (.inr (.inr (.inl (by rw [h]; rfl))))).trans M2 fun j h => .inl (.inr (.inr (.inl (by rw [h]; rfl))))⟩
 ·simp only [hs, if_false] at S hk ⊢
  obtain ⟨c5, f5⟩ := h.cell hp (j := 6) rfl
  go_enter Tryz.func173, Tryz.ntmps173
  go_wp2_with fail
  refine wp_region_quiet_tail 11 (by kernel_rfl) (by kernel_rfl) ?_
  simp only [List.take_succ_cons, List.take_zero, List.drop_succ_cons, List.drop_zero]
  repeat (any_goals (first | go_big_quiet_step ((first | (go_at_call 169; exact Calls.quiet_of_same (H _)) | (go_at_call 187; exact Calls.quiet_of_same (S _)))) | quiet_step ((first | (go_at_call 169; exact Calls.quiet_of_same (H _)) | (go_at_call 187; exact Calls.quiet_of_same (S _))))))
  refine wpQuiet_nil ?_
  rintro W6 ⟨nq, rfl⟩
  obtain ⟨T1, M1⟩ := (h.drewN nq).set' (j := 6) (u := .int .i64 k) (nod_of hp) (by omega) (v' := np.setKid 1 k) rfl
  have M1 := M1.of_drewN
  obtain ⟨T2, M2⟩ := T1.set' (j := 7) (u := .int .i64 p) hk (by omega) (v' := { nk with p := p }) rfl
  obtain ⟨k', ek, hk'⟩ := nod_some hk
  have ek' : k = k' := by omega
  subst ek'
  have H2 := atT T1 hk'
  obtain ⟨c7, f7⟩ := T1.cell hk' (j := 7) rfl
  clear H S
  go_wp2_with (go_at_call 169; refine H2.mono ?_; rintro e w' ⟨rfl, hw⟩; subst hw)
  go_end0
  exact ⟨rfl, T2, (M1.mono fun j h => .inl (.inr (.inr (.inl (by rw [h]; rfl))))).trans M2 fun j h => .inl (.inr (.inr (.inl (by rw [h]; rfl))))⟩
theorem hangT (h : TM w tb ab lv fv room root σ free) (i parent old : Int) (hi : Is1 σ i) (hp : Is1 σ parent) :
  Calls Tryz.prog 173 #[.pointer (some ⟨tb, 0, none⟩), .int .i64 i, .int .i64 parent, .int .i64 old] w fun e w' => e = .returned (.tuple #[]) ∧ TM w' tb ab lv fv room (hangR root i parent) (hangS σ i parent old) free ∧ Mod (fun i => i = tb ∨ Foot ab lv fv i) w w' := by
 unfold hangS hangR
 rcases hp with rfl | ⟨np, hp⟩
 ·rw [modN_neg]
  rcases hi with rfl | ⟨ni, hi⟩
  ·exact hangT_00 h old
  ·rw [modN_some hi]
   obtain ⟨k, rfl, hk⟩ := nod_some hi
   exact hangT_0k h old hk
 ·rw [modN_some hp]
  obtain ⟨p, rfl, hp'⟩ := nod_some hp
  rw [if_neg (by omega)]
  rcases hi with rfl | ⟨ni, hi⟩
  ·rw [modN_neg]; exact hangT_p0 h old hp'
  ·obtain ⟨k, rfl, hk⟩ := nod_some hi
   have h2 := nod_pnod (n' := hangK old k np) hp k
   split at h2
   ·rw [modN_some h2]; exact hangT_pk h old hp' h2
   ·rw [hi] at h2; rw [modN_some h2]; exact hangT_pk h old hp' h2
end
open Go Go.RowKit
section
variable {w : World} {tb ab : Nat} {lv fv : Value} {room root : Int} {σ : List (Option Nd)} {free : List Int}
theorem TM.lb (h : TM w tb ab lv fv room root σ free) {i : Int} {n : Nd} (hi : nod σ i = some n) : ∃ lb c, lv = .slice (some ⟨lb, 0, none⟩) σ.length c := by
 obtain ⟨k, _, hk⟩ := nod_some hi
 obtain ⟨lb, c, e, _, _⟩ := h.a.place (by have := (List.getElem?_eq_some_iff.1 hk).1; omega)
 exact ⟨lb, c, e⟩
theorem TM.cell' {lb n c k : Nat} {v : Nd} (h : TM w tb ab (.slice (some ⟨lb, 0, none⟩) n c) fv room root σ free) (hp : nod σ k = some v) {j : Nat} {u : Value} (hu : (encNd v)[j]? = some u) :
  w.cell? ⟨lb, k * 10 + j, none⟩ = some u ∧ w.frozen? ⟨lb, k * 10 + j, none⟩ = false := by
 obtain ⟨k', e, hk⟩ := nod_some hp
 have : k = k' := by omega
 subst this
 exact h.cell hk hu
theorem TM.st {lb n c k : Nat} (h : TM w tb ab (.slice (some ⟨lb, 0, none⟩) n c) fv room root σ free) (hp : ∃ v, nod σ k = some v) (j : Nat) (u : Value) (f : Nd → Nd) (hj : j < 9) (hv : ∀ v, encNd (f v) = (encNd v).set j u) :
  (∃ x, w.cell? ⟨lb, k * 10 + j, none⟩ = some x) ∧ w.frozen? ⟨lb, k * 10 + j, none⟩ = false ∧ TM (w.setCell ⟨lb, k * 10 + j, none⟩ u) tb ab (.slice (some ⟨lb, 0, none⟩) n c) fv room root (modN σ k f) free ∧ Mod (fun i => i = tb ∨ Foot ab (.slice (some ⟨lb, 0, none⟩) n c) fv i) w (w.setCell ⟨lb, k * 10 + j, none⟩ u) := by
 obtain ⟨v, hp⟩ := hp
 rw [modN_some hp]
 obtain ⟨a, b⟩ := h.set' hp hj (hv v)
 have hl : j < (encNd v).length := by simp [encNd]; omega
 obtain ⟨x, y⟩ := h.cell' hp (j := j) (List.getElem?_eq_getElem hl)
 exact ⟨⟨_, x⟩, y, a, b.mono fun i e => .inl (.inr (.inr (.inl (by rw [e]; rfl))))⟩
theorem atT' {lb n c k : Nat} (h : TM w tb ab (.slice (some ⟨lb, 0, none⟩) n c) fv room root σ free) (hp : ∃ v, nod σ k = some v) :
  Calls Tryz.prog 169 #[.pointer (some ⟨tb, 0, none⟩), .int .i64 k] w fun e w' => e = .returned (.pointer (some ⟨lb, k * 10, none⟩)) ∧ w' = w := by
 obtain ⟨v, hp⟩ := hp
 obtain ⟨k', e, hk⟩ := nod_some hp
 have : k = k' := by omega
 subst this
 exact atT h hk
theorem ex_modN {σ : List (Option Nd)} {i : Int} (h : ∃ n, nod σ i = some n) (k : Int) (f : Nd → Nd) : ∃ n, nod (modN σ k f) i = some n := by
 obtain ⟨n, h⟩ := h
 rw [nod_modN]
 split
 ·exact ⟨f n, by rw [h]; rfl⟩
 ·exact ⟨n, h⟩
theorem ex_hang {σ : List (Option Nd)} {i : Int} (h : ∃ n, nod σ i = some n) (a b c : Int) : ∃ n, nod (hangS σ a b c) i = some n := ex_modN (ex_modN h _ _) _ _
set_option maxHeartbeats 2000000 in
theorem rotT_0_none (h : TM w tb ab lv fv room root σ free) {k m : Nat} {ni nu : Nd} (hi : nod σ k = some ni) (hup : ni.k1 = m) (hu : nod σ m = some nu) (hpp : Is1 σ ni.p) (hin : nu.k0 = -1) :
  Calls Tryz.prog 188 #[.pointer (some ⟨tb, 0, none⟩), .int .i64 k, .int .i64 0] w fun e w' => e = .returned (.tuple #[]) ∧ TM w' tb ab lv fv room (hangR root m ni.p) (rotS σ k m (-1) ni.p 0) free ∧ Mod (fun i => i = tb ∨ Foot ab lv fv i) w w' := by
 obtain ⟨lb, c, rfl⟩ := h.lb hi
 have H1 := atT' h ⟨_, hi⟩
 have H2 := atT' h ⟨_, hu⟩
 have c1 := (h.cell' hi (j := 6) (u := .int .i64 m) (by rw [← hup]; rfl)).1
 have c2 := (h.cell' hu (j := 5) (u := .int .i64 (-1)) (by rw [← hin]; rfl)).1
 have c3 := (h.cell' hi (j := 7) rfl).1
 have P := hangT h m ni.p k (.inr ⟨_, hu⟩) hpp
 have xi := ex_hang ⟨_, hi⟩ m ni.p k
 have xu := ex_hang ⟨_, hu⟩ m ni.p k
 clear h hi hu hpp hin hup
 go_enter Tryz.func188, Tryz.ntmps188
 go_wp2_with fail
 refine H1.mono ?_; rintro e w' ⟨rfl, hw⟩; subst hw
 go_wp2_with fail
 refine H2.mono ?_; rintro e w' ⟨rfl, hw⟩; subst hw
 go_wp2_with fail
 refine H1.mono ?_; rintro e w' ⟨rfl, hw⟩; subst hw
 go_wp2_with fail
 refine P.mono ?_
 rintro e w1 ⟨rfl, T1, M1⟩
 clear c1 c2 c3 P H1 H2
 obtain ⟨⟨y1, s1⟩, f1, T2, M2⟩ := T1.st xu 5 (.int .i64 k) (fun n => n.setKid 0 k) (by omega) (fun _ => rfl)
 have xi := ex_modN xi m (fun n => n.setKid 0 k)
 go_wp2_with fail
 refine (atT' T1 xu).mono ?_; rintro e w' ⟨rfl, hw⟩; subst hw
 go_wp2_with fail
 clear s1 f1
 obtain ⟨⟨y2, s2⟩, f2, T3, M3⟩ := T2.st xi 7 (.int .i64 m) (parN m) (by omega) (fun _ => rfl)
 refine (atT' T2 xi).mono ?_; rintro e w' ⟨rfl, hw⟩; subst hw
 have xi := ex_modN xi k (parN m)
 go_wp2_with fail
 clear s2 f2
 obtain ⟨⟨y3, s3⟩, f3, T4, M4⟩ := T3.st xi 6 (.int .i64 (-1)) (fun n => n.setKid (1 - 0) (-1)) (by omega) (fun _ => rfl)
 refine (atT' T3 xi).mono ?_; rintro e w' ⟨rfl, hw⟩; subst hw
 go_wp2_with fail
 go_end0
 exact ⟨rfl, T4, ((M1.trans' M2).trans' M3).trans' M4⟩
set_option maxHeartbeats 2000000 in
theorem rotT_0_some (h : TM w tb ab lv fv room root σ free) {k m q : Nat} {ni nu : Nd} (hi : nod σ k = some ni) (hup : ni.k1 = m) (hu : nod σ m = some nu) (hpp : Is1 σ ni.p) (hin : nu.k0 = (q : Int)) (hq : ∃ v, nod σ q = some v) :
  Calls Tryz.prog 188 #[.pointer (some ⟨tb, 0, none⟩), .int .i64 k, .int .i64 0] w fun e w' => e = .returned (.tuple #[]) ∧ TM w' tb ab lv fv room (hangR root m ni.p) (rotS σ k m q ni.p 0) free ∧ Mod (fun i => i = tb ∨ Foot ab lv fv i) w w' := by
 obtain ⟨lb, c, rfl⟩ := h.lb hi
 have H1 := atT' h ⟨_, hi⟩
 have H2 := atT' h ⟨_, hu⟩
 have c1 := (h.cell' hi (j := 6) (u := .int .i64 m) (by rw [← hup]; rfl)).1
 have c2 := (h.cell' hu (j := 5) (u := .int .i64 q) (by rw [← hin]; rfl)).1
 have c3 := (h.cell' hi (j := 7) rfl).1
 have P := hangT h m ni.p k (.inr ⟨_, hu⟩) hpp
 have xi := ex_hang ⟨_, hi⟩ m ni.p k
 have xu := ex_hang ⟨_, hu⟩ m ni.p k
 have xq := ex_hang hq m ni.p k
 clear h hi hu hpp hin hup
 go_enter Tryz.func188, Tryz.ntmps188
 go_wp2_with fail
 refine H1.mono ?_; rintro e w' ⟨rfl, hw⟩; subst hw
 go_wp2_with fail
 refine H2.mono ?_; rintro e w' ⟨rfl, hw⟩; subst hw
 go_wp2_with fail
 refine H1.mono ?_; rintro e w' ⟨rfl, hw⟩; subst hw
 go_wp2_with fail
 refine P.mono ?_
 rintro e w1 ⟨rfl, T1, M1⟩
 clear c1 c2 c3 P H1 H2
 obtain ⟨⟨y1, s1⟩, f1, T2, M2⟩ := T1.st xu 5 (.int .i64 k) (fun n => n.setKid 0 k) (by omega) (fun _ => rfl)
 have xi := ex_modN xi m (fun n => n.setKid 0 k)
 have xq := ex_modN xq m (fun n => n.setKid 0 k)
 go_wp2_with fail
 refine (atT' T1 xu).mono ?_; rintro e w' ⟨rfl, hw⟩; subst hw
 go_wp2_with fail
 clear s1 f1
 obtain ⟨⟨y2, s2⟩, f2, T3, M3⟩ := T2.st xi 7 (.int .i64 m) (parN m) (by omega) (fun _ => rfl)
 refine (atT' T2 xi).mono ?_; rintro e w' ⟨rfl, hw⟩; subst hw
 have xi := ex_modN xi k (parN m)
 have xq := ex_modN xq k (parN m)
 go_wp2_with fail
 clear s2 f2
 obtain ⟨⟨y3, s3⟩, f3, T4, M4⟩ := T3.st xi 6 (.int .i64 q) (fun n => n.setKid (1 - 0) q) (by omega) (fun _ => rfl)
 refine (atT' T3 xi).mono ?_; rintro e w' ⟨rfl, hw⟩; subst hw
 have xq := ex_modN xq k (fun n => n.setKid (1 - 0) q)
 go_wp2_with fail
 clear s3 f3
 obtain ⟨⟨y4, s4⟩, f4, T5, M5⟩ := T4.st xq 7 (.int .i64 k) (parN k) (by omega) (fun _ => rfl)
 refine (atT' T4 xq).mono ?_; rintro e w' ⟨rfl, hw⟩; subst hw
 go_wp2_with fail
 go_end0
 exact ⟨rfl, T5, (((M1.trans' M2).trans' M3).trans' M4).trans' M5⟩
set_option maxHeartbeats 2000000 in
theorem rotT_1_none (h : TM w tb ab lv fv room root σ free) {k m : Nat} {ni nu : Nd} (hi : nod σ k = some ni) (hup : ni.k0 = m) (hu : nod σ m = some nu) (hpp : Is1 σ ni.p) (hin : nu.k1 = -1) :
  Calls Tryz.prog 188 #[.pointer (some ⟨tb, 0, none⟩), .int .i64 k, .int .i64 1] w fun e w' => e = .returned (.tuple #[]) ∧ TM w' tb ab lv fv room (hangR root m ni.p) (rotS σ k m (-1) ni.p 1) free ∧ Mod (fun i => i = tb ∨ Foot ab lv fv i) w w' := by
 obtain ⟨lb, c, rfl⟩ := h.lb hi
 have H1 := atT' h ⟨_, hi⟩
 have H2 := atT' h ⟨_, hu⟩
 have c1 := (h.cell' hi (j := 5) (u := .int .i64 m) (by rw [← hup]; rfl)).1
 have c2 := (h.cell' hu (j := 6) (u := .int .i64 (-1)) (by rw [← hin]; rfl)).1
 have c3 := (h.cell' hi (j := 7) rfl).1
 have P := hangT h m ni.p k (.inr ⟨_, hu⟩) hpp
 have xi := ex_hang ⟨_, hi⟩ m ni.p k
 have xu := ex_hang ⟨_, hu⟩ m ni.p k
 clear h hi hu hpp hin hup
 go_enter Tryz.func188, Tryz.ntmps188
 go_wp2_with fail
 refine H1.mono ?_; rintro e w' ⟨rfl, hw⟩; subst hw
 go_wp2_with fail
 refine H2.mono ?_; rintro e w' ⟨rfl, hw⟩; subst hw
 go_wp2_with fail
 refine H1.mono ?_; rintro e w' ⟨rfl, hw⟩; subst hw
 go_wp2_with fail
 refine P.mono ?_
 rintro e w1 ⟨rfl, T1, M1⟩
 clear c1 c2 c3 P H1 H2
 obtain ⟨⟨y1, s1⟩, f1, T2, M2⟩ := T1.st xu 6 (.int .i64 k) (fun n => n.setKid 1 k) (by omega) (fun _ => rfl)
 have xi := ex_modN xi m (fun n => n.setKid 1 k)
 go_wp2_with fail
 refine (atT' T1 xu).mono ?_; rintro e w' ⟨rfl, hw⟩; subst hw
 go_wp2_with fail
 clear s1 f1
 obtain ⟨⟨y2, s2⟩, f2, T3, M3⟩ := T2.st xi 7 (.int .i64 m) (parN m) (by omega) (fun _ => rfl)
 refine (atT' T2 xi).mono ?_; rintro e w' ⟨rfl, hw⟩; subst hw
 have xi := ex_modN xi k (parN m)
 go_wp2_with fail
 clear s2 f2
 obtain ⟨⟨y3, s3⟩, f3, T4, M4⟩ := T3.st xi 5 (.int .i64 (-1)) (fun n => n.setKid (1 - 1) (-1)) (by omega) (fun _ => rfl)
 refine (atT' T3 xi).mono ?_; rintro e w' ⟨rfl, hw⟩; subst hw
 go_wp2_with fail
 go_end0
 exact ⟨rfl, T4, ((M1.trans' M2).trans' M3).trans' M4⟩
set_option maxHeartbeats 2000000 in
theorem rotT_1_some (h : TM w tb ab lv fv room root σ free) {k m q : Nat} {ni nu : Nd} (hi : nod σ k = some ni) (hup : ni.k0 = m) (hu : nod σ m = some nu) (hpp : Is1 σ ni.p) (hin : nu.k1 = (q : Int)) (hq : ∃ v, nod σ q = some v) :
  Calls Tryz.prog 188 #[.pointer (some ⟨tb, 0, none⟩), .int .i64 k, .int .i64 1] w fun e w' => e = .returned (.tuple #[]) ∧ TM w' tb ab lv fv room (hangR root m ni.p) (rotS σ k m q ni.p 1) free ∧ Mod (fun i => i = tb ∨ Foot ab lv fv i) w w' := by
 obtain ⟨lb, c, rfl⟩ := h.lb hi
 have H1 := atT' h ⟨_, hi⟩
 have H2 := atT' h ⟨_, hu⟩
 have c1 := (h.cell' hi (j := 5) (u := .int .i64 m) (by rw [← hup]; rfl)).1
 have c2 := (h.cell' hu (j := 6) (u := .int .i64 q) (by rw [← hin]; rfl)).1
 have c3 := (h.cell' hi (j := 7) rfl).1
 have P := hangT h m ni.p k (.inr ⟨_, hu⟩) hpp
 have xi := ex_hang ⟨_, hi⟩ m ni.p k
 have xu := ex_hang ⟨_, hu⟩ m ni.p k
 have xq := ex_hang hq m ni.p k
 clear h hi hu hpp hin hup
 go_enter Tryz.func188, Tryz.ntmps188
 go_wp2_with fail
 refine H1.mono ?_; rintro e w' ⟨rfl, hw⟩; subst hw
 go_wp2_with fail
 refine H2.mono ?_; rintro e w' ⟨rfl, hw⟩; subst hw
 go_wp2_with fail
 refine H1.mono ?_; rintro e w' ⟨rfl, hw⟩; subst hw
 go_wp2_with fail
 refine P.mono ?_
 rintro e w1 ⟨rfl, T1, M1⟩
 clear c1 c2 c3 P H1 H2
 obtain ⟨⟨y1, s1⟩, f1, T2, M2⟩ := T1.st xu 6 (.int .i64 k) (fun n => n.setKid 1 k) (by omega) (fun _ => rfl)
 have xi := ex_modN xi m (fun n => n.setKid 1 k)
 have xq := ex_modN xq m (fun n => n.setKid 1 k)
 go_wp2_with fail
 refine (atT' T1 xu).mono ?_; rintro e w' ⟨rfl, hw⟩; subst hw
 go_wp2_with fail
 clear s1 f1
 obtain ⟨⟨y2, s2⟩, f2, T3, M3⟩ := T2.st xi 7 (.int .i64 m) (parN m) (by omega) (fun _ => rfl)
 refine (atT' T2 xi).mono ?_; rintro e w' ⟨rfl, hw⟩; subst hw
 have xi := ex_modN xi k (parN m)
 have xq := ex_modN xq k (parN m)
 go_wp2_with fail
 clear s2 f2
 obtain ⟨⟨y3, s3⟩, f3, T4, M4⟩ := T3.st xi 5 (.int .i64 q) (fun n => n.setKid (1 - 1) q) (by omega) (fun _ => rfl)
 refine (atT' T3 xi).mono ?_; rintro e w' ⟨rfl, hw⟩; subst hw
 have xq := ex_modN xq k (fun n => n.setKid (1 - 1) q)
 go_wp2_with fail
 clear s3 f3
 obtain ⟨⟨y4, s4⟩, f4, T5, M5⟩ := T4.st xq 7 (.int .i64 k) (parN k) (by omega) (fun _ => rfl)
 refine (atT' T4 xq).mono ?_; rintro e w' ⟨rfl, hw⟩; subst hw
 go_wp2_with fail
 go_end0
 exact ⟨rfl, T5, (((M1.trans' M2).trans' M3).trans' M4).trans' M5⟩
end
inductive T where
 | E
 | N (i : Int) (red : Bool) (s : Sg) (l r : T)
deriving Inhabited
namespace T
def ix : T → Int | E => -1 | N i _ _ _ _ => i
def ids : T → List Int | E => [] | N i _ _ l r => i :: (l.ids ++ r.ids)
def toL : T → List Sg | E => [] | N _ _ s l r => l.toL ++ s :: r.toL
def red : T → Bool | E => false | N _ b _ _ _ => b
def black : T → T | E => E | N i _ s l r => N i false s l r
def mk (d : Bool) (i : Int) (b : Bool) (s : Sg) (x y : T) : T := if d then N i b s y x else N i b s x y
end T
def di (d : Bool) : Int := if d then 1 else 0
structure Fr where
 d : Bool
 i : Int
 red : Bool
 s : Sg
 o : T
abbrev Ctx := List Fr
def cix : Ctx → Int | [] => -1 | f :: _ => f.i
def cred : Ctx → Bool | [] => false | f :: _ => f.red
def cids : Ctx → List Int | [] => [] | f :: c => f.i :: (f.o.ids ++ cids c)
def plug : Ctx → T → T | [], t => t | f :: c, t => plug c (T.mk f.d f.i f.red f.s t f.o)
def Rep (f : Int → Option Nd) : Int → T → Prop
 | _, .E => True
 | p, .N i b s l r => f i = some ⟨s, l.ix, r.ix, p, b⟩ ∧ Rep f i l ∧ Rep f i r
def RepC (f : Int → Option Nd) : Ctx → Int → Prop
 | [], _ => True
 | g :: c, h => f g.i = some ⟨g.s, if g.d then g.o.ix else h, if g.d then h else g.o.ix, cix c, g.red⟩ ∧ Rep f g.i g.o ∧ RepC f c g.i
theorem rep_mk {f : Int → Option Nd} {p : Int} {d : Bool} {i : Int} {b : Bool} {s : Sg} {x y : T} :
  Rep f p (T.mk d i b s x y) ↔ f i = some ⟨s, if d then y.ix else x.ix, if d then x.ix else y.ix, p, b⟩ ∧ Rep f i x ∧ Rep f i y := by
 cases d <;> simp [T.mk, Rep, and_comm]
theorem ids_mk (d : Bool) (i : Int) (b : Bool) (s : Sg) (x y : T) : ((T.mk d i b s x y).ids).Perm (i :: (x.ids ++ y.ids)) := by
 cases d <;> simp [T.mk, T.ids]
 exact List.perm_append_comm
theorem ix_mk (d : Bool) (i : Int) (b : Bool) (s : Sg) (x y : T) : (T.mk d i b s x y).ix = i := by cases d <;> rfl
theorem red_mk (d : Bool) (i : Int) (b : Bool) (s : Sg) (x y : T) : (T.mk d i b s x y).red = b := by cases d <;> rfl
theorem rep_plug {f : Int → Option Nd} : ∀ (c : Ctx) (t : T), Rep f (-1) (plug c t) ↔ RepC f c t.ix ∧ Rep f (cix c) t
 | [], t => by simp [plug, RepC, cix]
 | g :: c, t => by
  rw [plug, rep_plug c, rep_mk, ix_mk]
  simp only [RepC, cix]
  constructor
  ·rintro ⟨a, b, c, d⟩; exact ⟨⟨b, d, a⟩, c⟩
  ·rintro ⟨⟨b, d, a⟩, c⟩; exact ⟨a, b, c, d⟩
theorem ids_plug : ∀ (c : Ctx) (t : T), ((plug c t).ids).Perm (cids c ++ t.ids)
 | [], t => by simp [plug, cids]
 | g :: c, t => by
  refine (ids_plug c _).trans ?_
  refine ((ids_mk ..).append_left _).trans ?_
  simp only [cids]
  refine List.perm_middle.trans ?_
  simp only [List.cons_append, List.append_assoc]
  refine List.Perm.cons _ ?_
  refine (List.Perm.append_left _ List.perm_append_comm).trans ?_
  rw [← List.append_assoc, ← List.append_assoc]
  exact List.Perm.append_right _ List.perm_append_comm
theorem mem_plug (c : Ctx) (t : T) (k : Int) : k ∈ (plug c t).ids ↔ k ∈ cids c ∨ k ∈ t.ids := by
 rw [(ids_plug c t).mem_iff]; simp
theorem nodup_plug (c : Ctx) (t : T) : (plug c t).ids.Nodup ↔ (cids c).Nodup ∧ t.ids.Nodup ∧ ∀ k, k ∈ cids c → k ∉ t.ids := by
 rw [(ids_plug c t).nodup_iff, List.nodup_append]
 constructor
 ·rintro ⟨a, b, c⟩; exact ⟨a, b, fun k h1 h2 => c k h1 k h2 rfl⟩
 ·rintro ⟨a, b, c⟩; exact ⟨a, b, fun k h1 j h2 e => c k h1 (e ▸ h2)⟩
theorem Rep.keep {f g : Int → Option Nd} : ∀ {t : T} {p : Int}, Rep f p t → (∀ k, k ∈ t.ids → g k = f k) → Rep g p t
 | .E, _, _, _ => trivial
 | .N i b s l r, p, h, hk => ⟨(hk i (by simp [T.ids])).trans h.1, h.2.1.keep fun k h => hk k (by simp [T.ids, h]), h.2.2.keep fun k h => hk k (by simp [T.ids, h])⟩
theorem RepC.keep {f g : Int → Option Nd} : ∀ {c : Ctx} {h : Int}, RepC f c h → (∀ k, k ∈ cids c → g k = f k) → RepC g c h
 | [], _, _, _ => trivial
 | a :: c, _, h, hk => ⟨(hk a.i (by simp [cids])).trans h.1, h.2.1.keep fun k h => hk k (by simp [cids, h]), h.2.2.keep fun k h => hk k (by simp [cids, h])⟩
theorem Rep.par {f g : Int → Option Nd} {t : T} {p q : Int} (h : Rep f p t) (hn : t.ids.Nodup) (hr : t ≠ .E → g t.ix = (f t.ix).map (parN q)) (hk : ∀ k, k ∈ t.ids → k ≠ t.ix → g k = f k) : Rep g q t := by
 cases t with
 | E => trivial
 | N i b s l r =>
  simp only [T.ids, List.nodup_cons, List.mem_append, not_or] at hn
  have := hr (by simp)
  simp only [T.ix] at this hk
  refine ⟨by rw [this, h.1]; rfl, h.2.1.keep fun k hk' => hk k (by simp [T.ids, hk']) (by rintro rfl; exact hn.1.1 hk'), h.2.2.keep fun k hk' => hk k (by simp [T.ids, hk']) (by rintro rfl; exact hn.1.2 hk')⟩
theorem RepC.hole {f g : Int → Option Nd} {c : Ctx} {h h' : Int} (H : RepC f c h) (hn : (cids c).Nodup)
  (hr : ∀ a c', c = a :: c' → ∀ n, f a.i = some n → g a.i = some (n.setKid (di a.d) h')) (hk : ∀ k, k ∈ cids c → k ≠ cix c → g k = f k) : RepC g c h' := by
 cases c with
 | nil => trivial
 | cons a c =>
  simp only [cids, List.nodup_cons, List.mem_append, not_or] at hn
  simp only [cix] at hk
  refine ⟨?_, H.2.1.keep fun k hk' => hk k (by simp [cids, hk']) (by rintro rfl; exact hn.1.1 hk'), H.2.2.keep fun k hk' => hk k (by simp [cids, hk']) (by rintro rfl; exact hn.1.2 hk')⟩
  rw [hr a c rfl _ H.1]
  cases a.d <;> rfl
theorem cix_nil : cix [] = -1 := rfl
theorem cix_cons (a : Fr) (c : Ctx) : cix (a :: c) = a.i := rfl
structure Holds (σ : List (Option Nd)) (root : Int) (t : T) : Prop where
 root : root = t.ix
 rep : Rep (nod σ) (-1) t
 nodup : t.ids.Nodup
 just : ∀ k n, nod σ k = some n → k ∈ t.ids
theorem Rep.pos {σ : List (Option Nd)} : ∀ {t : T} {p : Int}, Rep (nod σ) p t → ∀ k, k ∈ t.ids → 0 ≤ k ∧ ∃ n, nod σ k = some n
 | .N i b s l r, p, h, k, hk => by
  simp only [T.ids, List.mem_cons, List.mem_append] at hk
  rcases hk with rfl | hk | hk
  ·obtain ⟨j, e, _⟩ := nod_some h.1
   exact ⟨by omega, _, h.1⟩
  ·exact h.2.1.pos k hk
  ·exact h.2.2.pos k hk
theorem Holds.pos {σ : List (Option Nd)} {root : Int} {t : T} (h : Holds σ root t) {k : Int} (hk : k ∈ t.ids) : 0 ≤ k := (h.rep.pos k hk).1
theorem Holds.ex {σ : List (Option Nd)} {root : Int} {t : T} (h : Holds σ root t) {k : Int} (hk : k ∈ t.ids) : ∃ n, nod σ k = some n := (h.rep.pos k hk).2
theorem ix_mem {t : T} (h : t ≠ .E) : t.ix ∈ t.ids := by cases t with | E => exact absurd rfl h | N => simp [T.ix, T.ids]
theorem Holds.is1 {σ : List (Option Nd)} {root : Int} {t : T} (h : Holds σ root t) {u : T} (hs : ∀ k, k ∈ u.ids → k ∈ t.ids) : Is1 σ u.ix := by
 by_cases e : u = .E
 ·subst e; exact .inl rfl
 ·exact .inr (h.ex (hs _ (ix_mem e)))
theorem ix_neg {t : T} {k : Int} (hk : k ∉ t.ids) (h0 : 0 ≤ k) : t.ix ≠ k := by
 cases t with
 | E => simp [T.ix]; omega
 | N i b s l r => simp [T.ix]; rintro rfl; exact hk (by simp [T.ids])
theorem cix_mem {c : Ctx} : cix c = -1 ∧ c = [] ∨ cix c ∈ cids c := by cases c <;> simp [cix, cids]
theorem Holds.is1c {σ : List (Option Nd)} {root : Int} {t : T} (h : Holds σ root t) {c : Ctx} (hs : ∀ k, k ∈ cids c → k ∈ t.ids) : Is1 σ (cix c) := by
 rcases cix_mem (c := c) with ⟨e, _⟩ | e
 ·exact .inl e
 ·exact .inr (h.ex (hs _ e))
theorem plug_ix : ∀ (c : Ctx) (hc : c ≠ []) (t u : T), (plug c t).ix = (plug c u).ix
 | [], h, _, _ => absurd rfl h
 | [a], _, t, u => by simp [plug, ix_mk]
 | a :: b :: c, _, t, u => by
  rw [plug, plug]; exact plug_ix (b :: c) (by simp) _ _
theorem hangR_plug {σ : List (Option Nd)} {root : Int} {c : Ctx} {t : T} (h : Holds σ root (plug c t)) (u : T) : hangR root u.ix (cix c) = (plug c u).ix := by
 unfold hangR
 rcases cix_mem (c := c) with ⟨e, rfl⟩ | e
 ·simp [cix, plug]
 ·have : cix c ≠ -1 := by have := h.pos ((mem_plug c t _).2 (.inl e)); omega
  rw [if_neg this, h.root]
  exact plug_ix c (by rintro rfl; simp [cids] at e) _ _
theorem hangK_hole {c : Ctx} {a : Fr} {c' : Ctx} {σ : List (Option Nd)} {i u : Int} (hc : c = a :: c') (H : RepC (nod σ) c i) (hi : i ∉ cids c) (h0 : 0 ≤ i) (n : Nd) (hn : nod σ a.i = some n) :
  hangK i u n = n.setKid (di a.d) u := by
 subst hc
 have := H.1
 rw [hn] at this
 injection this with this
 subst this
 have hne : a.o.ix ≠ i := ix_neg (by simp [cids] at hi; exact hi.2.1) h0
 cases hd : a.d <;> simp [hangK, hne, di]
theorem rot_just {σ : List (Option Nd)} {a b c e f : Int} {k : Int} {n : Nd} (h : nod (rotS σ a b c e f) k = some n) : ∃ m, nod σ k = some m := by
 unfold rotS hangS at h
 simp only [nod_modN] at h
 cases hk : nod σ k with
 | none => simp [hk] at h
 | some m => exact ⟨m, rfl⟩
theorem Holds.rot {σ : List (Option Nd)} {root : Int} {c : Ctx} {d : Bool} {i u : Int} {ri ru : Bool} {si su : Sg} {A B C : T}
  (h : Holds σ root (plug c (T.mk d i ri si A (T.mk d u ru su B C)))) :
  Holds (rotS σ i u B.ix (cix c) (di d)) (hangR root u (cix c)) (plug c (T.mk d u ru su (T.mk d i ri si A B) C)) := by
 have hR := hangR_plug h (T.mk d u ru su (T.mk d i ri si A B) C)
 rw [ix_mk] at hR
 have hp := fun k => h.pos (k := k)
 have hj := h.just
 have hrep := h.rep
 rw [rep_plug, rep_mk, rep_mk, ix_mk, ix_mk] at hrep
 obtain ⟨rc, ri', rA, ru', rB, rC⟩ := hrep
 have hn := h.nodup
 rw [nodup_plug, (ids_mk ..).nodup_iff] at hn
 obtain ⟨nc, nt, nct⟩ := hn
 have hm : ∀ k, k ∈ (T.mk d i ri si A (T.mk d u ru su B C)).ids ↔ k = i ∨ k ∈ A.ids ∨ k = u ∨ k ∈ B.ids ∨ k ∈ C.ids := by
  intro k; rw [(ids_mk ..).mem_iff, List.mem_cons, List.mem_append, (ids_mk ..).mem_iff, List.mem_cons, List.mem_append]
 have hm' : ∀ k, k ∈ (T.mk d u ru su (T.mk d i ri si A B) C).ids ↔ k = i ∨ k ∈ A.ids ∨ k = u ∨ k ∈ B.ids ∨ k ∈ C.ids := by
  intro k; rw [(ids_mk ..).mem_iff, List.mem_cons, List.mem_append, (ids_mk ..).mem_iff, List.mem_cons, List.mem_append]; grind
 rw [List.nodup_cons, List.nodup_append, (ids_mk ..).nodup_iff, List.nodup_cons, List.nodup_append] at nt
 simp only [List.mem_append, (ids_mk ..).mem_iff, List.mem_cons] at nt
 obtain ⟨ni, nA, ⟨nu, nB, nC, nBC⟩, nAB⟩ := nt
 simp only [hm] at nct
 have hi0 : 0 ≤ i := hp i ((mem_plug ..).2 (.inr ((hm i).2 (.inl rfl))))
 have hu0 : 0 ≤ u := hp u ((mem_plug ..).2 (.inr ((hm u).2 (.inr (.inr (.inl rfl))))))
 have hiu : i ≠ u := fun e => ni (.inr (.inl e))
 have hic : i ∉ cids c := fun e => nct i e (.inl rfl)
 have huc : u ∉ cids c := fun e => nct u e (.inr (.inr (.inl rfl)))
 have hpi : cix c ≠ i := by
  rcases cix_mem (c := c) with ⟨e, _⟩ | e
  ·omega
  ·exact fun e2 => hic (e2 ▸ e)
 have hpu : cix c ≠ u := by
  rcases cix_mem (c := c) with ⟨e, _⟩ | e
  ·omega
  ·exact fun e2 => huc (e2 ▸ e)
 have hBi : B.ix ≠ i := ix_neg (fun e => ni (.inr (.inr (.inl e)))) hi0
 have hBu : B.ix ≠ u := ix_neg (fun e => nu (.inl e)) hu0
 have gi : nod (rotS σ i u B.ix (cix c) (di d)) i = some ⟨si, if d then B.ix else A.ix, if d then A.ix else B.ix, u, ri⟩ := by
  unfold rotS hangS
  simp only [nod_modN, if_neg hBi.symm, if_neg hiu, if_neg hpi.symm, if_true, ri']
  cases d <;> simp [di, Nd.setKid, parN]
 have gu : nod (rotS σ i u B.ix (cix c) (di d)) u = some ⟨su, if d then C.ix else i, if d then i else C.ix, cix c, ru⟩ := by
  unfold rotS hangS
  simp only [nod_modN, if_neg hBu.symm, if_neg hiu.symm, if_neg hpu.symm, if_true, ru']
  cases d <;> simp [di, Nd.setKid, parN]
 have gB : B ≠ .E → nod (rotS σ i u B.ix (cix c) (di d)) B.ix = (nod σ B.ix).map (parN i) := by
  intro hB
  have : cix c ≠ B.ix := by
   rcases cix_mem (c := c) with ⟨e, _⟩ | e
   ·have := hp B.ix ((mem_plug ..).2 (.inr ((hm _).2 (.inr (.inr (.inr (.inl (ix_mem hB)))))))); omega
   ·exact fun e2 => nct _ e (.inr (.inr (.inr (.inl (e2 ▸ ix_mem hB)))))
  unfold rotS hangS
  simp only [nod_modN, if_neg hBi, if_neg hBu, if_neg this.symm, if_true]
 have gk : ∀ k, k ≠ i → k ≠ u → k ≠ B.ix → k ≠ cix c → nod (rotS σ i u B.ix (cix c) (di d)) k = nod σ k := by
  intro k h1 h2 h3 h4
  unfold rotS hangS
  simp only [nod_modN, if_neg h1, if_neg h2, if_neg h3, if_neg h4]
 have gc : ∀ a c', c = a :: c' → ∀ n, nod σ a.i = some n → nod (rotS σ i u B.ix (cix c) (di d)) a.i = some (n.setKid (di a.d) u) := by
  intro a c' e n hnn
  have hai : a.i = cix c := by subst e; rfl
  have haB : a.i ≠ B.ix := by
   by_cases hB : B = .E
   ·subst hB; have := hp a.i ((mem_plug ..).2 (.inl (by subst e; simp [cids]))); simp [T.ix]; omega
   ·exact fun e2 => nct a.i (by subst e; simp [cids]) (.inr (.inr (.inr (.inl (e2 ▸ ix_mem hB)))))
  have hh := hangK_hole (u := u) e rc hic hi0 n hnn
  unfold rotS hangS
  rw [hai] at haB hnn ⊢
  simp only [nod_modN, if_neg hpi, if_neg hpu, if_neg haB, if_true, hnn, Option.map_some, hh]
 have nin : ∀ (X : T), (∀ k, k ∈ X.ids → 0 ≤ k ∧ k ≠ i ∧ k ≠ u ∧ k ∉ B.ids ∧ k ∉ cids c) → ∀ k, k ∈ X.ids → nod (rotS σ i u B.ix (cix c) (di d)) k = nod σ k := by
  intro X hX k hk
  obtain ⟨h0, h1, h2, h3, h4⟩ := hX k hk
  refine gk k h1 h2 (ix_neg h3 h0).symm ?_
  rcases cix_mem (c := c) with ⟨e, e2⟩ | e
  ·omega
  ·rintro rfl; exact h4 e
 have wA : ∀ k, k ∈ A.ids → 0 ≤ k := fun k hk => hp k ((mem_plug ..).2 (.inr ((hm k).2 (.inr (.inl hk)))))
 have wC : ∀ k, k ∈ C.ids → 0 ≤ k := fun k hk => hp k ((mem_plug ..).2 (.inr ((hm k).2 (.inr (.inr (.inr (.inr hk)))))))
 have wB : ∀ k, k ∈ B.ids → 0 ≤ k := fun k hk => hp k ((mem_plug ..).2 (.inr ((hm k).2 (.inr (.inr (.inr (.inl hk)))))))
 have wc : ∀ k, k ∈ cids c → 0 ≤ k := fun k hk => hp k ((mem_plug ..).2 (.inl hk))
 refine ⟨hR, ?_, ?_, ?_⟩
 ·rw [rep_plug, rep_mk, rep_mk, ix_mk, ix_mk]
  refine ⟨rc.hole nc gc fun k hk hne => gk k ?_ ?_ ?_ hne, gu, ⟨gi, rA.keep (nin A fun k hk => ?_), rB.par nB gB fun k hk hne => gk k ?_ ?_ hne ?_⟩, rC.keep (nin C fun k hk => ?_)⟩
  ·rintro rfl; exact hic hk
  ·rintro rfl; exact huc hk
  ·rintro rfl
   by_cases hB : B = .E
   ·subst hB; have := wc _ hk; simp [T.ix] at this
   ·exact nct _ hk (.inr (.inr (.inr (.inl (ix_mem hB)))))
  ·exact ⟨wA k hk, by rintro rfl; exact ni (.inl hk), by rintro rfl; exact nAB _ hk _ (.inl rfl) rfl, fun e => nAB _ hk _ (.inr (.inl e)) rfl, fun e => nct k e (.inr (.inl hk))⟩
  ·rintro rfl; exact ni (.inr (.inr (.inl hk)))
  ·rintro rfl; exact nu (.inl hk)
  ·rcases cix_mem (c := c) with ⟨e, _⟩ | e
   ·have := wB k hk; omega
   ·rintro rfl; exact nct _ e (.inr (.inr (.inr (.inl hk))))
  ·exact ⟨wC k hk, by rintro rfl; exact ni (.inr (.inr (.inr hk))), by rintro rfl; exact nu (.inr hk), fun e => nBC _ e _ hk rfl, fun e => nct k e (.inr (.inr (.inr (.inr hk))))⟩
 ·rw [nodup_plug]
  refine ⟨nc, ?_, fun k hk => by rw [hm']; exact nct k hk⟩
  rw [(ids_mk ..).nodup_iff, List.nodup_cons, List.nodup_append, (ids_mk ..).nodup_iff, List.nodup_cons, List.nodup_append]
  simp only [List.mem_append, (ids_mk ..).mem_iff, List.mem_cons]
  grind
 ·intro k n hk
  obtain ⟨m, hk'⟩ := rot_just hk
  have := hj k m hk'
  rw [mem_plug, hm] at this
  rw [mem_plug, hm']
  exact this
end Go.Proofs.Bo
