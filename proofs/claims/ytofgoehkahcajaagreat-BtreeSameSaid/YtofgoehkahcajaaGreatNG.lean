import Derived.Test.YtofgoehkahcajaaGreatBoG
import Derived.Deep.RegionLaw
import Derived.Test.YtofgoehkahcajaaGreatProg
import Derived.Deep.QuietTactic
import Derived.BigQuiet
set_option linter.unusedVariables false
set_option linter.unusedSimpArgs false
namespace Go.Proofs.Bo
/-- The node in a place, if there is one. -/
def nod (σ : List (Option Nd)) (i : Int) : Option Nd := if 0 ≤ i then (σ[i.toNat]?).join else none
/-- A place's node is another one now. -/
def pnod (σ : List (Option Nd)) (i : Int) (n : Nd) : List (Option Nd) := σ.set i.toNat (some n)
theorem nod_some {σ : List (Option Nd)} {i : Int} {n : Nd} (h : nod σ i = some n) : ∃ k : Nat, i = k ∧ σ[k]? = some (some n) := by
  unfold nod at h
  split at h
  · refine ⟨i.toNat, by omega, ?_⟩
    cases hl : σ[i.toNat]? with
    | none => rw [hl] at h; cases h
    | some p => rw [hl] at h; cases p with | none => cases h | some u => simp at h; rw [h]
  · cases h
theorem nod_of {σ : List (Option Nd)} {k : Nat} {n : Nd} (h : σ[k]? = some (some n)) : nod σ k = some n := by
  unfold nod; rw [if_pos (by omega)]; simp [h]
theorem nod_neg (σ : List (Option Nd)) : nod σ (-1) = none := rfl
theorem nod_none {σ : List (Option Nd)} {i : Int} (h : nod σ i = none) : ∀ (k : Nat) (v : Nd), i = k → σ[k]? ≠ some (some v) := by
  rintro k v rfl hk
  rw [nod_of hk] at h; cases h
theorem nod_pnod {σ : List (Option Nd)} {k : Int} {n n' : Nd} (h : nod σ k = some n) (i : Int) : nod (pnod σ k n') i = if i = k then some n' else nod σ i := by
  obtain ⟨k, rfl, hk⟩ := nod_some h
  have hl := (List.getElem?_eq_some_iff.1 hk).1
  unfold nod pnod
  rw [Int.toNat_natCast]
  by_cases h0 : 0 ≤ i
  · obtain ⟨j, rfl⟩ := Int.eq_ofNat_of_zero_le h0
    rw [if_pos h0, Int.toNat_natCast]
    by_cases e : j = k
    · subst e; rw [if_pos rfl, List.getElem?_set_self hl]; rfl
    · rw [if_neg (by omega), List.getElem?_set_ne (Ne.symm e), if_pos h0]; try simp
  · rw [if_neg h0, if_neg (by omega), if_neg h0]
theorem pnod_length (σ : List (Option Nd)) (k : Int) (n : Nd) : (pnod σ k n).length = σ.length := by simp [pnod]
/-- A child's place: 0 is the left one. -/
def Nd.kid (n : Nd) (d : Int) : Int := if d = 0 then n.k0 else n.k1
def Nd.setKid (n : Nd) (d : Int) (i : Int) : Nd := if d = 0 then { n with k0 := i } else { n with k1 := i }

/-- A place's node, if there is one, is turned. -/
def modN (σ : List (Option Nd)) (i : Int) (f : Nd → Nd) : List (Option Nd) := match nod σ i with
  | none => σ
  | some n => pnod σ i (f n)
theorem modN_neg (σ : List (Option Nd)) (f : Nd → Nd) : modN σ (-1) f = σ := rfl
theorem modN_some {σ : List (Option Nd)} {i : Int} {n : Nd} (h : nod σ i = some n) (f : Nd → Nd) : modN σ i f = pnod σ i (f n) := by unfold modN; rw [h]
theorem nod_modN (σ : List (Option Nd)) (k : Int) (f : Nd → Nd) (i : Int) : nod (modN σ k f) i = if i = k then (nod σ i).map f else nod σ i := by
  unfold modN
  cases h : nod σ k with
  | none => by_cases e : i = k
            · subst e; simp [h]
            · simp [e]
  | some n => simp only []
              rw [nod_pnod h]
              by_cases e : i = k
              · subst e; simp [h]
              · simp [e]
theorem modN_length (σ : List (Option Nd)) (k : Int) (f : Nd → Nd) : (modN σ k f).length = σ.length := by
  unfold modN; split
  · rfl
  · exact pnod_length _ _ _
/-- A place is none, or has a node. -/
def Is1 (σ : List (Option Nd)) (i : Int) : Prop := i = -1 ∨ ∃ n, nod σ i = some n
theorem Is1.modN {σ : List (Option Nd)} {i : Int} (h : Is1 σ i) (k : Int) (f : Nd → Nd) : Is1 (modN σ k f) i := by
  rcases h with h | ⟨n, h⟩
  · exact .inl h
  · refine .inr ?_
    rw [nod_modN]
    split
    · exact ⟨f n, by rw [h]; rfl⟩
    · exact ⟨n, h⟩
def hangK (old i : Int) (np : Nd) : Nd := np.setKid (if np.k0 = old then 0 else 1) i
def parN (p : Int) (n : Nd) : Nd := { n with p := p }
def redN (b : Bool) (n : Nd) : Nd := { n with red := b }
/-- The root then. -/
def hangR (root i parent : Int) : Int := if parent = -1 then i else root
def hangS (σ : List (Option Nd)) (i parent old : Int) : List (Option Nd) := modN (modN σ parent (hangK old i)) i (parN parent)
/-- The store after 'rotate'. -/
def rotS (σ : List (Option Nd)) (i up inner pp d : Int) : List (Option Nd) :=
  modN (modN (modN (modN (hangS σ up pp i) up (fun n => n.setKid d i)) i (parN up)) i (fun n => n.setKid (1 - d) inner)) inner (parN i)
end Go.Proofs.Bo
set_option linter.unusedVariables false
set_option linter.unusedSimpArgs false
namespace Go.Proofs.Bo
open Go Go.RowKit
/-- An arena of nodes in memory. -/
abbrev ArN (w : World) (ab : Nat) (lv fv : Value) (room : Int) (l : List (Option Nd)) (free : List Int) : Prop := Ar encNd zNd 98 112 3 w ab lv fv room l free
theorem infoPN : (Tryz.prog.info? 112).map (fun i => (i.zero, i.size, i.bytes)) = some (some (.agg #[.int .i64 0, .int .i64 0, .int .i64 0, .int .i64 0, .int .i64 0, .int .i64 0, .int .i64 0, .int .i64 0, .bool false, .bool false]), 10, 80) := by kernel_rfl
theorem infoIn : (Tryz.prog.info? 3).map (fun i => (i.zero, i.size, i.bytes)) = some (some (.int .i64 0), 1, 8) := by kernel_rfl

section
variable {w : World} {ab : Nat} {lv fv : Value} {room : Int} {l : List (Option Nd)} {free : List Int}

set_option maxHeartbeats 400000 in
theorem lenN (h : ArN w ab lv fv room l free) :
    Calls Tryz.prog 66 #[.pointer (some ⟨ab, 0, none⟩)] w fun e w' => e = .returned (.int .i64 ((l.length : Int) - free.length)) ∧ ∃ n, w' = w.drewN n := by
  obtain ⟨A, c, rfl, _, _, _⟩ := own_slice h.row
  obtain ⟨A', c', rfl, _, _, _⟩ := own_slice h.fre
  have h1 := h.c1
  have h2 := h.c2
  obtain ⟨b1, b2⟩ := h.flen
  clear h
  go_enter Tryz.func66, Tryz.ntmps66
  go_wp2
  go_quiet (fail)
  go_wp2
  go_ret
  exact ⟨rfl, _, rfl⟩

set_option maxHeartbeats 400000 in
theorem atN_out (h : ArN w ab lv fv room l free) (i : Int) (hi : i < 0 ∨ l.length ≤ i) :
    Calls Tryz.prog 65 #[.pointer (some ⟨ab, 0, none⟩), .int .i64 i] w fun e w' => e = .returned (.pointer none) ∧ w' = w := by
  obtain ⟨A, c, rfl, _, _, _⟩ := own_slice h.row
  have h1 := h.c1
  obtain ⟨b1, b2⟩ := h.flen
  clear h
  rcases hi with hi | hi
  · go_enter Tryz.func65, Tryz.ntmps65
    go_wp2
    go_ret
    exact ⟨rfl, rfl⟩
  · have hi' : ¬ i < 0 := by omega
    go_enter Tryz.func65, Tryz.ntmps65
    go_wp2
    go_ret
    exact ⟨rfl, rfl⟩

set_option maxHeartbeats 400000 in
theorem atN_in {lb n c k : Nat} (h : ArN w ab (.slice (some ⟨lb, 0, none⟩) n c) fv room l free) (p : Option Nd) (hp : l[k]? = some p) :
    Calls Tryz.prog 65 #[.pointer (some ⟨ab, 0, none⟩), .int .i64 k] w fun e w' => e = .returned (.pointer (if p.isSome then some ⟨lb, k * 10, none⟩ else none)) ∧ w' = w := by
  have h1 := h.c1
  obtain ⟨b1, b2⟩ := h.flen
  have hk := (List.getElem?_eq_some_iff.1 hp).1
  have hn : n = l.length := by obtain ⟨_, _, e, _⟩ := own_slice h.row; cases e; rfl
  subst hn
  have hc := (h.cell (i := k) (p := p) hp (j := 9) (u := .bool p.isSome) (by cases p <;> rfl)).1
  simp only [zNd, List.length_cons, List.length_nil, Nat.zero_add, Nat.reduceAdd] at hc
  cases p <;> (
  clear h
  go_enter Tryz.func65, Tryz.ntmps65
  go_wp2
  go_ret
  exact ⟨rfl, rfl⟩)

/-- The block that a node comes in. -/
theorem boxN (w : World) (v : Nd) : ∃ w0, w.alloc (.cells #[.int .i64 v.s.ls, .int .i64 v.s.la, .int .i64 v.s.hs, .int .i64 v.s.ha, .int .i64 v.s.v, .int .i64 v.k0, .int .i64 v.k1, .int .i64 v.p, .bool v.red] 62) = w0 ∧
    w0.heap[w.heap.size]? = some (.cells #[.int .i64 v.s.ls, .int .i64 v.s.la, .int .i64 v.s.hs, .int .i64 v.s.ha, .int .i64 v.s.v, .int .i64 v.k0, .int .i64 v.k1, .int .i64 v.p, .bool v.red] 62 (0, 0)) ∧ Mod (fun _ => False) w w0 ∧ w0.heap.size = w.heap.size + 1 :=
  ⟨_, rfl, alloc_0 _ _, (Mod.refl _ _).alloc _, by simp⟩

set_option maxHeartbeats 400000 in
theorem putN_full (h : ArN w ab lv fv room l free) (v : Nd) (hr : room ≤ (l.length : Int) - free.length) :
    Calls Tryz.prog 32 #[.pointer (some ⟨ab, 0, none⟩), .agg (encNd v).toArray] w fun e w' => e = .returned (.tuple #[.int .i64 0, .int .i64 50]) ∧ Mod (fun _ => False) w w' := by
  obtain ⟨w0, hw0, b0, M0, _⟩ := boxN w v
  have h := h.mod M0 fun _ _ h => h
  have h0 := h.c0
  dsimp only [encNd]
  go_enter Tryz.func32, Tryz.ntmps32
  go_wp2_with fail
  go_quiet ((go_at_call 66; exact Calls.quiet_of (lenN (h.drewN _))))
  go_wp2_with fail
  go_ret2
  exact ⟨rfl, M0.drewN _⟩

set_option maxHeartbeats 1000000 in
theorem putN_new (h : ArN w ab lv fv room l []) (v : Nd) (hr : (l.length : Int) < room) :
    Calls Tryz.prog 32 #[.pointer (some ⟨ab, 0, none⟩), .agg (encNd v).toArray] w fun e w' => e = .returned (.tuple #[.int .i64 l.length, .int .i64 0]) ∧
      ∃ lv', ArN w' ab lv' fv room (l ++ [some v]) [] ∧ Mod (Foot ab lv fv) w w' ∧ (∀ k, Foot ab lv' fv k → Foot ab lv fv k ∨ w.heap.size ≤ k) := by
  obtain ⟨w0, hw0, b0, M0, hs0⟩ := boxN w v
  have h := h.mod M0 fun _ _ h => h
  have h0 := h.c0
  have h1 := h.c1
  have h2 := h.c2
  have hab := h.lt (.inl rfl)
  have f1 := h.fr 1
  obtain ⟨d0, e0⟩ := blkc b0
  obtain ⟨A', c', rfl, _, _, _⟩ := own_slice h.fre
  obtain ⟨b1, b2⟩ := h.flen
  have hr' : ¬ room ≤ (l.length : Int) - ([] : List Int).length := by simp; omega
  have hs0' := hid hs0
  have cA : ∀ (n : Nat) (o : Obj), ((w0.drewN n).alloc o).cell? ⟨ab, 1, none⟩ = some lv := fun n o => (Mod.alloc (Mod.refl (fun _ => False) (w0.drewN n)) o).cell h1 (fun h => h)
  clear hs0
  dsimp only [encNd]
  go_enter Tryz.func32, Tryz.ntmps32
  go_wp2_with fail
  go_quiet ((go_at_call 66; exact Calls.quiet_of (lenN (h.drewN _))))
  go_wp2_with fail
  go_region_law (refine step_app_one [.int .i64 v.s.ls, .int .i64 v.s.la, .int .i64 v.s.hs, .int .i64 v.s.ha, .int .i64 v.s.v, .int .i64 v.k0, .int .i64 v.k1, .int .i64 v.p, .bool v.red, .bool true] lv l.length (l.flatMap (encP encNd zNd)) (.tmp 27) (.tmp 30) 96 112 _ 10 80 rfl rfl Tryz.underlying96 infoPN rfl (by omega) (by omega) (by simp [Act.eval, Act.put]) (by simp [Act.eval, Act.put]) h.row rfl (by simp [Value.oneCell']) (by omega) ?_
                 intro v1 w1 hown hgrow hblk
                 obtain ⟨k0, k1, k2, k3⟩ := Ar.grow_l (p := some v) (h.drewN (nq + 1)) (by decide) (by decide) (by decide) hown hgrow hblk (h.inv.put_new hr v)
                 have c1 : w1.cell? ⟨ab, 1, none⟩ = some lv := by simp [World.cell?, k0]
                 have f1 : w1.frozen? ⟨ab, 1, none⟩ = false := by simp [World.frozen?, k0]
                 obtain ⟨A1, cc1, rfl, _, _, _⟩ := own_slice hown)
  all_goals go_wp2_with fail
  all_goals go_ret2
  all_goals exact ⟨by simp, _, k1, (M0.mono fun _ h => h.elim).trans' k2.of_drewN, fun k hk => (k3 k hk).imp id fun h => Nat.le_trans M0.size h⟩

set_option maxHeartbeats 2000000 in
theorem putN_old {k : Nat} (h : ArN w ab lv fv room l (free ++ [(k : Int)])) (v : Nd) :
    Calls Tryz.prog 32 #[.pointer (some ⟨ab, 0, none⟩), .agg (encNd v).toArray] w fun e w' => e = .returned (.tuple #[.int .i64 k, .int .i64 0]) ∧
      ∃ fv', ArN w' ab lv fv' room (l.set k (some v)) free ∧ Mod (Foot ab lv fv) w w' ∧ (∀ k, Foot ab lv fv' k → Foot ab lv fv k ∨ w.heap.size ≤ k) := by
  obtain ⟨w0, hw0, b0, M0, hs0⟩ := boxN w v
  have hlt := fun k hk => h.lt (k := k) hk
  have h := h.mod M0 fun _ _ h => h
  have h0 := h.c0
  have h1 := h.c1
  have h2 := h.c2
  have hab := h.lt (.inl rfl)
  have f1 := h.fr 1
  have f2 := h.fr 2
  have hl : l[k]? = some none := by
    obtain ⟨k', e, hk'⟩ := (h.inv.mem k).1 (by simp)
    have : k = k' := by omega
    subst this; exact hk'
  have hkl := (List.getElem?_eq_some_iff.1 hl).1
  obtain ⟨lb, c, rfl, _, _⟩ := h.place (by omega)
  obtain ⟨A', c', rfl, _, _, hA⟩ := own_slice h.fre
  obtain ⟨fb, rfl⟩ := hA (by simp)
  obtain ⟨b1, b2⟩ := h.flen
  have hlr := h.inv.lr
  have n1 : ab ≠ lb := fun e => h.ne_l (by decide) (by rw [e]; rfl)
  have n2 : ab ≠ fb := fun e => h.ne_f (by decide) (by rw [e]; rfl)
  have n3 : lb ≠ fb := fun e => h.ne_lf (k := lb) (by decide) rfl (by rw [e]; rfl)
  have n4 : ab ≠ w.heap.size := fun e => by have := hlt ab (.inl rfl); omega
  have n5 : w.heap.size ≠ ab := Ne.symm n4
  have n6 : lb ≠ w.heap.size := fun e => by have := hlt lb (.inr (.inl rfl)); omega
  have n7 : w.heap.size ≠ lb := Ne.symm n6
  have cf := (own_cell h.fre (j := free.length) (u := .int .i64 k) (by simp)).1
  obtain ⟨d0, g0⟩ := h.cell (i := k) hl (j := 0) (u := .int .i64 0) rfl
  obtain ⟨d1, g1⟩ := h.cell (i := k) hl (j := 1) (u := .int .i64 0) rfl
  obtain ⟨d2, g2⟩ := h.cell (i := k) hl (j := 2) (u := .int .i64 0) rfl
  obtain ⟨d3, g3⟩ := h.cell (i := k) hl (j := 3) (u := .int .i64 0) rfl
  obtain ⟨d4, g4⟩ := h.cell (i := k) hl (j := 4) (u := .int .i64 0) rfl
  obtain ⟨d5, g5⟩ := h.cell (i := k) hl (j := 5) (u := .int .i64 0) rfl
  obtain ⟨d6, g6⟩ := h.cell (i := k) hl (j := 6) (u := .int .i64 0) rfl
  obtain ⟨d7, g7⟩ := h.cell (i := k) hl (j := 7) (u := .int .i64 0) rfl
  obtain ⟨d8, g8⟩ := h.cell (i := k) hl (j := 8) (u := .bool false) rfl
  obtain ⟨d9, g9⟩ := h.cell (i := k) hl (j := 9) (u := .bool false) rfl
  simp only [zNd, List.length_cons, List.length_nil, Nat.zero_add, Nat.add_zero, Nat.reduceAdd] at d0 g0 d1 g1 d2 g2 d3 g3 d4 g4 d5 g5 d6 g6 d7 g7 d8 g8 d9 g9
  obtain ⟨x0, y0⟩ := blkc b0
  have hr' : ¬ room ≤ (l.length : Int) - (free ++ [(k : Int)]).length := by simp; simp at b1; omega
  have hn0 : ¬ ((free ++ [(k : Int)]).length : Int) - 1 < 0 := by simp
  have hs0' := hid hs0
  have hlt' := hid hlt
  clear hs0 hlt
  simp only [List.length_append, List.length_cons, List.length_nil, Nat.zero_add] at *
  dsimp only [encNd]
  go_enter Tryz.func32, Tryz.ntmps32
  go_wp2_with fail
  go_quiet ((go_at_call 66; exact Calls.quiet_of (lenN (h.drewN _))))
  go_wp2_with fail
  go_region
  all_goals go_wp2_with fail
  all_goals go_ret2
  all_goals
    refine ⟨rfl, .slice (some ⟨fb, 0, none⟩) free.length c', ?_⟩
    have Rz := Ar.reuse (nq := nq) (some v) h (by decide) (by decide) (by decide) hl (h.inv.put_old v)
    exact ⟨Rz.1.drewN 1, (M0.mono fun _ h => h.elim).trans' (Rz.2.1.drewN 1), fun j hj => (Rz.2.2 j hj).imp id fun h => Nat.le_trans M0.size h⟩

/-- There is no thing in a place. -/
theorem atN_no (h : ArN w ab lv fv room l free) (i : Int) (hi : ∀ (k : Nat) (v : Nd), i = k → l[k]? ≠ some (some v)) :
    Calls Tryz.prog 65 #[.pointer (some ⟨ab, 0, none⟩), .int .i64 i] w fun e w' => e = .returned (.pointer none) ∧ w' = w := by
  by_cases h1 : i < 0 ∨ l.length ≤ i
  · exact atN_out h i h1
  · obtain ⟨k, rfl⟩ := Int.eq_ofNat_of_zero_le (show 0 ≤ i by omega)
    have hk : k < l.length := by omega
    obtain ⟨lb, c, rfl, _, _⟩ := h.place (by omega)
    have hp : l[k]? = some none := by
      cases hl : l[k] with
      | none => simp [hk, hl]
      | some v => exact absurd (by simp [hk, hl]) (hi k v rfl)
    exact atN_in h none hp

theorem atN_yes {lb n c k : Nat} {v : Nd} (h : ArN w ab (.slice (some ⟨lb, 0, none⟩) n c) fv room l free) (hp : l[k]? = some (some v)) :
    Calls Tryz.prog 65 #[.pointer (some ⟨ab, 0, none⟩), .int .i64 k] w fun e w' => e = .returned (.pointer (some ⟨lb, k * 10, none⟩)) ∧ w' = w := atN_in h (some v) hp

set_option maxHeartbeats 400000 in
theorem freeN_no (h : ArN w ab lv fv room l free) (i : Int) (hi : ∀ (k : Nat) (v : Nd), i = k → l[k]? ≠ some (some v)) :
    Calls Tryz.prog 37 #[.pointer (some ⟨ab, 0, none⟩), .int .i64 i] w fun e w' => e = .returned (.bool false) ∧ w' = w := by
  have H := atN_no h i hi
  go_enter Tryz.func37, Tryz.ntmps37
  go_wp2_with (go_at_call 65; refine H.mono ?_; rintro e w' ⟨rfl, rfl⟩)
  go_ret
  exact ⟨rfl, rfl⟩

set_option maxHeartbeats 2000000 in
theorem freeN_yes {k : Nat} {v : Nd} (h : ArN w ab lv fv room l free) (hp : l[k]? = some (some v)) :
    Calls Tryz.prog 37 #[.pointer (some ⟨ab, 0, none⟩), .int .i64 k] w fun e w' => e = .returned (.bool true) ∧ ∃ fv', ArN w' ab lv fv' room (l.set k none) (free ++ [(k : Int)]) ∧ Mod (Foot ab lv fv) w w' ∧ (∀ k, Foot ab lv fv' k → Foot ab lv fv k ∨ w.heap.size ≤ k) := by
  have hkl := (List.getElem?_eq_some_iff.1 hp).1
  obtain ⟨lb, c, rfl, _, _⟩ := h.place (by omega)
  have H := atN_yes h hp
  have h1 := h.c1
  have h2 := h.c2
  have f1 := h.fr 1
  have f2 := h.fr 2
  have n1 : ab ≠ lb := fun e => h.ne_l (by decide) (by rw [e]; rfl)
  obtain ⟨b1, b2⟩ := h.flen
  obtain ⟨d0, g0⟩ := h.cell (i := k) (p := some v) hp (j := 0) (u := .int .i64 v.s.ls) rfl
  obtain ⟨d1, g1⟩ := h.cell (i := k) (p := some v) hp (j := 1) (u := .int .i64 v.s.la) rfl
  obtain ⟨d2, g2⟩ := h.cell (i := k) (p := some v) hp (j := 2) (u := .int .i64 v.s.hs) rfl
  obtain ⟨d3, g3⟩ := h.cell (i := k) (p := some v) hp (j := 3) (u := .int .i64 v.s.ha) rfl
  obtain ⟨d4, g4⟩ := h.cell (i := k) (p := some v) hp (j := 4) (u := .int .i64 v.s.v) rfl
  obtain ⟨d5, g5⟩ := h.cell (i := k) (p := some v) hp (j := 5) (u := .int .i64 v.k0) rfl
  obtain ⟨d6, g6⟩ := h.cell (i := k) (p := some v) hp (j := 6) (u := .int .i64 v.k1) rfl
  obtain ⟨d7, g7⟩ := h.cell (i := k) (p := some v) hp (j := 7) (u := .int .i64 v.p) rfl
  obtain ⟨d8, g8⟩ := h.cell (i := k) (p := some v) hp (j := 8) (u := .bool v.red) rfl
  obtain ⟨d9, g9⟩ := h.cell (i := k) (p := some v) hp (j := 9) (u := .bool true) rfl
  simp only [zNd, List.length_cons, List.length_nil, Nat.zero_add, Nat.add_zero, Nat.reduceAdd] at d0 g0 d1 g1 d2 g2 d3 g3 d4 g4 d5 g5 d6 g6 d7 g7 d8 g8 d9 g9
  go_enter Tryz.func37, Tryz.ntmps37
  have hW := setL_heap lb (encP encNd zNd none) w (k * 10) ab n1
  have hrow := h.put_place hp none
  have hm : Mod (Foot ab (.slice (some ⟨lb, 0, none⟩) l.length c) fv) w (setL w lb (k * 10) (encP encNd zNd none)) := setL_mod lb (.inl (.inr (.inl rfl))) _ _ _ (Mod.refl _ _)
  have hfre : (setL w lb (k * 10) (encP encNd zNd none)).ownsRow 0 3 1 fv free.length (free.map (.int .i64)) := own_keep h.fre fun j e => setL_heap lb _ _ _ _ (by rintro rfl; exact h.ne_lf (k := j) (by decide) rfl e)
  go_wp2_with (first | (go_at_call 65; refine H.mono ?_; rintro e w' ⟨rfl, rfl⟩) | (at_builtin; refine app_one [.int .i64 (k : Int)] fv free.length (free.map (.int .i64)) (.tmp 20) (.tmp 22) 86 3 (.int .i64 0) 1 8 rfl rfl Tryz.underlying86 infoIn rfl (by omega) (by omega) rfl (by simp [Act.eval]) hfre rfl (by simp [Value.oneCell']) (by omega) ?_))
  intro v1 w1 hown hgrow hblk
  obtain ⟨k0, k1, k2, k3⟩ := h.grow_f (by decide) (by decide) (by decide) hp hW hrow hm hown hgrow (by rw [setL_size]; exact hblk)
  have c1 : w1.cell? ⟨ab, 2, none⟩ = some fv := by simp [World.cell?, k0]
  have f1 : w1.frozen? ⟨ab, 2, none⟩ = false := by simp [World.frozen?, k0]
  obtain ⟨A1, cc1, rfl, _, _, _⟩ := own_slice hown
  clear h1 h2 hgrow hblk hfre hrow hW
  go_wp2_with fail
  go_ret
  exact ⟨by simp, _, k1, k2, k3⟩

set_option maxHeartbeats 400000 in
theorem resetN (h : ArN w ab lv fv room l free) :
    Calls Tryz.prog 40 #[.pointer (some ⟨ab, 0, none⟩)] w fun e w' => e = .returned (.tuple #[]) ∧ ArN w' ab (.slice none 0 0) (.slice none 0 0) room [] [] ∧ Mod (Foot ab lv fv) w w' := by
  have h1 := h.c1
  have h2 := h.c2
  have f1 := h.fr 1
  have f2 := h.fr 2
  go_enter Tryz.func40, Tryz.ntmps40
  go_wp2
  go_end0
  have hb := blk_set2 (blk_set1 h.blk (u := .slice none 0 0)) (u := .slice none 0 0)
  exact ⟨rfl, ⟨hb, World.ownsRow_nil _ _ _ _, World.ownsRow_nil _ _ _ _, fun _ => rfl, ⟨h.inv.room0, h.inv.room1, Nat.le_refl _, h.inv.room0, List.nodup_nil, by simp⟩⟩,
    ((Mod.refl _ w).setCell (.inl (.inl rfl)) _).setCell (.inl (.inl rfl)) _⟩

set_option maxHeartbeats 400000 in
theorem newN (room : Int) (hr : 0 ≤ room) (hr2 : room ≤ 65536) (w : World) :
    Calls Tryz.prog 20 #[.int .i64 room] w fun e w' => e = .returned (.tuple #[.pointer (some ⟨w.heap.size, 0, none⟩), .int .i64 0]) ∧ ArN w' w.heap.size (.slice none 0 0) (.slice none 0 0) room [] [] ∧ Below w.heap.size w w' := by
  have hr0 : ¬ room < 0 := by omega
  have hr1 : ¬ 65536 < room := by omega
  go_enter Tryz.func20, Tryz.ntmps20
  go_wp2
  go_ret2
  exact ⟨rfl, ⟨heap_alloc_new _ _, World.ownsRow_nil _ _ _ _, World.ownsRow_nil _ _ _ _, fun _ => rfl, ⟨hr, hr2, Nat.le_refl _, hr, List.nodup_nil, by simp⟩⟩, (Below.refl _ _).alloc (Nat.le_refl _) _⟩
end
end Go.Proofs.Bo
set_option linter.unusedVariables false
set_option linter.unusedSimpArgs false
namespace Go.Proofs.Bo
open Go Go.RowKit

/-- A tree in memory. -/
structure TM (w : World) (tb ab : Nat) (lv fv : Value) (room root : Int) (σ : List (Option Nd)) (free : List Int) : Prop where
  t : w.heap[tb]? = some (.cells #[.pointer (some ⟨ab, 0, none⟩), .int .i64 root] 64 (0, 0))
  a : ArN w ab lv fv room σ free

section
variable {w : World} {tb ab : Nat} {lv fv : Value} {room root : Int} {σ : List (Option Nd)} {free : List Int}

theorem TM.drewN (h : TM w tb ab lv fv room root σ free) (n : Nat) : TM (w.drewN n) tb ab lv fv room root σ free := ⟨h.t, h.a.drewN n⟩
theorem TM.mod {S : Nat → Prop} {w' : World} (h : TM w tb ab lv fv room root σ free) (hm : Mod S w w') (ht : ¬ S tb) (hs : ∀ k, Foot ab lv fv k → ¬ S k) : TM w' tb ab lv fv room root σ free := ⟨hm.heap h.t ht, h.a.mod hm hs⟩
theorem TM.mod0 {w' : World} (h : TM w tb ab lv fv room root σ free) (hm : Mod (fun _ => False) w w') : TM w' tb ab lv fv room root σ free := h.mod hm (fun h => h) fun _ _ h => h
/-- The tree's block is none of the arena's. -/
theorem TM.ne (h : TM w tb ab lv fv room root σ free) : ¬ Foot ab lv fv tb := by
  rintro (e | e | e)
  · subst e
    have := h.t.symm.trans h.a.blk
    injection this with this; injection this with _ this; exact absurd this (by decide)
  · obtain ⟨cs, hc⟩ := own_type h.a.row e
    have := h.t.symm.trans hc
    injection this with this; injection this with _ this; exact absurd this (by decide)
  · obtain ⟨cs, hc⟩ := own_type h.a.fre e
    have := h.t.symm.trans hc
    injection this with this; injection this with _ this; exact absurd this (by decide)

theorem atT {lb n c k : Nat} {v : Nd} (h : TM w tb ab (.slice (some ⟨lb, 0, none⟩) n c) fv room root σ free) (hp : σ[k]? = some (some v)) :
    Calls Tryz.prog 31 #[.pointer (some ⟨tb, 0, none⟩), .int .i64 k] w fun e w' => e = .returned (.pointer (some ⟨lb, k * 10, none⟩)) ∧ w' = w := by
  obtain ⟨c0, f0⟩ := blkc h.t
  have H := atN_yes h.a hp
  go_enter Tryz.func31, Tryz.ntmps31
  go_wp2_with (go_at_call 65; refine H.mono ?_; rintro e w' ⟨rfl, rfl⟩)
  go_ret
  exact ⟨rfl, rfl⟩

/-- A cell of a node. -/
theorem TM.cell {lb n c k : Nat} {v : Nd} (h : TM w tb ab (.slice (some ⟨lb, 0, none⟩) n c) fv room root σ free) (hp : σ[k]? = some (some v)) {j : Nat} {u : Value} (hu : (encNd v)[j]? = some u) :
    w.cell? ⟨lb, k * 10 + j, none⟩ = some u ∧ w.frozen? ⟨lb, k * 10 + j, none⟩ = false := by
  refine h.a.cell hp (j := j) ?_
  show (encNd v ++ [.bool true])[j]? = some u
  rw [List.getElem?_append_left (List.getElem?_eq_some_iff.1 hu).1]; exact hu

theorem redT_none (w : World) (tb : Nat) : Calls Tryz.prog 38 #[.pointer (some ⟨tb, 0, none⟩), .int .i64 (-1)] w fun e w' => e = .returned (.bool false) ∧ w' = w := by
  go_enter Tryz.func38, Tryz.ntmps38
  go_wp2
  go_ret
  exact ⟨rfl, rfl⟩

theorem redT {k : Nat} {v : Nd} (h : TM w tb ab lv fv room root σ free) (hp : σ[k]? = some (some v)) :
    Calls Tryz.prog 38 #[.pointer (some ⟨tb, 0, none⟩), .int .i64 k] w fun e w' => e = .returned (.bool v.red) ∧ w' = w := by
  obtain ⟨lb, c, rfl, _, _⟩ := h.a.place (by have := (List.getElem?_eq_some_iff.1 hp).1; omega)
  have H := atT h hp
  have c8 := (h.cell hp (j := 8) rfl).1
  have hk : ((k : Int) != -1) = true := by simp
  go_enter Tryz.func38, Tryz.ntmps38
  go_wp2_with (go_at_call 31; refine H.mono ?_; rintro e w' ⟨rfl, rfl⟩)
  go_ret
  exact ⟨rfl, rfl⟩

theorem sideT {k : Nat} {v : Nd} (h : TM w tb ab lv fv room root σ free) (hp : σ[k]? = some (some v)) (i : Int) :
    Calls Tryz.prog 67 #[.pointer (some ⟨tb, 0, none⟩), .int .i64 i, .int .i64 k] w fun e w' => e = .returned (.int .i64 (if v.k0 = i then 0 else 1)) ∧ w' = w := by
  obtain ⟨lb, c, rfl, _, _⟩ := h.a.place (by have := (List.getElem?_eq_some_iff.1 hp).1; omega)
  have H := atT h hp
  have c5 := (h.cell hp (j := 5) rfl).1
  by_cases hi : v.k0 = i
  · have hb : (v.k0 == i) = true := by simpa using hi
    go_enter Tryz.func67, Tryz.ntmps67
    go_wp2_with (go_at_call 31; refine H.mono ?_; rintro e w' ⟨rfl, rfl⟩)
    go_ret
    exact ⟨by simp [hi], rfl⟩
  · have hb : (v.k0 == i) = false := by simpa using hi
    go_enter Tryz.func67, Tryz.ntmps67
    go_wp2_with (go_at_call 31; refine H.mono ?_; rintro e w' ⟨rfl, rfl⟩)
    go_ret
    exact ⟨by simp [hi], rfl⟩

set_option maxHeartbeats 400000 in
theorem keyT {k : Nat} {v : Nd} (h : TM w tb ab lv fv room root σ free) (hp : σ[k]? = some (some v)) :
    Calls Tryz.prog 64 #[.pointer (some ⟨tb, 0, none⟩), .int .i64 k] w fun e w' => e = .returned (.agg #[.int .i64 v.s.ls, .int .i64 v.s.la]) ∧ Mod (fun _ => False) w w' := by
  obtain ⟨w0, hw0⟩ : ∃ w0, w.alloc (.cells #[.int .i64 0, .int .i64 0] 26) = w0 := ⟨_, rfl⟩
  have b0 : w0.heap[w.heap.size]? = some (.cells #[.int .i64 0, .int .i64 0] 26 (0, 0)) := by rw [← hw0]; exact alloc_0 _ _
  have M0 : Mod (fun _ => False) w w0 := by rw [← hw0]; exact (Mod.refl _ _).alloc _
  obtain ⟨d0, e0⟩ := blkc b0
  have h := h.mod0 M0
  obtain ⟨lb, c, rfl, _, _⟩ := h.a.place (by have := (List.getElem?_eq_some_iff.1 hp).1; omega)
  have H := atT h hp
  have c0 := (h.cell hp (j := 0) rfl).1
  have c1 := (h.cell hp (j := 1) rfl).1
  simp only [Nat.add_zero] at c0
  clear h
  go_enter Tryz.func64, Tryz.ntmps64
  go_wp2_with (go_at_call 31; refine H.mono ?_; rintro e w' ⟨rfl, hw⟩; subst hw)
  refine ret_row w.heap.size [.int .i64 v.s.ls, .int .i64 v.s.la] rfl rfl (setL_whole (cs := [.int .i64 0, .int .i64 0]) (us := [.int .i64 v.s.ls, .int .i64 v.s.la]) b0 rfl) Tryz.underlying26 rfl (by kernel_rfl) rfl ⟨rfl, ?_⟩
  exact (M0.setCell (.inr (Nat.le_refl _)) _).setCell (.inr (Nat.le_refl _)) _

/-- A store into a field of a node. -/
theorem TM.setF {lb n c k j : Nat} {v v' : Nd} {u : Value} (h : TM w tb ab (.slice (some ⟨lb, 0, none⟩) n c) fv room root σ free) (hp : σ[k]? = some (some v)) (hj : j < 9) (hv : encNd v' = (encNd v).set j u) :
    TM (w.setCell ⟨lb, k * 10 + j, none⟩ u) tb ab (.slice (some ⟨lb, 0, none⟩) n c) fv room root (σ.set k (some v')) free ∧ Mod (fun i => i = lb) w (w.setCell ⟨lb, k * 10 + j, none⟩ u) := by
  have hM : Mod (fun i => i = lb) w (w.setCell ⟨lb, k * 10 + j, none⟩ u) := (Mod.refl (fun i => i = lb) w).setCell (.inl rfl) _
  have hlb : Foot ab (.slice (some ⟨lb, 0, none⟩) n c) fv lb := .inr (.inl rfl)
  have hr := h.a.row
  obtain ⟨_, _, e, _⟩ := own_slice hr
  cases e
  refine ⟨⟨hM.heap h.t fun e => h.ne (e ▸ hlb), ⟨hM.heap h.a.blk fun e => h.a.ne_l (by decide) (by rw [e]; rfl), ?_, own_mod h.a.fre hM fun i e e2 => by subst e2; exact h.a.ne_lf (by decide) (k := i) rfl e, h.a.encl, h.a.inv.set hp v'⟩⟩, hM⟩
  have hlen : (σ.flatMap (encP encNd zNd)).length = σ.length * 10 := flat_length _ 10 (encP_length h.a.encl) σ
  have hk := (List.getElem?_eq_some_iff.1 hp).1
  have := own_set hr (k * 10 + j) (by rw [hlen]; omega) u
  rw [flat_set (encP encNd zNd) 10 (encP_length h.a.encl) σ k j (by omega) u (some v) (some v') hp (by
    show encNd v' ++ [Value.bool true] = (encNd v ++ [Value.bool true]).set j u
    rw [List.set_append_left _ _ (by simp [encNd]; omega), hv])] at this
  simpa using this
/-- .. into the tree's own root. -/
theorem TM.setRoot (h : TM w tb ab lv fv room root σ free) (r : Int) : TM (w.setCell ⟨tb, 1, none⟩ (.int .i64 r)) tb ab lv fv room r σ free ∧ Mod (fun i => i = tb) w (w.setCell ⟨tb, 1, none⟩ (.int .i64 r)) := by
  have hM : Mod (fun i => i = tb) w (w.setCell ⟨tb, 1, none⟩ (.int .i64 r)) := (Mod.refl (fun i => i = tb) w).setCell (.inl rfl) _
  have hk := heap_setCell_same w tb 1 #[.pointer (some ⟨ab, 0, none⟩), .int .i64 root] 64 (.int .i64 r) h.t
  exact ⟨⟨by simpa using hk, h.a.mod hM fun k hk e => h.ne (e ▸ hk)⟩, hM⟩
end
end Go.Proofs.Bo
set_option linter.unusedVariables false
set_option linter.unusedSimpArgs false
namespace Go.Proofs.Bo
open Go Go.RowKit

section
variable {w : World} {tb ab : Nat} {lv fv : Value} {room root : Int} {σ : List (Option Nd)} {free : List Int}

theorem TM.set' {lb n c k j : Nat} {v v' : Nd} {u : Value} (h : TM w tb ab (.slice (some ⟨lb, 0, none⟩) n c) fv room root σ free) (hp : nod σ k = some v) (hj : j < 9) (hv : encNd v' = (encNd v).set j u) :
    TM (w.setCell ⟨lb, k * 10 + j, none⟩ u) tb ab (.slice (some ⟨lb, 0, none⟩) n c) fv room root (pnod σ k v') free ∧ Mod (fun i => i = lb) w (w.setCell ⟨lb, k * 10 + j, none⟩ u) := by
  obtain ⟨k', e, hk⟩ := nod_some hp
  have : k = k' := by omega
  subst this
  exact h.setF hk hj hv

set_option maxHeartbeats 1000000 in
theorem hangT_00 (h : TM w tb ab lv fv room root σ free) (old : Int) :
    Calls Tryz.prog 36 #[.pointer (some ⟨tb, 0, none⟩), .int .i64 (-1), .int .i64 (-1), .int .i64 old] w fun e w' => e = .returned (.tuple #[]) ∧ TM w' tb ab lv fv room (-1) σ free ∧ Mod (fun i => i = tb ∨ Foot ab lv fv i) w w' := by
  obtain ⟨d0, e0⟩ := blkc h.t
  obtain ⟨T1, M1⟩ := h.setRoot (-1)
  go_enter Tryz.func36, Tryz.ntmps36
  go_wp2_with fail
  go_end0
  exact ⟨rfl, T1, M1.mono fun j h => .inl (.inl h)⟩

set_option maxHeartbeats 1000000 in
theorem hangT_0k (h : TM w tb ab lv fv room root σ free) (old : Int) {k : Nat} {v : Nd} (hk : σ[k]? = some (some v)) :
    Calls Tryz.prog 36 #[.pointer (some ⟨tb, 0, none⟩), .int .i64 k, .int .i64 (-1), .int .i64 old] w fun e w' => e = .returned (.tuple #[]) ∧ TM w' tb ab lv fv room k (pnod σ k { v with p := -1 }) free ∧ Mod (fun i => i = tb ∨ Foot ab lv fv i) w w' := by
  obtain ⟨lb, c, rfl, _, _⟩ := h.a.place (by have := (List.getElem?_eq_some_iff.1 hk).1; omega)
  obtain ⟨d0, e0⟩ := blkc h.t
  obtain ⟨T1, M1⟩ := h.setRoot k
  obtain ⟨T2, M2⟩ := T1.set' (j := 7) (u := .int .i64 (-1)) (nod_of hk) (by omega) (v' := { v with p := -1 }) rfl
  have H := atT T1 hk
  obtain ⟨c7, f7⟩ := T1.cell hk (j := 7) rfl
  have hb : ((k : Int) != -1) = true := by simp
  go_enter Tryz.func36, Tryz.ntmps36
  go_wp2_with (go_at_call 31; refine H.mono ?_; rintro e w' ⟨rfl, hw⟩; subst hw)
  go_end0
  exact ⟨rfl, T2, (M1.mono fun j h => .inl (.inl h)).trans M2 fun j h => .inl (.inr (.inr (.inl (by rw [h]; rfl))))⟩

set_option maxHeartbeats 2000000 in
theorem hangT_p0 (h : TM w tb ab lv fv room root σ free) (old : Int) {p : Nat} {np : Nd} (hp : σ[p]? = some (some np))  :
    Calls Tryz.prog 36 #[.pointer (some ⟨tb, 0, none⟩), .int .i64 (-1), .int .i64 p, .int .i64 old] w fun e w' => e = .returned (.tuple #[]) ∧ TM w' tb ab lv fv room root (pnod σ p (np.setKid (if np.k0 = old then 0 else 1) (-1))) free ∧ Mod (fun i => i = tb ∨ Foot ab lv fv i) w w' := by
  obtain ⟨lb, c, rfl, _, _⟩ := h.a.place (by have := (List.getElem?_eq_some_iff.1 hp).1; omega)
  have H := fun n => atT (h.drewN n) hp
  have S := fun n => sideT (h.drewN n) hp old
  have hb : ((p : Int) == -1) = false := by simp
  by_cases hs : np.k0 = old
  · simp only [hs, if_true] at S ⊢
    obtain ⟨c5, f5⟩ := h.cell hp (j := 5) rfl
    go_enter Tryz.func36, Tryz.ntmps36
    go_wp2_with fail
    refine wp_region_quiet_tail 11 (by kernel_rfl) (by kernel_rfl) ?_
    simp only [List.take_succ_cons, List.take_zero, List.drop_succ_cons, List.drop_zero]
    repeat (any_goals (first | go_big_quiet_step ((first | (go_at_call 31; exact Calls.quiet_of_same (H _)) | (go_at_call 67; exact Calls.quiet_of_same (S _)))) | quiet_step ((first | (go_at_call 31; exact Calls.quiet_of_same (H _)) | (go_at_call 67; exact Calls.quiet_of_same (S _))))))
    refine wpQuiet_nil ?_
    rintro W6 ⟨nq, rfl⟩
    obtain ⟨T1, M1⟩ := (h.drewN nq).set' (j := 5) (u := .int .i64 (-1)) (nod_of hp) (by omega) (v' := np.setKid 0 (-1)) rfl
    have M1 := M1.of_drewN
    go_wp2_with fail
    go_end0
    exact ⟨rfl, T1, M1.mono fun j h => .inl (.inr (.inr (.inl (by rw [h]; rfl))))⟩
  · simp only [hs, if_false] at S ⊢
    obtain ⟨c5, f5⟩ := h.cell hp (j := 6) rfl
    go_enter Tryz.func36, Tryz.ntmps36
    go_wp2_with fail
    refine wp_region_quiet_tail 11 (by kernel_rfl) (by kernel_rfl) ?_
    simp only [List.take_succ_cons, List.take_zero, List.drop_succ_cons, List.drop_zero]
    repeat (any_goals (first | go_big_quiet_step ((first | (go_at_call 31; exact Calls.quiet_of_same (H _)) | (go_at_call 67; exact Calls.quiet_of_same (S _)))) | quiet_step ((first | (go_at_call 31; exact Calls.quiet_of_same (H _)) | (go_at_call 67; exact Calls.quiet_of_same (S _))))))
    refine wpQuiet_nil ?_
    rintro W6 ⟨nq, rfl⟩
    obtain ⟨T1, M1⟩ := (h.drewN nq).set' (j := 6) (u := .int .i64 (-1)) (nod_of hp) (by omega) (v' := np.setKid 1 (-1)) rfl
    have M1 := M1.of_drewN
    go_wp2_with fail
    go_end0
    exact ⟨rfl, T1, M1.mono fun j h => .inl (.inr (.inr (.inl (by rw [h]; rfl))))⟩

set_option maxHeartbeats 2000000 in
theorem hangT_pk (h : TM w tb ab lv fv room root σ free) (old : Int) {p : Nat} {np : Nd} (hp : σ[p]? = some (some np)) {k : Nat} {nk : Nd} (hk : nod (pnod σ p (np.setKid (if np.k0 = old then 0 else 1) k)) k = some nk) :
    Calls Tryz.prog 36 #[.pointer (some ⟨tb, 0, none⟩), .int .i64 k, .int .i64 p, .int .i64 old] w fun e w' => e = .returned (.tuple #[]) ∧ TM w' tb ab lv fv room root (pnod (pnod σ p (np.setKid (if np.k0 = old then 0 else 1) k)) k { nk with p := p }) free ∧ Mod (fun i => i = tb ∨ Foot ab lv fv i) w w' := by
  obtain ⟨lb, c, rfl, _, _⟩ := h.a.place (by have := (List.getElem?_eq_some_iff.1 hp).1; omega)
  have H := fun n => atT (h.drewN n) hp
  have S := fun n => sideT (h.drewN n) hp old
  have hb : ((p : Int) == -1) = false := by simp
  have hb2 : ((k : Int) != -1) = true := by simp
  by_cases hs : np.k0 = old
  · simp only [hs, if_true] at S hk ⊢
    obtain ⟨c5, f5⟩ := h.cell hp (j := 5) rfl
    go_enter Tryz.func36, Tryz.ntmps36
    go_wp2_with fail
    refine wp_region_quiet_tail 11 (by kernel_rfl) (by kernel_rfl) ?_
    simp only [List.take_succ_cons, List.take_zero, List.drop_succ_cons, List.drop_zero]
    repeat (any_goals (first | go_big_quiet_step ((first | (go_at_call 31; exact Calls.quiet_of_same (H _)) | (go_at_call 67; exact Calls.quiet_of_same (S _)))) | quiet_step ((first | (go_at_call 31; exact Calls.quiet_of_same (H _)) | (go_at_call 67; exact Calls.quiet_of_same (S _))))))
    refine wpQuiet_nil ?_
    rintro W6 ⟨nq, rfl⟩
    obtain ⟨T1, M1⟩ := (h.drewN nq).set' (j := 5) (u := .int .i64 k) (nod_of hp) (by omega) (v' := np.setKid 0 k) rfl
    have M1 := M1.of_drewN
    obtain ⟨T2, M2⟩ := T1.set' (j := 7) (u := .int .i64 p) hk (by omega) (v' := { nk with p := p }) rfl
    obtain ⟨k', ek, hk'⟩ := nod_some hk
    have ek' : k = k' := by omega
    subst ek'
    have H2 := atT T1 hk'
    obtain ⟨c7, f7⟩ := T1.cell hk' (j := 7) rfl
    clear H S
    go_wp2_with (go_at_call 31; refine H2.mono ?_; rintro e w' ⟨rfl, hw⟩; subst hw)
    go_end0
    exact ⟨rfl, T2, (M1.mono fun j h => .inl (.inr (.inr (.inl (by rw [h]; rfl))))).trans M2 fun j h => .inl (.inr (.inr (.inl (by rw [h]; rfl))))⟩
  · simp only [hs, if_false] at S hk ⊢
    obtain ⟨c5, f5⟩ := h.cell hp (j := 6) rfl
    go_enter Tryz.func36, Tryz.ntmps36
    go_wp2_with fail
    refine wp_region_quiet_tail 11 (by kernel_rfl) (by kernel_rfl) ?_
    simp only [List.take_succ_cons, List.take_zero, List.drop_succ_cons, List.drop_zero]
    repeat (any_goals (first | go_big_quiet_step ((first | (go_at_call 31; exact Calls.quiet_of_same (H _)) | (go_at_call 67; exact Calls.quiet_of_same (S _)))) | quiet_step ((first | (go_at_call 31; exact Calls.quiet_of_same (H _)) | (go_at_call 67; exact Calls.quiet_of_same (S _))))))
    refine wpQuiet_nil ?_
    rintro W6 ⟨nq, rfl⟩
    obtain ⟨T1, M1⟩ := (h.drewN nq).set' (j := 6) (u := .int .i64 k) (nod_of hp) (by omega) (v' := np.setKid 1 k) rfl
    have M1 := M1.of_drewN
    obtain ⟨T2, M2⟩ := T1.set' (j := 7) (u := .int .i64 p) hk (by omega) (v' := { nk with p := p }) rfl
    obtain ⟨k', ek, hk'⟩ := nod_some hk
    have ek' : k = k' := by omega
    subst ek'
    have H2 := atT T1 hk'
    obtain ⟨c7, f7⟩ := T1.cell hk' (j := 7) rfl
    clear H S
    go_wp2_with (go_at_call 31; refine H2.mono ?_; rintro e w' ⟨rfl, hw⟩; subst hw)
    go_end0
    exact ⟨rfl, T2, (M1.mono fun j h => .inl (.inr (.inr (.inl (by rw [h]; rfl))))).trans M2 fun j h => .inl (.inr (.inr (.inl (by rw [h]; rfl))))⟩

/-- 'hang': whatever hangs where. -/
theorem hangT (h : TM w tb ab lv fv room root σ free) (i parent old : Int) (hi : Is1 σ i) (hp : Is1 σ parent) :
    Calls Tryz.prog 36 #[.pointer (some ⟨tb, 0, none⟩), .int .i64 i, .int .i64 parent, .int .i64 old] w fun e w' => e = .returned (.tuple #[]) ∧ TM w' tb ab lv fv room (hangR root i parent) (hangS σ i parent old) free ∧ Mod (fun i => i = tb ∨ Foot ab lv fv i) w w' := by
  unfold hangS hangR
  rcases hp with rfl | ⟨np, hp⟩
  · rw [modN_neg]
    rcases hi with rfl | ⟨ni, hi⟩
    · exact hangT_00 h old
    · rw [modN_some hi]
      obtain ⟨k, rfl, hk⟩ := nod_some hi
      exact hangT_0k h old hk
  · rw [modN_some hp]
    obtain ⟨p, rfl, hp'⟩ := nod_some hp
    rw [if_neg (by omega)]
    rcases hi with rfl | ⟨ni, hi⟩
    · rw [modN_neg]; exact hangT_p0 h old hp'
    · obtain ⟨k, rfl, hk⟩ := nod_some hi
      have h2 := nod_pnod (n' := hangK old k np) hp k
      split at h2
      · rw [modN_some h2]; exact hangT_pk h old hp' h2
      · rw [hi] at h2; rw [modN_some h2]; exact hangT_pk h old hp' h2
end
end Go.Proofs.Bo
