import Derived.Test.YtofgoehkahcajaaGreatBoG
import Derived.Deep.RegionLaw
import Derived.Test.YtofgoehkahcajaaGreatProg
set_option linter.unusedVariables false
set_option linter.unusedSimpArgs false
namespace Go.Proofs.Bo
open Go Go.RowKit
/-- A node of a B-tree: its segments' slice, its children's. -/
structure Bn where
  la : Option Addr
  ln : Nat
  lc : Nat
  ka : Option Addr
  kn : Nat
  kc : Nat
def Bn.lv (b : Bn) : Value := .slice b.la b.ln b.lc
def Bn.kv (b : Bn) : Value := .slice b.ka b.kn b.kc
def encBn (b : Bn) : List Value := [.slice b.la b.ln b.lc, .slice b.ka b.kn b.kc]
def zBn : List Value := [.slice none 0 0, .slice none 0 0]
end Go.Proofs.Bo
set_option linter.unusedVariables false
set_option linter.unusedSimpArgs false
namespace Go.Proofs.Bo
open Go Go.RowKit
/-- An arena of nodes in memory. -/
abbrev ArB (w : World) (ab : Nat) (lv fv : Value) (room : Int) (l : List (Option Bn)) (free : List Int) : Prop := Ar encBn zBn 121 135 3 w ab lv fv room l free
theorem infoPB : (Tryz.prog.info? 135).map (fun i => (i.zero, i.size, i.bytes)) = some (some (.agg #[.slice none 0 0, .slice none 0 0, .bool false]), 3, 56) := by kernel_rfl
theorem infoIB : (Tryz.prog.info? 3).map (fun i => (i.zero, i.size, i.bytes)) = some (some (.int .i64 0), 1, 8) := by kernel_rfl

section
variable {w : World} {ab : Nat} {lv fv : Value} {room : Int} {l : List (Option Bn)} {free : List Int}

set_option maxHeartbeats 400000 in
theorem lenB (h : ArB w ab lv fv room l free) :
    Calls Tryz.prog 61 #[.pointer (some ⟨ab, 0, none⟩)] w fun e w' => e = .returned (.int .i64 ((l.length : Int) - free.length)) ∧ ∃ n, w' = w.drewN n := by
  obtain ⟨A, c, rfl, _, _, _⟩ := own_slice h.row
  obtain ⟨A', c', rfl, _, _, _⟩ := own_slice h.fre
  have h1 := h.c1
  have h2 := h.c2
  obtain ⟨b1, b2⟩ := h.flen
  clear h
  go_enter Tryz.func61, Tryz.ntmps61
  go_wp2
  go_quiet (fail)
  go_wp2
  go_ret
  exact ⟨rfl, _, rfl⟩

set_option maxHeartbeats 400000 in
theorem atB_out (h : ArB w ab lv fv room l free) (i : Int) (hi : i < 0 ∨ l.length ≤ i) :
    Calls Tryz.prog 86 #[.pointer (some ⟨ab, 0, none⟩), .int .i64 i] w fun e w' => e = .returned (.pointer none) ∧ w' = w := by
  obtain ⟨A, c, rfl, _, _, _⟩ := own_slice h.row
  have h1 := h.c1
  obtain ⟨b1, b2⟩ := h.flen
  clear h
  rcases hi with hi | hi
  · go_enter Tryz.func86, Tryz.ntmps86
    go_wp2
    go_ret
    exact ⟨rfl, rfl⟩
  · have hi' : ¬ i < 0 := by omega
    go_enter Tryz.func86, Tryz.ntmps86
    go_wp2
    go_ret
    exact ⟨rfl, rfl⟩

set_option maxHeartbeats 400000 in
theorem atB_in {lb n c k : Nat} (h : ArB w ab (.slice (some ⟨lb, 0, none⟩) n c) fv room l free) (p : Option Bn) (hp : l[k]? = some p) :
    Calls Tryz.prog 86 #[.pointer (some ⟨ab, 0, none⟩), .int .i64 k] w fun e w' => e = .returned (.pointer (if p.isSome then some ⟨lb, k * 3, none⟩ else none)) ∧ w' = w := by
  have h1 := h.c1
  obtain ⟨b1, b2⟩ := h.flen
  have hk := (List.getElem?_eq_some_iff.1 hp).1
  have hn : n = l.length := by obtain ⟨_, _, e, _⟩ := own_slice h.row; cases e; rfl
  subst hn
  have hc := (h.cell (i := k) (p := p) hp (j := 2) (u := .bool p.isSome) (by cases p <;> rfl)).1
  simp only [zBn, List.length_cons, List.length_nil, Nat.zero_add, Nat.reduceAdd] at hc
  cases p <;> (
  clear h
  go_enter Tryz.func86, Tryz.ntmps86
  go_wp2
  go_ret
  exact ⟨rfl, rfl⟩)

/-- The block that a node comes in. -/
theorem boxB (w : World) (v : Bn) : ∃ w0, w.alloc (.cells #[.slice v.la v.ln v.lc, .slice v.ka v.kn v.kc] 88) = w0 ∧
    w0.heap[w.heap.size]? = some (.cells #[.slice v.la v.ln v.lc, .slice v.ka v.kn v.kc] 88 (0, 0)) ∧ Mod (fun _ => False) w w0 ∧ w0.heap.size = w.heap.size + 1 :=
  ⟨_, rfl, alloc_0 _ _, (Mod.refl _ _).alloc _, by simp⟩

set_option maxHeartbeats 400000 in
theorem putB_full (h : ArB w ab lv fv room l free) (v : Bn) (hr : room ≤ (l.length : Int) - free.length) :
    Calls Tryz.prog 80 #[.pointer (some ⟨ab, 0, none⟩), .agg (encBn v).toArray] w fun e w' => e = .returned (.tuple #[.int .i64 0, .int .i64 50]) ∧ Mod (fun _ => False) w w' := by
  obtain ⟨w0, hw0, b0, M0, _⟩ := boxB w v
  have h := h.mod M0 fun _ _ h => h
  have h0 := h.c0
  dsimp only [encBn]
  go_enter Tryz.func80, Tryz.ntmps80
  go_wp2_with fail
  go_quiet ((go_at_call 61; exact Calls.quiet_of (lenB (h.drewN _))))
  go_wp2_with fail
  go_ret2
  exact ⟨rfl, M0.drewN _⟩

set_option maxHeartbeats 1000000 in
theorem putB_new (h : ArB w ab lv fv room l []) (v : Bn) (hr : (l.length : Int) < room) :
    Calls Tryz.prog 80 #[.pointer (some ⟨ab, 0, none⟩), .agg (encBn v).toArray] w fun e w' => e = .returned (.tuple #[.int .i64 l.length, .int .i64 0]) ∧
      ∃ lv', ArB w' ab lv' fv room (l ++ [some v]) [] ∧ Mod (Foot ab lv fv) w w' ∧ (∀ k, Foot ab lv' fv k → Foot ab lv fv k ∨ w.heap.size ≤ k) := by
  obtain ⟨w0, hw0, b0, M0, hs0⟩ := boxB w v
  have h := h.mod M0 fun _ _ h => h
  have h0 := h.c0
  have h1 := h.c1
  have h2 := h.c2
  have hab := h.lt (.inl rfl)
  have f1 := h.fr 1
  obtain ⟨d0, e0⟩ := blkc b0
  obtain ⟨A', c', rfl, _, _, _⟩ := own_slice h.fre
  obtain ⟨b1, b2⟩ := h.flen
  have hr' : ¬ room ≤ (l.length : Int) - ([] : List Int).length := by simp; omega
  have hs0' := hid hs0
  have cA : ∀ (n : Nat) (o : Obj), ((w0.drewN n).alloc o).cell? ⟨ab, 1, none⟩ = some lv := fun n o => (Mod.alloc (Mod.refl (fun _ => False) (w0.drewN n)) o).cell h1 (fun h => h)
  clear hs0
  dsimp only [encBn]
  go_enter Tryz.func80, Tryz.ntmps80
  go_wp2_with fail
  go_quiet ((go_at_call 61; exact Calls.quiet_of (lenB (h.drewN _))))
  go_wp2_with fail
  go_region_law (refine step_app_one [.slice v.la v.ln v.lc, .slice v.ka v.kn v.kc, .bool true] lv l.length (l.flatMap (encP encBn zBn)) (.tmp 27) (.tmp 30) 119 135 _ 3 56 rfl rfl Tryz.underlying119 infoPB rfl (by omega) (by omega) (by simp [Act.eval, Act.put]) (by simp [Act.eval, Act.put]) h.row rfl (by simp [Value.oneCell']) (by omega) ?_
                 intro v1 w1 hown hgrow hblk
                 obtain ⟨k0, k1, k2, k3⟩ := Ar.grow_l (p := some v) (h.drewN (nq + 1)) (by decide) (by decide) (by decide) hown hgrow hblk (h.inv.put_new hr v)
                 have c1 : w1.cell? ⟨ab, 1, none⟩ = some lv := by simp [World.cell?, k0]
                 have f1 : w1.frozen? ⟨ab, 1, none⟩ = false := by simp [World.frozen?, k0]
                 obtain ⟨A1, cc1, rfl, _, _, _⟩ := own_slice hown)
  all_goals go_wp2_with fail
  all_goals go_ret2
  all_goals exact ⟨by simp, _, k1, (M0.mono fun _ h => h.elim).trans' k2.of_drewN, fun k hk => (k3 k hk).imp id fun h => Nat.le_trans M0.size h⟩

set_option maxHeartbeats 2000000 in
theorem putB_old {k : Nat} (h : ArB w ab lv fv room l (free ++ [(k : Int)])) (v : Bn) :
    Calls Tryz.prog 80 #[.pointer (some ⟨ab, 0, none⟩), .agg (encBn v).toArray] w fun e w' => e = .returned (.tuple #[.int .i64 k, .int .i64 0]) ∧
      ∃ fv', ArB w' ab lv fv' room (l.set k (some v)) free ∧ Mod (Foot ab lv fv) w w' ∧ (∀ k, Foot ab lv fv' k → Foot ab lv fv k ∨ w.heap.size ≤ k) := by
  obtain ⟨w0, hw0, b0, M0, hs0⟩ := boxB w v
  have hlt := fun k hk => h.lt (k := k) hk
  have h := h.mod M0 fun _ _ h => h
  have h0 := h.c0
  have h1 := h.c1
  have h2 := h.c2
  have hab := h.lt (.inl rfl)
  have f1 := h.fr 1
  have f2 := h.fr 2
  have hl : l[k]? = some none := by
    obtain ⟨k', e, hk'⟩ := (h.inv.mem k).1 (by simp)
    have : k = k' := by omega
    subst this; exact hk'
  have hkl := (List.getElem?_eq_some_iff.1 hl).1
  obtain ⟨lb, c, rfl, _, _⟩ := h.place (by omega)
  obtain ⟨A', c', rfl, _, _, hA⟩ := own_slice h.fre
  obtain ⟨fb, rfl⟩ := hA (by simp)
  obtain ⟨b1, b2⟩ := h.flen
  have hlr := h.inv.lr
  have n1 : ab ≠ lb := fun e => h.ne_l (by decide) (by rw [e]; rfl)
  have n2 : ab ≠ fb := fun e => h.ne_f (by decide) (by rw [e]; rfl)
  have n3 : lb ≠ fb := fun e => h.ne_lf (k := lb) (by decide) rfl (by rw [e]; rfl)
  have n4 : ab ≠ w.heap.size := fun e => by have := hlt ab (.inl rfl); omega
  have n5 : w.heap.size ≠ ab := Ne.symm n4
  have n6 : lb ≠ w.heap.size := fun e => by have := hlt lb (.inr (.inl rfl)); omega
  have n7 : w.heap.size ≠ lb := Ne.symm n6
  have cf := (own_cell h.fre (j := free.length) (u := .int .i64 k) (by simp)).1
  obtain ⟨d0, g0⟩ := h.cell (i := k) hl (j := 0) (u := .slice none 0 0) rfl
  obtain ⟨d1, g1⟩ := h.cell (i := k) hl (j := 1) (u := .slice none 0 0) rfl
  obtain ⟨d2, g2⟩ := h.cell (i := k) hl (j := 2) (u := .bool false) rfl
  simp only [zBn, List.length_cons, List.length_nil, Nat.zero_add, Nat.add_zero, Nat.reduceAdd] at d0 g0 d1 g1 d2 g2
  obtain ⟨x0, y0⟩ := blkc b0
  have hr' : ¬ room ≤ (l.length : Int) - (free ++ [(k : Int)]).length := by simp; simp at b1; omega
  have hn0 : ¬ ((free ++ [(k : Int)]).length : Int) - 1 < 0 := by simp
  have hs0' := hid hs0
  have hlt' := hid hlt
  clear hs0 hlt
  simp only [List.length_append, List.length_cons, List.length_nil, Nat.zero_add] at *
  dsimp only [encBn]
  go_enter Tryz.func80, Tryz.ntmps80
  go_wp2_with fail
  go_quiet ((go_at_call 61; exact Calls.quiet_of (lenB (h.drewN _))))
  go_wp2_with fail
  go_region
  all_goals go_wp2_with fail
  all_goals go_ret2
  all_goals
    refine ⟨rfl, .slice (some ⟨fb, 0, none⟩) free.length c', ?_⟩
    have Rz := Ar.reuse (nq := nq) (some v) h (by decide) (by decide) (by decide) hl (h.inv.put_old v)
    exact ⟨Rz.1.drewN 1, (M0.mono fun _ h => h.elim).trans' (Rz.2.1.drewN 1), fun j hj => (Rz.2.2 j hj).imp id fun h => Nat.le_trans M0.size h⟩

/-- There is no thing in a place. -/
theorem atB_no (h : ArB w ab lv fv room l free) (i : Int) (hi : ∀ (k : Nat) (v : Bn), i = k → l[k]? ≠ some (some v)) :
    Calls Tryz.prog 86 #[.pointer (some ⟨ab, 0, none⟩), .int .i64 i] w fun e w' => e = .returned (.pointer none) ∧ w' = w := by
  by_cases h1 : i < 0 ∨ l.length ≤ i
  · exact atB_out h i h1
  · obtain ⟨k, rfl⟩ := Int.eq_ofNat_of_zero_le (show 0 ≤ i by omega)
    have hk : k < l.length := by omega
    obtain ⟨lb, c, rfl, _, _⟩ := h.place (by omega)
    have hp : l[k]? = some none := by
      cases hl : l[k] with
      | none => simp [hk, hl]
      | some v => exact absurd (by simp [hk, hl]) (hi k v rfl)
    exact atB_in h none hp

theorem atB_yes {lb n c k : Nat} {v : Bn} (h : ArB w ab (.slice (some ⟨lb, 0, none⟩) n c) fv room l free) (hp : l[k]? = some (some v)) :
    Calls Tryz.prog 86 #[.pointer (some ⟨ab, 0, none⟩), .int .i64 k] w fun e w' => e = .returned (.pointer (some ⟨lb, k * 3, none⟩)) ∧ w' = w := atB_in h (some v) hp

set_option maxHeartbeats 400000 in
theorem freeB_no (h : ArB w ab lv fv room l free) (i : Int) (hi : ∀ (k : Nat) (v : Bn), i = k → l[k]? ≠ some (some v)) :
    Calls Tryz.prog 60 #[.pointer (some ⟨ab, 0, none⟩), .int .i64 i] w fun e w' => e = .returned (.bool false) ∧ w' = w := by
  have H := atB_no h i hi
  go_enter Tryz.func60, Tryz.ntmps60
  go_wp2_with (go_at_call 86; refine H.mono ?_; rintro e w' ⟨rfl, rfl⟩)
  go_ret
  exact ⟨rfl, rfl⟩

set_option maxHeartbeats 2000000 in
theorem freeB_yes {k : Nat} {v : Bn} (h : ArB w ab lv fv room l free) (hp : l[k]? = some (some v)) :
    Calls Tryz.prog 60 #[.pointer (some ⟨ab, 0, none⟩), .int .i64 k] w fun e w' => e = .returned (.bool true) ∧ ∃ fv', ArB w' ab lv fv' room (l.set k none) (free ++ [(k : Int)]) ∧ Mod (Foot ab lv fv) w w' ∧ (∀ k, Foot ab lv fv' k → Foot ab lv fv k ∨ w.heap.size ≤ k) := by
  have hkl := (List.getElem?_eq_some_iff.1 hp).1
  obtain ⟨lb, c, rfl, _, _⟩ := h.place (by omega)
  have H := atB_yes h hp
  have h1 := h.c1
  have h2 := h.c2
  have f1 := h.fr 1
  have f2 := h.fr 2
  have n1 : ab ≠ lb := fun e => h.ne_l (by decide) (by rw [e]; rfl)
  obtain ⟨b1, b2⟩ := h.flen
  obtain ⟨d0, g0⟩ := h.cell (i := k) (p := some v) hp (j := 0) (u := .slice v.la v.ln v.lc) rfl
  obtain ⟨d1, g1⟩ := h.cell (i := k) (p := some v) hp (j := 1) (u := .slice v.ka v.kn v.kc) rfl
  obtain ⟨d2, g2⟩ := h.cell (i := k) (p := some v) hp (j := 2) (u := .bool true) rfl
  simp only [zBn, List.length_cons, List.length_nil, Nat.zero_add, Nat.add_zero, Nat.reduceAdd] at d0 g0 d1 g1 d2 g2
  go_enter Tryz.func60, Tryz.ntmps60
  have hW := setL_heap lb (encP encBn zBn none) w (k * 3) ab n1
  have hrow := h.put_place hp none
  have hm : Mod (Foot ab (.slice (some ⟨lb, 0, none⟩) l.length c) fv) w (setL w lb (k * 3) (encP encBn zBn none)) := setL_mod lb (.inl (.inr (.inl rfl))) _ _ _ (Mod.refl _ _)
  have hfre : (setL w lb (k * 3) (encP encBn zBn none)).ownsRow 0 3 1 fv free.length (free.map (.int .i64)) := own_keep h.fre fun j e => setL_heap lb _ _ _ _ (by rintro rfl; exact h.ne_lf (k := j) (by decide) rfl e)
  go_wp2_with (first | (go_at_call 86; refine H.mono ?_; rintro e w' ⟨rfl, rfl⟩) | (at_builtin; refine app_one [.int .i64 (k : Int)] fv free.length (free.map (.int .i64)) (.tmp 20) (.tmp 22) 86 3 (.int .i64 0) 1 8 rfl rfl Tryz.underlying86 infoIB rfl (by omega) (by omega) rfl (by simp [Act.eval]) hfre rfl (by simp [Value.oneCell']) (by omega) ?_))
  intro v1 w1 hown hgrow hblk
  obtain ⟨k0, k1, k2, k3⟩ := h.grow_f (by decide) (by decide) (by decide) hp hW hrow hm hown hgrow (by rw [setL_size]; exact hblk)
  have c1 : w1.cell? ⟨ab, 2, none⟩ = some fv := by simp [World.cell?, k0]
  have f1 : w1.frozen? ⟨ab, 2, none⟩ = false := by simp [World.frozen?, k0]
  obtain ⟨A1, cc1, rfl, _, _, _⟩ := own_slice hown
  clear h1 h2 hgrow hblk hfre hrow hW
  go_wp2_with fail
  go_ret
  exact ⟨by simp, _, k1, k2, k3⟩

set_option maxHeartbeats 400000 in
theorem resetB (h : ArB w ab lv fv room l free) :
    Calls Tryz.prog 79 #[.pointer (some ⟨ab, 0, none⟩)] w fun e w' => e = .returned (.tuple #[]) ∧ ArB w' ab (.slice none 0 0) (.slice none 0 0) room [] [] ∧ Mod (Foot ab lv fv) w w' := by
  have h1 := h.c1
  have h2 := h.c2
  have f1 := h.fr 1
  have f2 := h.fr 2
  go_enter Tryz.func79, Tryz.ntmps79
  go_wp2
  go_end0
  have hb := blk_set2 (blk_set1 h.blk (u := .slice none 0 0)) (u := .slice none 0 0)
  exact ⟨rfl, ⟨hb, World.ownsRow_nil _ _ _ _, World.ownsRow_nil _ _ _ _, fun _ => rfl, ⟨h.inv.room0, h.inv.room1, Nat.le_refl _, h.inv.room0, List.nodup_nil, by simp⟩⟩,
    ((Mod.refl _ w).setCell (.inl (.inl rfl)) _).setCell (.inl (.inl rfl)) _⟩

set_option maxHeartbeats 400000 in
theorem newB (room : Int) (hr : 0 ≤ room) (hr2 : room ≤ 65536) (w : World) :
    Calls Tryz.prog 45 #[.int .i64 room] w fun e w' => e = .returned (.tuple #[.pointer (some ⟨w.heap.size, 0, none⟩), .int .i64 0]) ∧ ArB w' w.heap.size (.slice none 0 0) (.slice none 0 0) room [] [] ∧ Below w.heap.size w w' := by
  have hr0 : ¬ room < 0 := by omega
  have hr1 : ¬ 65536 < room := by omega
  go_enter Tryz.func45, Tryz.ntmps45
  go_wp2
  go_ret2
  exact ⟨rfl, ⟨heap_alloc_new _ _, World.ownsRow_nil _ _ _ _, World.ownsRow_nil _ _ _ _, fun _ => rfl, ⟨hr, hr2, Nat.le_refl _, hr, List.nodup_nil, by simp⟩⟩, (Below.refl _ _).alloc (Nat.le_refl _) _⟩
end
end Go.Proofs.Bo
