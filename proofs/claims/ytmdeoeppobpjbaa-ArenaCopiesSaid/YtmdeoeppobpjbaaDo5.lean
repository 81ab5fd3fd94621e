import Derived.Test.YtmdeoeppobpjbaaAl5
import Derived.Test.YtmdeoeppobpjbaaFlat
set_option linter.unusedVariables false
namespace Go.Proofs.Bo
open Go Go.RowKit
structure Op5 where
  kind : Int
  i : Int
  v : Int
structure Ans where
  i : Int
  v : Int
  is : Bool
  e : Int
def encOp (o : Op5) : List Value := [.int .i64 o.kind, .int .i64 o.i, .int .i64 o.v]
def encAns (a : Ans) : List Value := [.int .i64 a.i, .int .i64 a.v, .bool a.is, .int .i64 a.e]

/-- The thing of a place. -/
def thing (l : List (Option Int)) (i : Int) : Option Int := if 0 ≤ i then (l[i.toNat]?).join else none
theorem thing_some {l : List (Option Int)} {i v : Int} (h : thing l i = some v) : ∃ k : Nat, i = k ∧ l[k]? = some (some v) := by
  unfold thing at h
  split at h
  · refine ⟨i.toNat, by omega, ?_⟩
    cases hl : l[i.toNat]? with
    | none => rw [hl] at h; cases h
    | some p => rw [hl] at h; cases p with | none => cases h | some u => simp at h; rw [h]
  · cases h
theorem thing_none {l : List (Option Int)} {i : Int} (h : thing l i = none) : ∀ (k : Nat) (v : Int), i = k → l[k]? ≠ some (some v) := by
  rintro k v rfl hk
  unfold thing at h
  rw [if_pos (by omega)] at h
  simp [hk] at h

/-- What a call of a script does, and tells. -/
def arDo (room : Int) (l : List (Option Int)) (free : List Int) (o : Op5) : (List (Option Int) × List Int) × Ans :=
  if o.kind = 0 then let r := arPut room l free o.v; ((r.1, r.2.1), ⟨r.2.2.1, 0, false, r.2.2.2⟩)
  else if o.kind = 4 then (([], []), ⟨0, 0, false, 0⟩)
  else match thing l o.i with
    | none => ((l, free), ⟨0, 0, false, 0⟩)
    | some v => if o.kind = 1 then ((l, free), ⟨0, v, true, 0⟩) else if o.kind = 2 then ((l.set o.i.toNat (some o.v), free), ⟨0, 0, true, 0⟩) else if o.kind = 3 then ((l.set o.i.toNat none, free ++ [o.i]), ⟨0, 0, true, 0⟩) else ((l, free), ⟨0, 0, false, 0⟩)

section
variable {X : Nat → Prop} {w : World} {ab : Nat} {room : Int} {l : List (Option Int)} {free : List Int}

/-- What is known behind a call that 'does' makes: its own new blocks lie as they lay. -/
theorem new_kept {w w1 w2 : World} (hm : Mod (fun k => X k ∧ k < w.heap.size) w1 w2) {k : Nat} {o : Obj} (ho : w1.heap[k]? = some o) (hk : w.heap.size ≤ k) : w2.heap[k]? = some o :=
  hm.heap ho fun h => by omega

theorem does_fin {w w1 w2 w3 : World} (A2 : ArX (fun k => (X k ∧ k < w.heap.size) ∨ w1.heap.size ≤ k) w2 ab room l free) (M1 : Mod (fun _ => False) w w1) (M2 : Mod (fun k => X k ∧ k < w.heap.size) w1 w2) (M3 : Mod (fun k => w.heap.size ≤ k ∧ k < w1.heap.size) w2 w3) :
    ArX (fun k => X k ∨ w.heap.size ≤ k) w3 ab room l free ∧ Mod X w w3 := by
  refine ⟨(A2.mod M3 fun k h h2 => by omega).mono fun k h _ => ?_, ?_⟩
  · rcases h with h | h
    · exact .inl h.1
    · exact .inr (Nat.le_trans M1.size h)
  · exact (((M1.mono (T := fun k => False ∨ X k) fun k h => h.elim).trans M2 (fun k h => .inl (.inr h.1))).trans M3 (fun k h => .inr h.1)).mono fun k h => .inl (by simpa using h)


set_option maxHeartbeats 1000000 in
theorem does_put (h : ArX X w ab room l free) (i v : Int) {r : List (Option Int) × List Int × Int × Int} (hr : arPut room l free v = r) :
    Calls Try.prog 15 #[.pointer (some ⟨ab, 0, none⟩), .agg #[.int .i64 0, .int .i64 i, .int .i64 v]] w fun e w' => e = .returned (.agg #[.int .i64 r.2.2.1, .int .i64 0, .bool false, .int .i64 r.2.2.2]) ∧ ArX (fun k => X k ∨ w.heap.size ≤ k) w' ab room r.1 r.2.1 ∧ Mod X w w' := by
  have h' := h.mono (Y := fun k => X k ∧ k < w.heap.size) fun k h1 h2 => ⟨h1, h2⟩
  have M1 : Mod (fun _ => False) w (((w.alloc (.cells #[.int .i64 0, .int .i64 i, .int .i64 v] 35)).alloc (.cells #[.int .i64 0, .int .i64 0, .bool false, .int .i64 0] 37)).alloc (.cells #[.int .i64 0, .int .i64 0, .bool false, .int .i64 0] 37)) := (((Mod.refl _ w).alloc _).alloc _).alloc _
  have h1 := h'.mod M1 fun _ _ h => h
  have hs : ∀ (A B C : Obj), (((w.alloc A).alloc B).alloc C).heap.size = w.heap.size + 3 := fun _ _ _ => by simp
  go_enter Try.func15, Try.ntmps15
  go_wp2_with fail
  refine (putX h1 v hr).mono ?_
  rintro e w2 ⟨rfl, A2, M2⟩
  have b1 := new_kept M2 (alloc3_1 w _ _ _) (by omega)
  obtain ⟨c1, f1⟩ := blkc b1
  obtain ⟨c2, f2⟩ := blkc (new_kept M2 (alloc3_2 w _ _ _) (by omega))
  go_wp2_with fail
  refine ret_row (w.heap.size + 1) [.int .i64 r.2.2.1, .int .i64 0, .bool false, .int .i64 r.2.2.2] rfl rfl (set4 ((heap_set_ne (by simp)).trans ((heap_set_ne (by simp)).trans (b1)))) Try.underlying37 rfl (by kernel_rfl) rfl ⟨rfl, ?_⟩
  refine does_fin A2 M1 M2 ?_
  rw [hs]
  repeat (refine Mod.setCell ?_ (.inl (by constructor <;> simp <;> omega)) _)
  exact Mod.refl _ _

set_option maxHeartbeats 1000000 in
theorem does_get_no (h : ArX X w ab room l free) (i v : Int) (hi : ∀ (k : Nat) (v : Int), i = k → l[k]? ≠ some (some v)) :
    Calls Try.prog 15 #[.pointer (some ⟨ab, 0, none⟩), .agg #[.int .i64 1, .int .i64 i, .int .i64 v]] w fun e w' => e = .returned (.agg #[.int .i64 0, .int .i64 0, .bool false, .int .i64 0]) ∧ ArX (fun k => X k ∨ w.heap.size ≤ k) w' ab room l free ∧ Mod X w w' := by
  have h' := h.mono (Y := fun k => X k ∧ k < w.heap.size) fun k h1 h2 => ⟨h1, h2⟩
  have M1 : Mod (fun _ => False) w (((w.alloc (.cells #[.int .i64 1, .int .i64 i, .int .i64 v] 35)).alloc (.cells #[.int .i64 0, .int .i64 0, .bool false, .int .i64 0] 37)).alloc (.cells #[.int .i64 0, .int .i64 0, .bool false, .int .i64 0] 37)) := (((Mod.refl _ w).alloc _).alloc _).alloc _
  have h1 := h'.mod M1 fun _ _ h => h
  have hs : ∀ (A B C : Obj), (((w.alloc A).alloc B).alloc C).heap.size = w.heap.size + 3 := fun _ _ _ => by simp
  go_enter Try.func15, Try.ntmps15
  go_wp2_with fail
  refine (getX_no h1 i hi).mono ?_
  rintro e w2 ⟨rfl, hw⟩
  have A2 : ArX (fun j => (X j ∧ j < w.heap.size) ∨ (((w.alloc (.cells #[.int .i64 1, .int .i64 i, .int .i64 v] 35)).alloc (.cells #[.int .i64 0, .int .i64 0, .bool false, .int .i64 0] 37)).alloc (.cells #[.int .i64 0, .int .i64 0, .bool false, .int .i64 0] 37)).heap.size ≤ j) w2 ab room l free := by rw [hw]; exact h1.mono fun k h _ => .inl h
  have M2 : Mod (fun k => X k ∧ k < w.heap.size) (((w.alloc (.cells #[.int .i64 1, .int .i64 i, .int .i64 v] 35)).alloc (.cells #[.int .i64 0, .int .i64 0, .bool false, .int .i64 0] 37)).alloc (.cells #[.int .i64 0, .int .i64 0, .bool false, .int .i64 0] 37)) w2 := by rw [hw]; exact Mod.refl _ _
  clear hw
  have b1 := new_kept M2 (alloc3_1 w _ _ _) (by omega)
  obtain ⟨c1, f1⟩ := blkc b1
  obtain ⟨c2, f2⟩ := blkc (new_kept M2 (alloc3_2 w _ _ _) (by omega))
  go_wp2_with fail
  refine ret_row (w.heap.size + 1) [.int .i64 0, .int .i64 0, .bool false, .int .i64 0] rfl rfl (set4 ((heap_set_ne (by simp)).trans ((heap_set_ne (by simp)).trans (b1)))) Try.underlying37 rfl (by kernel_rfl) rfl ⟨rfl, ?_⟩
  refine does_fin A2 M1 M2 ?_
  rw [hs]
  repeat (refine Mod.setCell ?_ (.inl (by constructor <;> simp <;> omega)) _)
  exact Mod.refl _ _

set_option maxHeartbeats 1000000 in
theorem does_get_yes (h : ArX X w ab room l free) (v : Int) {k : Nat} {u : Int} (hp : l[k]? = some (some u)) :
    Calls Try.prog 15 #[.pointer (some ⟨ab, 0, none⟩), .agg #[.int .i64 1, .int .i64 k, .int .i64 v]] w fun e w' => e = .returned (.agg #[.int .i64 0, .int .i64 u, .bool true, .int .i64 0]) ∧ ArX (fun k => X k ∨ w.heap.size ≤ k) w' ab room l free ∧ Mod X w w' := by
  have h' := h.mono (Y := fun k => X k ∧ k < w.heap.size) fun k h1 h2 => ⟨h1, h2⟩
  have M1 : Mod (fun _ => False) w (((w.alloc (.cells #[.int .i64 1, .int .i64 k, .int .i64 v] 35)).alloc (.cells #[.int .i64 0, .int .i64 0, .bool false, .int .i64 0] 37)).alloc (.cells #[.int .i64 0, .int .i64 0, .bool false, .int .i64 0] 37)) := (((Mod.refl _ w).alloc _).alloc _).alloc _
  have h1 := h'.mod M1 fun _ _ h => h
  have hs : ∀ (A B C : Obj), (((w.alloc A).alloc B).alloc C).heap.size = w.heap.size + 3 := fun _ _ _ => by simp
  go_enter Try.func15, Try.ntmps15
  go_wp2_with fail
  refine (getX_yes h1 hp).mono ?_
  rintro e w2 ⟨rfl, hw⟩
  have A2 : ArX (fun j => (X j ∧ j < w.heap.size) ∨ (((w.alloc (.cells #[.int .i64 1, .int .i64 k, .int .i64 v] 35)).alloc (.cells #[.int .i64 0, .int .i64 0, .bool false, .int .i64 0] 37)).alloc (.cells #[.int .i64 0, .int .i64 0, .bool false, .int .i64 0] 37)).heap.size ≤ j) w2 ab room l free := by rw [hw]; exact h1.mono fun k h _ => .inl h
  have M2 : Mod (fun k => X k ∧ k < w.heap.size) (((w.alloc (.cells #[.int .i64 1, .int .i64 k, .int .i64 v] 35)).alloc (.cells #[.int .i64 0, .int .i64 0, .bool false, .int .i64 0] 37)).alloc (.cells #[.int .i64 0, .int .i64 0, .bool false, .int .i64 0] 37)) w2 := by rw [hw]; exact Mod.refl _ _
  clear hw
  have b1 := new_kept M2 (alloc3_1 w _ _ _) (by omega)
  obtain ⟨c1, f1⟩ := blkc b1
  obtain ⟨c2, f2⟩ := blkc (new_kept M2 (alloc3_2 w _ _ _) (by omega))
  go_wp2_with fail
  refine ret_row (w.heap.size + 1) [.int .i64 0, .int .i64 u, .bool true, .int .i64 0] rfl rfl (set4 ((heap_set_ne (by simp)).trans ((heap_set_ne (by simp)).trans (b1)))) Try.underlying37 rfl (by kernel_rfl) rfl ⟨rfl, ?_⟩
  refine does_fin A2 M1 M2 ?_
  rw [hs]
  repeat (refine Mod.setCell ?_ (.inl (by constructor <;> simp <;> omega)) _)
  exact Mod.refl _ _

set_option maxHeartbeats 1000000 in
theorem does_set_no (h : ArX X w ab room l free) (i v : Int) (hi : ∀ (k : Nat) (v : Int), i = k → l[k]? ≠ some (some v)) :
    Calls Try.prog 15 #[.pointer (some ⟨ab, 0, none⟩), .agg #[.int .i64 2, .int .i64 i, .int .i64 v]] w fun e w' => e = .returned (.agg #[.int .i64 0, .int .i64 0, .bool false, .int .i64 0]) ∧ ArX (fun k => X k ∨ w.heap.size ≤ k) w' ab room l free ∧ Mod X w w' := by
  have h' := h.mono (Y := fun k => X k ∧ k < w.heap.size) fun k h1 h2 => ⟨h1, h2⟩
  have M1 : Mod (fun _ => False) w (((w.alloc (.cells #[.int .i64 2, .int .i64 i, .int .i64 v] 35)).alloc (.cells #[.int .i64 0, .int .i64 0, .bool false, .int .i64 0] 37)).alloc (.cells #[.int .i64 0, .int .i64 0, .bool false, .int .i64 0] 37)) := (((Mod.refl _ w).alloc _).alloc _).alloc _
  have h1 := h'.mod M1 fun _ _ h => h
  have hs : ∀ (A B C : Obj), (((w.alloc A).alloc B).alloc C).heap.size = w.heap.size + 3 := fun _ _ _ => by simp
  go_enter Try.func15, Try.ntmps15
  go_wp2_with fail
  refine (setX_no h1 i v hi).mono ?_
  rintro e w2 ⟨rfl, hw⟩
  have A2 : ArX (fun j => (X j ∧ j < w.heap.size) ∨ (((w.alloc (.cells #[.int .i64 2, .int .i64 i, .int .i64 v] 35)).alloc (.cells #[.int .i64 0, .int .i64 0, .bool false, .int .i64 0] 37)).alloc (.cells #[.int .i64 0, .int .i64 0, .bool false, .int .i64 0] 37)).heap.size ≤ j) w2 ab room l free := by rw [hw]; exact h1.mono fun k h _ => .inl h
  have M2 : Mod (fun k => X k ∧ k < w.heap.size) (((w.alloc (.cells #[.int .i64 2, .int .i64 i, .int .i64 v] 35)).alloc (.cells #[.int .i64 0, .int .i64 0, .bool false, .int .i64 0] 37)).alloc (.cells #[.int .i64 0, .int .i64 0, .bool false, .int .i64 0] 37)) w2 := by rw [hw]; exact Mod.refl _ _
  clear hw
  have b1 := new_kept M2 (alloc3_1 w _ _ _) (by omega)
  obtain ⟨c1, f1⟩ := blkc b1
  obtain ⟨c2, f2⟩ := blkc (new_kept M2 (alloc3_2 w _ _ _) (by omega))
  go_wp2_with fail
  refine ret_row (w.heap.size + 1) [.int .i64 0, .int .i64 0, .bool false, .int .i64 0] rfl rfl (set4 ((heap_set_ne (by simp)).trans (b1))) Try.underlying37 rfl (by kernel_rfl) rfl ⟨rfl, ?_⟩
  refine does_fin A2 M1 M2 ?_
  rw [hs]
  repeat (refine Mod.setCell ?_ (.inl (by constructor <;> simp <;> omega)) _)
  exact Mod.refl _ _

set_option maxHeartbeats 1000000 in
theorem does_set_yes (h : ArX X w ab room l free) (v : Int) {k : Nat} {u : Int} (hp : l[k]? = some (some u)) :
    Calls Try.prog 15 #[.pointer (some ⟨ab, 0, none⟩), .agg #[.int .i64 2, .int .i64 k, .int .i64 v]] w fun e w' => e = .returned (.agg #[.int .i64 0, .int .i64 0, .bool true, .int .i64 0]) ∧ ArX (fun k => X k ∨ w.heap.size ≤ k) w' ab room (l.set k (some v)) free ∧ Mod X w w' := by
  have h' := h.mono (Y := fun k => X k ∧ k < w.heap.size) fun k h1 h2 => ⟨h1, h2⟩
  have M1 : Mod (fun _ => False) w (((w.alloc (.cells #[.int .i64 2, .int .i64 k, .int .i64 v] 35)).alloc (.cells #[.int .i64 0, .int .i64 0, .bool false, .int .i64 0] 37)).alloc (.cells #[.int .i64 0, .int .i64 0, .bool false, .int .i64 0] 37)) := (((Mod.refl _ w).alloc _).alloc _).alloc _
  have h1 := h'.mod M1 fun _ _ h => h
  have hs : ∀ (A B C : Obj), (((w.alloc A).alloc B).alloc C).heap.size = w.heap.size + 3 := fun _ _ _ => by simp
  go_enter Try.func15, Try.ntmps15
  go_wp2_with fail
  refine (setX_yes h1 hp v).mono ?_
  rintro e w2 ⟨rfl, A2, M2⟩
  have A2 := A2.mono (Y := fun j => (X j ∧ j < w.heap.size) ∨ (((w.alloc (.cells #[.int .i64 2, .int .i64 k, .int .i64 v] 35)).alloc (.cells #[.int .i64 0, .int .i64 0, .bool false, .int .i64 0] 37)).alloc (.cells #[.int .i64 0, .int .i64 0, .bool false, .int .i64 0] 37)).heap.size ≤ j) fun _ h _ => .inl h
  have b1 := new_kept M2 (alloc3_1 w _ _ _) (by omega)
  obtain ⟨c1, f1⟩ := blkc b1
  obtain ⟨c2, f2⟩ := blkc (new_kept M2 (alloc3_2 w _ _ _) (by omega))
  go_wp2_with fail
  refine ret_row (w.heap.size + 1) [.int .i64 0, .int .i64 0, .bool true, .int .i64 0] rfl rfl (set4 ((heap_set_ne (by simp)).trans (b1))) Try.underlying37 rfl (by kernel_rfl) rfl ⟨rfl, ?_⟩
  refine does_fin A2 M1 M2 ?_
  rw [hs]
  repeat (refine Mod.setCell ?_ (.inl (by constructor <;> simp <;> omega)) _)
  exact Mod.refl _ _

set_option maxHeartbeats 1000000 in
theorem does_free_no (h : ArX X w ab room l free) (i v : Int) (hi : ∀ (k : Nat) (v : Int), i = k → l[k]? ≠ some (some v)) :
    Calls Try.prog 15 #[.pointer (some ⟨ab, 0, none⟩), .agg #[.int .i64 3, .int .i64 i, .int .i64 v]] w fun e w' => e = .returned (.agg #[.int .i64 0, .int .i64 0, .bool false, .int .i64 0]) ∧ ArX (fun k => X k ∨ w.heap.size ≤ k) w' ab room l free ∧ Mod X w w' := by
  have h' := h.mono (Y := fun k => X k ∧ k < w.heap.size) fun k h1 h2 => ⟨h1, h2⟩
  have M1 : Mod (fun _ => False) w (((w.alloc (.cells #[.int .i64 3, .int .i64 i, .int .i64 v] 35)).alloc (.cells #[.int .i64 0, .int .i64 0, .bool false, .int .i64 0] 37)).alloc (.cells #[.int .i64 0, .int .i64 0, .bool false, .int .i64 0] 37)) := (((Mod.refl _ w).alloc _).alloc _).alloc _
  have h1 := h'.mod M1 fun _ _ h => h
  have hs : ∀ (A B C : Obj), (((w.alloc A).alloc B).alloc C).heap.size = w.heap.size + 3 := fun _ _ _ => by simp
  go_enter Try.func15, Try.ntmps15
  go_wp2_with fail
  refine (freeX_no h1 i hi).mono ?_
  rintro e w2 ⟨rfl, hw⟩
  have A2 : ArX (fun j => (X j ∧ j < w.heap.size) ∨ (((w.alloc (.cells #[.int .i64 3, .int .i64 i, .int .i64 v] 35)).alloc (.cells #[.int .i64 0, .int .i64 0, .bool false, .int .i64 0] 37)).alloc (.cells #[.int .i64 0, .int .i64 0, .bool false, .int .i64 0] 37)).heap.size ≤ j) w2 ab room l free := by rw [hw]; exact h1.mono fun k h _ => .inl h
  have M2 : Mod (fun k => X k ∧ k < w.heap.size) (((w.alloc (.cells #[.int .i64 3, .int .i64 i, .int .i64 v] 35)).alloc (.cells #[.int .i64 0, .int .i64 0, .bool false, .int .i64 0] 37)).alloc (.cells #[.int .i64 0, .int .i64 0, .bool false, .int .i64 0] 37)) w2 := by rw [hw]; exact Mod.refl _ _
  clear hw
  have b1 := new_kept M2 (alloc3_1 w _ _ _) (by omega)
  obtain ⟨c1, f1⟩ := blkc b1
  obtain ⟨c2, f2⟩ := blkc (new_kept M2 (alloc3_2 w _ _ _) (by omega))
  go_wp2_with fail
  refine ret_row (w.heap.size + 1) [.int .i64 0, .int .i64 0, .bool false, .int .i64 0] rfl rfl (set4 ((heap_set_ne (by simp)).trans (b1))) Try.underlying37 rfl (by kernel_rfl) rfl ⟨rfl, ?_⟩
  refine does_fin A2 M1 M2 ?_
  rw [hs]
  repeat (refine Mod.setCell ?_ (.inl (by constructor <;> simp <;> omega)) _)
  exact Mod.refl _ _

set_option maxHeartbeats 1000000 in
theorem does_free_yes (h : ArX X w ab room l free) (v : Int) {k : Nat} {u : Int} (hp : l[k]? = some (some u)) :
    Calls Try.prog 15 #[.pointer (some ⟨ab, 0, none⟩), .agg #[.int .i64 3, .int .i64 k, .int .i64 v]] w fun e w' => e = .returned (.agg #[.int .i64 0, .int .i64 0, .bool true, .int .i64 0]) ∧ ArX (fun k => X k ∨ w.heap.size ≤ k) w' ab room (l.set k none) (free ++ [(k : Int)]) ∧ Mod X w w' := by
  have h' := h.mono (Y := fun k => X k ∧ k < w.heap.size) fun k h1 h2 => ⟨h1, h2⟩
  have M1 : Mod (fun _ => False) w (((w.alloc (.cells #[.int .i64 3, .int .i64 k, .int .i64 v] 35)).alloc (.cells #[.int .i64 0, .int .i64 0, .bool false, .int .i64 0] 37)).alloc (.cells #[.int .i64 0, .int .i64 0, .bool false, .int .i64 0] 37)) := (((Mod.refl _ w).alloc _).alloc _).alloc _
  have h1 := h'.mod M1 fun _ _ h => h
  have hs : ∀ (A B C : Obj), (((w.alloc A).alloc B).alloc C).heap.size = w.heap.size + 3 := fun _ _ _ => by simp
  go_enter Try.func15, Try.ntmps15
  go_wp2_with fail
  refine (freeX_yes h1 hp).mono ?_
  rintro e w2 ⟨rfl, A2, M2⟩
  have b1 := new_kept M2 (alloc3_1 w _ _ _) (by omega)
  obtain ⟨c1, f1⟩ := blkc b1
  obtain ⟨c2, f2⟩ := blkc (new_kept M2 (alloc3_2 w _ _ _) (by omega))
  go_wp2_with fail
  refine ret_row (w.heap.size + 1) [.int .i64 0, .int .i64 0, .bool true, .int .i64 0] rfl rfl (set4 ((heap_set_ne (by simp)).trans (b1))) Try.underlying37 rfl (by kernel_rfl) rfl ⟨rfl, ?_⟩
  refine does_fin A2 M1 M2 ?_
  rw [hs]
  repeat (refine Mod.setCell ?_ (.inl (by constructor <;> simp <;> omega)) _)
  exact Mod.refl _ _

set_option maxHeartbeats 1000000 in
theorem does_reset (h : ArX X w ab room l free) (i v : Int) :
    Calls Try.prog 15 #[.pointer (some ⟨ab, 0, none⟩), .agg #[.int .i64 4, .int .i64 i, .int .i64 v]] w fun e w' => e = .returned (.agg #[.int .i64 0, .int .i64 0, .bool false, .int .i64 0]) ∧ ArX (fun k => X k ∨ w.heap.size ≤ k) w' ab room [] [] ∧ Mod X w w' := by
  have h' := h.mono (Y := fun k => X k ∧ k < w.heap.size) fun k h1 h2 => ⟨h1, h2⟩
  have M1 : Mod (fun _ => False) w (((w.alloc (.cells #[.int .i64 4, .int .i64 i, .int .i64 v] 35)).alloc (.cells #[.int .i64 0, .int .i64 0, .bool false, .int .i64 0] 37)).alloc (.cells #[.int .i64 0, .int .i64 0, .bool false, .int .i64 0] 37)) := (((Mod.refl _ w).alloc _).alloc _).alloc _
  have h1 := h'.mod M1 fun _ _ h => h
  have hs : ∀ (A B C : Obj), (((w.alloc A).alloc B).alloc C).heap.size = w.heap.size + 3 := fun _ _ _ => by simp
  go_enter Try.func15, Try.ntmps15
  go_wp2_with fail
  refine (resetX h1).mono ?_
  rintro e w2 ⟨rfl, A2, M2⟩
  have A2 := A2.mono (Y := fun k => (X k ∧ k < w.heap.size) ∨ (((w.alloc (.cells #[.int .i64 4, .int .i64 i, .int .i64 v] 35)).alloc (.cells #[.int .i64 0, .int .i64 0, .bool false, .int .i64 0] 37)).alloc (.cells #[.int .i64 0, .int .i64 0, .bool false, .int .i64 0] 37)).heap.size ≤ k) fun k h _ => .inl h
  have b1 := new_kept M2 (alloc3_1 w _ _ _) (by omega)
  obtain ⟨c1, f1⟩ := blkc b1
  obtain ⟨c2, f2⟩ := blkc (new_kept M2 (alloc3_2 w _ _ _) (by omega))
  go_wp2_with fail
  refine ret_row (w.heap.size + 1) [.int .i64 0, .int .i64 0, .bool false, .int .i64 0] rfl rfl (set4 (b1)) Try.underlying37 rfl (by kernel_rfl) rfl ⟨rfl, ?_⟩
  refine does_fin A2 M1 M2 ?_
  rw [hs]
  repeat (refine Mod.setCell ?_ (.inl (by constructor <;> simp <;> omega)) _)
  exact Mod.refl _ _

set_option maxHeartbeats 1000000 in
theorem does_other (h : ArX X w ab room l free) (q i v : Int) (h0 : q ≠ 0) (h1q : q ≠ 1) (h2q : q ≠ 2) (h3q : q ≠ 3) (h4q : q ≠ 4) :
    Calls Try.prog 15 #[.pointer (some ⟨ab, 0, none⟩), .agg #[.int .i64 q, .int .i64 i, .int .i64 v]] w fun e w' => e = .returned (.agg #[.int .i64 0, .int .i64 0, .bool false, .int .i64 0]) ∧ ArX (fun k => X k ∨ w.heap.size ≤ k) w' ab room l free ∧ Mod X w w' := by
  go_enter Try.func15, Try.ntmps15
  go_wp2_with fail
  have M1 : Mod (fun _ => False) w (((w.alloc (.cells #[.int .i64 q, .int .i64 i, .int .i64 v] 35)).alloc (.cells #[.int .i64 0, .int .i64 0, .bool false, .int .i64 0] 37)).alloc (.cells #[.int .i64 0, .int .i64 0, .bool false, .int .i64 0] 37)) := (((Mod.refl _ w).alloc _).alloc _).alloc _
  refine ret_row (w.heap.size + 1) [.int .i64 0, .int .i64 0, .bool false, .int .i64 0] rfl rfl (alloc3_1 _ _ _ _) Try.underlying37 rfl (by kernel_rfl) rfl ⟨rfl, (h.mod M1 fun _ _ h => h).mono fun k h _ => .inl h, M1.mono fun _ h => h.elim⟩

/-- A call of a script. -/
theorem does5 (h : ArX X w ab room l free) (o : Op5) {r : (List (Option Int) × List Int) × Ans} (hr : arDo room l free o = r) :
    Calls Try.prog 15 #[.pointer (some ⟨ab, 0, none⟩), .agg (encOp o).toArray] w fun e w' => e = .returned (.agg (encAns r.2).toArray) ∧ ArX (fun k => X k ∨ w.heap.size ≤ k) w' ab room r.1.1 r.1.2 ∧ Mod X w w' := by
  obtain ⟨q, i, v⟩ := o
  subst hr
  by_cases h0 : q = 0
  · subst h0; exact does_put h i v rfl
  by_cases h4 : q = 4
  · subst h4; exact does_reset h i v
  unfold arDo
  simp only [h0, h4, if_false]
  cases ht : thing l i with
  | none =>
    have hn := thing_none ht
    simp only []
    by_cases h1 : q = 1
    · subst h1; exact does_get_no h i v hn
    by_cases h2 : q = 2
    · subst h2; exact does_set_no h i v hn
    by_cases h3 : q = 3
    · subst h3; exact does_free_no h i v hn
    exact does_other h q i v h0 h1 h2 h3 h4
  | some u =>
    obtain ⟨k, rfl, hk⟩ := thing_some ht
    simp only []
    by_cases h1 : q = 1
    · subst h1; exact does_get_yes h v hk
    by_cases h2 : q = 2
    · subst h2; exact does_set_yes h v hk
    by_cases h3 : q = 3
    · subst h3; exact does_free_yes h v hk
    simp only [h1, h2, h3, if_false]
    exact does_other h q k v h0 h1 h2 h3 h4
end

/-- A block that the round lays ahead of its call is none of the arena's. -/
theorem box_in {B : Nat} {W : World} {ab : Nat} {room : Int} {l : List (Option Int)} {free : List Int} (A : ArB B W ab room l free) (o : Obj) : ArX (fun j => B ≤ j ∧ j < W.heap.size) (W.alloc o) ab room l free :=
  (A.2.mono fun _ h1 h2 => ⟨h1, h2⟩).mod (Y := fun _ => False) ((Mod.refl _ _).alloc _) fun _ _ h => h
theorem box_out {B : Nat} {W W1 w3 w4 : World} {ab : Nat} {room : Int} {l : List (Option Int)} {free : List Int} (hB : B ≤ W.heap.size) (hW : Mod (fun _ => False) W W1) (A : ArX (fun j => (B ≤ j ∧ j < W.heap.size) ∨ W1.heap.size ≤ j) w3 ab room l free)
    (M : Mod (fun j => B ≤ j ∧ j < W.heap.size) W1 w3) (M' : Mod (fun _ => False) w3 w4) : ArB B w4 ab room l free ∧ Below B W w4 := by
  have hM : Mod (fun j => B ≤ j) W w4 := ((hW.mono fun _ h => h.elim).trans M fun j h => .inl h.1).trans M' fun j h => h.elim
  refine ⟨⟨Nat.le_trans hB hM.size, (A.mod M' fun _ _ h => h).mono fun j h _ => ?_⟩, hM.to_below hB fun _ h => h⟩
  rcases h with h | h
  · exact h.1
  · have := hW.size; omega

theorem fitOp (cs : List Value) (h : Fit [.int .i64, .int .i64, .int .i64] cs) : ∃ b, encOp b = cs ∧ True := by
  obtain ⟨v, vs, rfl, ⟨n, rfl, hn⟩, h2⟩ := h.cons_inv
  obtain ⟨v2, vs2, rfl, ⟨n2, rfl, hn2⟩, h3⟩ := h2.cons_inv
  obtain ⟨v3, vs3, rfl, ⟨n3, rfl, hn3⟩, h4⟩ := h3.cons_inv
  obtain rfl := h4.nil_inv
  exact ⟨⟨n, n2, n3⟩, rfl, trivial⟩

/-- A script's call, where it stands, in a later world. -/
theorem RdS.op {w W : World} {b o : Nat} {zs : List Op5} {k : Nat} (hc : ∀ i z, zs[i]? = some z → ∀ j u, (encOp z)[j]? = some u → w.cell? ⟨b, o + i * 3 + j, none⟩ = some u) (B : Below w.heap.size w W) (hk : k < zs.length) :
    W.cell? ⟨b, o + k * 3, none⟩ = some (.int .i64 zs[k].kind) ∧ W.cell? ⟨b, o + k * 3 + 1, none⟩ = some (.int .i64 zs[k].i) ∧ W.cell? ⟨b, o + k * 3 + 2, none⟩ = some (.int .i64 zs[k].v) := by
  have h : ∀ j u, (encOp zs[k])[j]? = some u → w.cell? ⟨b, o + k * 3 + j, none⟩ = some u := fun j u hu => hc k zs[k] (by simp [hk]) j u hu
  have g : ∀ j u, (encOp zs[k])[j]? = some u → W.cell? ⟨b, o + k * 3 + j, none⟩ = some u := fun j u hu =>
    (B.cell (p := ⟨b, o + k * 3 + j, none⟩) (World.block_lt_of_cell? w _ (h j u hu))).trans (h j u hu)
  exact ⟨g 0 _ rfl, g 1 _ rfl, g 2 _ rfl⟩


/-- The same, the world behind the call under one name. -/
theorem lenB {B : Nat} {W : World} {ab : Nat} {room : Int} {l : List (Option Int)} {free : List Int} (A : ArB B W ab room l free) :
    Calls Try.prog 14 #[.pointer (some ⟨ab, 0, none⟩)] W fun e w' => e = .returned (.int .i64 ((l.length : Int) - free.length)) ∧ ArB B w' ab room l free ∧ Below B W w' :=
  (lenX A.2).mono fun _ _ ⟨he, n, hw⟩ => by subst hw; exact ⟨he, A.drewN n, pw_below_drewN' (Below.refl _ _) n⟩
theorem alive5B (B : Nat) {W : World} {ab : Nat} {room : Int} {l : List (Option Int)} {free : List Int} (A : ArB B W ab room l free) :
    Calls Try.prog 11 #[] W fun e w' => e = .returned (.bool true) ∧ ArB B w' ab room l free ∧ Below B W w' :=
  (alive5 W).mono fun _ _ ⟨he, hB⟩ => ⟨he, ⟨Nat.le_trans A.1 hB.size, A.2.mod (Mod.of_below (S := fun _ => False) hB) fun _ _ h => h⟩, hB.mono A.1⟩
end Go.Proofs.Bo
