import Derived.Test.YtmdeoeppobpjbaaBo3
import Derived.Test.YtmdeoeppobpjbaaDo5
import Derived.Deep.QuietTactic
import Derived.BigQuiet
set_option linter.unusedVariables false
namespace Go.Proofs.Bo
open Go Go.RowKit

/-- The slices of a reference's arena. -/
structure RV (w : World) (fv Lv : Value) (free L : List Int) : Prop where
  f : w.ownsRow 0 3 1 fv free.length (free.map (.int .i64))
  l : w.ownsRow 0 2 1 Lv L.length (L.map (.int .i64))
def RF (fv Lv : Value) (k : Nat) : Prop := fv.ownBlock = some k ∨ Lv.ownBlock = some k
theorem RV.lt {w : World} {fv Lv : Value} {free L : List Int} (h : RV w fv Lv free L) {k : Nat} (hk : RF fv Lv k) : k < w.heap.size := by
  rcases hk with e | e
  · exact own_lt h.f e
  · exact own_lt h.l e
theorem RV.mod {S : Nat → Prop} {w w' : World} {fv Lv : Value} {free L : List Int} (h : RV w fv Lv free L) (hm : Mod S w w') (hs : ∀ k, RF fv Lv k → ¬ S k) : RV w' fv Lv free L :=
  ⟨own_mod h.f hm fun k e => hs k (.inl e), own_mod h.l hm fun k e => hs k (.inr e)⟩
theorem RV.mod0 {w w' : World} {fv Lv : Value} {free L : List Int} (h : RV w fv Lv free L) (hm : Mod (fun _ => False) w w') : RV w' fv Lv free L := h.mod hm fun _ _ h => h

/-- What the reference keeps of what is where. -/
structure Rel (L : List Int) (l : List (Option Int)) : Prop where
  len : L.length = l.length
  at_ : ∀ (k : Nat) (v : Int), l[k]? = some (some v) → L[k]? = some v

theorem Rel.push {L : List Int} {l : List (Option Int)} (h : Rel L l) (v : Int) : Rel (L ++ [v]) (l ++ [some v]) := by
  refine ⟨by simp [h.len], fun k u hk => ?_⟩
  rw [List.getElem?_append] at hk ⊢
  rw [h.len]
  split at hk <;> rename_i hlt
  · rw [if_pos hlt]; exact h.at_ k u hk
  · rw [if_neg hlt]
    rcases Nat.eq_zero_or_pos (k - l.length) with h0 | h0
    · rw [h0] at hk ⊢; simpa using hk
    · rw [List.getElem?_eq_none (by simp; omega)] at hk; cases hk
theorem Rel.set {L : List Int} {l : List (Option Int)} (h : Rel L l) (i : Nat) (v : Int) : Rel (L.set i v) (l.set i (some v)) := by
  refine ⟨by simp [h.len], fun k u hk => ?_⟩
  by_cases e : i = k
  · subst e
    have hl := (List.getElem?_eq_some_iff.1 hk).1
    rw [List.length_set] at hl
    rw [List.getElem?_set_self hl] at hk
    rw [List.getElem?_set_self (by rw [h.len]; exact hl)]
    simpa using hk
  · rw [List.getElem?_set_ne e] at hk ⊢
    exact h.at_ k u hk
theorem Rel.del {L : List Int} {l : List (Option Int)} (h : Rel L l) (i : Nat) : Rel L (l.set i none) := by
  refine ⟨by simp [h.len], fun k u hk => ?_⟩
  by_cases e : i = k
  · subst e
    have hl := (List.getElem?_eq_some_iff.1 hk).1
    rw [List.length_set] at hl
    rw [List.getElem?_set_self hl] at hk
    simp at hk
  · rw [List.getElem?_set_ne e] at hk
    exact h.at_ k u hk

theorem thing_isSome {room : Int} {l : List (Option Int)} {free : List Int} (hi : ArInv room l free) (i : Int) : (thing l i).isSome = (!decide (i ∈ free) && (decide (0 ≤ i) && decide (i < l.length))) := by
  unfold thing
  by_cases h0 : 0 ≤ i
  · obtain ⟨k, rfl⟩ := Int.eq_ofNat_of_zero_le h0
    have hm : (k : Int) ∈ free ↔ l[k]? = some none := by
      rw [hi.mem]
      constructor
      · rintro ⟨k', e, h⟩; have : k = k' := by omega
        subst this; exact h
      · exact fun h => ⟨k, rfl, h⟩
    rw [if_pos h0]
    simp only [Int.toNat_natCast]
    cases hl : l[k]? with
    | none =>
      have : ¬ k < l.length := by rw [List.getElem?_eq_none_iff] at hl; omega
      simp [this]
    | some p =>
      have hk := (List.getElem?_eq_some_iff.1 hl).1
      cases p with
      | none => have := hm.2 hl; simp [this]
      | some v =>
        have : ¬ (k : Int) ∈ free := fun h => by rw [hm.1 h] at hl; cases hl
        simp [this, hk]
  · rw [if_neg h0]
    simp [h0]

section
variable {w : World} {fv Lv : Value} {room : Int} {l : List (Option Int)} {free L : List Int}

theorem infoL : (Try.prog.info? 2).map (fun i => (i.zero, i.size, i.bytes)) = some (some (.int .i64 0), 1, 8) := by kernel_rfl

set_option maxHeartbeats 400000 in
theorem refNew (hr : 0 ≤ room) (hr2 : room ≤ 65536) (w : World) :
    Calls Try.prog 18 #[.int .i64 room] w fun e w' => e = .returned (.tuple #[.agg #[.int .i64 room, .int .i64 0, .slice none 0 0, .slice none 0 0], .bool true]) ∧ Mod (fun _ => False) w w' := by
  have hr0 : ¬ room < 0 := by omega
  have hr1 : ¬ 65536 < room := by omega
  obtain ⟨w0, hw0⟩ : ∃ w0, w.alloc (.cells #[.int .i64 0, .int .i64 0, .slice none 0 0, .slice none 0 0] 48) = w0 := ⟨_, rfl⟩
  have b0 : w0.heap[w.heap.size]? = some (.cells #[.int .i64 0, .int .i64 0, .slice none 0 0, .slice none 0 0] 48 (0, 0)) := by rw [← hw0]; exact alloc_0 _ _
  obtain ⟨c0, f0⟩ := blkc b0
  have M0 : Mod (fun _ => False) w w0 := by rw [← hw0]; exact (Mod.refl _ _).alloc _
  go_enter Try.func18, Try.ntmps18
  go_wp2_with fail
  refine ret_row_tmp w.heap.size [.int .i64 room, .int .i64 0, .slice none 0 0, .slice none 0 0] rfl rfl (set4 b0) Try.underlying48 rfl (by kernel_rfl) rfl ⟨rfl, ?_⟩
  repeat (refine Mod.setCell ?_ (.inr (Nat.le_refl _)) _)
  exact M0

set_option maxHeartbeats 400000 in
theorem refNew_no (hr : room < 0 ∨ 65536 < room) (w : World) :
    Calls Try.prog 18 #[.int .i64 room] w fun e w' => e = .returned (.tuple #[.agg #[.int .i64 0, .int .i64 0, .slice none 0 0, .slice none 0 0], .bool false]) ∧ Mod (fun _ => False) w w' := by
  obtain ⟨w0, hw0⟩ : ∃ w0, w.alloc (.cells #[.int .i64 0, .int .i64 0, .slice none 0 0, .slice none 0 0] 48) = w0 := ⟨_, rfl⟩
  have b0 : w0.heap[w.heap.size]? = some (.cells #[.int .i64 0, .int .i64 0, .slice none 0 0, .slice none 0 0] 48 (0, 0)) := by rw [← hw0]; exact alloc_0 _ _
  obtain ⟨c0, f0⟩ := blkc b0
  have M0 : Mod (fun _ => False) w w0 := by rw [← hw0]; exact (Mod.refl _ _).alloc _
  rcases hr with hr | hr
  · go_enter Try.func18, Try.ntmps18
    go_wp2_with fail
    refine ret_row_tmp w.heap.size [.int .i64 0, .int .i64 0, .slice none 0 0, .slice none 0 0] rfl rfl (set4 b0) Try.underlying48 rfl (by kernel_rfl) rfl ⟨rfl, ?_⟩
    repeat (refine Mod.setCell ?_ (.inr (Nat.le_refl _)) _)
    exact M0
  · have hr0 : ¬ room < 0 := by omega
    go_enter Try.func18, Try.ntmps18
    go_wp2_with fail
    refine ret_row_tmp w.heap.size [.int .i64 0, .int .i64 0, .slice none 0 0, .slice none 0 0] rfl rfl (set4 b0) Try.underlying48 rfl (by kernel_rfl) rfl ⟨rfl, ?_⟩
    repeat (refine Mod.setCell ?_ (.inr (Nat.le_refl _)) _)
    exact M0

set_option maxHeartbeats 1000000 in
theorem refIs (hi : ArInv room l free) (R : RV w fv Lv free L) (i : Int) :
    Calls Try.prog 22 #[.agg #[.int .i64 room, .int .i64 l.length, fv, Lv], .int .i64 i] w fun e w' => e = .returned (.bool (thing l i).isSome) ∧ Mod (fun _ => False) w w' := by
  rw [thing_isSome hi]
  obtain ⟨A, c, rfl, hA⟩ := own_slice R.f
  obtain ⟨A', c', rfl, hA'⟩ := own_slice R.l
  have hfl := hi.fl
  have hlr := hi.lr
  have hr1 := hi.room1
  obtain ⟨w0, hw0⟩ : ∃ w0, w.alloc (.cells #[.int .i64 room, .int .i64 l.length, .slice A free.length c, .slice A' L.length c'] 48) = w0 := ⟨_, rfl⟩
  have b0 : w0.heap[w.heap.size]? = some (.cells #[.int .i64 room, .int .i64 l.length, .slice A free.length c, .slice A' L.length c'] 48 (0, 0)) := by rw [← hw0]; exact alloc_0 _ _
  obtain ⟨c0, f0⟩ := blkc b0
  have M0 : Mod (fun _ => False) w w0 := by rw [← hw0]; exact (Mod.refl _ _).alloc _
  have R0 := R.mod0 M0
  go_enter Try.func22, Try.ntmps22
  go_wp2_with fail
  go_loopw [5] (fun c W => ∃ k : Nat, k ≤ free.length ∧ c = .int .i64 k ∧ W = w0 ∧ ∀ j, j < k → free[j]? ≠ some i) (fun c _ => (free.length - intOf c).toNat)
  case atStart => exact ⟨0, by omega, rfl, by trivial, by simp⟩
  case round =>
    obtain ⟨k, hk, rfl, hW, hn⟩ := hrel
    subst hW
    by_cases hlt : k < free.length
    · obtain ⟨g, rfl⟩ := hA.2.2 (by omega)
      have hc := (own_cell R0.f (j := k) (u := .int .i64 free[k]) (by simp [hlt])).1
      by_cases he : free[k] = i
      · rw [he] at hc
        have hin : i ∈ free := he ▸ List.getElem_mem hlt
        go_wp2_with fail
        go_ret
        exact ⟨by simp [hin], M0⟩
      · have hne : free[k]? ≠ some i := by simp [hlt, he]
        generalize free[k] = z at hc he
        go_wp2_with fail
        go_roundw
        case rel => exact ⟨k + 1, by omega, by go_num, by trivial, fun j hj => by rcases Nat.lt_succ_iff_lt_or_eq.1 hj with h | rfl; exact hn j h; exact hne⟩
        case measure => simp [intOf]; omega
    · obtain rfl : k = free.length := by omega
      have hin : i ∉ free := fun h => by
        obtain ⟨j, hj, he⟩ := List.getElem_of_mem h
        exact hn j hj (by simp [hj, he])
      clear hlt hk hn
      by_cases h0 : 0 ≤ i
      · go_wp2_with fail
        go_ret
        exact ⟨by simp [hin, h0], M0⟩
      · go_wp2_with fail
        go_ret
        exact ⟨by simp [hin]; omega, M0⟩

theorem two4 {w : World} {g g' : Nat} {t t' : TypeId} {a b c d a' b' c' d' e f h i e' f' h' i' : Value} (hg : w.heap[g]? = some (.cells #[a, b, c, d] t (0, 0))) (hg' : w.heap[g']? = some (.cells #[e, f, h, i] t' (0, 0))) (hne : g ≠ g') :
    ((((((((w.setCell ⟨g, 0, none⟩ a').setCell ⟨g, 1, none⟩ b').setCell ⟨g, 2, none⟩ c').setCell ⟨g, 3, none⟩ d').setCell ⟨g', 0, none⟩ e').setCell ⟨g', 1, none⟩ f').setCell ⟨g', 2, none⟩ h').setCell ⟨g', 3, none⟩ i').heap[g]? = some (.cells #[a', b', c', d'] t (0, 0)) ∧
    ((((((((w.setCell ⟨g, 0, none⟩ a').setCell ⟨g, 1, none⟩ b').setCell ⟨g, 2, none⟩ c').setCell ⟨g, 3, none⟩ d').setCell ⟨g', 0, none⟩ e').setCell ⟨g', 1, none⟩ f').setCell ⟨g', 2, none⟩ h').setCell ⟨g', 3, none⟩ i').heap[g']? = some (.cells #[e', f', h', i'] t' (0, 0)) := by
  have h1 := set4 (a' := a') (b' := b') (c' := c') (d' := d') hg
  refine ⟨(setL_heap g' [e', f', h', i'] _ 0 g hne).trans h1, set4 ((setL_heap g [a', b', c', d'] _ 0 g' (Ne.symm hne)).trans hg')⟩

/-- The three blocks that 'put' and 'Do' lay ahead. -/
structure Box3 (w w0 : World) (a b c d : Value) : Prop where
  b0 : w0.heap[w.heap.size]? = some (.cells #[a, b, c, d] 48 (0, 0))
  b1 : w0.heap[w.heap.size + 1]? = some (.cells #[.int .i64 0, .int .i64 0, .slice none 0 0, .slice none 0 0] 48 (0, 0))
  b2 : w0.heap[w.heap.size + 1 + 1]? = some (.cells #[.int .i64 0, .int .i64 0, .bool false, .int .i64 0] 37 (0, 0))
  M : Mod (fun _ => False) w w0
  sz : w.heap.size + 3 ≤ w0.heap.size

theorem Box3.ex (w : World) (a b c d : Value) : ∃ w0, ((w.alloc (.cells #[a, b, c, d] 48)).alloc (.cells #[.int .i64 0, .int .i64 0, .slice none 0 0, .slice none 0 0] 48)).alloc (.cells #[.int .i64 0, .int .i64 0, .bool false, .int .i64 0] 37) = w0 ∧ Box3 w w0 a b c d :=
  ⟨_, rfl, alloc3_0 _ _ _ _, alloc3_1 _ _ _ _, alloc3_2 _ _ _ _, (((Mod.refl _ _).alloc _).alloc _).alloc _, by simp⟩
theorem Box3.mod {w w0 w1 : World} {a b c d : Value} (h : Box3 w w0 a b c d) (m : Mod (fun _ => False) w0 w1) : Box3 w w1 a b c d := ⟨m.heap h.b0 fun h => h, m.heap h.b1 fun h => h, m.heap h.b2 fun h => h, h.M.trans' m, Nat.le_trans h.sz m.size⟩

theorem put_fin {w w2 w3 : World} {fv Lv' : Value} {free L' : List Int} (R : w.ownsRow 0 3 1 fv free.length (free.map (.int .i64))) (M : Mod (fun _ => False) w w2) (h : w2.ownsRow 0 2 1 Lv' (L'.length) (L'.map (.int .i64))) (hn : ∀ k, Lv'.ownBlock = some k → w.heap.size + 3 ≤ k) (M2 : Mod (fun k => w.heap.size ≤ k ∧ k < w.heap.size + 3) w2 w3) :
    RV w3 fv Lv' free L' ∧ Mod (fun _ => False) w w3 ∧ ∀ k, Lv'.ownBlock = some k → w.heap.size ≤ k := by
  have M3 : Mod (fun _ => False) w w3 := M.trans M2 fun k h => .inr h.1
  exact ⟨⟨own_mod R M3 fun _ _ h => h, own_mod h M2 fun k e h => by have := hn k e; omega⟩, M3, fun k e => by have := hn k e; omega⟩

set_option maxHeartbeats 1000000 in
theorem refPut_full (hi : ArInv room l free) (R : RV w fv Lv free L) (v : Int) (hr : room ≤ (l.length : Int) - free.length) :
    Calls Try.prog 27 #[.agg #[.int .i64 room, .int .i64 l.length, fv, Lv], .int .i64 v] w fun e w' => e = .returned (.tuple #[.agg #[.int .i64 room, .int .i64 l.length, fv, Lv], .agg #[.int .i64 0, .int .i64 0, .bool false, .int .i64 50]]) ∧ Mod (fun _ => False) w w' := by
  obtain ⟨A, c, rfl, hA⟩ := own_slice R.f
  obtain ⟨A', c', rfl, hA'⟩ := own_slice R.l
  have hfl := hi.fl
  have hlr := hi.lr
  have hr1 := hi.room1
  obtain ⟨w0, hw0, B⟩ := Box3.ex w (.int .i64 room) (.int .i64 l.length) (.slice A free.length c) (.slice A' L.length c')
  obtain ⟨c0, f0⟩ := blkc B.b0
  obtain ⟨c1, f1⟩ := blkc B.b1
  obtain ⟨c2, f2⟩ := blkc B.b2
  go_enter Try.func27, Try.ntmps27
  go_wp2_with fail
  refine ret_row2 (w.heap.size + 1) (w.heap.size + 1 + 1) [_, _, _, _] [_, _, _, _] rfl rfl rfl (two4 B.b1 B.b2 (by omega)).1 (two4 B.b1 B.b2 (by omega)).2 Try.underlying48 rfl (by kernel_rfl) Try.underlying37 rfl (by kernel_rfl) rfl ⟨rfl, ?_⟩
  repeat (refine Mod.setCell ?_ (.inr (by simp only []; omega)) _)
  exact B.M

set_option maxHeartbeats 1000000 in
theorem refPut_new (hi : ArInv room l []) (hL : Rel L l) (R : RV w fv Lv [] L) (v : Int) (hr : (l.length : Int) < room) :
    Calls Try.prog 27 #[.agg #[.int .i64 room, .int .i64 l.length, fv, Lv], .int .i64 v] w fun e w' => ∃ Lv', e = .returned (.tuple #[.agg #[.int .i64 room, .int .i64 ((l.length : Int) + 1), fv, Lv'], .agg #[.int .i64 l.length, .int .i64 0, .bool false, .int .i64 0]]) ∧
      RV w' fv Lv' [] (L ++ [v]) ∧ Mod (fun _ => False) w w' ∧ ∀ k, Lv'.ownBlock = some k → w.heap.size ≤ k := by
  have RL := R.l
  have RFr := R.f
  obtain ⟨A, c, rfl, hA⟩ : ∃ A c, fv = .slice A 0 c ∧ 0 ≤ c ∧ c ≤ maxLen ∧ (0 < 0 → ∃ g, A = some ⟨g, 0, none⟩) := own_slice R.f
  obtain ⟨A', c', rfl, hA'⟩ := own_slice R.l
  have hlr := hi.lr
  have hr1 := hi.room1
  have hln := hid hL.len
  have hLs : L.length ≤ 65536 := by have := hL.len; omega
  obtain ⟨w0, hw0, B⟩ := Box3.ex w (.int .i64 room) (.int .i64 l.length) (.slice A 0 c) (.slice A' L.length c')
  obtain ⟨c0, f0⟩ := blkc B.b0
  obtain ⟨cA, fA⟩ := blkc (B.mod ((Mod.refl _ w0).alloc (.cells #[] 2))).b0
  have hr' : ¬ room ≤ (l.length : Int) := by omega
  go_enter Try.func27, Try.ntmps27
  go_wp2_with (at_builtin; refine app_copy (.slice A' L.length c') L.length (L.map (.int .i64)) (.tmp 19) (.tmp 21) 46 2 (.int .i64 0) 1 8 rfl rfl Try.underlying46 infoL rfl (by omega) (by omega) (by simp [Act.eval]) (by simp [Act.eval]) (own_mod RL B.M fun _ _ h => h) (by simp [Value.oneCell']) (by omega) ?_)
  intro v1 w1 hown m1 hb1
  have B1 := B.mod m1
  obtain ⟨A1, cc1, rfl, hA1⟩ := own_slice hown
  clear c0 f0 cA fA hw0
  obtain ⟨c0, f0⟩ := blkc B1.b0
  go_wp2_with (at_builtin; refine app_one [.int .i64 v] (.slice A1 L.length cc1) L.length (L.map (.int .i64)) (.tmp 52) (.tmp 54) 46 2 (.int .i64 0) 1 8 rfl rfl Try.underlying46 infoL rfl (by omega) (by omega) (by simp [Act.eval]) (by simp [Act.eval]) hown rfl (by simp [Value.oneCell']) (by omega) ?_)
  intro v2 w2 hown2 hg2 hb2
  have hn2 : ∀ k, v2.ownBlock = some k → w.heap.size + 3 ≤ k := fun k e => by
    rcases hb2 k e with h | h
    · have := hb1 k h; have := B.sz; omega
    · have := B1.sz; omega
  have m2 : Mod (fun k => w.heap.size + 3 ≤ k) w1 w2 := (Mod.refl _ _).grown hg2 fun k e => .inl (by have := hb1 k e; have := B.sz; omega)
  have B2 : Box3 w w2 (.int .i64 room) (.int .i64 l.length) (.slice A 0 c) (.slice A' L.length c') := ⟨m2.heap B1.b0 (by omega), m2.heap B1.b1 (by omega), m2.heap B1.b2 (by omega), B1.M.trans m2 (fun k h => .inr (by omega)), Nat.le_trans B1.sz m2.size⟩
  obtain ⟨A2, cc2, rfl, hA2⟩ := own_slice hown2
  clear c0 f0 hown hg2 hb2 hb1 B1 m1 m2 B
  obtain ⟨c0, f0⟩ := blkc B2.b0
  obtain ⟨c1, f1⟩ := blkc B2.b1
  obtain ⟨c2, f2⟩ := blkc B2.b2
  go_wp2_with fail
  go_region
  all_goals go_wp2_with fail
  all_goals
    have d1 := (heap_set_ne (w := w2.setCell ⟨w.heap.size, 3, none⟩ (.slice A2 (L.length + 1) cc2)) (p := ⟨w.heap.size, 1, none⟩) (u := .int .i64 ((l.length : Int) + 1)) (k := w.heap.size + 1) (by simp)).trans ((heap_set_ne (p := ⟨w.heap.size, 3, none⟩) (by simp)).trans B2.b1)
    have d2 := (heap_set_ne (w := w2.setCell ⟨w.heap.size, 3, none⟩ (.slice A2 (L.length + 1) cc2)) (p := ⟨w.heap.size, 1, none⟩) (u := .int .i64 ((l.length : Int) + 1)) (k := w.heap.size + 1 + 1) (by simp; omega)).trans ((heap_set_ne (p := ⟨w.heap.size, 3, none⟩) (by simp; omega)).trans B2.b2)
    refine ret_row2_drew (w.heap.size + 1) (w.heap.size + 1 + 1) [_, _, _, _] [_, _, _, _] rfl rfl rfl (two4 d1 d2 (by omega)).1 (two4 d1 d2 (by omega)).2 Try.underlying48 rfl (by kernel_rfl) Try.underlying37 rfl (by kernel_rfl) rfl ⟨_, rfl, ?_⟩
    refine put_fin (L' := L ++ [v]) R.f B2.M (by simpa using hown2) hn2 ?_
    refine Mod.drew ?_
    iterate 10 (refine Mod.setCell ?_ (.inl (by constructor <;> simp <;> omega)) _)
    exact Mod.refl _ _

theorem and4 {p q r s : Prop} (h : p ∧ q ∧ r) (hs : s) : p ∧ q ∧ r ∧ s := ⟨h.1, h.2.1, h.2.2, hs⟩

set_option maxHeartbeats 1000000 in
theorem refPut_old {k : Nat} (hi : ArInv room l (free ++ [(k : Int)])) (hL : Rel L l) (R : RV w fv Lv (free ++ [(k : Int)]) L) (v : Int) :
    Calls Try.prog 27 #[.agg #[.int .i64 room, .int .i64 l.length, fv, Lv], .int .i64 v] w fun e w' => ∃ fv' Lv', e = .returned (.tuple #[.agg #[.int .i64 room, .int .i64 l.length, fv', Lv'], .agg #[.int .i64 k, .int .i64 0, .bool false, .int .i64 0]]) ∧
      RV w' fv' Lv' free (L.set k v) ∧ Mod (fun _ => False) w w' ∧ (∀ k, Lv'.ownBlock = some k → w.heap.size ≤ k) ∧ fv'.ownBlock = fv.ownBlock := by
  have RL := R.l
  have hlen : (free ++ [(k : Int)]).length = free.length + 1 := by simp
  have RFr := R.f
  rw [hlen] at RFr
  have hfl := hi.fl
  rw [hlen] at hfl
  have hkl : k < l.length := by
    obtain ⟨k', e, hk'⟩ := (hi.mem k).1 (by simp)
    have : k = k' := by omega
    subst this; exact (List.getElem?_eq_some_iff.1 hk').1
  clear R hlen
  obtain ⟨A, c, rfl, hA⟩ := own_slice RFr
  obtain ⟨fb, rfl⟩ := hA.2.2 (by omega)
  obtain ⟨A', c', rfl, hA'⟩ := own_slice RL
  have hlr := hi.lr
  have hr1 := hi.room1
  have hln := hid hL.len
  have hLs : L.length ≤ 65536 := by have := hL.len; omega
  have hkL : k < L.length := by have := hL.len; omega
  have ht := own_take RFr free.length (by omega)
  rw [Nat.mul_one, List.map_append, List.take_left' (by simp)] at ht
  obtain ⟨w0, hw0, B⟩ := Box3.ex w (.int .i64 room) (.int .i64 l.length) (.slice (some ⟨fb, 0, none⟩) (free.length + 1) c) (.slice A' L.length c')
  obtain ⟨c0, f0⟩ := blkc B.b0
  obtain ⟨cA, fA⟩ := blkc (B.mod ((Mod.refl _ w0).alloc (.cells #[] 2))).b0
  have hr' : ¬ room ≤ (l.length : Int) - (free.length + 1 : Nat) := by omega
  go_enter Try.func27, Try.ntmps27
  go_wp2_with (at_builtin; refine app_copy (.slice A' L.length c') L.length (L.map (.int .i64)) (.tmp 19) (.tmp 21) 46 2 (.int .i64 0) 1 8 rfl rfl Try.underlying46 infoL rfl (by omega) (by omega) (by simp [Act.eval]) (by simp [Act.eval]) (own_mod RL B.M fun _ _ h => h) (by simp [Value.oneCell']) (by omega) ?_)
  intro v1 w1 hown m1 hb1
  have B1 := B.mod m1
  obtain ⟨A1, cc1, rfl, hA1⟩ := own_slice hown
  obtain ⟨g1, rfl⟩ := hA1.2.2 (by omega)
  have hg1 : w.heap.size + 3 ≤ g1 := by have := hb1 g1 rfl; have := B.sz; omega
  have n1 : g1 ≠ w.heap.size := by omega
  have n2 : w.heap.size ≠ g1 := by omega
  clear c0 f0 cA fA hw0
  obtain ⟨c0, f0⟩ := blkc B1.b0
  obtain ⟨c1, f1⟩ := blkc B1.b1
  obtain ⟨c2, f2⟩ := blkc B1.b2
  have cf := (own_cell (own_mod RFr B1.M fun _ _ h => h) (j := free.length) (u := .int .i64 k) (by simp)).1
  obtain ⟨cg, fg⟩ := own_cell hown (j := k) (u := .int .i64 L[k]) (by simp [hkL])
  generalize L[k] = old at cg
  go_wp2_with fail
  have e1 := own_keep (w' := w1.setCell ⟨w.heap.size, 2, none⟩ (.slice (some ⟨fb, 0, none⟩) free.length c)) hown fun j e => by cases e; exact heap_set_ne n1
  have e2 := own_set e1 k (by simp; exact hkL) (.int .i64 v)
  have e3 : (List.map (Value.int .i64) L).set k (.int .i64 v) = (L.set k v).map (Value.int .i64) := by simp
  rw [e3] at e2
  have ne1 : w.heap.size + 1 ≠ g1 := by omega
  have ne2 : w.heap.size + 1 + 1 ≠ g1 := by omega
  have d1 := (heap_set_ne (w := (w1.setCell ⟨w.heap.size, 2, none⟩ (.slice (some ⟨fb, 0, none⟩) free.length c)).setCell ⟨g1, k, none⟩ (.int .i64 v)) (p := ⟨w.heap.size, 3, none⟩) (u := .slice (some ⟨g1, 0, none⟩) L.length cc1) (k := w.heap.size + 1) (by simp)).trans ((heap_set_ne (p := ⟨g1, k, none⟩) ne1).trans ((heap_set_ne (p := ⟨w.heap.size, 2, none⟩) (by simp)).trans B1.b1))
  have d2 := (heap_set_ne (w := (w1.setCell ⟨w.heap.size, 2, none⟩ (.slice (some ⟨fb, 0, none⟩) free.length c)).setCell ⟨g1, k, none⟩ (.int .i64 v)) (p := ⟨w.heap.size, 3, none⟩) (u := .slice (some ⟨g1, 0, none⟩) L.length cc1) (k := w.heap.size + 1 + 1) (by simp; omega)).trans ((heap_set_ne (p := ⟨g1, k, none⟩) ne2).trans ((heap_set_ne (p := ⟨w.heap.size, 2, none⟩) (by simp; omega)).trans B1.b2))
  have M2 : Mod (fun _ => False) w ((w1.setCell ⟨w.heap.size, 2, none⟩ (.slice (some ⟨fb, 0, none⟩) free.length c)).setCell ⟨g1, k, none⟩ (.int .i64 v)) := (B1.M.setCell (.inr (Nat.le_refl _)) _).setCell (.inr (by simp only []; omega)) _
  refine ret_row2 (w.heap.size + 1) (w.heap.size + 1 + 1) [_, _, _, _] [_, _, _, _] rfl rfl rfl (two4 d1 d2 (by omega)).1 (two4 d1 d2 (by omega)).2 Try.underlying48 rfl (by kernel_rfl) Try.underlying37 rfl (by kernel_rfl) rfl ⟨_, _, rfl, ?_⟩
  refine and4 (put_fin (L' := L.set k v) ht M2 (by rw [List.length_set]; exact e2) (fun k e => by cases e; exact hg1) ?_) rfl
  iterate 9 (refine Mod.setCell ?_ (.inl (by constructor <;> simp <;> omega)) _)
  exact Mod.refl _ _

/-- What a call on a reference's arena leaves. -/
def RefPost (w : World) (fv Lv : Value) (room : Int) (r : (List (Option Int) × List Int) × Ans) (e : Ending) (w' : World) : Prop :=
  ∃ A c A' c' L', e = .returned (.tuple #[.agg #[.int .i64 room, .int .i64 r.1.1.length, .slice A r.1.2.length c, .slice A' r.1.1.length c'], .agg (encAns r.2).toArray]) ∧
    RV w' (.slice A r.1.2.length c) (.slice A' r.1.1.length c') r.1.2 L' ∧ Rel L' r.1.1 ∧ Mod (fun _ => False) w w' ∧ ∀ k, RF (.slice A r.1.2.length c) (.slice A' r.1.1.length c') k → RF fv Lv k ∨ w.heap.size ≤ k

theorem RefPost.mk' {w w' : World} {fv Lv fv' Lv' : Value} {room n : Int} {r : (List (Option Int) × List Int) × Ans} {L' : List Int} (hn : n = r.1.1.length) (R : RV w' fv' Lv' r.1.2 L') (hL : Rel L' r.1.1) (M : Mod (fun _ => False) w w') (hk : ∀ k, RF fv' Lv' k → RF fv Lv k ∨ w.heap.size ≤ k) :
    RefPost w fv Lv room r (.returned (.tuple #[.agg #[.int .i64 room, .int .i64 n, fv', Lv'], .agg (encAns r.2).toArray])) w' := by
  obtain ⟨A, c, rfl, _⟩ := own_slice R.f
  obtain ⟨A', c', rfl, _⟩ := own_slice R.l
  subst hn
  refine ⟨A, c, A', c', L', by rw [hL.len], ?_, hL, M, ?_⟩
  · rw [← hL.len]; exact R
  · rw [← hL.len]; exact hk

theorem refPut (hi : ArInv room l free) (hL : Rel L l) (R : RV w fv Lv free L) (v : Int) {r : List (Option Int) × List Int × Int × Int} (hr : arPut room l free v = r) :
    Calls Try.prog 27 #[.agg #[.int .i64 room, .int .i64 l.length, fv, Lv], .int .i64 v] w (RefPost w fv Lv room ((r.1, r.2.1), ⟨r.2.2.1, 0, false, r.2.2.2⟩)) := by
  unfold arPut at hr
  split at hr
  · subst hr
    refine (refPut_full hi R v (by assumption)).mono ?_
    rintro e w' ⟨rfl, M⟩
    exact RefPost.mk' (r := ((l, free), ⟨0, 0, false, 50⟩)) rfl (R.mod0 M) hL M fun k h => .inl h
  · split at hr
    · rename_i hn
      have : free = [] := by simpa using hn
      subst hr; subst this
      refine (refPut_new hi hL R v (by simp at *; omega)).mono ?_
      rintro e w' ⟨Lv', rfl, R', M, hk⟩
      exact RefPost.mk' (r := ((l ++ [some v], []), ⟨l.length, 0, false, 0⟩)) (by simp) R' (hL.push v) M fun k h => by
        rcases h with h | h
        · exact .inl (.inl h)
        · exact .inr (hk k h)
    · rename_i i hn
      subst hr
      obtain ⟨f', rfl⟩ : ∃ f', free = f' ++ [i] := ⟨free.dropLast, by
        have hne : free ≠ [] := by rintro rfl; simp at hn
        rw [List.getLast?_eq_some_getLast hne] at hn
        injection hn with hn
        rw [← hn, List.dropLast_concat_getLast]⟩
      obtain ⟨k, rfl, _⟩ := (hi.mem i).1 (by simp)
      refine (refPut_old hi hL R v).mono ?_
      rintro e w' ⟨fv', Lv', rfl, R', M, hk, hf⟩
      rw [List.dropLast_concat, Int.toNat_natCast]
      exact RefPost.mk' (r := ((l.set k (some v), f'), ⟨k, 0, false, 0⟩)) (by simp) R' (hL.set k v) M fun k h => by
        rcases h with h | h
        · exact .inl (.inl (hf ▸ h))
        · exact .inr (hk k h)
end
end Go.Proofs.Bo
