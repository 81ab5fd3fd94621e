import Derived.Test.YtniemignjlanaaaCheck
import Derived.Test.YtniemignjlanaaaDel
set_option linter.unusedVariables false
namespace Go.Proofs.Bo
open Go Go.RowKit

theorem Row.filter {l : List Sg} (h : Row l) (p : Sg → Bool) : Row (l.filter p) := ⟨h.1.sublist List.filter_sublist, fun s hs => h.2 s (List.mem_filter.1 hs).1⟩
theorem del_none {k : Int} {l : List Sg} (h : hasK k l = false) : delL k l = l := by
  unfold delL hasK at *
  rw [List.filter_eq_self]
  intro x hx
  simp only [List.any_eq_false] at h
  simpa using h x hx
theorem Row.ins {l : List Sg} (h : Row l) {s : Sg} (hs : KeyOK s) : Row (insL s l) := by
  unfold insL
  refine ⟨List.pairwise_append.2 ⟨h.1.sublist List.filter_sublist, List.pairwise_cons.2 ⟨fun x hx => by simpa using (List.mem_filter.1 hx).2, h.1.sublist List.filter_sublist⟩, fun a ha b hb => ?_⟩, fun x hx => ?_⟩
  · have h1 : ky a < ky s := by simpa using (List.mem_filter.1 ha).2
    rcases List.mem_cons.1 hb with rfl | hb
    · exact h1
    · have h2 : ky s < ky b := by simpa using (List.mem_filter.1 hb).2
      omega
  · rcases List.mem_append.1 hx with hx | hx
    · exact h.2 x (List.mem_filter.1 hx).1
    · rcases List.mem_cons.1 hx with rfl | hx
      · exact hs
      · exact h.2 x (List.mem_filter.1 hx).1
theorem can_pos {s a : Int} (h : canS s a = s ∧ canA s a = a) (hs : 0 < s) : s = 1 ∧ a = 0 := by
  unfold canS canA at h
  grind

section
variable {w w' : World} {tb : Nat} {room : Int} {l : List Sg} {X : Nat → Prop}

theorem rb_bound (h : RB X w tb room l) : (l.length : Int) ≤ room ∧ room ≤ 65536 := by
  obtain ⟨ab, N, lv, fv, free, t, h1, h2, h3, rfl, h5⟩ := h
  have := h1.bound
  rw [size_toL]; omega
theorem rb_row (h : RB X w tb room l) : Row l := by
  obtain ⟨ab, N, lv, fv, free, t, h1, h2, h3, rfl, h5⟩ := h
  exact h2

theorem rb_put (h : RB X w tb room l) (s : Sg) (hf : fit64 s.la) : Calls Try.prog 14 #[.pointer (some ⟨tb, 0, none⟩), .agg (encS s).toArray] w fun e w' => PutP X w tb room l s e w' := by
  have h0 := h
  obtain ⟨ab, N, lv, fv, free, t, h1, h2, h3, rfl, h5⟩ := h
  have hgrow : ∀ {w' : World} {L : List Sg}, Row L → Mod (TF tb ab lv fv) w w' → (∃ lv' fv' N' free' t', TS w' tb ab lv' fv' room N' free' t' ∧ Fine t' ∧ t'.toL = L ∧ ∀ b, TF tb ab lv' fv' b → TF tb ab lv fv b ∨ w.heap.size ≤ b) →
      RB (fun k => X k ∨ w.heap.size ≤ k) w' tb room L ∧ Mod X w w' := by
    rintro w' L hL hm ⟨lv', fv', N', free', t', T1, T2, T3, T4⟩
    exact ⟨⟨ab, N', lv', fv', free', t', T1, by rw [T3]; exact hL, T2, T3, fun k hk => (T4 k hk).imp (h5 k) id⟩, hm.mono fun i hi => .inl (h5 i hi)⟩
  have hsame : ∀ {w' : World}, Mod (fun _ => False) w w' → RB (fun k => X k ∨ w.heap.size ≤ k) w' tb room t.toL ∧ Mod X w w' := fun m =>
    ⟨(h0.mod0 m).mono fun k hk _ => .inl hk, m.mono fun _ h => h.elim⟩
  unfold PutP putE putL
  by_cases hc : canS s.ls s.la = s.ls ∧ canA s.ls s.la = s.la
  · by_cases hs : 0 < s.ls
    · have hk : okB s = false := decide_eq_false fun h => by have := h.2.2; omega
      rw [hk]
      refine (putZ_arg2 s (can_pos hc hs) w tb).mono ?_
      rintro e w' ⟨rfl, hm⟩
      exact ⟨rfl, hsame hm⟩
    · have hk' : okKey s.ls s.la := ⟨hc.1, hc.2, by omega⟩
      have hk : okB s = true := by unfold okB; simpa using hk'
      rw [hk]
      simp only [if_true]
      by_cases ho : hasK (ky s) t.toL = true
      · rw [ho]
        refine (putZ_old h1 h2 h3 s hk' hf ho).mono ?_
        rintro e w' ⟨rfl, t', T1, T2, T3, hm⟩
        exact ⟨rfl, hgrow (h2.ins ⟨hk', hf⟩) hm ⟨_, _, _, _, _, T1, T2, T3, fun b hb => .inl hb⟩⟩
      · replace ho : hasK (ky s) t.toL = false := by simpa using ho
        rw [ho]
        simp only [Bool.false_eq_true, if_false]
        by_cases hz : room ≤ t.size
        · rw [if_pos (by rw [size_toL]; exact hz), if_pos (by rw [size_toL]; exact hz)]
          refine (putZ_full h1 h2 h3 s hk' hf ho hz).mono ?_
          rintro e w' ⟨rfl, hm⟩
          exact ⟨rfl, hsame hm⟩
        · rw [if_neg (by rw [size_toL]; exact hz), if_neg (by rw [size_toL]; exact hz)]
          refine (putZ_new h1 h2 h3 s hk' hf ho (by omega)).mono ?_
          rintro e w' ⟨rfl, lv', fv', N', free', t', T1, T2, T3, hm, T4⟩
          exact ⟨rfl, hgrow (h2.ins ⟨hk', hf⟩) hm ⟨_, _, _, _, _, T1, T2, T3, T4⟩⟩
  · have hk : okB s = false := decide_eq_false fun h => hc ⟨h.1, h.2.1⟩
    rw [hk]
    refine (putZ_arg1 s hc w tb).mono ?_
    rintro e w' ⟨rfl, hm⟩
    exact ⟨rfl, hsame hm⟩

def DelP (X : Nat → Prop) (w : World) (tb : Nat) (room : Int) (l : List Sg) (k : Int) (e : Ending) (w' : World) : Prop :=
  e = .returned (.bool (hasK k l)) ∧ RB (fun k => X k ∨ w.heap.size ≤ k) w' tb room (delL k l) ∧ Mod X w w'
theorem rb_del (h : RB X w tb room l) (cs ca : Int) (hf : fit64 ca) : Calls Try.prog 16 #[.pointer (some ⟨tb, 0, none⟩), .agg #[.int .i64 cs, .int .i64 ca]] w fun e w' => DelP X w tb room l (kx cs ca) e w' := by
  have h0 := h
  obtain ⟨ab, N, lv, fv, free, t, h1, h2, h3, rfl, h5⟩ := h
  unfold DelP
  by_cases ho : hasK (kx cs ca) t.toL = true
  · rw [ho]
    refine (delZ_yes h1 h2 h3 cs ca hf ho).mono ?_
    rintro e w' ⟨rfl, lv', fv', N', free', t', T1, T2, T3, hm, T4⟩
    exact ⟨rfl, ⟨ab, N', lv', fv', free', t', T1, by rw [T3]; exact h2.filter _, T2, T3, fun k hk => (T4 k hk).imp (h5 k) id⟩, hm.mono fun i hi => .inl (h5 i hi)⟩
  · replace ho : hasK (kx cs ca) t.toL = false := by simpa using ho
    rw [ho, del_none ho]
    refine (delZ_no h1 h2 cs ca hf ho).mono ?_
    rintro e w' ⟨rfl, hm⟩
    exact ⟨rfl, (h0.mod0 hm).mono fun k hk _ => .inl hk, hm.mono fun _ h => h.elim⟩
theorem rb_clear (h : RB X w tb room l) : Calls Try.prog 59 #[.pointer (some ⟨tb, 0, none⟩)] w fun e w' => e = .returned (.tuple #[]) ∧ RB (fun k => X k ∨ w.heap.size ≤ k) w' tb room [] ∧ Mod X w w' := by
  obtain ⟨ab, N, lv, fv, free, t, h1, h2, h3, rfl, h5⟩ := h
  refine (clearTZ h1).mono ?_
  rintro e w' ⟨rfl, T1, hm⟩
  refine ⟨rfl, ⟨ab, 0, _, _, [], .E, T1, row_nil, fine_E, rfl, fun k hk => ?_⟩, hm.mono fun i hi => .inl (h5 i hi)⟩
  refine .inl (h5 k ?_)
  rcases hk with hk | hk | hk | hk
  · exact .inl hk
  · exact .inr (.inl hk)
  · cases hk
  · cases hk

theorem rb_len (h : RB X w tb room l) : Calls Try.prog 23 #[.pointer (some ⟨tb, 0, none⟩)] w fun e w' => e = .returned (.int .i64 l.length) ∧ Mod (fun _ => False) w w' := by
  obtain ⟨ab, N, lv, fv, free, t, h1, h2, h3, rfl, h5⟩ := h
  rw [size_toL]; exact lenTZ h1
theorem rb_room (h : RB X w tb room l) : Calls Try.prog 27 #[.pointer (some ⟨tb, 0, none⟩)] w fun e w' => e = .returned (.int .i64 room) ∧ Mod (fun _ => False) w w' := by
  obtain ⟨ab, N, lv, fv, free, t, h1, h2, h3, rfl, h5⟩ := h
  exact roomTZ h1
theorem rb_check (h : RB X w tb room l) : Calls Try.prog 17 #[.pointer (some ⟨tb, 0, none⟩)] w fun e w' => e = .returned (.bool true) ∧ Mod (fun _ => False) w w' := by
  obtain ⟨ab, N, lv, fv, free, t, h1, h2, h3, rfl, h5⟩ := h
  cases t with
  | E => exact checkZ_E h1
  | N i b s l r => exact checkZ_N h1 (by simp) h2 h3
theorem rb_floor (h : RB X w tb room l) (cs ca : Int) (hf : fit64 ca) : Calls Try.prog 29 #[.pointer (some ⟨tb, 0, none⟩), .agg #[.int .i64 cs, .int .i64 ca]] w fun e w' => e = .returned (optS (nearS false true (kx cs ca) l)) ∧ Mod (fun _ => False) w w' := by
  obtain ⟨ab, N, lv, fv, free, t, h1, h2, h3, rfl, h5⟩ := h
  exact floorTZ h1 h2 hf
theorem rb_lower (h : RB X w tb room l) (cs ca : Int) (hf : fit64 ca) : Calls Try.prog 31 #[.pointer (some ⟨tb, 0, none⟩), .agg #[.int .i64 cs, .int .i64 ca]] w fun e w' => e = .returned (optS (nearS false false (kx cs ca) l)) ∧ Mod (fun _ => False) w w' := by
  obtain ⟨ab, N, lv, fv, free, t, h1, h2, h3, rfl, h5⟩ := h
  exact lowerTZ h1 h2 hf
theorem rb_ceil (h : RB X w tb room l) (cs ca : Int) (hf : fit64 ca) : Calls Try.prog 32 #[.pointer (some ⟨tb, 0, none⟩), .agg #[.int .i64 cs, .int .i64 ca]] w fun e w' => e = .returned (optS (nearS true true (kx cs ca) l)) ∧ Mod (fun _ => False) w w' := by
  obtain ⟨ab, N, lv, fv, free, t, h1, h2, h3, rfl, h5⟩ := h
  exact ceilTZ h1 h2 hf
theorem rb_high (h : RB X w tb room l) (cs ca : Int) (hf : fit64 ca) : Calls Try.prog 30 #[.pointer (some ⟨tb, 0, none⟩), .agg #[.int .i64 cs, .int .i64 ca]] w fun e w' => e = .returned (optS (nearS true false (kx cs ca) l)) ∧ Mod (fun _ => False) w w' := by
  obtain ⟨ab, N, lv, fv, free, t, h1, h2, h3, rfl, h5⟩ := h
  exact highTZ h1 h2 hf
theorem rb_get (h : RB X w tb room l) (cs ca : Int) (hf : fit64 ca) : Calls Try.prog 33 #[.pointer (some ⟨tb, 0, none⟩), .agg #[.int .i64 cs, .int .i64 ca]] w fun e w' => e = .returned (optS (getS (kx cs ca) l)) ∧ Mod (fun _ => False) w w' := by
  obtain ⟨ab, N, lv, fv, free, t, h1, h2, h3, rfl, h5⟩ := h
  exact getZ h1 h2 cs ca hf
theorem rb_first (h : RB X w tb room l) : Calls Try.prog 36 #[.pointer (some ⟨tb, 0, none⟩)] w fun e w' => e = .returned (optS l.head?) ∧ Mod (fun _ => False) w w' := by
  obtain ⟨ab, N, lv, fv, free, t, h1, h2, h3, rfl, h5⟩ := h
  exact firstTZ h1
theorem rb_last (h : RB X w tb room l) : Calls Try.prog 37 #[.pointer (some ⟨tb, 0, none⟩)] w fun e w' => e = .returned (optS l.getLast?) ∧ Mod (fun _ => False) w w' := by
  obtain ⟨ab, N, lv, fv, free, t, h1, h2, h3, rfl, h5⟩ := h
  exact lastTZ h1

/-- A height that a row's tree may have. -/
def HgtOK (l : List Sg) (h : Nat) : Prop := ∃ t : T, t.toL = l ∧ Fine t ∧ t.height = h
theorem HgtOK.bound {h : Nat} {k : Nat} (hh : HgtOK l h) (hk : l.length + 1 < 2 ^ k) : h ≤ 2 * k := by
  obtain ⟨t, rfl, ⟨hr, n, hn⟩, rfl⟩ := hh
  have := rbt_height t n hn
  rw [hr] at this
  rw [size_toL] at hk
  have h2 : n < k := (Nat.pow_lt_pow_iff_right (by omega : 1 < 2)).1 (Nat.lt_of_le_of_lt this.2 hk)
  simp only [Bool.false_eq_true, if_false] at this
  omega
theorem HgtOK.zero {h : Nat} (hh : HgtOK l h) : h = 0 ↔ l.length = 0 := by
  obtain ⟨t, rfl, _, rfl⟩ := hh
  rw [size_toL]
  cases t <;> simp [T.height, T.size]
theorem HgtOK.le {h : Nat} (hh : HgtOK l h) : h ≤ 2 * l.length + 2 := hh.bound (by have := Nat.lt_two_pow_self (n := l.length + 1); exact this)
theorem rb_height (h : RB X w tb room l) : Calls Try.prog 21 #[.pointer (some ⟨tb, 0, none⟩)] w fun e w' => ∃ k : Nat, HgtOK l k ∧ e = .returned (.int .i64 k) ∧ Mod (fun _ => False) w w' := by
  obtain ⟨ab, N, lv, fv, free, t, h1, h2, h3, rfl, h5⟩ := h
  exact (heightZ h1).mono fun e w' ⟨a, b⟩ => ⟨_, ⟨t, rfl, h3, rfl⟩, a, b⟩
theorem rb_new (h0 : 0 ≤ room) (h1 : room ≤ 4096) (w : World) : Calls Try.prog 10 #[.int .i64 room] w fun e w' => ∃ tb, e = .returned (.tuple #[.pointer (some ⟨tb, 0, none⟩), .int .i64 0]) ∧ RB (fun k => w.heap.size ≤ k) w' tb room [] ∧ w.heap.size ≤ tb ∧ Mod (fun _ => False) w w' := by
  refine (newTZ room h0 h1 w).mono ?_
  rintro e w' ⟨tb, rfl, T1, hz, hm⟩
  refine ⟨tb, rfl, ⟨_, _, _, _, _, _, T1, row_nil, fine_E, rfl, fun k hk => ?_⟩, hz, hm⟩
  rcases hk with rfl | rfl | hk | hk
  · exact hz
  · exact Nat.le_refl _
  · cases hk
  · cases hk
end
end Go.Proofs.Bo
