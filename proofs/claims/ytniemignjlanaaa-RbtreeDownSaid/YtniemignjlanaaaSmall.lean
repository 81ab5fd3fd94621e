import Derived.Test.YtniemignjlanaaaHeight
set_option linter.unusedVariables false
namespace Go.Proofs.Bo
open Go Go.RowKit

section
variable {w w' : World} {tb ab N : Nat} {lv fv : Value} {room : Int} {free : List Int} {t : T}

theorem lenTZ (h : TS w tb ab lv fv room N free t) : Calls Try.prog 23 #[.pointer (some ⟨tb, 0, none⟩)] w fun e w' => e = .returned (.int .i64 t.size) ∧ Mod (fun _ => False) w w' := by
  obtain ⟨d1, d2, _⟩ := h.root
  obtain ⟨root, σ, m, hh, _⟩ := h
  have P := lenN m.a
  rw [← hh.count m.a.inv] at P
  clear m hh
  go_enter Try.func23, Try.ntmps23
  go_wp2_with fail
  refine P.mono ?_; rintro e w' ⟨rfl, n, rfl⟩
  go_wp2_with fail
  go_ret
  exact ⟨rfl, (Mod.refl _ _).drewN n⟩
theorem roomTZ (h : TS w tb ab lv fv room N free t) : Calls Try.prog 27 #[.pointer (some ⟨tb, 0, none⟩)] w fun e w' => e = .returned (.int .i64 room) ∧ Mod (fun _ => False) w w' := by
  obtain ⟨d1, d2, _⟩ := h.root
  obtain ⟨root, σ, m, hh, _⟩ := h
  have P := roomN m.a
  clear m hh
  go_enter Try.func27, Try.ntmps27
  go_wp2_with fail
  refine P.mono ?_; rintro e w' ⟨rfl, hw⟩; subst hw
  go_wp2_with fail
  go_ret
  exact ⟨rfl, Mod.refl _ _⟩

theorem fine_E : Fine .E := ⟨rfl, 0, rfl⟩
theorem row_nil : Row [] := ⟨.nil, by simp⟩
theorem holds_nil : Holds [] (-1) .E := ⟨rfl, trivial, .nil, by intro k n h; unfold nod at h; split at h <;> simp at h⟩

theorem clearTZ (h : TS w tb ab lv fv room N free t) : Calls Try.prog 59 #[.pointer (some ⟨tb, 0, none⟩)] w fun e w' => e = .returned (.tuple #[]) ∧ TS w' tb ab (.slice none 0 0) (.slice none 0 0) room 0 [] .E ∧ Mod (TF tb ab lv fv) w w' := by
  obtain ⟨d1, d2, _⟩ := h.root
  obtain ⟨root, σ, m, hh, _⟩ := h
  have P := resetN m.a
  have hne := m.ne
  have ht := m.t
  clear m hh
  go_enter Try.func59, Try.ntmps59
  go_wp2_with fail
  refine P.mono ?_; rintro e w1 ⟨rfl, A1, M1⟩
  have m1 : TM w1 tb ab (.slice none 0 0) (.slice none 0 0) room root [] [] := ⟨M1.heap ht hne, A1⟩
  obtain ⟨T2, M2⟩ := m1.setRoot (-1)
  obtain ⟨q1, q2⟩ := blkc m1.t
  clear P d1 d2 A1 m1
  go_wp2_with fail
  go_end0
  exact ⟨rfl, ⟨_, _, T2, holds_nil, rfl⟩, (M1.mono fun _ h => .inl (.inr h)).trans M2 fun i h => .inl (.inl h)⟩

theorem newTZ_no (room : Int) (hr : room < 0 ∨ 4096 < room) (w : World) : Calls Try.prog 10 #[.int .i64 room] w fun e w' => e = .returned (.tuple #[.pointer none, .int .i64 1]) ∧ w' = w := by
  rcases hr with hr | hr
  · go_enter Try.func10, Try.ntmps10
    go_wp2_with fail
    go_ret2
    exact ⟨rfl, rfl⟩
  · have h0 : ¬ room < 0 := by omega
    go_enter Try.func10, Try.ntmps10
    go_wp2_with fail
    go_ret2
    exact ⟨rfl, rfl⟩
theorem newTZ (room : Int) (h0 : 0 ≤ room) (h1 : room ≤ 4096) (w : World) : Calls Try.prog 10 #[.int .i64 room] w fun e w' => ∃ tb, e = .returned (.tuple #[.pointer (some ⟨tb, 0, none⟩), .int .i64 0]) ∧ TS w' tb w.heap.size (.slice none 0 0) (.slice none 0 0) room 0 [] .E ∧ w.heap.size ≤ tb ∧ Mod (fun _ => False) w w' := by
  have P := newN room h0 (by omega) w
  have h2 : ¬ room < 0 := by omega
  have h3 : ¬ 4096 < room := by omega
  clear h0 h1
  go_enter Try.func10, Try.ntmps10
  go_wp2_with fail
  refine P.mono ?_; rintro e w1 ⟨rfl, A1, B1⟩
  clear P
  go_wp2_with fail
  go_ret2
  have hM : Mod (fun _ => False) w1 (w1.alloc (.cells #[.pointer (some ⟨w.heap.size, 0, none⟩), .int .i64 (-1)] 76)) := (Mod.refl _ _).alloc _
  exact ⟨w1.heap.size, rfl, ⟨-1, [], ⟨alloc_0 _ _, A1.mod hM fun _ _ h => h⟩, holds_nil, rfl⟩, B1.size, (Mod.of_below B1).trans' hM⟩
end
end Go.Proofs.Bo
