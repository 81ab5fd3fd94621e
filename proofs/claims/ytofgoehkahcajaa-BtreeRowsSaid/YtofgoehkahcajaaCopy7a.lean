import Derived.Test.YtofgoehkahcajaaArG
import Derived.Test.YtofgoehkahcajaaSlClone
import Derived.Deep.RegionHeld3
import Derived.Laws.Cover3
set_option linter.unusedVariables false
set_option linter.unusedSimpArgs false
namespace Go.Proofs.Bo
open Go Go.RowKit
section
variable {w : World} {ab : Nat} {lv fv : Value} {room : Int} {l : List (Option Bn)} {free : List Int}

/-- What a copy of a row is. -/
def CloneQ (t : TypeId) (size : Nat) (w : World) (n : Nat) (xs : List Value) (e : Ending) (w' : World) : Prop :=
  ∃ A c, e = .returned (.slice A n c) ∧ w'.ownsRow 0 t size (.slice A n c) n xs ∧ Mod (fun _ => False) w w' ∧ ∀ k, (Value.slice A n c).ownBlock = some k → w.heap.size ≤ k

set_option maxHeartbeats 400000 in
theorem clonePB {v : Value} {n : Nat} {xs : List Value} (h : w.ownsRow 0 128 3 v n xs) (h1 : ∀ u ∈ xs, u.oneCell' = true) (hn : n ≤ 65536) : Calls Try.prog 87 #[v] w (CloneQ 128 3 w n xs) := by
  rcases h.2 with ⟨rfl, rfl⟩ | ⟨g, cap, cur, rfl, _, _, _⟩
  · have hx : xs = [] := List.eq_nil_of_length_eq_zero (by simpa using h.1)
    subst hx
    have E : (binOp .eql 113 (.slice none 0 0) (.slice none 0 0)).run Try.prog w = .ok (.bool true) w := run_eql_slice_nil w _ _ _ _ _ Try.underlying113
    go_enter Try.func87, Try.ntmps87
    go_wp2
    go_ret
    exact ⟨none, 0, rfl, World.ownsRow_nil _ _ _ _, Mod.refl _ _, by intro k e; cases e⟩
  · have E : (binOp .eql 113 (.slice (some ⟨g, 0, none⟩) n cap) (.slice none 0 0)).run Try.prog w = .ok (.bool false) w := run_eql_slice_nil w _ _ _ _ _ Try.underlying113
    go_enter Try.func87, Try.ntmps87
    go_wp2_with (at_builtin; refine app_copy (.slice (some ⟨g, 0, none⟩) n cap) n xs (.tmp 5) (.tmp 6) 113 128 (.agg #[.slice none 0 0, .slice none 0 0, .bool false]) 3 56 rfl rfl Try.underlying113 infoPB rfl (by omega) (by omega) (by simp [Act.eval]) (by simp [Act.eval]) h h1 (by omega) ?_)
    intro v1 w1 hown m1 hb1
    obtain ⟨A1, cc1, rfl, hA1⟩ := own_slice hown
    go_wp2_with fail
    go_ret
    exact ⟨_, _, rfl, hown, m1, hb1⟩

set_option maxHeartbeats 400000 in
theorem cloneIB {v : Value} {n : Nat} {xs : List Value} (h : w.ownsRow 0 3 1 v n xs) (h1 : ∀ u ∈ xs, u.oneCell' = true) (hn : n ≤ 65536) : Calls Try.prog 72 #[v] w (CloneQ 3 1 w n xs) := by
  rcases h.2 with ⟨rfl, rfl⟩ | ⟨g, cap, cur, rfl, _, _, _⟩
  · have hx : xs = [] := List.eq_nil_of_length_eq_zero (by simpa using h.1)
    subst hx
    have E : (binOp .eql 78 (.slice none 0 0) (.slice none 0 0)).run Try.prog w = .ok (.bool true) w := run_eql_slice_nil w _ _ _ _ _ Try.underlying78
    go_enter Try.func72, Try.ntmps72
    go_wp2
    go_ret
    exact ⟨none, 0, rfl, World.ownsRow_nil _ _ _ _, Mod.refl _ _, by intro k e; cases e⟩
  · have E : (binOp .eql 78 (.slice (some ⟨g, 0, none⟩) n cap) (.slice none 0 0)).run Try.prog w = .ok (.bool false) w := run_eql_slice_nil w _ _ _ _ _ Try.underlying78
    go_enter Try.func72, Try.ntmps72
    go_wp2_with (at_builtin; refine app_copy (.slice (some ⟨g, 0, none⟩) n cap) n xs (.tmp 5) (.tmp 6) 78 3 (.int .i64 0) 1 8 rfl rfl Try.underlying78 infoIB rfl (by omega) (by omega) (by simp [Act.eval]) (by simp [Act.eval]) h h1 (by omega) ?_)
    intro v1 w1 hown m1 hb1
    obtain ⟨A1, cc1, rfl, hA1⟩ := own_slice hown
    go_wp2_with fail
    go_ret
    exact ⟨_, _, rfl, hown, m1, hb1⟩

theorem encPB_one (p : Option Bn) : ∀ u ∈ encP encBn zBn p, u.oneCell' = true := by
  cases p <;> simp [encP, encBn, zBn, Value.oneCell']

set_option maxHeartbeats 1000000 in
theorem copyB (h : ArB w ab lv fv room l free) :
    Calls Try.prog 68 #[.pointer (some ⟨ab, 0, none⟩)] w fun e w' => ∃ nb lv' fv', e = .returned (.pointer (some ⟨nb, 0, none⟩)) ∧ ArB w' nb lv' fv' room l free ∧ (∀ k, Foot nb lv' fv' k → w.heap.size ≤ k) ∧ Mod (fun _ => False) w w' := by
  obtain ⟨A, c, rfl, _, _, _⟩ := own_slice h.row
  obtain ⟨A', c', rfl, _, _, _⟩ := own_slice h.fre
  obtain ⟨b1, b2⟩ := h.flen
  obtain ⟨c0, f0⟩ := blkc h.blk
  have CP : Hid (∀ w', Mod (fun _ => False) w w' → Calls Try.prog 87 #[.slice A l.length c] w' (CloneQ 128 3 w' l.length (l.flatMap (encP encBn zBn)))) := by
    apply hid
    intro w' m
    refine clonePB (own_mod h.row m fun _ _ h => h) (fun u hu => ?_) (by omega)
    obtain ⟨p, _, hp⟩ := List.mem_flatMap.1 hu
    exact encPB_one p u hp
  have CI : Hid (∀ w', Mod (fun _ => False) w w' → Calls Try.prog 72 #[.slice A' free.length c'] w' (CloneQ 3 1 w' free.length (free.map (.int .i64)))) := by
    apply hid
    intro w' m
    exact cloneIB (own_mod h.fre m fun _ _ h => h) (fun u hu => by obtain ⟨p, _, rfl⟩ := List.mem_map.1 hu; rfl) (by omega)
  have HB := hid h.blk
  go_enter Try.func68, Try.ntmps68
  go_wp2_with fail
  go_region_held3 (fun w' => w'.cell? ⟨ab, 0, none⟩ = some (.int .i64 room) ∧ w'.cell? ⟨ab, 1, none⟩ = some (.slice A l.length c) ∧ w'.cell? ⟨ab, 2, none⟩ = some (.slice A' free.length c')) (first | exact ⟨c3 _ 0, c3 _ 1, c3 _ 2⟩ | exact ⟨c2 0, c2 1, c2 2⟩ | exact ⟨c1 0, c1 1, c1 2⟩ | exact ⟨c0 0, c0 1, c0 2⟩)
    (first
    | (go_at_call 87; refine (CP.out _ ((Mod.refl _ w).drew)).mono ?_; rintro e w1 ⟨A1, n1, rfl, r1, m1, k1⟩; have m1 := m1.of_drew; obtain ⟨c1, f1⟩ := blkc (m1.heap HB.out fun h => h))
    | (go_at_call 72; refine (CI.out _ m1).mono ?_; rintro e w2 ⟨A2, n2, rfl, r2, m2, k2⟩; have hh := m2.heap (m1.heap HB.out fun h => h) fun h => h; obtain ⟨c2, f2⟩ := blkc hh; have c3 := fun o => (blkc ((Below.heap_alloc w2 o _ (blkl hh)).trans hh)).1))
  go_wp2_with fail
  go_ret
  have s1 := m1.size
  have s2 := m2.size
  have M : Mod (fun _ => False) w2 (w2.alloc (.cells #[.int .i64 room, .slice A1 l.length n1, .slice A2 free.length n2] 115)) := (Mod.refl _ _).alloc _
  refine ⟨w2.heap.size, .slice A1 l.length n1, .slice A2 free.length n2, rfl, ⟨alloc_0 _ _, own_mod r1 (m2.trans' M) fun _ _ h => h, own_mod r2 M fun _ _ h => h, h.encl, h.inv⟩, ?_, (m1.trans' m2).trans' M⟩
  rintro k (rfl | e | e)
  · omega
  · exact k1 k e
  · have := k2 k e; omega


end
end Go.Proofs.Bo
