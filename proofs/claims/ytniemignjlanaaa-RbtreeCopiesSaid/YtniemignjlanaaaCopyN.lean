import Derived.Test.YtniemignjlanaaaSmall
import Derived.Deep.RegionHeld3
import Derived.Laws.Cover3
set_option linter.unusedVariables false
namespace Go.Proofs.Bo
open Go Go.RowKit
section
variable {w : World} {ab : Nat} {lv fv : Value} {room : Int} {l : List (Option Nd)} {free : List Int}

/-- What a copy of a row is. -/
def CloneP (t : TypeId) (size : Nat) (w : World) (n : Nat) (xs : List Value) (e : Ending) (w' : World) : Prop :=
  ∃ A c, e = .returned (.slice A n c) ∧ w'.ownsRow 0 t size (.slice A n c) n xs ∧ Mod (fun _ => False) w w' ∧ ∀ k, (Value.slice A n c).ownBlock = some k → w.heap.size ≤ k

theorem run_eql_slice_nil {P : Program} (w : World) (t e : TypeId) (a : Option Addr) (l c : Nat) (h : P.underlying t = some (.slice e)) : (binOp .eql t (.slice a l c) (.slice none 0 0)).run P w = .ok (.bool a.isNone) w := by
  simp only [binOp]
  simp [run_equal_slice_nil w t e a l c h]

set_option maxHeartbeats 400000 in
theorem clonePN {v : Value} {n : Nat} {xs : List Value} (h : w.ownsRow 0 108 10 v n xs) (h1 : ∀ u ∈ xs, u.oneCell' = true) (hn : n ≤ 65536) : Calls Try.prog 81 #[v] w (CloneP 108 10 w n xs) := by
  rcases h.2 with ⟨rfl, rfl⟩ | ⟨g, cap, cur, rfl, _, _, _⟩
  · have hx : xs = [] := List.eq_nil_of_length_eq_zero (by simpa using h.1)
    subst hx
    have E : (binOp .eql 101 (.slice none 0 0) (.slice none 0 0)).run Try.prog w = .ok (.bool true) w := run_eql_slice_nil w _ _ _ _ _ Try.underlying101
    go_enter Try.func81, Try.ntmps81
    go_wp2
    go_ret
    exact ⟨none, 0, rfl, World.ownsRow_nil _ _ _ _, Mod.refl _ _, by intro k e; cases e⟩
  · have E : (binOp .eql 101 (.slice (some ⟨g, 0, none⟩) n cap) (.slice none 0 0)).run Try.prog w = .ok (.bool false) w := run_eql_slice_nil w _ _ _ _ _ Try.underlying101
    go_enter Try.func81, Try.ntmps81
    go_wp2_with (at_builtin; refine app_copy (.slice (some ⟨g, 0, none⟩) n cap) n xs (.tmp 5) (.tmp 6) 101 108 (.agg #[.int .i64 0, .int .i64 0, .int .i64 0, .int .i64 0, .int .i64 0, .int .i64 0, .int .i64 0, .int .i64 0, .bool false, .bool false]) 10 80 rfl rfl Try.underlying101 infoPN rfl (by omega) (by omega) (by simp [Act.eval]) (by simp [Act.eval]) h h1 (by omega) ?_)
    intro v1 w1 hown m1 hb1
    obtain ⟨A1, cc1, rfl, hA1⟩ := own_slice hown
    go_wp2_with fail
    go_ret
    exact ⟨_, _, rfl, hown, m1, hb1⟩

set_option maxHeartbeats 400000 in
theorem cloneIN {v : Value} {n : Nat} {xs : List Value} (h : w.ownsRow 0 3 1 v n xs) (h1 : ∀ u ∈ xs, u.oneCell' = true) (hn : n ≤ 65536) : Calls Try.prog 82 #[v] w (CloneP 3 1 w n xs) := by
  rcases h.2 with ⟨rfl, rfl⟩ | ⟨g, cap, cur, rfl, _, _, _⟩
  · have hx : xs = [] := List.eq_nil_of_length_eq_zero (by simpa using h.1)
    subst hx
    have E : (binOp .eql 102 (.slice none 0 0) (.slice none 0 0)).run Try.prog w = .ok (.bool true) w := run_eql_slice_nil w _ _ _ _ _ Try.underlying102
    go_enter Try.func82, Try.ntmps82
    go_wp2
    go_ret
    exact ⟨none, 0, rfl, World.ownsRow_nil _ _ _ _, Mod.refl _ _, by intro k e; cases e⟩
  · have E : (binOp .eql 102 (.slice (some ⟨g, 0, none⟩) n cap) (.slice none 0 0)).run Try.prog w = .ok (.bool false) w := run_eql_slice_nil w _ _ _ _ _ Try.underlying102
    go_enter Try.func82, Try.ntmps82
    go_wp2_with (at_builtin; refine app_copy (.slice (some ⟨g, 0, none⟩) n cap) n xs (.tmp 5) (.tmp 6) 102 3 (.int .i64 0) 1 8 rfl rfl Try.underlying102 infoIn rfl (by omega) (by omega) (by simp [Act.eval]) (by simp [Act.eval]) h h1 (by omega) ?_)
    intro v1 w1 hown m1 hb1
    obtain ⟨A1, cc1, rfl, hA1⟩ := own_slice hown
    go_wp2_with fail
    go_ret
    exact ⟨_, _, rfl, hown, m1, hb1⟩

theorem encPN_one (p : Option Nd) : ∀ u ∈ encP encNd zNd p, u.oneCell' = true := by
  cases p <;> simp [encP, encNd, zNd, Value.oneCell']

set_option maxHeartbeats 1000000 in
theorem copyN (h : ArN w ab lv fv room l free) :
    Calls Try.prog 66 #[.pointer (some ⟨ab, 0, none⟩)] w fun e w' => ∃ nb lv' fv', e = .returned (.pointer (some ⟨nb, 0, none⟩)) ∧ ArN w' nb lv' fv' room l free ∧ (∀ k, Foot nb lv' fv' k → w.heap.size ≤ k) ∧ Mod (fun _ => False) w w' := by
  obtain ⟨A, c, rfl, _, _, _⟩ := own_slice h.row
  obtain ⟨A', c', rfl, _, _, _⟩ := own_slice h.fre
  obtain ⟨b1, b2⟩ := h.flen
  obtain ⟨c0, f0⟩ := blkc h.blk
  have CP : Hid (∀ w', Mod (fun _ => False) w w' → Calls Try.prog 81 #[.slice A l.length c] w' (CloneP 108 10 w' l.length (l.flatMap (encP encNd zNd)))) := by
    apply hid
    intro w' m
    refine clonePN (own_mod h.row m fun _ _ h => h) (fun u hu => ?_) (by omega)
    obtain ⟨p, _, hp⟩ := List.mem_flatMap.1 hu
    exact encPN_one p u hp
  have CI : Hid (∀ w', Mod (fun _ => False) w w' → Calls Try.prog 82 #[.slice A' free.length c'] w' (CloneP 3 1 w' free.length (free.map (.int .i64)))) := by
    apply hid
    intro w' m
    exact cloneIN (own_mod h.fre m fun _ _ h => h) (fun u hu => by obtain ⟨p, _, rfl⟩ := List.mem_map.1 hu; rfl) (by omega)
  have HB := hid h.blk
  go_enter Try.func66, Try.ntmps66
  go_wp2_with fail
  go_region_held3 (fun w' => w'.cell? ⟨ab, 0, none⟩ = some (.int .i64 room) ∧ w'.cell? ⟨ab, 1, none⟩ = some (.slice A l.length c) ∧ w'.cell? ⟨ab, 2, none⟩ = some (.slice A' free.length c')) (first | exact ⟨c3 _ 0, c3 _ 1, c3 _ 2⟩ | exact ⟨c2 0, c2 1, c2 2⟩ | exact ⟨c1 0, c1 1, c1 2⟩ | exact ⟨c0 0, c0 1, c0 2⟩)
    (first
    | (go_at_call 81; refine (CP.out _ ((Mod.refl _ w).drew)).mono ?_; rintro e w1 ⟨A1, n1, rfl, r1, m1, k1⟩; have m1 := m1.of_drew; obtain ⟨c1, f1⟩ := blkc (m1.heap HB.out fun h => h))
    | (go_at_call 82; refine (CI.out _ m1).mono ?_; rintro e w2 ⟨A2, n2, rfl, r2, m2, k2⟩; have hh := m2.heap (m1.heap HB.out fun h => h) fun h => h; obtain ⟨c2, f2⟩ := blkc hh; have c3 := fun o => (blkc ((Below.heap_alloc w2 o _ (blkl hh)).trans hh)).1))
  go_wp2_with fail
  go_ret
  have s1 := m1.size
  have s2 := m2.size
  have M : Mod (fun _ => False) w2 (w2.alloc (.cells #[.int .i64 room, .slice A1 l.length n1, .slice A2 free.length n2] 104)) := (Mod.refl _ _).alloc _
  refine ⟨w2.heap.size, .slice A1 l.length n1, .slice A2 free.length n2, rfl, ⟨alloc_0 _ _, own_mod r1 (m2.trans' M) fun _ _ h => h, own_mod r2 M fun _ _ h => h, h.encl, h.inv⟩, ?_, (m1.trans' m2).trans' M⟩
  rintro k (rfl | e | e)
  · omega
  · exact k1 k e
  · have := k2 k e; omega


set_option maxHeartbeats 1000000 in
theorem copyTZ {tb N : Nat} {t : T} (h : TS w tb ab lv fv room N free t) :
    Calls Try.prog 38 #[.pointer (some ⟨tb, 0, none⟩)] w fun e w' => ∃ nt nb lv' fv', e = .returned (.pointer (some ⟨nt, 0, none⟩)) ∧ TS w' nt nb lv' fv' room N free t ∧ (∀ k, TF nt nb lv' fv' k → w.heap.size ≤ k) ∧ Mod (fun _ => False) w w' := by
  obtain ⟨root, σ, m, hh, hN⟩ := h
  obtain ⟨c0, f0⟩ := blkc m.t
  have CP : Hid (∀ w', Mod (fun _ => False) w w' → Calls Try.prog 66 #[.pointer (some ⟨ab, 0, none⟩)] w' fun e w2 => ∃ nb lv' fv', e = .returned (.pointer (some ⟨nb, 0, none⟩)) ∧ ArN w2 nb lv' fv' room σ free ∧ (∀ k, Foot nb lv' fv' k → w'.heap.size ≤ k) ∧ Mod (fun _ => False) w' w2) :=
    hid fun w' m' => copyN (m.a.mod m' fun _ _ h => h)
  have HB := hid m.t
  go_enter Try.func38, Try.ntmps38
  go_wp2_with fail
  go_region_held3 (fun w' => w'.cell? ⟨tb, 0, none⟩ = some (.pointer (some ⟨ab, 0, none⟩)) ∧ w'.cell? ⟨tb, 1, none⟩ = some (.int .i64 root)) (first | exact ⟨c2 _ 0, c2 _ 1⟩ | exact ⟨c1 0, c1 1⟩ | exact ⟨c0 0, c0 1⟩)
    ((go_at_call 66; refine (CP.out _ ((Mod.refl _ w).drew)).mono ?_; rintro e w1 ⟨nb, lv', fv', rfl, r1, k1, m1⟩; have m1 := m1.of_drew; have hh1 := m1.heap HB.out fun h => h; obtain ⟨c1, f1⟩ := blkc hh1; have c2 := fun o => (blkc ((Below.heap_alloc w1 o _ (blkl hh1)).trans hh1)).1))
  go_wp2_with fail
  go_ret
  have s1 := m1.size
  have M : Mod (fun _ => False) w1 (w1.alloc (.cells #[.pointer (some ⟨nb, 0, none⟩), .int .i64 root] 76)) := (Mod.refl _ _).alloc _
  refine ⟨w1.heap.size, nb, lv', fv', rfl, ⟨root, σ, ⟨alloc_0 _ _, r1.mod M fun _ _ h => h⟩, hh, hN⟩, ?_, m1.trans' M⟩
  rintro k (rfl | e)
  · exact s1
  · exact k1 k e
end
end Go.Proofs.Bo
