import Derived.Test.YtmdeoeppobpjbaaBoth5
import Derived.Deep.RegionHeld3
import Derived.Laws.Cover3
set_option linter.unusedVariables false
namespace Go.Proofs.Bo
open Go Go.RowKit
section
variable {w : World} {ab : Nat} {lv fv : Value} {room : Int} {l : List (Option Int)} {free : List Int}

/-- What a copy of a row is. -/
def CloneP (t : TypeId) (size : Nat) (w : World) (n : Nat) (xs : List Value) (e : Ending) (w' : World) : Prop :=
  ∃ A c, e = .returned (.slice A n c) ∧ w'.ownsRow 0 t size (.slice A n c) n xs ∧ Mod (fun _ => False) w w' ∧ ∀ k, (Value.slice A n c).ownBlock = some k → w.heap.size ≤ k

theorem run_eql_slice_nil {P : Program} (w : World) (t e : TypeId) (a : Option Addr) (l c : Nat) (h : P.underlying t = some (.slice e)) : (binOp .eql t (.slice a l c) (.slice none 0 0)).run P w = .ok (.bool a.isNone) w := by
  simp only [binOp]
  simp [run_equal_slice_nil w t e a l c h]

set_option maxHeartbeats 400000 in
theorem clonePl {v : Value} {n : Nat} {xs : List Value} (h : w.ownsRow 0 64 2 v n xs) (h1 : ∀ u ∈ xs, u.oneCell' = true) (hn : n ≤ 65536) : Calls Try.prog 29 #[v] w (CloneP 64 2 w n xs) := by
  rcases h.2 with ⟨rfl, rfl⟩ | ⟨g, cap, cur, rfl, _, _, _⟩
  · have hx : xs = [] := List.eq_nil_of_length_eq_zero (by simpa using h.1)
    subst hx
    have E : (binOp .eql 60 (.slice none 0 0) (.slice none 0 0)).run Try.prog w = .ok (.bool true) w := run_eql_slice_nil w _ _ _ _ _ Try.underlying60
    go_enter Try.func29, Try.ntmps29
    go_wp2
    go_ret
    exact ⟨none, 0, rfl, World.ownsRow_nil _ _ _ _, Mod.refl _ _, by intro k e; cases e⟩
  · have E : (binOp .eql 60 (.slice (some ⟨g, 0, none⟩) n cap) (.slice none 0 0)).run Try.prog w = .ok (.bool false) w := run_eql_slice_nil w _ _ _ _ _ Try.underlying60
    go_enter Try.func29, Try.ntmps29
    go_wp2_with (at_builtin; refine app_copy (.slice (some ⟨g, 0, none⟩) n cap) n xs (.tmp 5) (.tmp 6) 60 64 (.agg #[.int .i64 0, .bool false]) 2 16 rfl rfl Try.underlying60 infoPI rfl (by omega) (by omega) (by simp [Act.eval]) (by simp [Act.eval]) h h1 (by omega) ?_)
    intro v1 w1 hown m1 hb1
    obtain ⟨A1, cc1, rfl, hA1⟩ := own_slice hown
    go_wp2_with fail
    go_ret
    exact ⟨_, _, rfl, hown, m1, hb1⟩

set_option maxHeartbeats 400000 in
theorem cloneInt {v : Value} {n : Nat} {xs : List Value} (h : w.ownsRow 0 3 1 v n xs) (h1 : ∀ u ∈ xs, u.oneCell' = true) (hn : n ≤ 65536) : Calls Try.prog 30 #[v] w (CloneP 3 1 w n xs) := by
  rcases h.2 with ⟨rfl, rfl⟩ | ⟨g, cap, cur, rfl, _, _, _⟩
  · have hx : xs = [] := List.eq_nil_of_length_eq_zero (by simpa using h.1)
    subst hx
    have E : (binOp .eql 22 (.slice none 0 0) (.slice none 0 0)).run Try.prog w = .ok (.bool true) w := run_eql_slice_nil w _ _ _ _ _ Try.underlying22
    go_enter Try.func30, Try.ntmps30
    go_wp2
    go_ret
    exact ⟨none, 0, rfl, World.ownsRow_nil _ _ _ _, Mod.refl _ _, by intro k e; cases e⟩
  · have E : (binOp .eql 22 (.slice (some ⟨g, 0, none⟩) n cap) (.slice none 0 0)).run Try.prog w = .ok (.bool false) w := run_eql_slice_nil w _ _ _ _ _ Try.underlying22
    go_enter Try.func30, Try.ntmps30
    go_wp2_with (at_builtin; refine app_copy (.slice (some ⟨g, 0, none⟩) n cap) n xs (.tmp 5) (.tmp 6) 22 3 (.int .i64 0) 1 8 rfl rfl Try.underlying22 infoI rfl (by omega) (by omega) (by simp [Act.eval]) (by simp [Act.eval]) h h1 (by omega) ?_)
    intro v1 w1 hown m1 hb1
    obtain ⟨A1, cc1, rfl, hA1⟩ := own_slice hown
    go_wp2_with fail
    go_ret
    exact ⟨_, _, rfl, hown, m1, hb1⟩

theorem encP_one (p : Option Int) : ∀ u ∈ encP encI zI p, u.oneCell' = true := by
  cases p <;> simp [encP, encI, zI, Value.oneCell']

set_option maxHeartbeats 1000000 in
theorem copyI (h : ArI w ab lv fv room l free) :
    Calls Try.prog 23 #[.pointer (some ⟨ab, 0, none⟩)] w fun e w' => ∃ nb, e = .returned (.pointer (some ⟨nb, 0, none⟩)) ∧ ArX (fun k => w.heap.size ≤ k) w' nb room l free ∧ Mod (fun _ => False) w w' := by
  obtain ⟨A, c, rfl, _, _, _⟩ := own_slice h.row
  obtain ⟨A', c', rfl, _, _, _⟩ := own_slice h.fre
  obtain ⟨b1, b2⟩ := h.flen
  obtain ⟨c0, f0⟩ := blkc h.blk
  have CP : Hid (∀ w', Mod (fun _ => False) w w' → Calls Try.prog 29 #[.slice A l.length c] w' (CloneP 64 2 w' l.length (l.flatMap (encP encI zI)))) := by
    apply hid
    intro w' m
    refine clonePl (own_mod h.row m fun _ _ h => h) (fun u hu => ?_) (by omega)
    obtain ⟨p, _, hp⟩ := List.mem_flatMap.1 hu
    exact encP_one p u hp
  have CI : Hid (∀ w', Mod (fun _ => False) w w' → Calls Try.prog 30 #[.slice A' free.length c'] w' (CloneP 3 1 w' free.length (free.map (.int .i64)))) := by
    apply hid
    intro w' m
    exact cloneInt (own_mod h.fre m fun _ _ h => h) (fun u hu => by obtain ⟨p, _, rfl⟩ := List.mem_map.1 hu; rfl) (by omega)
  have HB := hid h.blk
  go_enter Try.func23, Try.ntmps23
  go_wp2_with fail
  go_region_held3 (fun w' => w'.cell? ⟨ab, 0, none⟩ = some (.int .i64 room) ∧ w'.cell? ⟨ab, 1, none⟩ = some (.slice A l.length c) ∧ w'.cell? ⟨ab, 2, none⟩ = some (.slice A' free.length c')) (first | exact ⟨c3 _ 0, c3 _ 1, c3 _ 2⟩ | exact ⟨c2 0, c2 1, c2 2⟩ | exact ⟨c1 0, c1 1, c1 2⟩ | exact ⟨c0 0, c0 1, c0 2⟩)
    (first
    | (go_at_call 29; refine (CP.out _ ((Mod.refl _ w).drew)).mono ?_; rintro e w1 ⟨A1, n1, rfl, r1, m1, k1⟩; have m1 := m1.of_drew; obtain ⟨c1, f1⟩ := blkc (m1.heap HB.out fun h => h))
    | (go_at_call 30; refine (CI.out _ m1).mono ?_; rintro e w2 ⟨A2, n2, rfl, r2, m2, k2⟩; have hh := m2.heap (m1.heap HB.out fun h => h) fun h => h; obtain ⟨c2, f2⟩ := blkc hh; have c3 := fun o => (blkc ((Below.heap_alloc w2 o _ (blkl hh)).trans hh)).1))
  go_wp2_with fail
  go_ret
  have s1 := m1.size
  have s2 := m2.size
  have M : Mod (fun _ => False) w2 (w2.alloc (.cells #[.int .i64 room, .slice A1 l.length n1, .slice A2 free.length n2] 62)) := (Mod.refl _ _).alloc _
  refine ⟨w2.heap.size, rfl, ⟨.slice A1 l.length n1, .slice A2 free.length n2, ⟨alloc_0 _ _, own_mod r1 (m2.trans' M) fun _ _ h => h, own_mod r2 M fun _ _ h => h, h.encl, h.inv⟩, ?_⟩, (m1.trans' m2).trans' M⟩
  rintro k (rfl | e | e)
  · omega
  · exact k1 k e
  · have := k2 k e; omega

theorem copyX {X : Nat → Prop} (h : ArX X w ab room l free) :
    Calls Try.prog 23 #[.pointer (some ⟨ab, 0, none⟩)] w fun e w' => ∃ nb, e = .returned (.pointer (some ⟨nb, 0, none⟩)) ∧ ArX (fun k => w.heap.size ≤ k) w' nb room l free ∧ Mod (fun _ => False) w w' :=
  let ⟨_, _, A, _⟩ := h; copyI A
end
end Go.Proofs.Bo
