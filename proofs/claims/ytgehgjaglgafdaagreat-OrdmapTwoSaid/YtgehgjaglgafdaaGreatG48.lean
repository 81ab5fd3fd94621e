import Derived.Test.YtgehgjaglgafdaaGreatG14
import Derived.Deep.RegionHeld3
import Derived.Laws.Cover3
import Derived.Test.YtgehgjaglgafdaaGreatG24
import Derived.Test.YtgehgjaglgafdaaGreatG19
import Derived.Test.YtgehgjaglgafdaaGreatG07
import Derived.Test.YtgehgjaglgafdaaGreatG33
import Derived.Test.YtgehgjaglgafdaaGreatRoundQ
set_option linter.unusedVariables false
set_option linter.unusedSimpArgs false
namespace Go.Proofs.Bo
open Go Go.RowKit
section
variable {w : World} {ab : Nat} {lv fv : Value} {room : Int} {l : List (Option Nd)} {free : List Int}
def CloneP (t : TypeId) (size : Nat) (w : World) (n : Nat) (xs : List Value) (e : Ending) (w' : World) : Prop :=
 ∃ A c, e = .returned (.slice A n c) ∧ w'.ownsRow 0 t size (.slice A n c) n xs ∧ Mod (fun _ => False) w w' ∧ ∀ k, (Value.slice A n c).ownBlock = some k → w.heap.size ≤ k
set_option maxHeartbeats 400000 in
theorem clonePN {v : Value} {n : Nat} {xs : List Value} (h : w.ownsRow 0 152 10 v n xs) (h1 : ∀ u ∈ xs, u.oneCell' = true) (hn : n ≤ 65536) : Calls Tryz.prog 81 #[v] w (CloneP 152 10 w n xs) := by
 rcases h.2 with ⟨rfl, rfl⟩ | ⟨g, cap, cur, rfl, _, _, _⟩
 ·have hx : xs = [] := List.eq_nil_of_length_eq_zero (by simpa using h.1)
  subst hx
  have E : (binOp .eql 147 (.slice none 0 0) (.slice none 0 0)).run Tryz.prog w = .ok (.bool true) w := run_eql_slice_nil w _ _ _ _ _ Tryz.underlying147
  go_enter Tryz.func81, Tryz.ntmps81
  go_wp2
  go_ret
  exact ⟨none, 0, rfl, World.ownsRow_nil _ _ _ _, Mod.refl _ _, by intro k e; cases e⟩
 ·have E : (binOp .eql 147 (.slice (some ⟨g, 0, none⟩) n cap) (.slice none 0 0)).run Tryz.prog w = .ok (.bool false) w := run_eql_slice_nil w _ _ _ _ _ Tryz.underlying147
  go_enter Tryz.func81, Tryz.ntmps81
  go_wp2_with (at_builtin; refine app_copy (.slice (some ⟨g, 0, none⟩) n cap) n xs (.tmp 5) (.tmp 6) 147 152 (.agg #[.int .i64 0, .int .i64 0, .int .i64 0, .int .i64 0, .int .i64 0, .int .i64 0, .int .i64 0, .int .i64 0, .bool false, .bool false]) 10 80 rfl rfl Tryz.underlying147 infoPN rfl (by omega) (by omega) (by simp [Act.eval]) (by simp [Act.eval]) h h1 (by omega) ?_)
  intro v1 w1 hown m1 hb1
  obtain ⟨A1, cc1, rfl, hA1⟩ := own_slice hown
  go_wp2_with fail
  go_ret
  exact ⟨_, _, rfl, hown, m1, hb1⟩
set_option maxHeartbeats 400000 in
theorem cloneIN {v : Value} {n : Nat} {xs : List Value} (h : w.ownsRow 0 3 1 v n xs) (h1 : ∀ u ∈ xs, u.oneCell' = true) (hn : n ≤ 65536) : Calls Tryz.prog 68 #[v] w (CloneP 3 1 w n xs) := by
 rcases h.2 with ⟨rfl, rfl⟩ | ⟨g, cap, cur, rfl, _, _, _⟩
 ·have hx : xs = [] := List.eq_nil_of_length_eq_zero (by simpa using h.1)
  subst hx
  have E : (binOp .eql 113 (.slice none 0 0) (.slice none 0 0)).run Tryz.prog w = .ok (.bool true) w := run_eql_slice_nil w _ _ _ _ _ Tryz.underlying113
  go_enter Tryz.func68, Tryz.ntmps68
  go_wp2
  go_ret
  exact ⟨none, 0, rfl, World.ownsRow_nil _ _ _ _, Mod.refl _ _, by intro k e; cases e⟩
 ·have E : (binOp .eql 113 (.slice (some ⟨g, 0, none⟩) n cap) (.slice none 0 0)).run Tryz.prog w = .ok (.bool false) w := run_eql_slice_nil w _ _ _ _ _ Tryz.underlying113
  go_enter Tryz.func68, Tryz.ntmps68
  go_wp2_with (at_builtin; refine app_copy (.slice (some ⟨g, 0, none⟩) n cap) n xs (.tmp 5) (.tmp 6) 113 3 (.int .i64 0) 1 8 rfl rfl Tryz.underlying113 infoIn rfl (by omega) (by omega) (by simp [Act.eval]) (by simp [Act.eval]) h h1 (by omega) ?_)
  intro v1 w1 hown m1 hb1
  obtain ⟨A1, cc1, rfl, hA1⟩ := own_slice hown
  go_wp2_with fail
  go_ret
  exact ⟨_, _, rfl, hown, m1, hb1⟩
theorem encPN_one (p : Option Nd) : ∀ u ∈ encP encNd zNd p, u.oneCell' = true := by
 cases p <;> simp [encP, encNd, zNd, Value.oneCell']
set_option maxHeartbeats 1000000 in
theorem copyN (h : ArN w ab lv fv room l free) :
  Calls Tryz.prog 69 #[.pointer (some ⟨ab, 0, none⟩)] w fun e w' => ∃ nb lv' fv', e = .returned (.pointer (some ⟨nb, 0, none⟩)) ∧ ArN w' nb lv' fv' room l free ∧ (∀ k, Foot nb lv' fv' k → w.heap.size ≤ k) ∧ Mod (fun _ => False) w w' := by
 obtain ⟨A, c, rfl, _, _, _⟩ := own_slice h.row
 obtain ⟨A', c', rfl, _, _, _⟩ := own_slice h.fre
 obtain ⟨b1, b2⟩ := h.flen
 obtain ⟨c0, f0⟩ := blkc h.blk
 have CP : Hid (∀ w', Mod (fun _ => False) w w' → Calls Tryz.prog 81 #[.slice A l.length c] w' (CloneP 152 10 w' l.length (l.flatMap (encP encNd zNd)))) := by
  apply hid
  intro w' m
  refine clonePN (own_mod h.row m fun _ _ h => h) (fun u hu => ?_) (by omega)
  obtain ⟨p, _, hp⟩ := List.mem_flatMap.1 hu
  exact encPN_one p u hp
 have CI : Hid (∀ w', Mod (fun _ => False) w w' → Calls Tryz.prog 68 #[.slice A' free.length c'] w' (CloneP 3 1 w' free.length (free.map (.int .i64)))) := by
  apply hid
  intro w' m
  exact cloneIN (own_mod h.fre m fun _ _ h => h) (fun u hu => by obtain ⟨p, _, rfl⟩ := List.mem_map.1 hu; rfl) (by omega)
 have HB := hid h.blk
 go_enter Tryz.func69, Tryz.ntmps69
 go_wp2_with fail
 go_region_held3 (fun w' => w'.cell? ⟨ab, 0, none⟩ = some (.int .i64 room) ∧ w'.cell? ⟨ab, 1, none⟩ = some (.slice A l.length c) ∧ w'.cell? ⟨ab, 2, none⟩ = some (.slice A' free.length c')) (first | exact ⟨c3 _ 0, c3 _ 1, c3 _ 2⟩ | exact ⟨c2 0, c2 1, c2 2⟩ | exact ⟨c1 0, c1 1, c1 2⟩ | exact ⟨c0 0, c0 1, c0 2⟩)
  (first
  | (go_at_call 81; refine (CP.out _ ((Mod.refl _ w).drew)).mono ?_; rintro e w1 ⟨A1, n1, rfl, r1, m1, k1⟩; have m1 := m1.of_drew; obtain ⟨c1, f1⟩ := blkc (m1.heap HB.out fun h => h))
  | (go_at_call 68; refine (CI.out _ m1).mono ?_; rintro e w2 ⟨A2, n2, rfl, r2, m2, k2⟩; have hh := m2.heap (m1.heap HB.out fun h => h) fun h => h; obtain ⟨c2, f2⟩ := blkc hh; have c3 := fun o => (blkc ((Below.heap_alloc w2 o _ (blkl hh)).trans hh)).1))
 go_wp2_with fail
 go_ret
 have s1 := m1.size
 have s2 := m2.size
 have M : Mod (fun _ => False) w2 (w2.alloc (.cells #[.int .i64 room, .slice A1 l.length n1, .slice A2 free.length n2] 149)) := (Mod.refl _ _).alloc _
 refine ⟨w2.heap.size, .slice A1 l.length n1, .slice A2 free.length n2, rfl, ⟨alloc_0 _ _, own_mod r1 (m2.trans' M) fun _ _ h => h, own_mod r2 M fun _ _ h => h, h.encl, h.inv⟩, ?_, (m1.trans' m2).trans' M⟩
 rintro k (rfl | e | e)
 ·omega
 ·exact k1 k e
 ·have := k2 k e; omega
set_option maxHeartbeats 1000000 in
theorem copyTZ {tb N : Nat} {t : T} (h : TS w tb ab lv fv room N free t) :
  Calls Tryz.prog 53 #[.pointer (some ⟨tb, 0, none⟩)] w fun e w' => ∃ nt nb lv' fv', e = .returned (.pointer (some ⟨nt, 0, none⟩)) ∧ TS w' nt nb lv' fv' room N free t ∧ (∀ k, TF nt nb lv' fv' k → w.heap.size ≤ k) ∧ Mod (fun _ => False) w w' := by
 obtain ⟨root, σ, m, hh, hN⟩ := h
 obtain ⟨c0, f0⟩ := blkc m.t
 have CP : Hid (∀ w', Mod (fun _ => False) w w' → Calls Tryz.prog 69 #[.pointer (some ⟨ab, 0, none⟩)] w' fun e w2 => ∃ nb lv' fv', e = .returned (.pointer (some ⟨nb, 0, none⟩)) ∧ ArN w2 nb lv' fv' room σ free ∧ (∀ k, Foot nb lv' fv' k → w'.heap.size ≤ k) ∧ Mod (fun _ => False) w' w2) :=
  hid fun w' m' => copyN (m.a.mod m' fun _ _ h => h)
 have HB := hid m.t
 go_enter Tryz.func53, Tryz.ntmps53
 go_wp2_with fail
 go_region_held3 (fun w' => w'.cell? ⟨tb, 0, none⟩ = some (.pointer (some ⟨ab, 0, none⟩)) ∧ w'.cell? ⟨tb, 1, none⟩ = some (.int .i64 root)) (first | exact ⟨c2 _ 0, c2 _ 1⟩ | exact ⟨c1 0, c1 1⟩ | exact ⟨c0 0, c0 1⟩)
  ((go_at_call 69; refine (CP.out _ ((Mod.refl _ w).drew)).mono ?_; rintro e w1 ⟨nb, lv', fv', rfl, r1, k1, m1⟩; have m1 := m1.of_drew; have hh1 := m1.heap HB.out fun h => h; obtain ⟨c1, f1⟩ := blkc hh1; have c2 := fun o => (blkc ((Below.heap_alloc w1 o _ (blkl hh1)).trans hh1)).1))
 go_wp2_with fail
 go_ret
 have s1 := m1.size
 have M : Mod (fun _ => False) w1 (w1.alloc (.cells #[.pointer (some ⟨nb, 0, none⟩), .int .i64 root] 123)) := (Mod.refl _ _).alloc _
 refine ⟨w1.heap.size, nb, lv', fv', rfl, ⟨root, σ, ⟨alloc_0 _ _, r1.mod M fun _ _ h => h⟩, hh, hN⟩, ?_, m1.trans' M⟩
 rintro k (rfl | e)
 ·exact s1
 ·exact k1 k e
end
open Go Go.RowKit
section
variable {w : World} {ab : Nat} {lv fv : Value} {room : Int} {l : List (Option Bn)} {free : List Int}
def CloneQ (t : TypeId) (size : Nat) (w : World) (n : Nat) (xs : List Value) (e : Ending) (w' : World) : Prop :=
 ∃ A c, e = .returned (.slice A n c) ∧ w'.ownsRow 0 t size (.slice A n c) n xs ∧ Mod (fun _ => False) w w' ∧ ∀ k, (Value.slice A n c).ownBlock = some k → w.heap.size ≤ k
set_option maxHeartbeats 400000 in
theorem clonePB {v : Value} {n : Nat} {xs : List Value} (h : w.ownsRow 0 144 3 v n xs) (h1 : ∀ u ∈ xs, u.oneCell' = true) (hn : n ≤ 65536) : Calls Tryz.prog 78 #[v] w (CloneQ 144 3 w n xs) := by
 rcases h.2 with ⟨rfl, rfl⟩ | ⟨g, cap, cur, rfl, _, _, _⟩
 ·have hx : xs = [] := List.eq_nil_of_length_eq_zero (by simpa using h.1)
  subst hx
  have E : (binOp .eql 139 (.slice none 0 0) (.slice none 0 0)).run Tryz.prog w = .ok (.bool true) w := run_eql_slice_nil w _ _ _ _ _ Tryz.underlying139
  go_enter Tryz.func78, Tryz.ntmps78
  go_wp2
  go_ret
  exact ⟨none, 0, rfl, World.ownsRow_nil _ _ _ _, Mod.refl _ _, by intro k e; cases e⟩
 ·have E : (binOp .eql 139 (.slice (some ⟨g, 0, none⟩) n cap) (.slice none 0 0)).run Tryz.prog w = .ok (.bool false) w := run_eql_slice_nil w _ _ _ _ _ Tryz.underlying139
  go_enter Tryz.func78, Tryz.ntmps78
  go_wp2_with (at_builtin; refine app_copy (.slice (some ⟨g, 0, none⟩) n cap) n xs (.tmp 5) (.tmp 6) 139 144 (.agg #[.slice none 0 0, .slice none 0 0, .bool false]) 3 56 rfl rfl Tryz.underlying139 infoPB rfl (by omega) (by omega) (by simp [Act.eval]) (by simp [Act.eval]) h h1 (by omega) ?_)
  intro v1 w1 hown m1 hb1
  obtain ⟨A1, cc1, rfl, hA1⟩ := own_slice hown
  go_wp2_with fail
  go_ret
  exact ⟨_, _, rfl, hown, m1, hb1⟩
set_option maxHeartbeats 400000 in
theorem cloneIB {v : Value} {n : Nat} {xs : List Value} (h : w.ownsRow 0 3 1 v n xs) (h1 : ∀ u ∈ xs, u.oneCell' = true) (hn : n ≤ 65536) : Calls Tryz.prog 68 #[v] w (CloneQ 3 1 w n xs) := by
 rcases h.2 with ⟨rfl, rfl⟩ | ⟨g, cap, cur, rfl, _, _, _⟩
 ·have hx : xs = [] := List.eq_nil_of_length_eq_zero (by simpa using h.1)
  subst hx
  have E : (binOp .eql 113 (.slice none 0 0) (.slice none 0 0)).run Tryz.prog w = .ok (.bool true) w := run_eql_slice_nil w _ _ _ _ _ Tryz.underlying113
  go_enter Tryz.func68, Tryz.ntmps68
  go_wp2
  go_ret
  exact ⟨none, 0, rfl, World.ownsRow_nil _ _ _ _, Mod.refl _ _, by intro k e; cases e⟩
 ·have E : (binOp .eql 113 (.slice (some ⟨g, 0, none⟩) n cap) (.slice none 0 0)).run Tryz.prog w = .ok (.bool false) w := run_eql_slice_nil w _ _ _ _ _ Tryz.underlying113
  go_enter Tryz.func68, Tryz.ntmps68
  go_wp2_with (at_builtin; refine app_copy (.slice (some ⟨g, 0, none⟩) n cap) n xs (.tmp 5) (.tmp 6) 113 3 (.int .i64 0) 1 8 rfl rfl Tryz.underlying113 infoIB rfl (by omega) (by omega) (by simp [Act.eval]) (by simp [Act.eval]) h h1 (by omega) ?_)
  intro v1 w1 hown m1 hb1
  obtain ⟨A1, cc1, rfl, hA1⟩ := own_slice hown
  go_wp2_with fail
  go_ret
  exact ⟨_, _, rfl, hown, m1, hb1⟩
theorem encPB_one (p : Option Bn) : ∀ u ∈ encP encBn zBn p, u.oneCell' = true := by
 cases p <;> simp [encP, encBn, zBn, Value.oneCell']
set_option maxHeartbeats 1000000 in
theorem copyB (h : ArB w ab lv fv room l free) :
  Calls Tryz.prog 64 #[.pointer (some ⟨ab, 0, none⟩)] w fun e w' => ∃ nb lv' fv', e = .returned (.pointer (some ⟨nb, 0, none⟩)) ∧ ArB w' nb lv' fv' room l free ∧ (∀ k, Foot nb lv' fv' k → w.heap.size ≤ k) ∧ Mod (fun _ => False) w w' := by
 obtain ⟨A, c, rfl, _, _, _⟩ := own_slice h.row
 obtain ⟨A', c', rfl, _, _, _⟩ := own_slice h.fre
 obtain ⟨b1, b2⟩ := h.flen
 obtain ⟨c0, f0⟩ := blkc h.blk
 have CP : Hid (∀ w', Mod (fun _ => False) w w' → Calls Tryz.prog 78 #[.slice A l.length c] w' (CloneQ 144 3 w' l.length (l.flatMap (encP encBn zBn)))) := by
  apply hid
  intro w' m
  refine clonePB (own_mod h.row m fun _ _ h => h) (fun u hu => ?_) (by omega)
  obtain ⟨p, _, hp⟩ := List.mem_flatMap.1 hu
  exact encPB_one p u hp
 have CI : Hid (∀ w', Mod (fun _ => False) w w' → Calls Tryz.prog 68 #[.slice A' free.length c'] w' (CloneQ 3 1 w' free.length (free.map (.int .i64)))) := by
  apply hid
  intro w' m
  exact cloneIB (own_mod h.fre m fun _ _ h => h) (fun u hu => by obtain ⟨p, _, rfl⟩ := List.mem_map.1 hu; rfl) (by omega)
 have HB := hid h.blk
 go_enter Tryz.func64, Tryz.ntmps64
 go_wp2_with fail
 go_region_held3 (fun w' => w'.cell? ⟨ab, 0, none⟩ = some (.int .i64 room) ∧ w'.cell? ⟨ab, 1, none⟩ = some (.slice A l.length c) ∧ w'.cell? ⟨ab, 2, none⟩ = some (.slice A' free.length c')) (first | exact ⟨c3 _ 0, c3 _ 1, c3 _ 2⟩ | exact ⟨c2 0, c2 1, c2 2⟩ | exact ⟨c1 0, c1 1, c1 2⟩ | exact ⟨c0 0, c0 1, c0 2⟩)
  (first
  | (go_at_call 78; refine (CP.out _ ((Mod.refl _ w).drew)).mono ?_; rintro e w1 ⟨A1, n1, rfl, r1, m1, k1⟩; have m1 := m1.of_drew; obtain ⟨c1, f1⟩ := blkc (m1.heap HB.out fun h => h))
  | (go_at_call 68; refine (CI.out _ m1).mono ?_; rintro e w2 ⟨A2, n2, rfl, r2, m2, k2⟩; have hh := m2.heap (m1.heap HB.out fun h => h) fun h => h; obtain ⟨c2, f2⟩ := blkc hh; have c3 := fun o => (blkc ((Below.heap_alloc w2 o _ (blkl hh)).trans hh)).1))
 go_wp2_with fail
 go_ret
 have s1 := m1.size
 have s2 := m2.size
 have M : Mod (fun _ => False) w2 (w2.alloc (.cells #[.int .i64 room, .slice A1 l.length n1, .slice A2 free.length n2] 141)) := (Mod.refl _ _).alloc _
 refine ⟨w2.heap.size, .slice A1 l.length n1, .slice A2 free.length n2, rfl, ⟨alloc_0 _ _, own_mod r1 (m2.trans' M) fun _ _ h => h, own_mod r2 M fun _ _ h => h, h.encl, h.inv⟩, ?_, (m1.trans' m2).trans' M⟩
 rintro k (rfl | e | e)
 ·omega
 ·exact k1 k e
 ·have := k2 k e; omega
end
open Go Go.RowKit
def itemsB {α : Type} : Nat → List (Option α) → List (Nat × α)
 | _, [] => []
 | k, none :: l => itemsB (k + 1) l
 | k, some v :: l => (k, v) :: itemsB (k + 1) l
theorem itemsB_drop {α : Type} (k : Nat) (l : List (Option α)) (b : Nat) : (hk : k < l.length) → itemsB (b + k) (l.drop k) = (match l[k] with | none => [] | some v => [(b + k, v)]) ++ itemsB (b + (k + 1)) (l.drop (k + 1)) := by
 intro hk
 rw [List.drop_eq_getElem_cons hk]
 cases l[k] <;> simp [itemsB, Nat.add_assoc]
section
variable {w : World} {ab : Nat} {lv fv : Value} {room : Int} {l : List (Option Bn)} {free : List Int}
set_option maxHeartbeats 400000 in
theorem eachB (w : World) (ab : Nat) : Calls Tryz.prog 65 #[.pointer (some ⟨ab, 0, none⟩)] w fun e w' => e = .returned (.func (.func 79) #[] #[.pointer (some ⟨w.heap.size, 0, none⟩)]) ∧ w' = w.alloc (.cells #[.pointer (some ⟨ab, 0, none⟩)] 109) := by
 go_enter Tryz.func65, Tryz.ntmps65
 go_wp2
 go_ret
 exact ⟨rfl, rfl⟩
def encBV (x : Nat × Bn) : Array Value := #[.int .i64 x.1, .agg #[.slice x.2.la x.2.ln x.2.lc, .slice x.2.ka x.2.kn x.2.kc]]
set_option maxHeartbeats 1000000 in
theorem eachB_iter {b : Nat} (h : ArB w ab lv fv room l free) (hb : w.heap[b]? = some (.cells #[.pointer (some ⟨ab, 0, none⟩)] 109 (0, 0))) :
  Iter Tryz.prog 79 #[.pointer (some ⟨b, 0, none⟩)] encBV (itemsB 0 l) (fun k => k = b ∨ Foot ab lv fv k) w := by
 intro yl J Jx W hW hJ hJx hY G h0 hH hG
 have hH0 : ∀ k, (k = b ∨ Foot ab lv fv k) → k < w.heap.size := by
  rintro k (rfl | hk)
  ·exact blkl hb
  ·exact h.lt hk
 have hHW : ∀ k, (k = b ∨ Foot ab lv fv k) → W.heap[k]? = w.heap[k]? := fun k hk => hW.block k (hH0 k hk) (by have := hH0 k hk; omega)
 have A : ArB W ab lv fv room l free := h.keep fun k hk => hHW k (.inr hk)
 have cb : W.cell? ⟨b, 0, none⟩ = some (.pointer (some ⟨ab, 0, none⟩)) := by
  have := (hHW b (.inl rfl)).trans hb
  simp [World.cell?, this]
 obtain ⟨LA, lc, rfl, hlc⟩ := own_slice A.row
 have c1 := A.c1
 obtain ⟨b1, b2⟩ := A.flen
 have hHs : ∀ k, (k = b ∨ Foot ab (.slice LA l.length lc) fv k) → k < W.heap.size := fun k hk => Nat.lt_of_lt_of_le (hH0 k hk) hW.size
 refine (callsIn_wide (n := 1)).1 (callsIn_of_wp Tryz.func79 rfl trivial ?_)
 simp only [Tryz.ntmps79, List.size_toArray, List.length_cons, List.length_nil, Nat.reduceAdd, Nat.reduceSub, Array.replicate_succ, Array.replicate_zero, List.push_toArray, List.append_toArray, List.nil_append, List.cons_append]
 gi_wp2_with fail
 gi_loopw [10] (fun c wr => ∃ (k : Nat) (pre : List (Nat × Bn)) (G : Nat → Prop), k ≤ l.length ∧ c = .int .i64 k ∧ itemsB 0 l = pre ++ itemsB k (l.drop k) ∧ J pre G wr ∧ (∀ j, (j = b ∨ Foot ab (.slice LA l.length lc) fv j) → wr.heap[j]? = W.heap[j]? ∧ ¬ G j) ∧ (∀ j, G j → j < wr.heap.size) ∧ W.heap.size ≤ wr.heap.size) (fun c _ => (l.length - intOf c).toNat)
 case atStart => exact ⟨0, [], G, by omega, rfl, by simp, h0, fun j hj => ⟨rfl, hH j hj⟩, hG, Nat.le_refl _⟩
 case round =>
  obtain ⟨k, pre, G1, hk, rfl, hpre, hJ1, hH1, hG1, hsz⟩ := hrel
  by_cases hlt : k < l.length
  ·have hd := itemsB_drop k l 0 hlt
   simp only [Nat.zero_add] at hd
   have A1 : ArB wr ab (.slice LA l.length lc) fv room l free := A.keep fun j hj => (hH1 j (.inr hj)).1
   obtain ⟨lb, rfl⟩ := hlc.2.2 (by omega)
   have hp : l[k]? = some l[k] := by simp [hlt]
   cases hlk : l[k] with
   | none =>
    rw [hlk] at hp hd
    simp only [List.nil_append] at hd
    have d0 := (A1.cell (i := k) hp (j := 0) (u := .slice none 0 0) rfl).1
    have d1 := (A1.cell (i := k) hp (j := 1) (u := .slice none 0 0) rfl).1
    have d2 := (A1.cell (i := k) hp (j := 2) (u := .bool false) rfl).1
    simp only [zBn, List.length_cons, List.length_nil, Nat.zero_add, Nat.add_zero, Nat.reduceAdd] at d0 d1 d2
    have hpre' := hid (hpre.trans (by rw [hd]))
    have M1 : Mod (fun _ => False) wr (wr.alloc (.cells #[.slice none 0 0, .slice none 0 0, .bool false] 144)) := (Mod.refl _ _).alloc _
    have R1 := hJ _ _ _ _ _ hJ1 M1 fun _ h => h.elim
    clear hpre hd hlk hp A1
    gi_wp2_with fail
    refine ⟨fun _ _ => trivial, ?_⟩
    gi_wp2_with fail
    go_roundw
    case rel => exact ⟨k + 1, pre, G1, by omega, by go_num, hpre'.out, R1, fun j hj => ⟨(M1.block j (by have := hHs j hj; omega) (fun h => h)).trans (hH1 j hj).1, (hH1 j hj).2⟩, fun j hj => M1.lt (hG1 j hj), Nat.le_trans hsz M1.size⟩
    case measure => simp [intOf]; omega
   | some v =>
    rw [hlk] at hp hd
    simp only [List.cons_append, List.nil_append] at hd
    have d0 := (A1.cell (i := k) hp (j := 0) (u := .slice v.la v.ln v.lc) rfl).1
    have d1 := (A1.cell (i := k) hp (j := 1) (u := .slice v.ka v.kn v.kc) rfl).1
    have d2 := (A1.cell (i := k) hp (j := 2) (u := .bool true) rfl).1
    simp only [zBn, List.length_cons, List.length_nil, Nat.zero_add, Nat.add_zero, Nat.reduceAdd] at d0 d1 d2
    have hpre' := hid (hpre.trans (by rw [hd]))
    have M1 : Mod (fun _ => False) wr (wr.alloc (.cells #[.slice v.la v.ln v.lc, .slice v.ka v.kn v.kc, .bool true] 144)) := (Mod.refl _ _).alloc _
    have R1 := hJ _ _ _ _ _ hJ1 M1 fun _ h => h.elim
    obtain ⟨fn, tmps, assign, body, hy, hR⟩ := hY pre (k, v) _ G1 _ hpre'.out R1
    dsimp only [encBV] at hy
    clear hpre hd hlk hp A1
    gi_wp2_with fail
    refine hR.mono ?_
    clear hR hy hY R1
    have hsz1 := M1.size
    have kept : ∀ (W' : World), Mod G1 (wr.alloc (.cells #[.slice v.la v.ln v.lc, .slice v.ka v.kn v.kc, .bool true] 144)) W' → ∀ j, (j = b ∨ Foot ab (.slice (some ⟨lb, 0, none⟩) l.length lc) fv j) → W'.heap[j]? = W.heap[j]? := fun W' m j hj =>
     (m.block j (by have := hHs j hj; omega) (hH1 j hj).2).trans ((M1.block j (by have := hHs j hj; omega) (fun h => h)).trans (hH1 j hj).1)
    rintro e W' ⟨G', g1, g2, (⟨rfl, hJ'⟩ | ⟨rfl, hJ'⟩)⟩
    ·gi_wp2_with fail
     go_roundw
     case rel =>
      refine ⟨k + 1, pre ++ [(k, v)], G', by omega, by go_num, by simpa using hpre'.out, hJ', fun j hj => ⟨kept W' g2 j hj, fun h => ?_⟩, fun j hj => (g1 j hj).2, Nat.le_trans hsz (Nat.le_trans hsz1 g2.size)⟩
      rcases (g1 j h).1 with h | h
      ·exact (hH1 j hj).2 h
      ·have := hHs j hj; omega
     case measure => simp [intOf]; omega
    ·gi_wp2_with fail
     refine bodyPost_ret (results_none rfl _ _ _) rfl ⟨⟨_, rfl⟩, G', .inr ⟨pre ++ [(k, v)], ⟨itemsB (k + 1) (l.drop (k + 1)), by simpa using hpre'.out.symm⟩, hJ'⟩⟩
  ·obtain rfl : k = l.length := by omega
   have hp2 : pre = itemsB 0 l := by rw [hpre]; simp [itemsB]
   clear hlt hpre
   gi_wp2_with fail
   go_end0
   exact ⟨⟨_, rfl⟩, G1, .inl (hp2 ▸ hJ1)⟩
end
open Go Go.RowKit
section
variable {n0 l0 : Nat} {P : Program}
def dstOf (ops : Array Oper) (i : Nat) : Option Tmp := (ops[i]?).bind (·.dst)
def asB (md : Region.Mode) (ops : Array Oper) (n N : Nat) : Bool :=
 decide (ops.size = n + 1) && Region.sinkB md ops n && wchainB md ops n && backB md ops && (List.range n).all (fun i => match ops[i]? with | some o => (match o.dst with | some d => decide (d < N) && o.guard.isNone | none => false) && (match o.op with | .defer _ => false | _ => true) | none => false) &&
  (List.range n).all (fun i => (List.range n).all fun j => decide (i = j) || decide (dstOf ops i ≠ dstOf ops j))
structure AsInv (md : Region.Mode) (ops : Array Oper) (n N : Nat) (V : Nat → Value → World → Prop) (a0 : Act) (C : World → Prop) (listed : Array Bool) (a : Act) (W : World) : Prop where
 inv : HeadInv md ops n listed
 cls : C W
 size : a.tmps.size = N
 out : ∀ t, (∀ i, i < n → dstOf ops i ≠ some t) → a.tmps.getD t undef = a0.tmps.getD t undef
 val : ∀ i d, i < n → listed.getD i false = true → dstOf ops i = some d → V i (a.tmps.getD d undef) W
theorem as_region {id : Nat} {Q : Exit → Act → World → Prop} {a : Act} {w : World} {l : List Oper} (n N : Nat) (V : Nat → Value → World → Prop) (of : Oper) (hm : P.follows .mixedOrders = true) (hB : asB .any l.toArray n N = true) (hof : l[n]? = some of) (hog : of.guard = none)
  (hN : a.tmps.size = N) (hV : ∀ i v W W', V i v W → CM W W' → V i v W')
  (hstep : ∀ i o, i < n → l[i]? = some o → ∀ a' W, CM w W → (∀ t, ((List.range n).all fun i => decide (dstOf l.toArray i ≠ some t)) = true → a'.tmps.getD t undef = a.tmps.getD t undef) → (∀ j d, j < n → Region.waitsFor .any l.toArray i j = true → dstOf l.toArray j = some d → V j (a'.tmps.getD d undef) W) →
   ∀ K : Act → World → Prop, (∀ v W', CM W W' → V i v W' → K (a'.put o.dst v) W') → o.wpIn (Fence.wide.inRound l0) n0 P a' W K Q)
  (hfin : ∀ a' W, CM w W → (∀ t, ((List.range n).all fun i => decide (dstOf l.toArray i ≠ some t)) = true → a'.tmps.getD t undef = a.tmps.getD t undef) → (∀ j d, j < n → dstOf l.toArray j = some d → V j (a'.tmps.getD d undef) W) → of.wpIn (Fence.wide.inRound l0) n0 P a' W (fun a2 W2 => Q .normal a2 W2) Q) :
  (Code.region id l.toArray true).wpIn (Fence.wide.inRound l0) n0 P Q a w := by
 simp only [asB, Bool.and_eq_true, decide_eq_true_eq] at hB
 obtain ⟨⟨⟨⟨⟨hsz, hs⟩, hc⟩, hbk⟩, hdst⟩, hdis⟩ := hB
 have hn : n < l.toArray.size := by omega
 have hd : ∀ i, i < n → ∃ o d, l.toArray[i]? = some o ∧ o.dst = some d ∧ d < N ∧ o.guard = none := fun i hi => by
  have h1 := List.all_eq_true.1 hdst i (List.mem_range.2 hi)
  cases ho : l.toArray[i]? with
  | none => rw [ho] at h1; simp at h1
  | some o =>
   rw [ho] at h1
   cases hd : o.dst with
   | none => simp [hd] at h1
   | some d =>
    simp only [hd, Bool.and_eq_true, decide_eq_true_eq] at h1
    exact ⟨o, d, rfl, hd, h1.1.1, by simpa using h1.1.2⟩
 have hdd : ∀ i j, i < n → j < n → i ≠ j → dstOf l.toArray i ≠ dstOf l.toArray j := fun i j hi hj e => by
  have h1 := List.all_eq_true.1 (List.all_eq_true.1 hdis i (List.mem_range.2 hi)) j (List.mem_range.2 hj)
  simpa [e] using h1
 have main : ∀ (fuel : Nat) (listed : Array Bool) (a' : Act) (W : World), AsInv .any l.toArray n N V a (CM w) listed a' W → ((List.range n).filter (fun i => !listed.getD i true)).length + 1 = fuel → wpAnyIn (Fence.wide.inRound l0) n0 P .any l.toArray Q fuel listed a' W := by
  intro fuel
  induction fuel with
  | zero => intro listed a' W _ h; omega
  | succ fuel ih =>
   intro listed a' W I hf
   have hnl : listed.getD n true = false := I.inv.tail n (Nat.le_refl _) hn
   refine ⟨fun h0 => absurd h0 (ready_ex hbk I.inv.size n hn hnl), fun i hi => ?_⟩
   obtain ⟨hiu, o, ho, hall⟩ := mem_ready.1 hi
   have hilt : i < l.toArray.size := (Array.getElem?_eq_some_iff.1 ho).1
   have hol : l[i]? = some o := by simpa using ho
   unfold wpOpIn
   simp only [ho]
   by_cases hin : i < n
   ·obtain ⟨o', d, ho', hd1, hd2, hg⟩ := hd i hin
    rw [ho] at ho'; cases ho'
    rw [if_pos (by simp [Region.wanted, hg])]
    refine hstep i o hin hol a' W I.cls (fun t ht => I.out t fun i hi => by simpa using List.all_eq_true.1 ht i (List.mem_range.2 hi)) (fun j dj hj hw hdj => I.val j dj hj ?_ hdj) _ fun v W' hM hVv => ih _ _ _ ?_ ?_
    ·obtain ⟨oj, hoj, e, he, hb, hon⟩ := Region.waitsFor_spec hw
     rw [ho] at hoj; cases hoj
     have := hall e he hb
     rw [← hon]; exact this
    ·have hput : ∀ t, (a'.put o.dst v).tmps.getD t undef = if t = d then v else a'.tmps.getD t undef := fun t => by
      rw [hd1]
      by_cases e : t = d
      ·subst e
       have : t < a'.tmps.size := by rw [I.size]; exact hd2
       simp [Act.put, this]
      ·simp [Act.put, e, Ne.symm e]
     have hdo : dstOf l.toArray i = some d := by simp [dstOf, hol, hd1]
     refine ⟨I.inv.set hi hin, I.cls.trans' hM, by rw [hd1]; simpa [Act.put] using I.size, fun t ht => ?_, fun j dj hj hl hdj => ?_⟩
     ·rw [hput, if_neg (fun e => ht i hin (by rw [hdo, e]))]
      exact I.out t ht
     ·rw [hput]
      by_cases e : j = i
      ·subst e
       rw [hdo] at hdj; cases hdj
       rw [if_pos rfl]; exact hVv
      ·rw [if_neg (fun e2 => hdd j i hj hin e (by rw [hdj, hdo, e2]))]
       refine hV _ _ _ _ (I.val j dj hj ?_ hdj) hM
       rwa [getD_set_ne false (Ne.symm e)] at hl
    ·have h1 : ((List.range n).filter (fun k => !(listed.setIfInBounds i true).getD k true)).length + 1 = ((List.range n).filter (fun k => !listed.getD k true)).length := by
      have hil : i < listed.size := by rw [I.inv.size]; exact hilt
      have hset : ∀ k, (listed.setIfInBounds i true).getD k true = if k = i then true else listed.getD k true := fun k => by
       by_cases e : k = i
       ·subst e; simp [hil]
       ·rw [if_neg e, getD_set_ne true (Ne.symm e)]
      have key : ∀ m, i < m → ((List.range m).filter (fun k => !(listed.setIfInBounds i true).getD k true)).length + 1 = ((List.range m).filter (fun k => !listed.getD k true)).length := by
       intro m
       induction m with
       | zero => intro h; omega
       | succ m ihm =>
        intro h
        rw [List.range_succ, List.filter_append, List.filter_append, List.length_append, List.length_append]
        by_cases e : i = m
        ·subst e
         have h2 : (List.range i).filter (fun k => !(listed.setIfInBounds i true).getD k true) = (List.range i).filter (fun k => !listed.getD k true) := List.filter_congr fun k hk => by
          have := List.mem_range.1 hk
          rw [hset k, if_neg (by omega)]
         rw [h2]
         have h3 := hset i
         rw [if_pos rfl] at h3
         simp only [List.filter_cons, List.filter_nil, h3, hiu]
         simp
        ·have h2 := ihm (by omega)
         have h3 := hset m
         rw [if_neg (Ne.symm e)] at h3
         simp only [List.filter_cons, List.filter_nil, h3]
         omega
      exact key n hin
     omega
   ·have hie : i = n := by omega
    subst hie
    rw [hof] at hol; cases hol
    rw [if_pos (by simp [Region.wanted, hog])]
    have hl : ∀ j, j < i → listed.getD j true = true := fun j hj => by
     cases hjl : listed.getD j true with
     | true => rfl
     | false => exact absurd hi (tail_waits2 hs hc hn I.inv _ j rfl hj hjl i (Nat.le_refl _))
    have hl2 : ∀ j, j < i → listed.getD j false = true := fun j hj => by
     have h1 := hl j hj
     have h2 : j < listed.size := by rw [I.inv.size]; omega
     simpa [h2] using h1
    have hf0 : ((List.range i).filter (fun k => !listed.getD k true)).length = 0 := by
     rw [List.length_eq_zero_iff, List.filter_eq_nil_iff]
     intro k hk
     simp [hl k (List.mem_range.1 hk)]
    obtain rfl : fuel = 0 := by omega
    refine Oper.wpIn_mono (fun a2 W2 hq => ?_) (hfin a' W I.cls (fun t ht => I.out t fun i hi => by simpa using List.all_eq_true.1 ht i (List.mem_range.2 hi)) fun j dj hj hdj => I.val j dj hj (hl2 j hj) hdj)
    refine ⟨?_, hq⟩
    cases hr : Region.ready .any l.toArray (listed.setIfInBounds i true) with
    | nil => rfl
    | cons k ks =>
     have hk : k ∈ Region.ready .any l.toArray (listed.setIfInBounds i true) := by rw [hr]; simp
     obtain ⟨hku, ok, hok, _⟩ := mem_ready.1 hk
     have hklt : k < l.toArray.size := (Array.getElem?_eq_some_iff.1 hok).1
     by_cases e : k = i
     ·subst e
      have : k < listed.size := by rw [I.inv.size]; omega
      simp [this] at hku
     ·rw [getD_set_ne true (Ne.symm e), hl k (by omega)] at hku; cases hku
 refine wpIn_region_any hm (main _ _ _ _ ⟨⟨by simp, fun j oj _ hl => (by rw [getD_replicate_false] at hl; cases hl), fun t _ ht => getD_in (by simpa using ht) (getD_replicate_false _ _)⟩, (Mod.refl _ w).drew, hN, fun _ _ => rfl, fun i d _ hl _ => (by rw [getD_replicate_false] at hl; cases hl)⟩ ?_)
 rw [List.filter_eq_self.2 fun k hk => ?_]
 ·simp only [List.length_range]; exact hsz.symm
 ·have := List.mem_range.1 hk
  have h2 : k < l.toArray.size := by omega
  simp at h2
  simp [h2]
theorem as_val {o : Oper} {a : Act} {W : World} {K : Act → World → Prop} {Q : Exit → Act → World → Prop} (v : Value) (hd : ∀ c, o.op ≠ .defer c) (h : (execOp a.eval o).run P W = .ok (.value v) W) (hK : K (a.put o.dst v) W) : o.wpIn (Fence.wide.inRound l0) n0 P a W K Q := by
 unfold Oper.wpIn
 refine ⟨fun _ _ => trivial, ?_⟩
 rw [Fence.inRound_round, Oper.semAt_some _ _ _ hd, h]
 exact hK
theorem as_call {o : Oper} {a : Act} {W : World} {K : Act → World → Prop} {Q : Exit → Act → World → Prop} (f : FuncId) (args : Array Value) (hd : ∀ c, o.op ≠ .defer c) (h : (execOp a.eval o).run P W = .ok (.enter f args) W) (hc : Calls P f args W fun e W' => ∃ v, e = .returned v ∧ K (a.put o.dst v) W') : o.wpIn (Fence.wide.inRound l0) n0 P a W K Q := by
 unfold Oper.wpIn
 refine ⟨fun _ _ => trivial, ?_⟩
 rw [Fence.inRound_round, Oper.semAt_some _ _ _ hd, h]
 refine ⟨fun hd => (by cases hd), (callsIn_wide.2 (hc.mono fun e w'' hx => ?_)).inRound l0⟩
 obtain ⟨v, rfl, hk⟩ := hx
 exact hk
end
end Go.Proofs.Bo
