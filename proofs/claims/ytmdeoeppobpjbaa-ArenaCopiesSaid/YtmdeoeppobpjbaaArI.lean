import Derived.Test.YtmdeoeppobpjbaaBo2
import Derived.Test.YtmdeoeppobpjbaaProg
set_option linter.unusedVariables false
namespace Go.Proofs.Bo
open Go Go.RowKit
/-- An arena of numbers in memory. -/
def encI (v : Int) : List Value := [.int .i64 v]
def zI : List Value := [.int .i64 0]
abbrev ArI (w : World) (ab : Nat) (lv fv : Value) (room : Int) (l : List (Option Int)) (free : List Int) : Prop := Ar encI zI 62 64 3 w ab lv fv room l free
theorem infoPI : (Try.prog.info? 64).map (fun i => (i.zero, i.size, i.bytes)) = some (some (.agg #[.int .i64 0, .bool false]), 2, 16) := by kernel_rfl
theorem infoI : (Try.prog.info? 3).map (fun i => (i.zero, i.size, i.bytes)) = some (some (.int .i64 0), 1, 8) := by kernel_rfl

section
variable {w : World} {ab : Nat} {lv fv : Value} {room : Int} {l : List (Option Int)} {free : List Int}

set_option maxHeartbeats 400000 in
theorem lenI (h : ArI w ab lv fv room l free) :
    Calls Try.prog 14 #[.pointer (some ⟨ab, 0, none⟩)] w fun e w' => e = .returned (.int .i64 ((l.length : Int) - free.length)) ∧ ∃ n, w' = w.drewN n := by
  obtain ⟨A, c, rfl, _, _, _⟩ := own_slice h.row
  obtain ⟨A', c', rfl, _, _, _⟩ := own_slice h.fre
  have h1 := h.c1
  have h2 := h.c2
  obtain ⟨b1, b2⟩ := h.flen
  clear h
  go_enter Try.func14, Try.ntmps14
  go_wp2
  go_quiet (fail)
  go_wp2
  go_ret
  exact ⟨rfl, _, rfl⟩

set_option maxHeartbeats 400000 in
theorem roomI (h : ArI w ab lv fv room l free) :
    Calls Try.prog 28 #[.pointer (some ⟨ab, 0, none⟩)] w fun e w' => e = .returned (.int .i64 room) ∧ w' = w := by
  have h0 := h.c0
  clear h
  go_enter Try.func28, Try.ntmps28
  go_wp2
  go_ret
  exact ⟨rfl, rfl⟩

set_option maxHeartbeats 400000 in
theorem atI_out (h : ArI w ab lv fv room l free) (i : Int) (hi : i < 0 ∨ l.length ≤ i) :
    Calls Try.prog 21 #[.pointer (some ⟨ab, 0, none⟩), .int .i64 i] w fun e w' => e = .returned (.pointer none) ∧ w' = w := by
  obtain ⟨A, c, rfl, _, _, _⟩ := own_slice h.row
  have h1 := h.c1
  obtain ⟨b1, b2⟩ := h.flen
  clear h
  rcases hi with hi | hi
  · go_enter Try.func21, Try.ntmps21
    go_wp2
    go_ret
    exact ⟨rfl, rfl⟩
  · have hi' : ¬ i < 0 := by omega
    go_enter Try.func21, Try.ntmps21
    go_wp2
    go_ret
    exact ⟨rfl, rfl⟩

set_option maxHeartbeats 400000 in
theorem atI_in {lb n c k : Nat} (h : ArI w ab (.slice (some ⟨lb, 0, none⟩) n c) fv room l free) (p : Option Int) (hp : l[k]? = some p) :
    Calls Try.prog 21 #[.pointer (some ⟨ab, 0, none⟩), .int .i64 k] w fun e w' => e = .returned (.pointer (if p.isSome then some ⟨lb, k * 2, none⟩ else none)) ∧ w' = w := by
  have h1 := h.c1
  obtain ⟨b1, b2⟩ := h.flen
  have hk := (List.getElem?_eq_some_iff.1 hp).1
  have hn : n = l.length := by obtain ⟨_, _, e, _⟩ := own_slice h.row; cases e; rfl
  subst hn
  have hc := (h.cell (i := k) (p := p) hp (j := 1) (u := .bool p.isSome) (by cases p <;> rfl)).1
  simp only [zI, List.length_cons, List.length_nil, Nat.zero_add] at hc
  cases p <;> (
  clear h
  go_enter Try.func21, Try.ntmps21
  go_wp2
  go_ret
  exact ⟨rfl, rfl⟩)

set_option maxHeartbeats 400000 in
theorem putI_full (h : ArI w ab lv fv room l free) (v : Int) (hr : room ≤ (l.length : Int) - free.length) :
    Calls Try.prog 12 #[.pointer (some ⟨ab, 0, none⟩), .int .i64 v] w fun e w' => e = .returned (.tuple #[.int .i64 0, .int .i64 50]) ∧ ∃ n, w' = w.drewN n := by
  have h0 := h.c0
  go_enter Try.func12, Try.ntmps12
  go_wp2_with fail
  go_quiet ((go_at_call 14; exact Calls.quiet_of (lenI (h.drewN _))))
  go_wp2_with fail
  go_ret2
  exact ⟨rfl, _, rfl⟩

set_option maxHeartbeats 1000000 in
theorem putI_new (h : ArI w ab lv fv room l []) (v : Int) (hr : (l.length : Int) < room) :
    Calls Try.prog 12 #[.pointer (some ⟨ab, 0, none⟩), .int .i64 v] w fun e w' => e = .returned (.tuple #[.int .i64 l.length, .int .i64 0]) ∧
      ∃ lv', ArI w' ab lv' fv room (l ++ [some v]) [] ∧ Mod (Foot ab lv fv) w w' ∧ (∀ k, Foot ab lv' fv k → Foot ab lv fv k ∨ w.heap.size ≤ k) := by
  have h0 := h.c0
  have h1 := h.c1
  have h2 := h.c2
  have hab := h.lt (.inl rfl)
  have f1 := h.fr 1
  obtain ⟨A', c', rfl, _, _, _⟩ := own_slice h.fre
  obtain ⟨b1, b2⟩ := h.flen
  have hr' : ¬ room ≤ (l.length : Int) - ([] : List Int).length := by simp; omega
  go_enter Try.func12, Try.ntmps12
  go_wp2_with fail
  go_quiet ((go_at_call 14; exact Calls.quiet_of (lenI (h.drewN _))))
  go_wp2_with (at_builtin; refine app_one (W := w.drewN nq) [.int .i64 v, .bool true] lv l.length (l.flatMap (encP encI zI)) (.tmp 27) (.tmp 30) 60 64 (.agg #[.int .i64 0, .bool false]) 2 16 rfl rfl Try.underlying60 infoPI rfl (by omega) (by omega) rfl rfl h.row rfl (by simp [Value.oneCell']) (by omega) ?_)
  intro v1 w1 hown hgrow hblk
  obtain ⟨k0, k1, k2, k3⟩ := Ar.grow_l (p := some v) (h.drewN nq) (by decide) (by decide) (by decide) hown hgrow hblk (h.inv.put_new hr v)
  have c1 : w1.cell? ⟨ab, 1, none⟩ = some lv := by simp [World.cell?, k0]
  have f1 : w1.frozen? ⟨ab, 1, none⟩ = false := by simp [World.frozen?, k0]
  obtain ⟨A1, cc1, rfl, _, _, _⟩ := own_slice hown
  clear h0 h1 h2 hgrow hblk
  go_wp2_with fail
  go_ret2
  exact ⟨by simp, _, k1, k2.of_drewN, k3⟩

set_option maxHeartbeats 1000000 in
theorem putI_old {k : Nat} (h : ArI w ab lv fv room l (free ++ [(k : Int)])) (v : Int) :
    Calls Try.prog 12 #[.pointer (some ⟨ab, 0, none⟩), .int .i64 v] w fun e w' => e = .returned (.tuple #[.int .i64 k, .int .i64 0]) ∧
      ∃ fv', ArI w' ab lv fv' room (l.set k (some v)) free ∧ Mod (Foot ab lv fv) w w' ∧ (∀ k, Foot ab lv fv' k → Foot ab lv fv k ∨ w.heap.size ≤ k) := by
  have h0 := h.c0
  have h1 := h.c1
  have h2 := h.c2
  have hab := h.lt (.inl rfl)
  have f1 := h.fr 1
  have f2 := h.fr 2
  have hl : l[k]? = some none := by
    obtain ⟨k', e, hk'⟩ := (h.inv.mem k).1 (by simp)
    have : k = k' := by omega
    subst this; exact hk'
  have hkl := (List.getElem?_eq_some_iff.1 hl).1
  obtain ⟨lb, c, rfl, _, _⟩ := h.place (by omega)
  obtain ⟨A', c', rfl, _, _, hA⟩ := own_slice h.fre
  obtain ⟨fb, rfl⟩ := hA (by simp)
  obtain ⟨b1, b2⟩ := h.flen
  have hlr := h.inv.lr
  have n1 : ab ≠ lb := fun e => h.ne_l (by decide) (by rw [e]; rfl)
  have n2 : ab ≠ fb := fun e => h.ne_f (by decide) (by rw [e]; rfl)
  have n3 : lb ≠ fb := fun e => h.ne_lf (k := lb) (by decide) rfl (by rw [e]; rfl)
  have cf := (own_cell h.fre (j := free.length) (u := .int .i64 k) (by simp)).1
  have cl0 := h.cell (i := k) hl (j := 0) (u := .int .i64 0) rfl
  have cl1 := h.cell (i := k) hl (j := 1) (u := .bool false) rfl
  simp only [zI, List.length_cons, List.length_nil, Nat.zero_add, Nat.add_zero] at cl0 cl1
  obtain ⟨d0, g0⟩ := cl0
  obtain ⟨d1, g1⟩ := cl1
  have hr' : ¬ room ≤ (l.length : Int) - (free ++ [(k : Int)]).length := by simp; simp at b1; omega
  have hn0 : ¬ ((free ++ [(k : Int)]).length : Int) - 1 < 0 := by simp
  simp only [List.length_append, List.length_cons, List.length_nil, Nat.zero_add] at *
  go_enter Try.func12, Try.ntmps12
  go_wp2_with fail
  go_quiet ((go_at_call 14; exact Calls.quiet_of (lenI (h.drewN _))))
  go_wp2_with fail
  go_ret2
  refine ⟨rfl, .slice (some ⟨fb, 0, none⟩) free.length c', ?_⟩
  exact Ar.reuse (some v) h (by decide) (by decide) (by decide) hl (h.inv.put_old v)

/-- There is no thing in a place. -/
theorem atI_no (h : ArI w ab lv fv room l free) (i : Int) (hi : ∀ (k : Nat) (v : Int), i = k → l[k]? ≠ some (some v)) :
    Calls Try.prog 21 #[.pointer (some ⟨ab, 0, none⟩), .int .i64 i] w fun e w' => e = .returned (.pointer none) ∧ w' = w := by
  by_cases h1 : i < 0 ∨ l.length ≤ i
  · exact atI_out h i h1
  · obtain ⟨k, rfl⟩ := Int.eq_ofNat_of_zero_le (show 0 ≤ i by omega)
    have hk : k < l.length := by omega
    obtain ⟨lb, c, rfl, _, _⟩ := h.place (by omega)
    have hp : l[k]? = some none := by
      cases hl : l[k] with
      | none => simp [hk, hl]
      | some v => exact absurd (by simp [hk, hl]) (hi k v rfl)
    exact atI_in h none hp

theorem atI_yes {lb n c k : Nat} {v : Int} (h : ArI w ab (.slice (some ⟨lb, 0, none⟩) n c) fv room l free) (hp : l[k]? = some (some v)) :
    Calls Try.prog 21 #[.pointer (some ⟨ab, 0, none⟩), .int .i64 k] w fun e w' => e = .returned (.pointer (some ⟨lb, k * 2, none⟩)) ∧ w' = w := atI_in h (some v) hp

set_option maxHeartbeats 400000 in
theorem getI_no (h : ArI w ab lv fv room l free) (i : Int) (hi : ∀ (k : Nat) (v : Int), i = k → l[k]? ≠ some (some v)) :
    Calls Try.prog 16 #[.pointer (some ⟨ab, 0, none⟩), .int .i64 i] w fun e w' => e = .returned (.tuple #[.int .i64 0, .bool false]) ∧ w' = w := by
  have H := atI_no h i hi
  go_enter Try.func16, Try.ntmps16
  go_wp2_with (go_at_call 21; refine H.mono ?_; rintro e w' ⟨rfl, rfl⟩)
  go_ret2
  exact ⟨rfl, rfl⟩

set_option maxHeartbeats 400000 in
theorem getI_yes {k : Nat} {v : Int} (h : ArI w ab lv fv room l free) (hp : l[k]? = some (some v)) :
    Calls Try.prog 16 #[.pointer (some ⟨ab, 0, none⟩), .int .i64 k] w fun e w' => e = .returned (.tuple #[.int .i64 v, .bool true]) ∧ w' = w := by
  have hkl := (List.getElem?_eq_some_iff.1 hp).1
  obtain ⟨lb, c, rfl, _, _⟩ := h.place (by omega)
  have H := atI_yes h hp
  have hc := (h.cell (i := k) (p := some v) hp (j := 0) (u := .int .i64 v) rfl).1
  simp only [zI, List.length_cons, List.length_nil, Nat.zero_add, Nat.add_zero] at hc
  go_enter Try.func16, Try.ntmps16
  go_wp2_with (go_at_call 21; refine H.mono ?_; rintro e w' ⟨rfl, rfl⟩)
  go_ret2
  exact ⟨rfl, rfl⟩

set_option maxHeartbeats 400000 in
theorem setI_no (h : ArI w ab lv fv room l free) (i u : Int) (hi : ∀ (k : Nat) (v : Int), i = k → l[k]? ≠ some (some v)) :
    Calls Try.prog 24 #[.pointer (some ⟨ab, 0, none⟩), .int .i64 i, .int .i64 u] w fun e w' => e = .returned (.bool false) ∧ w' = w := by
  have H := atI_no h i hi
  go_enter Try.func24, Try.ntmps24
  go_wp2_with (go_at_call 21; refine H.mono ?_; rintro e w' ⟨rfl, rfl⟩)
  go_ret
  exact ⟨rfl, rfl⟩

set_option maxHeartbeats 400000 in
theorem setI_yes {k : Nat} {v : Int} (h : ArI w ab lv fv room l free) (hp : l[k]? = some (some v)) (u : Int) :
    Calls Try.prog 24 #[.pointer (some ⟨ab, 0, none⟩), .int .i64 k, .int .i64 u] w fun e w' => e = .returned (.bool true) ∧ ArI w' ab lv fv room (l.set k (some u)) free ∧ Mod (Foot ab lv fv) w w' := by
  have hkl := (List.getElem?_eq_some_iff.1 hp).1
  obtain ⟨lb, c, rfl, _, _⟩ := h.place (by omega)
  have H := atI_yes h hp
  obtain ⟨hc, hf⟩ := h.cell (i := k) (p := some v) hp (j := 0) (u := .int .i64 v) rfl
  simp only [zI, List.length_cons, List.length_nil, Nat.zero_add, Nat.add_zero] at hc hf
  go_enter Try.func24, Try.ntmps24
  go_wp2_with (go_at_call 21; refine H.mono ?_; rintro e w' ⟨rfl, rfl⟩)
  go_ret
  exact ⟨rfl, h.set_thing (by decide) (by decide) hp u⟩

set_option maxHeartbeats 400000 in
theorem freeI_no (h : ArI w ab lv fv room l free) (i : Int) (hi : ∀ (k : Nat) (v : Int), i = k → l[k]? ≠ some (some v)) :
    Calls Try.prog 13 #[.pointer (some ⟨ab, 0, none⟩), .int .i64 i] w fun e w' => e = .returned (.bool false) ∧ w' = w := by
  have H := atI_no h i hi
  go_enter Try.func13, Try.ntmps13
  go_wp2_with (go_at_call 21; refine H.mono ?_; rintro e w' ⟨rfl, rfl⟩)
  go_ret
  exact ⟨rfl, rfl⟩

set_option maxHeartbeats 400000 in
theorem resetI (h : ArI w ab lv fv room l free) :
    Calls Try.prog 25 #[.pointer (some ⟨ab, 0, none⟩)] w fun e w' => e = .returned (.tuple #[]) ∧ ArI w' ab (.slice none 0 0) (.slice none 0 0) room [] [] ∧ Mod (Foot ab lv fv) w w' := by
  have h1 := h.c1
  have h2 := h.c2
  have f1 := h.fr 1
  have f2 := h.fr 2
  go_enter Try.func25, Try.ntmps25
  go_wp2
  go_end0
  have hb := blk_set2 (blk_set1 h.blk (u := .slice none 0 0)) (u := .slice none 0 0)
  exact ⟨rfl, ⟨hb, World.ownsRow_nil _ _ _ _, World.ownsRow_nil _ _ _ _, fun _ => rfl, ⟨h.inv.room0, h.inv.room1, Nat.le_refl _, h.inv.room0, List.nodup_nil, by simp⟩⟩,
    ((Mod.refl _ w).setCell (.inl (.inl rfl)) _).setCell (.inl (.inl rfl)) _⟩

set_option maxHeartbeats 400000 in
theorem newI_no (room : Int) (hr : room < 0 ∨ 65536 < room) (w : World) :
    Calls Try.prog 10 #[.int .i64 room] w fun e w' => e = .returned (.tuple #[.pointer none, .int .i64 1]) ∧ w' = w := by
  rcases hr with hr | hr
  · go_enter Try.func10, Try.ntmps10
    go_wp2
    go_ret2
    exact ⟨rfl, rfl⟩
  · have hr0 : ¬ room < 0 := by omega
    go_enter Try.func10, Try.ntmps10
    go_wp2
    go_ret2
    exact ⟨rfl, rfl⟩

set_option maxHeartbeats 400000 in
theorem newI (room : Int) (hr : 0 ≤ room) (hr2 : room ≤ 65536) (w : World) :
    Calls Try.prog 10 #[.int .i64 room] w fun e w' => e = .returned (.tuple #[.pointer (some ⟨w.heap.size, 0, none⟩), .int .i64 0]) ∧ ArI w' w.heap.size (.slice none 0 0) (.slice none 0 0) room [] [] ∧ Below w.heap.size w w' := by
  have hr0 : ¬ room < 0 := by omega
  have hr1 : ¬ 65536 < room := by omega
  go_enter Try.func10, Try.ntmps10
  go_wp2
  go_ret2
  exact ⟨rfl, ⟨heap_alloc_new _ _, World.ownsRow_nil _ _ _ _, World.ownsRow_nil _ _ _ _, fun _ => rfl, ⟨hr, hr2, Nat.le_refl _, hr, List.nodup_nil, by simp⟩⟩, (Below.refl _ _).alloc (Nat.le_refl _) _⟩

set_option maxHeartbeats 1000000 in
theorem freeI_yes {k : Nat} {v : Int} (h : ArI w ab lv fv room l free) (hp : l[k]? = some (some v)) :
    Calls Try.prog 13 #[.pointer (some ⟨ab, 0, none⟩), .int .i64 k] w fun e w' => e = .returned (.bool true) ∧ ∃ fv', ArI w' ab lv fv' room (l.set k none) (free ++ [(k : Int)]) ∧ Mod (Foot ab lv fv) w w' ∧ (∀ k, Foot ab lv fv' k → Foot ab lv fv k ∨ w.heap.size ≤ k) := by
  have hkl := (List.getElem?_eq_some_iff.1 hp).1
  obtain ⟨lb, c, rfl, _, _⟩ := h.place (by omega)
  have H := atI_yes h hp
  have h1 := h.c1
  have h2 := h.c2
  have f1 := h.fr 1
  have f2 := h.fr 2
  have n1 : ab ≠ lb := fun e => h.ne_l (by decide) (by rw [e]; rfl)
  obtain ⟨b1, b2⟩ := h.flen
  obtain ⟨d0, g0⟩ := h.cell (i := k) (p := some v) hp (j := 0) (u := .int .i64 v) rfl
  obtain ⟨d1, g1⟩ := h.cell (i := k) (p := some v) hp (j := 1) (u := .bool true) rfl
  simp only [zI, List.length_cons, List.length_nil, Nat.zero_add, Nat.add_zero] at d0 g0 d1 g1
  go_enter Try.func13, Try.ntmps13
  have hW := setL_heap lb (encP encI zI none) w (k * 2) ab n1
  have hrow := h.put_place hp none
  have hm : Mod (Foot ab (.slice (some ⟨lb, 0, none⟩) l.length c) fv) w (setL w lb (k * 2) (encP encI zI none)) := setL_mod lb (.inl (.inr (.inl rfl))) _ _ _ (Mod.refl _ _)
  have hfre : (setL w lb (k * 2) (encP encI zI none)).ownsRow 0 3 1 fv free.length (free.map (.int .i64)) := own_keep h.fre fun j e => setL_heap lb _ _ _ _ (by rintro rfl; exact h.ne_lf (k := j) (by decide) rfl e)
  go_wp2_with (first | (go_at_call 21; refine H.mono ?_; rintro e w' ⟨rfl, rfl⟩) | (at_builtin; refine app_one [.int .i64 (k : Int)] fv free.length (free.map (.int .i64)) (.tmp 20) (.tmp 22) 22 3 (.int .i64 0) 1 8 rfl rfl Try.underlying22 infoI rfl (by omega) (by omega) rfl (by simp [Act.eval]) hfre rfl (by simp [Value.oneCell']) (by omega) ?_))
  intro v1 w1 hown hgrow hblk
  obtain ⟨k0, k1, k2, k3⟩ := h.grow_f (by decide) (by decide) (by decide) hp hW hrow hm hown hgrow (by rw [setL_size]; exact hblk)
  have c1 : w1.cell? ⟨ab, 2, none⟩ = some fv := by simp [World.cell?, k0]
  have f1 : w1.frozen? ⟨ab, 2, none⟩ = false := by simp [World.frozen?, k0]
  obtain ⟨A1, cc1, rfl, _, _, _⟩ := own_slice hown
  clear h1 h2 hgrow hblk hfre hrow hW
  go_wp2_with fail
  go_ret
  exact ⟨by simp, _, k1, k2, k3⟩
end

/-- What 'Put' does: what is where, which places are free, what is told. -/
def arPut {α : Type} (room : Int) (l : List (Option α)) (free : List Int) (v : α) : List (Option α) × List Int × Int × Int :=
  if room ≤ (l.length : Int) - free.length then (l, free, 0, 50) else
  match free.getLast? with
  | none => (l ++ [some v], free, l.length, 0)
  | some i => (l.set i.toNat (some v), free.dropLast, i, 0)

/-- An arena whose blocks are of X. -/
def ArX (X : Nat → Prop) (w : World) (ab : Nat) (room : Int) (l : List (Option Int)) (free : List Int) : Prop := ∃ lv fv, ArI w ab lv fv room l free ∧ ∀ k, Foot ab lv fv k → X k

section
variable {X Y : Nat → Prop} {w w' : World} {ab : Nat} {room : Int} {l : List (Option Int)} {free : List Int}
theorem ArX.mono (h : ArX X w ab room l free) (hX : ∀ k, X k → k < w.heap.size → Y k) : ArX Y w ab room l free := let ⟨lv, fv, A, s⟩ := h; ⟨lv, fv, A, fun k hk => hX k (s k hk) (A.lt hk)⟩
theorem ArX.mod (h : ArX X w ab room l free) (hm : Mod Y w w') (hY : ∀ k, X k → ¬ Y k) : ArX X w' ab room l free := let ⟨lv, fv, A, s⟩ := h; ⟨lv, fv, A.mod hm fun k hk => hY k (s k hk), s⟩
theorem ArX.drewN (h : ArX X w ab room l free) (n : Nat) : ArX X (w.drewN n) ab room l free := let ⟨lv, fv, A, s⟩ := h; ⟨lv, fv, A.drewN n, s⟩
theorem ArX.inv (h : ArX X w ab room l free) : ArInv room l free := let ⟨_, _, A, _⟩ := h; A.inv
theorem ArX.lt (h : ArX X w ab room l free) : X ab ∧ ab < w.heap.size := let ⟨_, _, A, s⟩ := h; ⟨s _ (.inl rfl), A.lt (.inl rfl)⟩

theorem putX (h : ArX X w ab room l free) (v : Int) {r : List (Option Int) × List Int × Int × Int} (hr : arPut room l free v = r) :
    Calls Try.prog 12 #[.pointer (some ⟨ab, 0, none⟩), .int .i64 v] w fun e w' => e = .returned (.tuple #[.int .i64 r.2.2.1, .int .i64 r.2.2.2]) ∧ ArX (fun k => X k ∨ w.heap.size ≤ k) w' ab room r.1 r.2.1 ∧ Mod X w w' := by
  obtain ⟨lv, fv, A, s⟩ := h
  unfold arPut at hr
  split at hr
  · subst hr
    refine (putI_full A v (by assumption)).mono ?_
    rintro e w' ⟨rfl, n, rfl⟩
    exact ⟨rfl, ⟨lv, fv, A.drewN n, fun k hk => .inl (s k hk)⟩, Mod.drewN (Mod.refl X w) n⟩
  · split at hr
    · rename_i hn
      subst hr
      have : free = [] := by simpa using hn
      subst this
      refine (putI_new A v (by simp at *; omega)).mono ?_
      rintro e w' ⟨rfl, lv', A', m, t⟩
      exact ⟨rfl, ⟨lv', fv, A', fun k hk => (t k hk).imp (s k) id⟩, m.mono fun k hk => .inl (s k hk)⟩
    · rename_i i hn
      subst hr
      obtain ⟨f', rfl⟩ : ∃ f', free = f' ++ [i] := ⟨free.dropLast, by
        have hne : free ≠ [] := by rintro rfl; simp at hn
        rw [List.getLast?_eq_some_getLast hne] at hn
        injection hn with hn
        rw [← hn, List.dropLast_concat_getLast]⟩
      obtain ⟨k, rfl, _⟩ := (A.inv.mem i).1 (by simp)
      refine (putI_old A v).mono ?_
      rintro e w' ⟨rfl, fv', A', m, t⟩
      refine ⟨rfl, ⟨lv, fv', by simpa using A', fun k hk => (t k hk).imp (s k) id⟩, m.mono fun k hk => .inl (s k hk)⟩

theorem lenX (h : ArX X w ab room l free) : Calls Try.prog 14 #[.pointer (some ⟨ab, 0, none⟩)] w fun e w' => e = .returned (.int .i64 ((l.length : Int) - free.length)) ∧ ∃ n, w' = w.drewN n := let ⟨_, _, A, _⟩ := h; lenI A
theorem roomX (h : ArX X w ab room l free) : Calls Try.prog 28 #[.pointer (some ⟨ab, 0, none⟩)] w fun e w' => e = .returned (.int .i64 room) ∧ w' = w := let ⟨_, _, A, _⟩ := h; roomI A
theorem atX_no (h : ArX X w ab room l free) (i : Int) (hi : ∀ (k : Nat) (v : Int), i = k → l[k]? ≠ some (some v)) :
    Calls Try.prog 21 #[.pointer (some ⟨ab, 0, none⟩), .int .i64 i] w fun e w' => e = .returned (.pointer none) ∧ w' = w := let ⟨_, _, A, _⟩ := h; atI_no A i hi
theorem getX_no (h : ArX X w ab room l free) (i : Int) (hi : ∀ (k : Nat) (v : Int), i = k → l[k]? ≠ some (some v)) :
    Calls Try.prog 16 #[.pointer (some ⟨ab, 0, none⟩), .int .i64 i] w fun e w' => e = .returned (.tuple #[.int .i64 0, .bool false]) ∧ w' = w := let ⟨_, _, A, _⟩ := h; getI_no A i hi
theorem getX_yes (h : ArX X w ab room l free) {k : Nat} {v : Int} (hp : l[k]? = some (some v)) :
    Calls Try.prog 16 #[.pointer (some ⟨ab, 0, none⟩), .int .i64 k] w fun e w' => e = .returned (.tuple #[.int .i64 v, .bool true]) ∧ w' = w := let ⟨_, _, A, _⟩ := h; getI_yes A hp
theorem setX_no (h : ArX X w ab room l free) (i u : Int) (hi : ∀ (k : Nat) (v : Int), i = k → l[k]? ≠ some (some v)) :
    Calls Try.prog 24 #[.pointer (some ⟨ab, 0, none⟩), .int .i64 i, .int .i64 u] w fun e w' => e = .returned (.bool false) ∧ w' = w := let ⟨_, _, A, _⟩ := h; setI_no A i u hi
theorem setX_yes (h : ArX X w ab room l free) {k : Nat} {v : Int} (hp : l[k]? = some (some v)) (u : Int) :
    Calls Try.prog 24 #[.pointer (some ⟨ab, 0, none⟩), .int .i64 k, .int .i64 u] w fun e w' => e = .returned (.bool true) ∧ ArX X w' ab room (l.set k (some u)) free ∧ Mod X w w' :=
  let ⟨lv, fv, A, s⟩ := h; (setI_yes A hp u).mono fun _ _ ⟨he, A', m⟩ => ⟨he, ⟨lv, fv, A', s⟩, m.mono fun k hk => .inl (s k hk)⟩
theorem freeX_no (h : ArX X w ab room l free) (i : Int) (hi : ∀ (k : Nat) (v : Int), i = k → l[k]? ≠ some (some v)) :
    Calls Try.prog 13 #[.pointer (some ⟨ab, 0, none⟩), .int .i64 i] w fun e w' => e = .returned (.bool false) ∧ w' = w := let ⟨_, _, A, _⟩ := h; freeI_no A i hi
theorem freeX_yes (h : ArX X w ab room l free) {k : Nat} {v : Int} (hp : l[k]? = some (some v)) :
    Calls Try.prog 13 #[.pointer (some ⟨ab, 0, none⟩), .int .i64 k] w fun e w' => e = .returned (.bool true) ∧ ArX (fun k => X k ∨ w.heap.size ≤ k) w' ab room (l.set k none) (free ++ [(k : Int)]) ∧ Mod X w w' :=
  let ⟨lv, fv, A, s⟩ := h; (freeI_yes A hp).mono fun _ _ ⟨he, fv', A', m, t⟩ => ⟨he, ⟨lv, fv', A', fun k hk => (t k hk).imp (s k) id⟩, m.mono fun k hk => .inl (s k hk)⟩
theorem resetX (h : ArX X w ab room l free) :
    Calls Try.prog 25 #[.pointer (some ⟨ab, 0, none⟩)] w fun e w' => e = .returned (.tuple #[]) ∧ ArX X w' ab room [] [] ∧ Mod X w w' :=
  let ⟨_, _, A, s⟩ := h; (resetI A).mono fun _ _ ⟨he, A', m⟩ => ⟨he, ⟨_, _, A', fun k hk => by rcases hk with rfl | e | e; exact s _ (.inl rfl); cases e; cases e⟩, m.mono fun k hk => .inl (s k hk)⟩
theorem newX (room : Int) (hr : 0 ≤ room) (hr2 : room ≤ 65536) (w : World) :
    Calls Try.prog 10 #[.int .i64 room] w fun e w' => e = .returned (.tuple #[.pointer (some ⟨w.heap.size, 0, none⟩), .int .i64 0]) ∧ ArX (fun k => w.heap.size ≤ k) w' w.heap.size room [] [] ∧ Below w.heap.size w w' :=
  (newI room hr hr2 w).mono fun _ _ ⟨he, A, b⟩ => ⟨he, ⟨_, _, A, fun k hk => by rcases hk with rfl | e | e; exact Nat.le_refl _; cases e; cases e⟩, b⟩
end

/-- An arena whose blocks lie from B on. -/
def ArB (B : Nat) (w : World) (ab : Nat) (room : Int) (l : List (Option Int)) (free : List Int) : Prop := B ≤ w.heap.size ∧ ArX (fun k => B ≤ k) w ab room l free

section
variable {B : Nat} {w w' : World} {ab : Nat} {room : Int} {l : List (Option Int)} {free : List Int}
theorem ArB.drewN (h : ArB B w ab room l free) (n : Nat) : ArB B (w.drewN n) ab room l free := ⟨h.1, h.2.drewN n⟩
theorem ArB.inv (h : ArB B w ab room l free) : ArInv room l free := h.2.inv
theorem ArB.lt (h : ArB B w ab room l free) : B ≤ ab ∧ ab < w.heap.size := h.2.lt
theorem ArB.of {l' : List (Option Int)} {free' : List Int} (hB : B ≤ w.heap.size) (h : ArX (fun k => B ≤ k ∨ w.heap.size ≤ k) w' ab room l' free') (hm : Mod (fun k => B ≤ k) w w') : ArB B w' ab room l' free' ∧ Below B w w' :=
  ⟨⟨Nat.le_trans hB hm.size, h.mono fun k hk _ => by omega⟩, hm.to_below hB fun _ h => h⟩
theorem putB (h : ArB B w ab room l free) (v : Int) {r : List (Option Int) × List Int × Int × Int} (hr : arPut room l free v = r) :
    Calls Try.prog 12 #[.pointer (some ⟨ab, 0, none⟩), .int .i64 v] w fun e w' => e = .returned (.tuple #[.int .i64 r.2.2.1, .int .i64 r.2.2.2]) ∧ ArB B w' ab room r.1 r.2.1 ∧ Below B w w' :=
  (putX h.2 v hr).mono fun _ _ ⟨he, A, m⟩ => ⟨he, ArB.of h.1 A m⟩
theorem setB_yes (h : ArB B w ab room l free) {k : Nat} {v : Int} (hp : l[k]? = some (some v)) (u : Int) :
    Calls Try.prog 24 #[.pointer (some ⟨ab, 0, none⟩), .int .i64 k, .int .i64 u] w fun e w' => e = .returned (.bool true) ∧ ArB B w' ab room (l.set k (some u)) free ∧ Below B w w' :=
  (setX_yes h.2 hp u).mono fun _ _ ⟨he, A, m⟩ => ⟨he, ArB.of h.1 (A.mono fun _ h _ => .inl h) m⟩
theorem freeB_yes (h : ArB B w ab room l free) {k : Nat} {v : Int} (hp : l[k]? = some (some v)) :
    Calls Try.prog 13 #[.pointer (some ⟨ab, 0, none⟩), .int .i64 k] w fun e w' => e = .returned (.bool true) ∧ ArB B w' ab room (l.set k none) (free ++ [(k : Int)]) ∧ Below B w w' :=
  (freeX_yes h.2 hp).mono fun _ _ ⟨he, A, m⟩ => ⟨he, ArB.of h.1 A m⟩
theorem resetB (h : ArB B w ab room l free) :
    Calls Try.prog 25 #[.pointer (some ⟨ab, 0, none⟩)] w fun e w' => e = .returned (.tuple #[]) ∧ ArB B w' ab room [] [] ∧ Below B w w' :=
  (resetX h.2).mono fun _ _ ⟨he, A, m⟩ => ⟨he, ArB.of h.1 (A.mono fun _ h _ => .inl h) m⟩
theorem newB (room : Int) (hr : 0 ≤ room) (hr2 : room ≤ 65536) (w : World) :
    Calls Try.prog 10 #[.int .i64 room] w fun e w' => e = .returned (.tuple #[.pointer (some ⟨w.heap.size, 0, none⟩), .int .i64 0]) ∧ ArB w.heap.size w' w.heap.size room [] [] ∧ Below w.heap.size w w' :=
  (newX room hr hr2 w).mono fun _ _ ⟨he, A, b⟩ => ⟨he, ⟨b.size, A⟩, b⟩
end
end Go.Proofs.Bo
