import Derived.Test.YtgehgjaglgafdaaGreatG39
import Derived.Test.YtgehgjaglgafdaaGreatG41
import Derived.Test.YtgehgjaglgafdaaGreatG06
import Derived.Test.YtgehgjaglgafdaaGreatG40
import Derived.Test.YtgehgjaglgafdaaGreatG37
import Derived.Test.YtgehgjaglgafdaaGreatG04
set_option linter.unusedVariables false
set_option linter.unusedSimpArgs false
namespace Go.Proofs.Bo
open Go Go.RowKit
section
variable {w w' : World} {mb cb d : Nat} {room : Int} {l : List Sg} {c : Cu} {X : Nat → Prop}
theorem mc_put (h : MC X w mb cb d room l c) (s : Sg) (hf : fit64 s.la) : Calls Tryz.prog 36 #[.pointer (some ⟨mb, 0, none⟩), .agg (encS s).toArray] w fun e w' => e = .returned (.int .i64 (putE room s l)) ∧ MC (fun k => X k ∨ w.heap.size ≤ k) w' mb cb d room (putL room s l) c ∧ Mod X w w' := by
 refine (om_put h.1 s hf).mono ?_
 rintro e w' ⟨rfl, R, M⟩
 exact ⟨rfl, h.map (Mod.refl _ _) (blkl h.2.1) R M⟩
theorem mc_del (h : MC X w mb cb d room l c) (cs ca : Int) (hf : fit64 ca) : Calls Tryz.prog 15 #[.pointer (some ⟨mb, 0, none⟩), .agg #[.int .i64 cs, .int .i64 ca]] w fun e w' => e = .returned (.bool (hasK (kx cs ca) l)) ∧ MC (fun k => X k ∨ w.heap.size ≤ k) w' mb cb d room (delL (kx cs ca) l) c ∧ Mod X w w' := by
 refine (om_del h.1 cs ca hf).mono ?_
 rintro e w' ⟨rfl, R, M⟩
 exact ⟨rfl, h.map (Mod.refl _ _) (blkl h.2.1) R M⟩
theorem mc_clear (h : MC X w mb cb d room l c) : Calls Tryz.prog 35 #[.pointer (some ⟨mb, 0, none⟩)] w fun e w' => e = .returned (.tuple #[]) ∧ MC (fun k => X k ∨ w.heap.size ≤ k) w' mb cb d room [] c ∧ Mod X w w' := by
 refine (om_clear h.1).mono ?_
 rintro e w' ⟨rfl, R, M⟩
 exact ⟨rfl, h.map (Mod.refl _ _) (blkl h.2.1) R M⟩
theorem mc_turn (h : MC X w mb cb d room l c) (deg : Int) : Calls Tryz.prog 43 #[.pointer (some ⟨mb, 0, none⟩), .int .i64 deg] w fun e w' => e = .returned (.int .i64 (if rightD deg then 0 else 1)) ∧ MC (fun k => X k ∨ w.heap.size ≤ k) w' mb cb (if rightD deg then deg.toNat else d) room l c ∧ Mod X w w' := by
 cases hd : rightD deg with
 | true =>
  refine (om_turn h.1 deg hd).mono ?_
  rintro e w' ⟨rfl, R, M⟩
  exact ⟨rfl, h.map (Mod.refl _ _) (blkl h.2.1) R M⟩
 | false =>
  refine (om_turn_no h.1 deg hd).mono ?_
  rintro e w' ⟨rfl, M⟩
  exact ⟨rfl, (h.mod0 M).mono fun k hk _ => .inl hk, M.mono fun _ h => h.elim⟩
theorem MC.wide (h : MC X w' mb cb d room l c) : MC (fun k => X k ∨ w.heap.size ≤ k) w' mb cb d room l c := h.mono fun k hk _ => .inl hk
def zAn : List Value := [.int .i64 0, .int .i64 0, .int .i64 0, .int .i64 0, .int .i64 0, .bool false, .int .i64 0]
structure E8 (w : World) (o : Op8) (W : World) : Prop where
 b0 : W.heap[w.heap.size]? = some (.cells (encO8 o).toArray 59 (0, 0))
 b1 : W.heap[w.heap.size + 1]? = some (.cells zAn.toArray 61 (0, 0))
 b2 : W.heap[w.heap.size + 1 + 1]? = some (.cells zAn.toArray 61 (0, 0))
 M : Mod (fun _ => False) w W
theorem boxE8 (w : World) (o : Op8) : ∃ w0, ((w.alloc (.cells (encO8 o).toArray 59)).alloc (.cells zAn.toArray 61)).alloc (.cells zAn.toArray 61) = w0 ∧ E8 w o w0 ∧ w0.heap.size = w.heap.size + 3 :=
 ⟨_, rfl, ⟨alloc3_0 _ _ _ _, alloc3_1 _ _ _ _, alloc3_2 _ _ _ _, (((Mod.refl _ _).alloc _).alloc _).alloc _⟩, by simp⟩
theorem does8_end {w w0 w1 : World} {d' : Nat} {l' : List Sg} {c' : Cu} {o : Op8} (D0 : E8 w o w0) (hz : w0.heap.size = w.heap.size + 3) (R1 : MC (fun k => (X k ∧ k < w.heap.size) ∨ w0.heap.size ≤ k) w1 mb cb d' room l' c') (M1 : Mod (fun k => X k ∧ k < w.heap.size) w0 w1) (us an : List Value) (i : Nat) (h7 : an.length = 7) :
  (setL (setL w1 (w.heap.size + 1 + 1) i us) (w.heap.size + 1) 0 an).heap[w.heap.size + 1]? = some (.cells an.toArray 61 (0, 0)) ∧ MC (fun k => X k ∨ w.heap.size ≤ k) (setL (setL w1 (w.heap.size + 1 + 1) i us) (w.heap.size + 1) 0 an) mb cb d' room l' c' ∧
   Mod X w (setL (setL w1 (w.heap.size + 1 + 1) i us) (w.heap.size + 1) 0 an) := by
 have b1 := M1.heap D0.b1 fun h => by have := h.2; omega
 have M2 : Mod (fun k => k = w.heap.size + 1 + 1 ∨ k = w.heap.size + 1) w1 (setL (setL w1 (w.heap.size + 1 + 1) i us) (w.heap.size + 1) 0 an) := setL_mod _ (.inl (.inr rfl)) _ _ _ (setL_mod _ (.inl (.inl rfl)) _ _ _ (Mod.refl _ _))
 refine ⟨setL_whole (cs := zAn) ((setL_heap _ _ _ _ _ (by omega)).trans b1) (by rw [h7]; rfl), ((R1.mod M2 fun k hk _ h => ?_).mono fun k hk _ => ?_), ((D0.M.mono fun _ h => h.elim).trans M1 fun j hj => .inl hj.1).trans M2 fun j hj => .inr (by omega)⟩
 ·rcases hk with hk | hk
  ·have := hk.2; omega
  ·omega
 ·rcases hk with hk | hk
  ·exact .inl hk.1
  ·exact .inr (by omega)
def Do8M (X : Nat → Prop) (w : World) (mb cb d : Nat) (room : Int) (l : List Sg) (c : Cu) (o : Op8) (e : Ending) (w' : World) : Prop :=
 e = .returned (.agg (ans8 room o l c).toArray) ∧ MC (fun k => X k ∨ w.heap.size ≤ k) w' mb cb (do8D o d) room (do8L room o l) (do8C o l c) ∧ Mod X w w'
set_option maxHeartbeats 1000000 in
theorem does8_0 (h : MC X w mb cb d room l c) (o : Op8) (hf : fit64 o.s.la) (hk : o.k = 0) : Calls Tryz.prog 31 #[.pointer (some ⟨mb, 0, none⟩), .pointer (some ⟨cb, 0, none⟩), .agg (encO8 o).toArray] w fun e w' => Do8M X w mb cb d room l c o e w' := by
 obtain ⟨w0, hw0, D0, hz0⟩ := boxE8 w o
 obtain ⟨c0, f0⟩ := blkc D0.b0
 have h' := (h.mono (Y := fun k => X k ∧ k < w.heap.size) fun k hk hl => ⟨hk, hl⟩).mod0 D0.M
 have P1 := mc_put h' o.s hf
 obtain ⟨v1, v2, v3, v4, e1, e2, e3, e4⟩ : ∃ v1 v2 v3 v4, do8C o l c = v1 ∧ ans8 room o l c = v2 ∧ do8L room o l = v3 ∧ do8D o d = v4 := ⟨_, _, _, _, rfl, rfl, rfl, rfl⟩
 have g1 : v1 = c := by subst e1; simp [do8C, ky, hk]
 have g2 : v2 = ansL zSg false (putE room o.s l) := by subst e2; simp [ans8, do8S, do8B, do8E, oS, Op8.six, do6B, do6E, ky, hk]
 have g3 : v3 = putL room o.s l := by subst e3; simp [do8L, do6L, Op8.six, ky, hk]
 have g4 : v4 = d := by subst e4; simp [do8D, hk]
 unfold Do8M
 rw [e1, e2, e3, e4, g1, g2, g3, g4]
 clear e1 e2 e3 e4 g1 g2 g3 g4 v1 v2 v3 v4
 obtain ⟨k, n, ls, la, hs, ha, sv⟩ := o
 dsimp only at hf P1 hk
 subst hk
 generalize putE room ⟨ls, la, hs, ha, sv⟩ l = r, putL room ⟨ls, la, hs, ha, sv⟩ l = L1 at P1 ⊢
 simp only [encO8, encS, ansL, zSg, zAn] at *
 have HD := D0
 replace D0 := hid D0
 replace hz0 := hid hz0
 replace h' := hid h'
 clear h hf HD
 skip
 go_enter Tryz.func31, Tryz.ntmps31
 go_wp2_with fail
 refine P1.mono ?_
 rintro e w1 ⟨rfl, R1, M1⟩
 obtain ⟨c1, f1⟩ := blkc (M1.heap D0.out.b1 fun h => by have := h.2; omega)
 obtain ⟨c2, f2⟩ := blkc (M1.heap D0.out.b2 fun h => by have := h.2; omega)
 simp only [zAn] at c1 c2
 clear P1
 replace R1 := hid R1
 replace M1 := hid M1
 go_wp2_with fail
 obtain ⟨E1, E2, E3⟩ := does8_end D0.out hz0.out R1.out M1.out [.int .i64 r] [.int .i64 0, .int .i64 0, .int .i64 0, .int .i64 0, .int .i64 0, .bool false, .int .i64 r] 6 rfl
 exact ret_row (w.heap.size + 1) [.int .i64 0, .int .i64 0, .int .i64 0, .int .i64 0, .int .i64 0, .bool false, .int .i64 r] rfl rfl E1 Tryz.underlying61 rfl (by kernel_rfl) rfl ⟨rfl, E2, E3⟩
set_option maxHeartbeats 1000000 in
theorem does8_1 (h : MC X w mb cb d room l c) (o : Op8) (hf : fit64 o.s.la) (hk : o.k = 1) : Calls Tryz.prog 31 #[.pointer (some ⟨mb, 0, none⟩), .pointer (some ⟨cb, 0, none⟩), .agg (encO8 o).toArray] w fun e w' => Do8M X w mb cb d room l c o e w' := by
 obtain ⟨w0, hw0, D0, hz0⟩ := boxE8 w o
 obtain ⟨c0, f0⟩ := blkc D0.b0
 have h' := (h.mono (Y := fun k => X k ∧ k < w.heap.size) fun k hk hl => ⟨hk, hl⟩).mod0 D0.M
 have P1 := mc_del h' o.s.ls o.s.la hf
 obtain ⟨v1, v2, v3, v4, e1, e2, e3, e4⟩ : ∃ v1 v2 v3 v4, do8C o l c = v1 ∧ ans8 room o l c = v2 ∧ do8L room o l = v3 ∧ do8D o d = v4 := ⟨_, _, _, _, rfl, rfl, rfl, rfl⟩
 have g1 : v1 = c := by subst e1; simp [do8C, ky, hk]
 have g2 : v2 = ansL zSg (hasK (kx o.s.ls o.s.la) l) 0 := by subst e2; simp [ans8, do8S, do8B, do8E, oS, Op8.six, do6B, do6E, ky, hk]
 have g3 : v3 = delL (kx o.s.ls o.s.la) l := by subst e3; simp [do8L, do6L, Op8.six, ky, hk]
 have g4 : v4 = d := by subst e4; simp [do8D, hk]
 unfold Do8M
 rw [e1, e2, e3, e4, g1, g2, g3, g4]
 clear e1 e2 e3 e4 g1 g2 g3 g4 v1 v2 v3 v4
 obtain ⟨k, n, ls, la, hs, ha, sv⟩ := o
 dsimp only at hf P1 hk
 subst hk
 generalize hasK (kx ls la) l = r, delL (kx ls la) l = L1 at P1 ⊢
 simp only [encO8, encS, ansL, zSg, zAn] at *
 have HD := D0
 replace D0 := hid D0
 replace hz0 := hid hz0
 replace h' := hid h'
 clear h hf HD
 skip
 go_enter Tryz.func31, Tryz.ntmps31
 go_wp2_with fail
 refine P1.mono ?_
 rintro e w1 ⟨rfl, R1, M1⟩
 obtain ⟨c1, f1⟩ := blkc (M1.heap D0.out.b1 fun h => by have := h.2; omega)
 obtain ⟨c2, f2⟩ := blkc (M1.heap D0.out.b2 fun h => by have := h.2; omega)
 simp only [zAn] at c1 c2
 clear P1
 replace R1 := hid R1
 replace M1 := hid M1
 go_wp2_with fail
 obtain ⟨E1, E2, E3⟩ := does8_end D0.out hz0.out R1.out M1.out [.bool r] [.int .i64 0, .int .i64 0, .int .i64 0, .int .i64 0, .int .i64 0, .bool r, .int .i64 0] 5 rfl
 exact ret_row (w.heap.size + 1) [.int .i64 0, .int .i64 0, .int .i64 0, .int .i64 0, .int .i64 0, .bool r, .int .i64 0] rfl rfl E1 Tryz.underlying61 rfl (by kernel_rfl) rfl ⟨rfl, E2, E3⟩
set_option maxHeartbeats 1000000 in
theorem does8_2 (h : MC X w mb cb d room l c) (o : Op8) (hf : fit64 o.s.la) (hk : o.k = 2) : Calls Tryz.prog 31 #[.pointer (some ⟨mb, 0, none⟩), .pointer (some ⟨cb, 0, none⟩), .agg (encO8 o).toArray] w fun e w' => Do8M X w mb cb d room l c o e w' := by
 obtain ⟨w0, hw0, D0, hz0⟩ := boxE8 w o
 obtain ⟨c0, f0⟩ := blkc D0.b0
 have h' := (h.mono (Y := fun k => X k ∧ k < w.heap.size) fun k hk hl => ⟨hk, hl⟩).mod0 D0.M
 have P1 := mc_clear h'
 obtain ⟨v1, v2, v3, v4, e1, e2, e3, e4⟩ : ∃ v1 v2 v3 v4, do8C o l c = v1 ∧ ans8 room o l c = v2 ∧ do8L room o l = v3 ∧ do8D o d = v4 := ⟨_, _, _, _, rfl, rfl, rfl, rfl⟩
 have g1 : v1 = c := by subst e1; simp [do8C, ky, hk]
 have g2 : v2 = ansL zSg false 0 := by subst e2; simp [ans8, do8S, do8B, do8E, oS, Op8.six, do6B, do6E, ky, hk]
 have g3 : v3 = [] := by subst e3; simp [do8L, do6L, Op8.six, ky, hk]
 have g4 : v4 = d := by subst e4; simp [do8D, hk]
 unfold Do8M
 rw [e1, e2, e3, e4, g1, g2, g3, g4]
 clear e1 e2 e3 e4 g1 g2 g3 g4 v1 v2 v3 v4
 obtain ⟨k, n, ls, la, hs, ha, sv⟩ := o
 dsimp only at hf P1 hk
 subst hk
 skip
 simp only [encO8, encS, ansL, zSg, zAn] at *
 have HD := D0
 replace D0 := hid D0
 replace hz0 := hid hz0
 replace h' := hid h'
 clear h hf HD
 skip
 go_enter Tryz.func31, Tryz.ntmps31
 go_wp2_with fail
 refine P1.mono ?_
 rintro e w1 ⟨rfl, R1, M1⟩
 obtain ⟨c1, f1⟩ := blkc (M1.heap D0.out.b1 fun h => by have := h.2; omega)
 obtain ⟨c2, f2⟩ := blkc (M1.heap D0.out.b2 fun h => by have := h.2; omega)
 simp only [zAn] at c1 c2
 clear P1
 replace R1 := hid R1
 replace M1 := hid M1
 go_wp2_with fail
 obtain ⟨E1, E2, E3⟩ := does8_end D0.out hz0.out R1.out M1.out [] [.int .i64 0, .int .i64 0, .int .i64 0, .int .i64 0, .int .i64 0, .bool false, .int .i64 0] 0 rfl
 exact ret_row (w.heap.size + 1) [.int .i64 0, .int .i64 0, .int .i64 0, .int .i64 0, .int .i64 0, .bool false, .int .i64 0] rfl rfl E1 Tryz.underlying61 rfl (by kernel_rfl) rfl ⟨rfl, E2, E3⟩
set_option maxHeartbeats 1000000 in
theorem does8_3 (h : MC X w mb cb d room l c) (o : Op8) (hf : fit64 o.s.la) (hk : o.k = 3) : Calls Tryz.prog 31 #[.pointer (some ⟨mb, 0, none⟩), .pointer (some ⟨cb, 0, none⟩), .agg (encO8 o).toArray] w fun e w' => Do8M X w mb cb d room l c o e w' := by
 obtain ⟨w0, hw0, D0, hz0⟩ := boxE8 w o
 obtain ⟨c0, f0⟩ := blkc D0.b0
 have h' := (h.mono (Y := fun k => X k ∧ k < w.heap.size) fun k hk hl => ⟨hk, hl⟩).mod0 D0.M
 have P1 := mc_seek h' o.s.ls o.s.la hf
 obtain ⟨v1, v2, v3, v4, e1, e2, e3, e4⟩ : ∃ v1 v2 v3 v4, do8C o l c = v1 ∧ ans8 room o l c = v2 ∧ do8L room o l = v3 ∧ do8D o d = v4 := ⟨_, _, _, _, rfl, rfl, rfl, rfl⟩
 have g1 : v1 = standC (nearS true true (kx o.s.ls o.s.la) l) := by subst e1; simp [do8C, ky, hk]
 have g2 : v2 = ansL zSg (nearS true true (kx o.s.ls o.s.la) l).isSome 0 := by subst e2; simp [ans8, do8S, do8B, do8E, oS, Op8.six, do6B, do6E, ky, hk]
 have g3 : v3 = l := by subst e3; simp [do8L, do6L, Op8.six, ky, hk]
 have g4 : v4 = d := by subst e4; simp [do8D, hk]
 unfold Do8M
 rw [e1, e2, e3, e4, g1, g2, g3, g4]
 clear e1 e2 e3 e4 g1 g2 g3 g4 v1 v2 v3 v4
 obtain ⟨k, n, ls, la, hs, ha, sv⟩ := o
 dsimp only at hf P1 hk
 subst hk
 generalize (nearS true true (kx ls la) l).isSome = r, standC (nearS true true (kx ls la) l) = C1 at P1 ⊢
 simp only [encO8, encS, ansL, zSg, zAn] at *
 have HD := D0
 replace D0 := hid D0
 replace hz0 := hid hz0
 replace h' := hid h'
 clear h hf HD
 skip
 go_enter Tryz.func31, Tryz.ntmps31
 go_wp2_with fail
 refine P1.mono ?_
 rintro e w1 ⟨rfl, R1, M1⟩
 replace R1 := R1.wide (w := w0)
 obtain ⟨c1, f1⟩ := blkc (M1.heap D0.out.b1 fun h => by have := h.2; omega)
 obtain ⟨c2, f2⟩ := blkc (M1.heap D0.out.b2 fun h => by have := h.2; omega)
 simp only [zAn] at c1 c2
 clear P1
 replace R1 := hid R1
 replace M1 := hid M1
 go_wp2_with fail
 obtain ⟨E1, E2, E3⟩ := does8_end D0.out hz0.out R1.out M1.out [.bool r] [.int .i64 0, .int .i64 0, .int .i64 0, .int .i64 0, .int .i64 0, .bool r, .int .i64 0] 5 rfl
 exact ret_row (w.heap.size + 1) [.int .i64 0, .int .i64 0, .int .i64 0, .int .i64 0, .int .i64 0, .bool r, .int .i64 0] rfl rfl E1 Tryz.underlying61 rfl (by kernel_rfl) rfl ⟨rfl, E2, E3⟩
set_option maxHeartbeats 1000000 in
theorem does8_4 (h : MC X w mb cb d room l c) (o : Op8) (hf : fit64 o.s.la) (hk : o.k = 4) : Calls Tryz.prog 31 #[.pointer (some ⟨mb, 0, none⟩), .pointer (some ⟨cb, 0, none⟩), .agg (encO8 o).toArray] w fun e w' => Do8M X w mb cb d room l c o e w' := by
 obtain ⟨w0, hw0, D0, hz0⟩ := boxE8 w o
 obtain ⟨c0, f0⟩ := blkc D0.b0
 have h' := (h.mono (Y := fun k => X k ∧ k < w.heap.size) fun k hk hl => ⟨hk, hl⟩).mod0 D0.M
 have P1 := mc_next h'
 obtain ⟨v1, v2, v3, v4, e1, e2, e3, e4⟩ : ∃ v1 v2 v3 v4, do8C o l c = v1 ∧ ans8 room o l c = v2 ∧ do8L room o l = v3 ∧ do8D o d = v4 := ⟨_, _, _, _, rfl, rfl, rfl, rfl⟩
 have g1 : v1 = curC c (nearS true false c.key l) := by subst e1; simp [do8C, ky, hk]
 have g2 : v2 = ansL zSg (c.on && (nearS true false c.key l).isSome) 0 := by subst e2; simp [ans8, do8S, do8B, do8E, oS, Op8.six, do6B, do6E, ky, hk]
 have g3 : v3 = l := by subst e3; simp [do8L, do6L, Op8.six, ky, hk]
 have g4 : v4 = d := by subst e4; simp [do8D, hk]
 unfold Do8M
 rw [e1, e2, e3, e4, g1, g2, g3, g4]
 clear e1 e2 e3 e4 g1 g2 g3 g4 v1 v2 v3 v4
 obtain ⟨k, n, ls, la, hs, ha, sv⟩ := o
 dsimp only at hf P1 hk
 subst hk
 generalize (c.on && (nearS true false c.key l).isSome) = r, curC c (nearS true false c.key l) = C1 at P1 ⊢
 simp only [encO8, encS, ansL, zSg, zAn] at *
 have HD := D0
 replace D0 := hid D0
 replace hz0 := hid hz0
 replace h' := hid h'
 clear h hf HD
 skip
 go_enter Tryz.func31, Tryz.ntmps31
 go_wp2_with fail
 refine P1.mono ?_
 rintro e w1 ⟨rfl, R1, M1⟩
 replace R1 := R1.wide (w := w0)
 obtain ⟨c1, f1⟩ := blkc (M1.heap D0.out.b1 fun h => by have := h.2; omega)
 obtain ⟨c2, f2⟩ := blkc (M1.heap D0.out.b2 fun h => by have := h.2; omega)
 simp only [zAn] at c1 c2
 clear P1
 replace R1 := hid R1
 replace M1 := hid M1
 go_wp2_with fail
 obtain ⟨E1, E2, E3⟩ := does8_end D0.out hz0.out R1.out M1.out [.bool r] [.int .i64 0, .int .i64 0, .int .i64 0, .int .i64 0, .int .i64 0, .bool r, .int .i64 0] 5 rfl
 exact ret_row (w.heap.size + 1) [.int .i64 0, .int .i64 0, .int .i64 0, .int .i64 0, .int .i64 0, .bool r, .int .i64 0] rfl rfl E1 Tryz.underlying61 rfl (by kernel_rfl) rfl ⟨rfl, E2, E3⟩
set_option maxHeartbeats 1000000 in
theorem does8_5 (h : MC X w mb cb d room l c) (o : Op8) (hf : fit64 o.s.la) (hk : o.k = 5) : Calls Tryz.prog 31 #[.pointer (some ⟨mb, 0, none⟩), .pointer (some ⟨cb, 0, none⟩), .agg (encO8 o).toArray] w fun e w' => Do8M X w mb cb d room l c o e w' := by
 obtain ⟨w0, hw0, D0, hz0⟩ := boxE8 w o
 obtain ⟨c0, f0⟩ := blkc D0.b0
 have h' := (h.mono (Y := fun k => X k ∧ k < w.heap.size) fun k hk hl => ⟨hk, hl⟩).mod0 D0.M
 have P1 := mc_prev h'
 obtain ⟨v1, v2, v3, v4, e1, e2, e3, e4⟩ : ∃ v1 v2 v3 v4, do8C o l c = v1 ∧ ans8 room o l c = v2 ∧ do8L room o l = v3 ∧ do8D o d = v4 := ⟨_, _, _, _, rfl, rfl, rfl, rfl⟩
 have g1 : v1 = curC c (nearS false false c.key l) := by subst e1; simp [do8C, ky, hk]
 have g2 : v2 = ansL zSg (c.on && (nearS false false c.key l).isSome) 0 := by subst e2; simp [ans8, do8S, do8B, do8E, oS, Op8.six, do6B, do6E, ky, hk]
 have g3 : v3 = l := by subst e3; simp [do8L, do6L, Op8.six, ky, hk]
 have g4 : v4 = d := by subst e4; simp [do8D, hk]
 unfold Do8M
 rw [e1, e2, e3, e4, g1, g2, g3, g4]
 clear e1 e2 e3 e4 g1 g2 g3 g4 v1 v2 v3 v4
 obtain ⟨k, n, ls, la, hs, ha, sv⟩ := o
 dsimp only at hf P1 hk
 subst hk
 generalize (c.on && (nearS false false c.key l).isSome) = r, curC c (nearS false false c.key l) = C1 at P1 ⊢
 simp only [encO8, encS, ansL, zSg, zAn] at *
 have HD := D0
 replace D0 := hid D0
 replace hz0 := hid hz0
 replace h' := hid h'
 clear h hf HD
 skip
 go_enter Tryz.func31, Tryz.ntmps31
 go_wp2_with fail
 refine P1.mono ?_
 rintro e w1 ⟨rfl, R1, M1⟩
 replace R1 := R1.wide (w := w0)
 obtain ⟨c1, f1⟩ := blkc (M1.heap D0.out.b1 fun h => by have := h.2; omega)
 obtain ⟨c2, f2⟩ := blkc (M1.heap D0.out.b2 fun h => by have := h.2; omega)
 simp only [zAn] at c1 c2
 clear P1
 replace R1 := hid R1
 replace M1 := hid M1
 go_wp2_with fail
 obtain ⟨E1, E2, E3⟩ := does8_end D0.out hz0.out R1.out M1.out [.bool r] [.int .i64 0, .int .i64 0, .int .i64 0, .int .i64 0, .int .i64 0, .bool r, .int .i64 0] 5 rfl
 exact ret_row (w.heap.size + 1) [.int .i64 0, .int .i64 0, .int .i64 0, .int .i64 0, .int .i64 0, .bool r, .int .i64 0] rfl rfl E1 Tryz.underlying61 rfl (by kernel_rfl) rfl ⟨rfl, E2, E3⟩
set_option maxHeartbeats 1000000 in
theorem does8_7 (h : MC X w mb cb d room l c) (o : Op8) (hf : fit64 o.s.la) (hk : o.k = 7) : Calls Tryz.prog 31 #[.pointer (some ⟨mb, 0, none⟩), .pointer (some ⟨cb, 0, none⟩), .agg (encO8 o).toArray] w fun e w' => Do8M X w mb cb d room l c o e w' := by
 obtain ⟨w0, hw0, D0, hz0⟩ := boxE8 w o
 obtain ⟨c0, f0⟩ := blkc D0.b0
 have h' := (h.mono (Y := fun k => X k ∧ k < w.heap.size) fun k hk hl => ⟨hk, hl⟩).mod0 D0.M
 have P1 := mc_turn h' o.n
 obtain ⟨v1, v2, v3, v4, e1, e2, e3, e4⟩ : ∃ v1 v2 v3 v4, do8C o l c = v1 ∧ ans8 room o l c = v2 ∧ do8L room o l = v3 ∧ do8D o d = v4 := ⟨_, _, _, _, rfl, rfl, rfl, rfl⟩
 have g1 : v1 = c := by subst e1; simp [do8C, ky, hk]
 have g2 : v2 = ansL zSg false (if rightD o.n then 0 else 1) := by subst e2; simp [ans8, do8S, do8B, do8E, oS, Op8.six, do6B, do6E, ky, hk]
 have g3 : v3 = l := by subst e3; simp [do8L, do6L, Op8.six, ky, hk]
 have g4 : v4 = (if rightD o.n then o.n.toNat else d) := by subst e4; simp [do8D, hk]
 unfold Do8M
 rw [e1, e2, e3, e4, g1, g2, g3, g4]
 clear e1 e2 e3 e4 g1 g2 g3 g4 v1 v2 v3 v4
 obtain ⟨k, n, ls, la, hs, ha, sv⟩ := o
 dsimp only at hf P1 hk
 subst hk
 generalize (if rightD n = true then (0 : Int) else 1) = r, (if rightD n = true then n.toNat else d) = d1 at P1 ⊢
 simp only [encO8, encS, ansL, zSg, zAn] at *
 have HD := D0
 replace D0 := hid D0
 replace hz0 := hid hz0
 replace h' := hid h'
 clear h hf HD
 skip
 go_enter Tryz.func31, Tryz.ntmps31
 go_wp2_with fail
 refine P1.mono ?_
 rintro e w1 ⟨rfl, R1, M1⟩
 obtain ⟨c1, f1⟩ := blkc (M1.heap D0.out.b1 fun h => by have := h.2; omega)
 obtain ⟨c2, f2⟩ := blkc (M1.heap D0.out.b2 fun h => by have := h.2; omega)
 simp only [zAn] at c1 c2
 clear P1
 replace R1 := hid R1
 replace M1 := hid M1
 go_wp2_with fail
 obtain ⟨E1, E2, E3⟩ := does8_end D0.out hz0.out R1.out M1.out [.int .i64 r] [.int .i64 0, .int .i64 0, .int .i64 0, .int .i64 0, .int .i64 0, .bool false, .int .i64 r] 6 rfl
 exact ret_row (w.heap.size + 1) [.int .i64 0, .int .i64 0, .int .i64 0, .int .i64 0, .int .i64 0, .bool false, .int .i64 r] rfl rfl E1 Tryz.underlying61 rfl (by kernel_rfl) rfl ⟨rfl, E2, E3⟩
set_option maxHeartbeats 1000000 in
theorem does8_6 (h : MC X w mb cb d room l c) (o : Op8) (hf : fit64 o.s.la) (hk : o.k = 6) : Calls Tryz.prog 31 #[.pointer (some ⟨mb, 0, none⟩), .pointer (some ⟨cb, 0, none⟩), .agg (encO8 o).toArray] w fun e w' => Do8M X w mb cb d room l c o e w' := by
 obtain ⟨w0, hw0, D0, hz0⟩ := boxE8 w o
 obtain ⟨c0, f0⟩ := blkc D0.b0
 have h' := (h.mono (Y := fun k => X k ∧ k < w.heap.size) fun k hk hl => ⟨hk, hl⟩).mod0 D0.M
 have P1 := mc_seg h'
 obtain ⟨v1, v2, v3, v4, e1, e2, e3, e4⟩ : ∃ v1 v2 v3 v4, do8C o l c = v1 ∧ ans8 room o l c = v2 ∧ do8L room o l = v3 ∧ do8D o d = v4 := ⟨_, _, _, _, rfl, rfl, rfl, rfl⟩
 have g1 : v1 = c := by subst e1; simp [do8C, ky, hk]
 have g2 : v2 = ansL (oS (if c.on then getS c.key l else none)) (if c.on then getS c.key l else none).isSome 0 := by subst e2; cases hon : c.on <;> simp [hon, ans8, do8S, do8B, do8E, oS, Op8.six, do6B, do6E, ky, hk]
 have g3 : v3 = l := by subst e3; simp [do8L, do6L, Op8.six, ky, hk]
 have g4 : v4 = d := by subst e4; simp [do8D, hk]
 unfold Do8M
 rw [e1, e2, e3, e4, g1, g2, g3, g4]
 clear e1 e2 e3 e4 g1 g2 g3 g4 v1 v2 v3 v4
 obtain ⟨k, n, ls, la, hs, ha, sv⟩ := o
 dsimp only at hf P1 hk
 subst hk
 generalize (if c.on = true then getS c.key l else none) = q at P1 ⊢
 unfold optS at P1
 generalize q.isSome = r at P1 ⊢
 generalize oS q = s at P1 ⊢
 obtain ⟨xl, xa, xh, xg, xv⟩ := s
 simp only [encO8, encS, ansL, zSg, zAn] at *
 have HD := D0
 replace D0 := hid D0
 replace hz0 := hid hz0
 replace h' := hid h'
 clear h hf HD
 skip
 go_enter Tryz.func31, Tryz.ntmps31
 go_wp2_with fail
 refine P1.mono ?_
 rintro e w1 ⟨rfl, M1⟩
 have R1 := (h'.out.mod0 M1).wide (w := w0)
 replace M1 : Mod (fun k => X k ∧ k < w.heap.size) w0 w1 := M1.mono fun _ h => h.elim
 obtain ⟨c1, f1⟩ := blkc (M1.heap D0.out.b1 fun h => by have := h.2; omega)
 obtain ⟨c2, f2⟩ := blkc (M1.heap D0.out.b2 fun h => by have := h.2; omega)
 simp only [zAn] at c1 c2
 clear P1
 replace R1 := hid R1
 replace M1 := hid M1
 go_wp2_with fail
 obtain ⟨E1, E2, E3⟩ := does8_end D0.out hz0.out R1.out M1.out [.int .i64 xl, .int .i64 xa, .int .i64 xh, .int .i64 xg, .int .i64 xv, .bool r] [.int .i64 xl, .int .i64 xa, .int .i64 xh, .int .i64 xg, .int .i64 xv, .bool r, .int .i64 0] 0 rfl
 exact ret_row (w.heap.size + 1) [.int .i64 xl, .int .i64 xa, .int .i64 xh, .int .i64 xg, .int .i64 xv, .bool r, .int .i64 0] rfl rfl E1 Tryz.underlying61 rfl (by kernel_rfl) rfl ⟨rfl, E2, E3⟩
set_option maxHeartbeats 1000000 in
theorem does8_x (h : MC X w mb cb d room l c) (o : Op8) (hf : fit64 o.s.la) (k0 : o.k ≠ 0) (k1 : o.k ≠ 1) (k2 : o.k ≠ 2) (k3 : o.k ≠ 3) (k4 : o.k ≠ 4) (k5 : o.k ≠ 5) (k6 : o.k ≠ 6) (k7 : o.k ≠ 7) : Calls Tryz.prog 31 #[.pointer (some ⟨mb, 0, none⟩), .pointer (some ⟨cb, 0, none⟩), .agg (encO8 o).toArray] w fun e w' => Do8M X w mb cb d room l c o e w' := by
 obtain ⟨w0, hw0, D0, hz0⟩ := boxE8 w o
 obtain ⟨c0, f0⟩ := blkc D0.b0
 have h' := (h.mono (Y := fun k => X k ∧ k < w.heap.size) fun k hk hl => ⟨hk, hl⟩).mod0 D0.M
 skip
 obtain ⟨v1, v2, v3, v4, e1, e2, e3, e4⟩ : ∃ v1 v2 v3 v4, do8C o l c = v1 ∧ ans8 room o l c = v2 ∧ do8L room o l = v3 ∧ do8D o d = v4 := ⟨_, _, _, _, rfl, rfl, rfl, rfl⟩
 have g1 : v1 = c := by subst e1; simp [do8C, ky, k0, k1, k2, k3, k4, k5, k6, k7]
 have g2 : v2 = ansL zSg false 0 := by subst e2; simp [ans8, do8S, do8B, do8E, oS, Op8.six, do6B, do6E, ky, k0, k1, k2, k3, k4, k5, k6, k7]
 have g3 : v3 = l := by subst e3; simp [do8L, do6L, Op8.six, ky, k0, k1, k2, k3, k4, k5, k6, k7]
 have g4 : v4 = d := by subst e4; simp [do8D, k0, k1, k2, k3, k4, k5, k6, k7]
 unfold Do8M
 rw [e1, e2, e3, e4, g1, g2, g3, g4]
 clear e1 e2 e3 e4 g1 g2 g3 g4 v1 v2 v3 v4
 obtain ⟨k, n, ls, la, hs, ha, sv⟩ := o
 dsimp only at hf  k0 k1 k2 k3 k4 k5 k6 k7
 skip
 skip
 simp only [encO8, encS, ansL, zSg, zAn] at *
 have HD := D0
 replace D0 := hid D0
 replace hz0 := hid hz0
 replace h' := hid h'
 clear h hf HD
 skip
 obtain ⟨c1, f1⟩ := blkc D0.out.b1
 obtain ⟨c2, f2⟩ := blkc D0.out.b2
 simp only [zAn] at c1 c2
 go_enter Tryz.func31, Tryz.ntmps31
 go_wp2_with fail
 obtain ⟨E1, E2, E3⟩ := does8_end D0.out hz0.out (h'.out.wide (w := w0)) (Mod.refl _ _) [] [.int .i64 0, .int .i64 0, .int .i64 0, .int .i64 0, .int .i64 0, .bool false, .int .i64 0] 0 rfl
 exact ret_row (w.heap.size + 1) [.int .i64 0, .int .i64 0, .int .i64 0, .int .i64 0, .int .i64 0, .bool false, .int .i64 0] rfl rfl E1 Tryz.underlying61 rfl (by kernel_rfl) rfl ⟨rfl, E2, E3⟩
theorem does8 (h : MC X w mb cb d room l c) (o : Op8) (hf : fit64 o.s.la) : Calls Tryz.prog 31 #[.pointer (some ⟨mb, 0, none⟩), .pointer (some ⟨cb, 0, none⟩), .agg (encO8 o).toArray] w fun e w' => Do8M X w mb cb d room l c o e w' := by
 by_cases k0 : o.k = 0
 ·exact does8_0 h o hf k0
 by_cases k1 : o.k = 1
 ·exact does8_1 h o hf k1
 by_cases k2 : o.k = 2
 ·exact does8_2 h o hf k2
 by_cases k3 : o.k = 3
 ·exact does8_3 h o hf k3
 by_cases k4 : o.k = 4
 ·exact does8_4 h o hf k4
 by_cases k5 : o.k = 5
 ·exact does8_5 h o hf k5
 by_cases k6 : o.k = 6
 ·exact does8_6 h o hf k6
 by_cases k7 : o.k = 7
 ·exact does8_7 h o hf k7
 exact does8_x h o hf k0 k1 k2 k3 k4 k5 k6 k7
end
open Go Go.RowKit
def BothD (D : Nat → Prop) (w0 W : World) (mb cb d : Nat) (room : Int) (v : Value) (Lt : List Sg) (c : Cu) (Lv : List Sg) : Prop :=
 MC (fun k => w0.heap.size ≤ k ∧ v.ownBlock ≠ some k ∧ ¬ D k) W mb cb d room Lt c ∧ RowV W v Lv ∧ (∀ k, v.ownBlock = some k → w0.heap.size ≤ k ∧ ¬ D k) ∧ Mod (fun _ => False) w0 W ∧ (∀ k, D k → k < W.heap.size)
section
variable {w0 W W' : World} {mb cb d d' : Nat} {room : Int} {v v' : Value} {Lt Lv L L' : List Sg} {c c' : Cu} {D D' : Nat → Prop}
theorem BothD.more (h : BothD D w0 W mb cb d room v Lt c Lv) (m : Mod (fun _ => False) W W') (hD : ∀ k, D' k → D k ∨ W.heap.size ≤ k) (hl : ∀ k, D' k → k < W'.heap.size) : BothD D' w0 W' mb cb d room v Lt c Lv := by
 have h1 : ∀ k, (w0.heap.size ≤ k ∧ v.ownBlock ≠ some k ∧ ¬ D k) → k < W.heap.size → (w0.heap.size ≤ k ∧ v.ownBlock ≠ some k ∧ ¬ D' k) := fun k hk hlt => ⟨hk.1, hk.2.1, fun h' => by
  rcases hD k h' with h' | h'
  ·exact hk.2.2 h'
  ·omega⟩
 have h2 : ∀ k, v.ownBlock = some k → w0.heap.size ≤ k ∧ ¬ D' k := fun k hk => ⟨(h.2.2.1 k hk).1, fun h' => by
  rcases hD k h' with h' | h'
  ·exact (h.2.2.1 k hk).2 h'
  ·have := own_lt h.2.1 hk; omega⟩
 exact ⟨(h.1.mono h1).mod0 m, h.2.1.keep m, h2, h.2.2.2.1.trans' m, hl⟩
theorem BothD.mod0 (h : BothD D w0 W mb cb d room v Lt c Lv) (m : Mod (fun _ => False) W W') : BothD D w0 W' mb cb d room v Lt c Lv := h.more m (fun _ h => .inl h) fun k hk => m.lt (h.2.2.2.2 k hk)
theorem BothD.less (h : BothD D w0 W mb cb d room v Lt c Lv) (hD : ∀ k, D' k → D k) : BothD D' w0 W mb cb d room v Lt c Lv := h.more (Mod.refl _ _) (fun _ h => .inl (hD _ h)) fun k hk => h.2.2.2.2 k (hD k hk)
theorem BothD.back {w00 : World} (h : BothD D w0 W mb cb d room v Lt c Lv) (M : Mod (fun _ => False) w00 w0) : BothD D w00 W mb cb d room v Lt c Lv :=
 ⟨h.1.mono fun k hk _ => ⟨Nat.le_trans M.size hk.1, hk.2⟩, h.2.1, fun k hk => ⟨Nat.le_trans M.size (h.2.2.1 k hk).1, (h.2.2.1 k hk).2⟩, M.trans' h.2.2.2.1, h.2.2.2.2⟩
theorem BothD.below (h : BothD D w0 W mb cb d room v Lt c Lv) : Below w0.heap.size w0 W := h.2.2.2.1.to_below (Nat.le_refl _) fun _ h => h.elim
theorem BothD.start (h : MC (fun k => w0.heap.size ≤ k) W mb cb d room Lt c) (M : Mod (fun _ => False) w0 W) : BothD (fun _ => False) w0 W mb cb d room (.slice none 0 0) Lt c [] :=
 ⟨h.mono fun k hk _ => ⟨hk, (by intro e; cases e), fun h => h⟩, RowV.nil _, (by intro k hk; cases hk), M, fun _ h => h.elim⟩
theorem BothD.row (h : BothD D w0 W mb cb d room v L c Lv) (R : RowV W' v' L') (M : Mod (fun _ => False) W W') (H : Hence W v v') : BothD D w0 W' mb cb d room v' L c L' := by
 have h1 : ∀ k, (w0.heap.size ≤ k ∧ v.ownBlock ≠ some k ∧ ¬ D k) → k < W.heap.size → (w0.heap.size ≤ k ∧ v'.ownBlock ≠ some k ∧ ¬ D k) := fun k hk hlt => ⟨hk.1, fun e => by
  rcases H k e with e | e
  ·exact hk.2.1 e
  ·omega, hk.2.2⟩
 have h2 : ∀ k, v'.ownBlock = some k → w0.heap.size ≤ k ∧ ¬ D k := fun k hk => by
  rcases H k hk with e | e
  ·exact h.2.2.1 k e
  ·exact ⟨Nat.le_trans h.2.2.2.1.size e, fun hd => by have := h.2.2.2.2 k hd; omega⟩
 exact ⟨(h.1.mono h1).mod0 M, R, h2, h.2.2.2.1.trans' M, fun k hk => M.lt (h.2.2.2.2 k hk)⟩
theorem BothD.map (h : BothD D w0 W mb cb d room v Lt c Lv) (R : MC (fun k => (w0.heap.size ≤ k ∧ v.ownBlock ≠ some k ∧ ¬ D k) ∨ W.heap.size ≤ k) W' mb cb d' room L c') (M : Mod (fun k => w0.heap.size ≤ k ∧ v.ownBlock ≠ some k ∧ ¬ D k) W W') : BothD D w0 W' mb cb d' room v L c' Lv := by
 refine ⟨R.mono fun k hk hlt => ?_, own_mod h.2.1 M fun k hk hX => hX.2.1 hk, h.2.2.1, h.2.2.2.1.trans M fun j hj => .inr hj.1, fun k hk => M.lt (h.2.2.2.2 k hk)⟩
 rcases hk with hk | hk
 ·exact hk
 ·exact ⟨Nat.le_trans h.2.2.2.1.size hk, fun e => by have := own_lt h.2.1 e; omega, fun hd => by have := h.2.2.2.2 k hd; omega⟩
theorem bothD_do (h : BothD D w0 W mb cb d room v L c L) (o : Op8) (hf : fit64 o.s.la) : Calls Tryz.prog 41 #[v, .agg (encRC c).toArray, .int .i64 room, .agg (encO8 o).toArray] W fun e W' => ∃ v', e = .returned (.tuple #[v', .agg (encRC (do8C o L c)).toArray, .agg (ans8 room o L c).toArray]) ∧
  BothD D w0 W' mb cb d room v' L c (do8L room o L) ∧ Mod (fun _ => False) W W' := by
 have hb := mc_bound h.1
 refine (do8R h.2.1 (mc_row h.1) (by omega) c h.1.2.2.2 room o hf).mono ?_
 rintro e W1 ⟨v', rfl, R, M, H⟩
 exact ⟨v', rfl, h.row R M H, M⟩
theorem bothD_does (h : BothD D w0 W mb cb d room v Lt c Lv) (o : Op8) (hf : fit64 o.s.la) : Calls Tryz.prog 31 #[.pointer (some ⟨mb, 0, none⟩), .pointer (some ⟨cb, 0, none⟩), .agg (encO8 o).toArray] W fun e W' => e = .returned (.agg (ans8 room o Lt c).toArray) ∧ BothD D w0 W' mb cb (do8D o d) room v (do8L room o Lt) (do8C o Lt c) Lv ∧ Mod (fun k => w0.heap.size ≤ k ∧ v.ownBlock ≠ some k ∧ ¬ D k) W W' := by
 refine (does8 h.1 o hf).mono ?_
 rintro e W1 ⟨rfl, R, M⟩
 exact ⟨rfl, h.map R M, M⟩
end
open Go Go.RowKit Go.Shelf
def AllJ7 (b : Nat) (W0 : World) (pre : List Sg) (G : Nat → Prop) (W : World) : Prop := ∃ v, (∀ k, G k ↔ (k = b ∨ v.ownBlock = some k)) ∧ W.heap[b]? = some (.cells #[v] 28 (0, 0)) ∧ RowV W v pre ∧ (∀ k, v.ownBlock = some k → W0.heap.size ≤ k) ∧ Mod (fun k => k = b) W0 W
theorem AllJ7.stab (b : Nat) (W0 : World) : Stab W0.heap.size (AllJ7 b W0) := by
 rintro s G W W' T ⟨v, g1, g2, g3, g4, g5⟩ m t
 exact ⟨v, g1, m.heap g2 fun h => (t b h).2 ((g1 b).2 (.inl rfl)), own_mod g3 m fun k hk h => (t k h).2 ((g1 k).2 (.inr hk)), g4, g5.trans m fun j h => .inr (t j h).1⟩
open Go Go.RowKit Go.Shelf
section
variable {w w' : World} {mb d : Nat} {room : Int} {l : List Sg} {X : Nat → Prop}
attribute [local go_sem] Oper.semAt_some
set_option maxHeartbeats 2000000 in
set_option maxRecDepth 100000 in
theorem om_list (h : OM X w mb d room l) : Calls Tryz.prog 32 #[.pointer (some ⟨mb, 0, none⟩)] w fun e w' => ∃ v, e = .returned v ∧ RowV w' v l ∧ (∀ k, v.ownBlock = some k → w.heap.size ≤ k) ∧ Mod (fun _ => False) w w' := by
 have hlen : l.length ≤ 65535 := by have := om_bound h; omega
 obtain ⟨v0, hb, hX, hT0⟩ := h
 have hT : TT (fun k => k < w.heap.size) w v0 d room l := hT0.mono fun k _ hl => hl
 clear hT0 hX
 obtain ⟨w1, hw1, b1, M1, hs1⟩ : ∃ w1, w.alloc (.cells #[.slice none 0 0] 28) = w1 ∧ w1.heap[w.heap.size]? = some (.cells #[.slice none 0 0] 28 (0, 0)) ∧ Mod (fun _ => False) w w1 ∧ w1.heap.size = w.heap.size + 1 := ⟨_, rfl, alloc_0 _ _, (Mod.refl _ _).alloc _, by simp⟩
 replace hb := M1.heap hb fun h => h
 obtain ⟨T, tb, K, rfl, hn, hm, HA⟩ := tt_all (hT.mod0 M1)
 obtain ⟨c0, f0⟩ := blkc hb
 replace hs1 := hid hs1
 clear hT hb
 simp only [List.append_toArray, List.append_nil] at HA
 refine calls_of_wp_marks Tryz.func32 rfl ?_
 simp only [Tryz.ntmps32, List.size_toArray, List.length_cons, List.length_nil, Nat.reduceAdd, Nat.reduceSub, Array.replicate_succ, Array.replicate_zero, List.push_toArray, List.append_toArray, List.nil_append, List.cons_append]
 go_wp2_with fail
 refine HA.mono ?_; rintro e w2 ⟨gf, lb, H, rfl, eg, hit, hH, M2⟩
 clear HA hw1 hn hm c0 f0
 replace b1 := M2.heap b1 fun h => h
 replace M1 := M1.trans' M2
 replace hs1 := hs1.out
 have hz2 := M2.size
 rw [hs1] at hz2 hH
 clear M2 hs1
 go_wp2_with fail
 refine wp_range1G (gf := gf) (lb := lb) rfl eg hit (fun _ => rfl)
  (fun j => j = w.heap.size) (fun j hj => by have : j = w.heap.size := hj; omega) (fun j hj h => by have h : j = w.heap.size := h; have := (hH j hj).1; omega) (fun j hj => (hH j hj).2)
  (AllJ7 w.heap.size w2) (fun c pre G W => False) (AllJ7.stab _ _) (fun c s G W W' T h m t => h.elim)
  (fun pre G W ⟨v, g1, g2, g3, g4, g5⟩ => ⟨g5.size, fun k hk => by rcases (g1 k).1 hk with rfl | hk; exact blkl g2; exact own_lt g3 hk⟩)
  ⟨.slice none 0 0, fun k => ⟨.inl, fun h => h.elim id fun h => by cases h⟩, b1, RowV.nil _, fun k hk => (by cases hk), Mod.refl _ _⟩
  (fun x => #[.int .i64 x.ls, .int .i64 x.la, .int .i64 x.hs, .int .i64 x.ha, .int .i64 x.v]) 38 ?body ?done ?stop
 case stop => exact fun c pre G W _ h => h.elim
 case body =>
  apply Exists.intro
  constructor
  ·intro yl x W KK hKK
   simp [encSB]
   gi_wp2_with fail
   generalize W.heap.size = b at hKK ⊢
   exact hKK
  ·intro yl pre x rest b G W hx hb hGb hbz hI hne
   obtain ⟨v, g1, g2, g3, g4, g5⟩ := hI
   obtain ⟨q1, q2⟩ := blkc g2
   obtain ⟨p1, p2⟩ := blkc hb
   have hx' : l = pre ++ x :: rest := hx
   have hlp : pre.length ≤ 65536 := by rw [hx'] at hlen; simp at hlen; omega
   clear hx hx'
   obtain ⟨xl, xa, xh, xg, xv⟩ := x
   gi_wp2_with (refine app_oneIn [.int .i64 xl, .int .i64 xa, .int .i64 xh, .int .i64 xg, .int .i64 xv] v pre.length (pre.flatMap encS) (.tmp 11) (.tmp 13) 28 38 (.agg #[.int .i64 0, .int .i64 0, .int .i64 0, .int .i64 0, .int .i64 0]) 5 40 rfl rfl Tryz.underlying28 infoSg rfl (by omega) (by omega) rfl rfl g3 rfl (by simp [Value.oneCell']) (by omega) ?_)
   intro v6 w6 own gr bl
   have Mg : Mod (fun k => v.ownBlock = some k) W w6 := Mod.of_grown gr
   have g26 := Mg.heap g2 (fun h => by have := g4 _ h; omega)
   obtain ⟨r1, r2⟩ := blkc g26
   have hown : ∀ k, v6.ownBlock = some k → k < w6.heap.size := fun k hk => own_lt own hk
   have hg6 : ∀ k, v6.ownBlock = some k → w2.heap.size ≤ k := fun k hk => by
    rcases bl k hk with e | e
    ·exact g4 k e
    ·exact Nat.le_trans g5.size e
   have R6 : RowV w6 v6 (pre ++ [⟨xl, xa, xh, xg, xv⟩]) := by
    unfold RowV
    rw [List.flatMap_append, List.length_append]
    simpa [encS] using own
   obtain ⟨A6, c6, hv6, _⟩ := own_slice own
   have hz6 := Mg.size
   have hbl := blkl g26
   have fin : roundEnd (AllJ7 w.heap.size w2) (fun c pre G W => False) (pre ++ [⟨xl, xa, xh, xg, xv⟩]) G W .normal { tmps := #[], defers := [] } (w6.setCell ⟨w.heap.size, 0, none⟩ v6) := by
    have MS : Mod (fun k => k = w.heap.size) w6 (w6.setCell ⟨w.heap.size, 0, none⟩ v6) := Mod.setCell (S := fun k => k = w.heap.size) (p := ⟨w.heap.size, 0, none⟩) (Mod.refl _ _) (.inl rfl) _
    refine ⟨fun k => k = w.heap.size ∨ v6.ownBlock = some k, fun k hk => ?_, ?_, v6, fun k => Iff.rfl, setL_whole (cs := [v]) (us := [v6]) g26 rfl, own_mod R6 MS fun k hk h => ?_, hg6, ?_⟩
    ·rcases hk with rfl | hk
     ·exact ⟨.inl ((g1 _).2 (.inl rfl)), by simpa using hbl⟩
     ·refine ⟨?_, by simpa using hown k hk⟩
      rcases bl k hk with e | e
      ·exact .inl ((g1 k).2 (.inr e))
      ·exact .inr e
    ·exact ((Mg.mono fun i hi => .inl ((g1 i).2 (.inr hi))).trans MS fun i hi => .inl ((g1 i).2 (.inl hi)))
    ·have := hg6 k hk; have h : k = w.heap.size := h; omega
    ·exact (g5.trans Mg fun i hi => .inr (g4 i hi)).trans MS fun i hi => .inl hi
   subst hv6
   clear q1 q2 p1 p2
   replace fin := hid fin
   gi_wp2_with fail
   exact fin.out
 case done =>
  rintro G W ⟨v, g1, g2, g3, g4, g5⟩ hne hk
  obtain ⟨q1, q2⟩ := blkc g2
  go_wp2_with fail
  refine retM1 (D := w2.heap.size) hk rfl (results_tmp rfl _ _ _) ⟨v, rfl, own_mod g3 (mod_put1 _ _ _) fun k hk h => ?_, fun k hk => by have := g4 k hk; omega, mod_putObj (M1.trans g5 fun j h => .inr (by have : j = w.heap.size := h; omega)) (.inr (by omega)) _⟩
  have h : k = w2.heap.size := h
  exact (hne k ((g1 k).2 (.inr hk))).1 h
end
end Go.Proofs.Bo
