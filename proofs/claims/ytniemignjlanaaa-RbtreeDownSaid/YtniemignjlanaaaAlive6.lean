import Derived.Test.YtniemignjlanaaaDoes6
set_option linter.unusedVariables false
namespace Go.Proofs.Bo
open Go Go.RowKit

/-- A tree of blocks that were made since w0; nothing else has changed. -/
def FB (w0 w : World) (tb : Nat) (room : Int) (l : List Sg) : Prop := RB (fun k => w0.heap.size ≤ k) w tb room l ∧ Mod (fun _ => False) w0 w

section
variable {w0 w w' : World} {tb : Nat} {room : Int} {l l' : List Sg}
theorem FB.mod0 (h : FB w0 w tb room l) (m : Mod (fun _ => False) w w') : FB w0 w' tb room l := ⟨h.1.mod0 m, h.2.trans' m⟩
theorem FB.grow (h : FB w0 w tb room l) (a : RB (fun k => w0.heap.size ≤ k ∨ w.heap.size ≤ k) w' tb room l') (m : Mod (fun k => w0.heap.size ≤ k) w w') : FB w0 w' tb room l' :=
  ⟨a.mono fun k hk _ => by have := h.2.size; omega, h.2.trans m fun j h => .inr h⟩
theorem FB.below (h : FB w0 w tb room l) : Below w0.heap.size w0 w := h.2.to_below (Nat.le_refl _) fun _ h => h.elim
theorem fb_new (h0 : 0 ≤ room) (h1 : room ≤ 4096) (w : World) : Calls Try.prog 10 #[.int .i64 room] w fun e w' => ∃ tb, e = .returned (.tuple #[.pointer (some ⟨tb, 0, none⟩), .int .i64 0]) ∧ FB w w' tb room [] :=
  (rb_new h0 h1 w).mono fun e w' ⟨tb, h1, h2, h3, h4⟩ => ⟨tb, h1, h2, h4⟩
theorem fb_put (h : FB w0 w tb room l) (s : Sg) (hf : fit64 s.la) : Calls Try.prog 14 #[.pointer (some ⟨tb, 0, none⟩), .agg (encS s).toArray] w fun e w' => e = .returned (.int .i64 (putE room s l)) ∧ FB w0 w' tb room (putL room s l) :=
  (rb_put h.1 s hf).mono fun e w' ⟨a, b, c⟩ => ⟨a, h.grow b c⟩
theorem fb_del (h : FB w0 w tb room l) (cs ca : Int) (hf : fit64 ca) : Calls Try.prog 16 #[.pointer (some ⟨tb, 0, none⟩), .agg #[.int .i64 cs, .int .i64 ca]] w fun e w' => e = .returned (.bool (hasK (kx cs ca) l)) ∧ FB w0 w' tb room (delL (kx cs ca) l) :=
  (rb_del h.1 cs ca hf).mono fun e w' ⟨a, b, c⟩ => ⟨a, h.grow b c⟩
theorem fb_does (h : FB w0 w tb room l) (o : Op6) (hf : fit64 o.s.la) : Calls Try.prog 20 #[.pointer (some ⟨tb, 0, none⟩), .agg (encO6 o).toArray] w fun e w' => e = .returned (.tuple #[.bool (do6B o l), .int .i64 (do6E room o l)]) ∧ FB w0 w' tb room (do6L room o l) :=
  (doesZ h.1 o hf).mono fun e w' ⟨a, b, c⟩ => ⟨a, h.grow b c⟩

theorem rbt0 {t : T} (h : RBT t 0) (hr : t.red = false) : t = .E := by
  cases t with
  | E => rfl
  | N i b s l r =>
    cases b
    · simp only [RBT, Bool.false_eq_true, if_false] at h
      obtain ⟨m, e, _⟩ := h; omega
    · cases hr
theorem rbt0_size {t : T} (h : RBT t 0) : t.size ≤ 1 := by
  cases t with
  | E => exact Nat.zero_le _
  | N i b s l r =>
    cases b
    · simp only [RBT, Bool.false_eq_true, if_false] at h
      obtain ⟨m, e, _⟩ := h; omega
    · simp only [RBT, if_true] at h
      obtain ⟨h1, h2, h3, h4⟩ := h
      obtain rfl := rbt0 h3 h1
      obtain rfl := rbt0 h4 h2
      simp [T.size]
theorem size1 {t : T} (h : t.size = 1) : t.height = 1 := by
  cases t with
  | E => cases h
  | N i b s l r =>
    have hl : l = .E := by cases l with | E => rfl | N => simp only [T.size] at h; omega
    have hr : r = .E := by cases r with | E => rfl | N => simp only [T.size] at h; omega
    subst hl hr
    simp [T.height]
theorem hgt3 {k : Nat} (h : HgtOK l k) (hl : l.length = 3) : k = 2 := by
  obtain ⟨t, rfl, ⟨hr, n, hn⟩, rfl⟩ := h
  rw [size_toL] at hl
  cases t with
  | E => cases hl
  | N i b s l r =>
    cases b
    · simp only [RBT, Bool.false_eq_true, if_false] at hn
      obtain ⟨m, rfl, h1, h2⟩ := hn
      simp only [T.size] at hl
      cases l with
      | E =>
        simp only [RBT] at h1
        subst h1
        have := rbt0_size h2
        simp only [T.size] at hl
        omega
      | N a1 a2 a3 a4 a5 =>
        cases r with
        | E =>
          simp only [RBT] at h2
          subst h2
          have := rbt0_size h1
          simp only [T.size] at hl this
          omega
        | N c1 c2 c3 c4 c5 =>
          simp only [T.height]
          have e1 := size1 (t := .N a1 a2 a3 a4 a5) (by simp only [T.size] at hl ⊢; omega)
          have e2 := size1 (t := .N c1 c2 c3 c4 c5) (by simp only [T.size] at hl ⊢; omega)
          simp only [T.height] at e1 e2
          omega
    · cases hr

/-- A segment is stored in a new block. -/
theorem put5 (w : World) (s : Sg) : ∃ w0 W, w.alloc (.cells #[.int .i64 0, .int .i64 0, .int .i64 0, .int .i64 0, .int .i64 0] 36) = w0 ∧
    ((((w0.setCell ⟨w.heap.size, 0, none⟩ (.int .i64 s.ls)).setCell ⟨w.heap.size, 1, none⟩ (.int .i64 s.la)).setCell ⟨w.heap.size, 2, none⟩ (.int .i64 s.hs)).setCell ⟨w.heap.size, 3, none⟩ (.int .i64 s.ha)).setCell ⟨w.heap.size, 4, none⟩ (.int .i64 s.v) = W ∧
    w0.heap[w.heap.size]? = some (.cells #[.int .i64 0, .int .i64 0, .int .i64 0, .int .i64 0, .int .i64 0] 36 (0, 0)) ∧
    W.heap[w.heap.size]? = some (.cells (encS s).toArray 36 (0, 0)) ∧ Mod (fun _ => False) w W := by
  have M0 : Mod (fun _ => False) w (w.alloc (.cells #[.int .i64 0, .int .i64 0, .int .i64 0, .int .i64 0, .int .i64 0] 36)) := (Mod.refl _ _).alloc _
  exact ⟨_, _, rfl, rfl, alloc_0 _ _, setL_whole (cs := [.int .i64 0, .int .i64 0, .int .i64 0, .int .i64 0, .int .i64 0]) (us := encS s) (alloc_0 _ _) rfl,
    ((((M0.setCell (.inr (Nat.le_refl _)) _).setCell (.inr (Nat.le_refl _)) _).setCell (.inr (Nat.le_refl _)) _).setCell (.inr (Nat.le_refl _)) _).setCell (.inr (Nat.le_refl _)) _⟩

set_option maxHeartbeats 2000000 in
theorem alive6 (w : World) : Calls Try.prog 11 #[] w fun e w' => e = .returned (.bool true) ∧ Below w.heap.size w w' := by
  go_enter Try.func11, Try.ntmps11
  go_wp2_with fail
  refine (fb_new (room := 5) (by omega) (by omega) w).mono ?_
  rintro e w1 ⟨tb, rfl, F1⟩
  go_wp2_with fail
  refine (segZ 3 _).mono ?_
  rintro e w2 ⟨rfl, M2⟩
  replace F1 := F1.mod0 M2
  go_wp2_with fail
  refine (fb_put F1 (segN 3) (by unfold fit64 segN; decide)).mono ?_
  rintro e w3 ⟨rfl, F3⟩
  rw [show putE 5 (segN 3) [] = 0 from rfl]
  rw [show putL 5 (segN 3) [] = [segN 3] from rfl] at F3
  clear F1 M2
  go_wp2_with fail
  refine (segZ 1 _).mono ?_
  rintro e w4 ⟨rfl, M4⟩
  replace F3 := F3.mod0 M4
  go_wp2_with fail
  refine (fb_put F3 (segN 1) (by unfold fit64 segN; decide)).mono ?_
  rintro e w5 ⟨rfl, F5⟩
  rw [show putE 5 (segN 1) [segN 3] = 0 from rfl]
  rw [show putL 5 (segN 1) [segN 3] = [segN 1, segN 3] from rfl] at F5
  clear F3 M4
  go_wp2_with fail
  refine (segZ 2 _).mono ?_
  rintro e w6 ⟨rfl, M6⟩
  replace F5 := F5.mod0 M6
  go_wp2_with fail
  refine (fb_put F5 (segN 2) (by unfold fit64 segN; decide)).mono ?_
  rintro e w7 ⟨rfl, F7⟩
  rw [show putE 5 (segN 2) [segN 1, segN 3] = 0 from rfl]
  rw [show putL 5 (segN 2) [segN 1, segN 3] = [segN 1, segN 2, segN 3] from rfl] at F7
  clear F5 M6
  go_wp2_with fail
  refine (rb_floor F7.1 0 5 (by unfold fit64; decide)).mono ?_
  rintro e w8 ⟨rfl, M8⟩
  replace F7 := F7.mod0 M8
  rw [show optS (nearS false true (kx 0 5) [segN 1, segN 2, segN 3]) = .tuple #[.agg (encS (segN 3)).toArray, .bool true] from rfl]
  obtain ⟨u8, W8, g8, k8, b8, B8, N8⟩ := put5 w8 (segN 3)
  obtain ⟨d8, e8⟩ := blkc b8
  replace F7 := F7.mod0 N8
  simp only [encS, segN]
  simp only [segN] at k8
  go_wp2_with fail
  clear M8 d8 e8 b8 g8 k8 N8
  refine (rb_lower F7.1 0 2 (by unfold fit64; decide)).mono ?_
  rintro e w9 ⟨rfl, M9⟩
  rw [show optS (nearS false false (kx 0 2) [segN 1, segN 2, segN 3]) = .tuple #[.agg (encS (segN 1)).toArray, .bool true] from rfl]
  obtain ⟨u9, W9, g9, k9, b9, B9, N9⟩ := put5 w9 (segN 1)
  obtain ⟨d9, e9⟩ := blkc b9
  replace F7 := (F7.mod0 M9).mod0 N9
  obtain ⟨D8, E8⟩ := blkc (N9.heap (M9.heap B8 fun h => h) fun h => h)
  obtain ⟨D9, E9⟩ := blkc B9
  simp only [encS, segN] at D8 D9 ⊢
  simp only [segN] at k9
  go_wp2_with fail
  refine (rb_height F7.1).mono ?_
  rintro e w10 ⟨k, hk, rfl, M10⟩
  obtain rfl := hgt3 hk rfl
  replace F7 := F7.mod0 M10
  go_wp2_with fail
  refine (rb_check F7.1).mono ?_
  rintro e w11 ⟨rfl, M11⟩
  replace F7 := F7.mod0 M11
  go_wp2_with fail
  refine (fb_del F7 0 2 (by unfold fit64; decide)).mono ?_
  rintro e w12 ⟨rfl, F12⟩
  rw [show hasK (kx 0 2) [segN 1, segN 2, segN 3] = true from rfl]
  rw [show delL (kx 0 2) [segN 1, segN 2, segN 3] = [segN 1, segN 3] from rfl] at F12
  go_wp2_with fail
  refine (fb_del F12 0 2 (by unfold fit64; decide)).mono ?_
  rintro e w13 ⟨rfl, F13⟩
  rw [show hasK (kx 0 2) [segN 1, segN 3] = false from rfl]
  rw [show delL (kx 0 2) [segN 1, segN 3] = [segN 1, segN 3] from rfl] at F13
  go_wp2_with fail
  refine (rb_len F13.1).mono ?_
  rintro e w14 ⟨rfl, M14⟩
  go_wp2_with fail
  go_ret
  exact ⟨rfl, (F13.mod0 M14).below⟩
end
end Go.Proofs.Bo
