import Derived.Test.YtofgoehkahcajaaGreatPBG
import Derived.Test.YtofgoehkahcajaaGreatNear7
set_option linter.unusedVariables false
set_option linter.unusedSimpArgs false
namespace Go.Proofs.Bo
open Go Go.RowKit

section
variable {w w' : World} {tb ab : Nat} {lv fv : Value} {σ : List (Option Bn)} {free : List Int} {root deg room many : Int} {S : StB} {d : Nat} {L : List Sg}

theorem lenBZ (h : MemB w tb ab lv fv σ free root deg room many S) : Calls Tryz.prog 25 #[.pointer (some ⟨tb, 0, none⟩)] w fun e w' => e = .returned (.int .i64 many) ∧ Mod (fun _ => False) w w' := by
  obtain ⟨c0, f0⟩ := blkc h.t
  go_enter Tryz.func25, Tryz.ntmps25
  go_wp2_with fail
  go_ret
  exact ⟨rfl, Mod.refl _ _⟩

/-- How high a B-tree is. -/
def HgtB (d : Nat) (S : StB) (root : Int) (H : Nat) : Prop := (root = -1 ∧ H = 0) ∨ ∃ (r h lo : Nat) (L : List Sg) (F : List Nat), root = r ∧ H = h + 1 ∧ Sub d S h lo r L F

theorem HgtB.kid {r h lo : Nat} {L : List Sg} {F : List Nat} (hs : Sub d S (h + 1) lo r L F) {l : List Sg} {ks : List Nat} (hl : S r = some (l, ks)) : ∃ (h0 : 0 < ks.length) (L' : List Sg) (F' : List Nat), Sub d S h (d - 1) ks[0] L' F' := by
  obtain ⟨l', cs, h1, h2, h3, h4, h5, h6, h7⟩ := hs
  rw [hl] at h1; cases h1
  have h0 : 0 < cs.length := by omega
  exact ⟨by simpa using h0, cs[0].L, cs[0].F, by simpa using h5 cs[0] (List.getElem_mem h0)⟩

def HgtX7 (d : Nat) (S : StB) (w : World) (H : Nat) (g : Nat) (n i : Value) (W : World) : Prop := ∃ iv : Int, i = .int .i64 iv ∧ n = .int .i64 ((H - g : Nat) : Int) ∧ g ≤ H ∧ HgtB d S iv g ∧ Mod (fun _ => False) w W

set_option maxHeartbeats 2000000 in
theorem heightBZ (h : MemB w tb ab lv fv σ free root deg room many S) {H : Nat} (hh : HgtB d S root H) (hH : H < 4611686018427387904) : Calls Tryz.prog 23 #[.pointer (some ⟨tb, 0, none⟩)] w fun e w' => e = .returned (.int .i64 H) ∧ Mod (fun _ => False) w w' := by
  obtain ⟨c0, f0⟩ := blkc h.t
  replace hh := hid hh
  go_enter Tryz.func23, Tryz.ntmps23
  go_wp2_with fail
  go_loopg [3, 4] H (fun g n i W => HgtX7 d S w H g n i W)
  case atStart => exact ⟨root, rfl, by simp, Nat.le_refl _, hh.out, Mod.refl _ _⟩
  case round =>
    clear hh c0 f0
    obtain ⟨iv, rfl, rfl, hg, hh, M⟩ := hrel
    replace h := h.mod0 M
    rcases hh with ⟨rfl, rfl⟩ | ⟨r, hi, lo, L', F', rfl, rfl, hS⟩
    · clear h
      go_wp2_with fail
      go_ret
      exact ⟨by simp, M⟩
    · obtain ⟨l, ks, hSr, hl1, hl2, hks⟩ := hS.node
      obtain ⟨b, hb, hn⟩ := h.live hSr
      obtain ⟨lb, c, rfl⟩ := h.lbS hb
      have PA := atM h hb
      have PL := leafM h hb hn
      obtain ⟨q0, q1, q2, q3⟩ := h.cells hb
      have hnk := hn.kn
      have hr0 : ((r : Int) != -1) = true := by simp
      obtain ⟨m, hm⟩ : ∃ m, H - (hi + 1) = m := ⟨_, rfl⟩
      have hw : IntKind.i64.wrap ((m : Int) + 1) = (m : Int) + 1 := by rw [IntKind.wrap_i64]; omega
      have hm1 : m + 1 = H - hi := by omega
      rw [hm]
      cases hi with
      | zero =>
        have hk : ks = [] := hks.2 rfl
        rw [hk] at PL
        simp only [decide_true] at PL
        clear hn hS h hks hl1 hl2
        replace hm := hid hm
        replace hm1 := hid hm1
        go_wp2_with fail
        refine PA.mono ?_; rintro e w2 ⟨rfl, hw2⟩; subst hw2
        go_wp2_with fail
        refine PL.mono ?_; rintro e w2 ⟨rfl, hw2⟩; subst hw2
        go_wp2_with fail
        go_ret
        exact ⟨by have := hm1.out; simp at this; rw [show ((m : Int) + 1) = ((m + 1 : Nat) : Int) by simp, this]; rfl, M⟩
      | succ hi =>
        rw [show decide (ks = []) = false from by simp; intro e; exact absurd (hks.1 e) (by omega)] at PL
        obtain ⟨h0, L2, F2, hS2⟩ := HgtB.kid hS hSr
        obtain ⟨gk, hgk, yk⟩ := hn.kidC h0
        rw [hnk, hgk] at q1
        clear hn hS h hks hl1 hl2
        replace hm := hid hm
        replace hm1 := hid hm1
        have h0I : (0 : Int) < ks.length := by omega
        have hS2 := hid hS2
        go_wp2_with fail
        refine PA.mono ?_; rintro e w2 ⟨rfl, hw2⟩; subst hw2
        go_wp2_with fail
        refine PL.mono ?_; rintro e w2 ⟨rfl, hw2⟩; subst hw2
        go_wp2_with fail
        refine PA.mono ?_; rintro e w2 ⟨rfl, hw2⟩; subst hw2
        go_wp2_with fail
        go_roundg (hi + 1)
        case measure => omega
        case rel => exact ⟨_, rfl, by rw [← hm1.out]; rfl, by omega, .inr ⟨_, hi, _, L2, F2, rfl, rfl, hS2.out⟩, M⟩
end
end Go.Proofs.Bo
set_option linter.unusedVariables false
set_option linter.unusedSimpArgs false
namespace Go.Proofs.Bo
open Go Go.RowKit

section
variable {w w' : World} {tb ab : Nat} {lv fv : Value} {σ : List (Option Bn)} {free : List Int} {root deg room many : Int} {S : StB} {d : Nat} {L : List Sg}

theorem newBZ_no (deg room : Int) (h : deg < 2 ∨ 64 < deg ∨ room < 0 ∨ 4096 < room) (w : World) : Calls Tryz.prog 17 #[.int .i64 deg, .int .i64 room] w fun e w' => e = .returned (.tuple #[.pointer none, .int .i64 1]) ∧ w' = w := by
  by_cases h1 : deg < 2
  · clear h
    go_enter Tryz.func17, Tryz.ntmps17
    go_wp2_with fail
    go_ret2
    exact ⟨rfl, rfl⟩
  by_cases h2 : 64 < deg
  · clear h
    go_enter Tryz.func17, Tryz.ntmps17
    go_wp2_with fail
    go_ret2
    exact ⟨rfl, rfl⟩
  by_cases h3 : room < 0
  · clear h
    go_enter Tryz.func17, Tryz.ntmps17
    go_wp2_with fail
    go_ret2
    exact ⟨rfl, rfl⟩
  have h4 : 4096 < room := by omega
  clear h
  go_enter Tryz.func17, Tryz.ntmps17
  go_wp2_with fail
  go_ret2
  exact ⟨rfl, rfl⟩

/-- A B-tree with no node. -/
theorem memB_nil {lv fv : Value} (hl : lv = .slice none 0 0) (hf : fv = .slice none 0 0) (ht : w.heap[tb]? = some (.cells #[.pointer (some ⟨ab, 0, none⟩), .int .i64 (-1), .int .i64 deg, .int .i64 room, .int .i64 many] 90 (0, 0)))
    (ha : ArB w ab lv fv (2 * room + 4) [] []) (hne : tb ≠ ab) : MemB w tb ab lv fv [] [] (-1) deg room many (fun _ => none) := by
  subst hl hf
  refine ⟨ht, ha, fun i _ => rfl, fun i b hb => by simp at hb, fun i j b b' x y k hb => by simp at hb, fun i b x k hb => by simp at hb, ?_⟩
  rintro (h | h | h)
  · exact hne h
  · cases h
  · cases h
theorem footB_nil {k : Nat} (h : FootB tb ab (.slice none 0 0) (.slice none 0 0) [] k) : k = tb ∨ k = ab := by
  rcases h with h | (h | h | h) | ⟨i, b, x, h, _⟩
  · exact .inl h
  · exact .inr h
  · cases h
  · cases h
  · simp at h

theorem newBZ (deg room : Int) (h0 : 2 ≤ deg ∧ deg ≤ 64) (h1 : 0 ≤ room ∧ room ≤ 4096) (w : World) : Calls Tryz.prog 17 #[.int .i64 deg, .int .i64 room] w fun e w' => ∃ tb, e = .returned (.tuple #[.pointer (some ⟨tb, 0, none⟩), .int .i64 0]) ∧
    MemB w' tb w.heap.size (.slice none 0 0) (.slice none 0 0) [] [] (-1) deg room 0 (fun _ => none) ∧ w.heap.size ≤ tb ∧ Mod (fun _ => False) w w' := by
  have P := newB (2 * room + 4) (by omega) (by omega) w
  have e1 : IntKind.i64.wrap (2 * room) = 2 * room := by rw [IntKind.wrap_i64]; omega
  have e2 : IntKind.i64.wrap (2 * room + 4) = 2 * room + 4 := by rw [IntKind.wrap_i64]; omega
  have g1 : ¬ deg < 2 := by omega
  have g2 : ¬ 64 < deg := by omega
  have g3 : ¬ room < 0 := by omega
  have g4 : ¬ 4096 < room := by omega
  clear h0 h1
  go_enter Tryz.func17, Tryz.ntmps17
  go_wp2_with fail
  refine P.mono ?_; rintro e w1 ⟨rfl, A1, B1⟩
  clear P
  go_wp2_with fail
  go_ret2
  have hM : Mod (fun _ => False) w1 (w1.alloc (.cells #[.pointer (some ⟨w.heap.size, 0, none⟩), .int .i64 (-1), .int .i64 deg, .int .i64 room, .int .i64 0] 90)) := (Mod.refl _ _).alloc _
  have hz : w.heap.size < w1.heap.size := A1.lt (.inl rfl)
  exact ⟨w1.heap.size, rfl, memB_nil rfl rfl (alloc_0 _ _) (A1.mod hM fun _ _ h => h) (by omega), B1.size, (Mod.of_below B1).trans' hM⟩

theorem degBZ (h : MemB w tb ab lv fv σ free root deg room many S) : Calls Tryz.prog 27 #[.pointer (some ⟨tb, 0, none⟩)] w fun e w' => e = .returned (.int .i64 deg) ∧ Mod (fun _ => False) w w' := by
  obtain ⟨c0, f0⟩ := blkc h.t
  go_enter Tryz.func27, Tryz.ntmps27
  go_wp2_with fail
  go_ret
  exact ⟨rfl, Mod.refl _ _⟩

theorem clearBZ (h : MemB w tb ab lv fv σ free root deg room many S) : Calls Tryz.prog 49 #[.pointer (some ⟨tb, 0, none⟩)] w fun e w' => e = .returned (.tuple #[]) ∧
    MemB w' tb ab (.slice none 0 0) (.slice none 0 0) [] [] (-1) deg room 0 (fun _ => none) ∧ Mod (FootB tb ab lv fv σ) w w' := by
  obtain ⟨c0, f0⟩ := blkc h.t
  have P := resetB h.a
  have hne : tb ≠ ab := fun e => h.ta (.inl e)
  have ht := h.t
  have hta := h.ta
  clear h
  go_enter Tryz.func49, Tryz.ntmps49
  go_wp2_with fail
  refine P.mono ?_; rintro e w1 ⟨rfl, A1, M1⟩
  replace ht := M1.heap ht hta
  obtain ⟨q1, q2⟩ := blkc ht
  clear c0 f0 P
  go_wp2_with fail
  go_end0
  have M2 : Mod (fun k => k = tb) w1 ((w1.setCell ⟨tb, 1, none⟩ (.int .i64 (-1))).setCell ⟨tb, 4, none⟩ (.int .i64 0)) := Mod.setCell (S := fun x => x = tb) (p := ⟨tb, 4, none⟩) (Mod.setCell (S := fun x => x = tb) (p := ⟨tb, 1, none⟩) (Mod.refl _ _) (.inl rfl) _) (.inl rfl) _
  refine ⟨rfl, memB_nil rfl rfl ?_ (A1.mod M2 ?_) hne, (M1.mono fun k hk => .inl (.inr (.inl hk))).trans M2 fun k hk => .inl (.inl hk)⟩
  · simpa using heap_setCell_same _ tb 4 _ 90 (.int .i64 0) (heap_setCell_same w1 tb 1 _ 90 (.int .i64 (-1)) ht)
  · intro k hk e
    have e : k = tb := e
    rcases hk with h | h | h
    · omega
    · cases h
    · cases h
end
end Go.Proofs.Bo
