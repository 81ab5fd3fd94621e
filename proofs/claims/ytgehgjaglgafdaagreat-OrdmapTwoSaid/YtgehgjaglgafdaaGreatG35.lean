import Derived.Test.YtgehgjaglgafdaaGreatG18
import Derived.Test.YtgehgjaglgafdaaGreatG30
import Derived.Test.YtgehgjaglgafdaaGreatG21
import Derived.Test.YtgehgjaglgafdaaGreatG34
import Derived.Test.YtgehgjaglgafdaaGreatG27
import Derived.Test.YtgehgjaglgafdaaGreatG28
set_option linter.unusedVariables false
set_option linter.unusedSimpArgs false
namespace Go.Proofs.Bo
open Go Go.RowKit
section
variable {w w' : World} {tb ab : Nat} {lv fv : Value} {σ : List (Option Bn)} {free : List Int} {root deg room many : Int} {S : StB}
def HasB (w : World) (nb tx lb i tb : Nat) : Prop := w.heap[nb]? = some (.cells #[.pointer (some ⟨lb, i * 3, none⟩)] 145 (0, 0)) ∧ w.heap[tx]? = some (.cells #[.pointer (some ⟨tb, 0, none⟩)] 91 (0, 0))
theorem HasB.mod0 {nb tx lb i tb : Nat} (h : HasB w nb tx lb i tb) (m : Mod (fun _ => False) w w') : HasB w' nb tx lb i tb := ⟨m.heap h.1 fun h => h, m.heap h.2 fun h => h⟩
attribute [local irreducible] wpQuiet in
set_option maxHeartbeats 1000000 in
theorem hasZ_no {nb tx lb n c i : Nat} {l : List Sg} {ks : List Nat} (h : MemB w tb ab (.slice (some ⟨lb, 0, none⟩) n c) fv σ free root deg room many S) (hb : HasB w nb tx lb i tb) (hi : S i = some (l, ks)) (q : Int) (hq : q < 0 ∨ (ks.length : Int) ≤ q) :
  Calls Tryz.prog 141 #[.int .i64 q, .pointer (some ⟨nb, 0, none⟩), .pointer (some ⟨tx, 0, none⟩)] w fun e w' => e = .returned (.bool false) ∧ Mod (fun _ => False) w w' := by
 obtain ⟨bi, hbi, hni⟩ := h.live hi
 have HB : ∀ (W : World), CM w W → (∀ j, W.cell? ⟨nb, j, none⟩ = #[.pointer (some ⟨lb, i * 3, none⟩)][j]?) ∧ (∀ j, W.cell? ⟨tx, j, none⟩ = #[.pointer (some ⟨tb, 0, none⟩)][j]?) ∧ W.cell? ⟨lb, i * 3 + 1, none⟩ = some (.slice bi.ka ks.length bi.kc) := by
  intro W M
  obtain ⟨_, z1, _⟩ := (h.mod0 M).cells hbi
  rw [hni.kn] at z1
  exact ⟨(blkc (hb.mod0 M).1).1, (blkc (hb.mod0 M).2).1, z1⟩
 replace HB := hid HB
 by_cases h0 : q < 0
 ·have hq1 : decide (q ≥ 0) = false := decide_eq_false (by omega)
  clear hq h0 h hb hi hni
  go_enter Tryz.func141, Tryz.ntmps141
  go_wp2_with fail
  refine cq_region (by kernel_rfl) (by kernel_rfl) ?_
  iterate 32 (refine wpQuiet_step (fun K hK => ?_); go_simp; first | (refine hK _ ?_; clear hK K) | (refine ⟨_, fun _ _ => rfl, hK _ ?_⟩; clear hK K) | (apply Exists.intro; refine ⟨fun wq hq => ?_, hK _ ?_⟩; (focus (first  | (obtain ⟨d1, d2, z1⟩ := HB.out _ hq; go_simp; try with_reducible rfl))); clear hK K))
  refine wpQuiet_nil ?_
  intro w1 M1
  go_wp2_with fail
  go_ret
  exact ⟨rfl, M1⟩
 ·have hq1 : decide (q ≥ 0) = true := decide_eq_true (by omega)
  have hq2 : decide (q < (ks.length : Int)) = false := decide_eq_false (by omega)
  clear hq h0 h hb hi hni
  go_enter Tryz.func141, Tryz.ntmps141
  go_wp2_with fail
  refine cq_region (by kernel_rfl) (by kernel_rfl) ?_
  iterate 32 (refine wpQuiet_step (fun K hK => ?_); go_simp; first | (refine hK _ ?_; clear hK K) | (refine ⟨_, fun _ _ => rfl, hK _ ?_⟩; clear hK K) | (apply Exists.intro; refine ⟨fun wq hq => ?_, hK _ ?_⟩; (focus (first  | (obtain ⟨d1, d2, z1⟩ := HB.out _ hq; go_simp; try with_reducible rfl))); clear hK K))
  refine wpQuiet_nil ?_
  intro w1 M1
  go_wp2_with fail
  go_ret
  exact ⟨rfl, M1⟩
attribute [local irreducible] wpQuiet in
set_option maxHeartbeats 1000000 in
theorem hasZ {nb tx lb n c i k t : Nat} {l lt : List Sg} {ks kt : List Nat} (h : MemB w tb ab (.slice (some ⟨lb, 0, none⟩) n c) fv σ free root deg room many S) (hb : HasB w nb tx lb i tb) (hi : S i = some (l, ks)) (hk : ks[k]? = some t) (ht : S t = some (lt, kt)) :
  Calls Tryz.prog 141 #[.int .i64 (k : Int), .pointer (some ⟨nb, 0, none⟩), .pointer (some ⟨tx, 0, none⟩)] w fun e w' => e = .returned (.bool (decide ((lt.length : Int) ≥ deg))) ∧ Mod (fun _ => False) w w' := by
 obtain ⟨bi, hbi, hni⟩ := h.live hi
 obtain ⟨bt, hbt, hnt⟩ := h.live ht
 obtain ⟨hk1, e1⟩ := List.getElem?_eq_some_iff.1 hk
 obtain ⟨gk, hgk, -⟩ := hni.kidC hk1
 have HB : ∀ (W : World), CM w W → (∀ j, W.cell? ⟨nb, j, none⟩ = #[.pointer (some ⟨lb, i * 3, none⟩)][j]?) ∧ (∀ j, W.cell? ⟨tx, j, none⟩ = #[.pointer (some ⟨tb, 0, none⟩)][j]?) ∧ W.cell? ⟨lb, i * 3 + 1, none⟩ = some (.slice (some ⟨gk, 0, none⟩) ks.length bi.kc) ∧
   W.cell? ⟨gk, k, none⟩ = some (.int .i64 (t : Int)) ∧ W.cell? ⟨lb, t * 3, none⟩ = some (.slice bt.la lt.length bt.lc) ∧ (∀ j, W.cell? ⟨tb, j, none⟩ = #[.pointer (some ⟨ab, 0, none⟩), .int .i64 root, .int .i64 deg, .int .i64 room, .int .i64 many][j]?) := by
  intro W M
  obtain ⟨_, z1, _⟩ := (h.mod0 M).cells hbi
  obtain ⟨z2, _⟩ := (h.mod0 M).cells hbt
  rw [hni.kn, hgk] at z1
  rw [hnt.ln] at z2
  obtain ⟨g2, hg2, u2⟩ := (hni.keep (w' := W) fun x k e => Mod.block M k (hni.lt e) fun h => h).kidC hk1
  rw [hgk] at hg2; cases hg2
  rw [e1] at u2
  exact ⟨(blkc (hb.mod0 M).1).1, (blkc (hb.mod0 M).2).1, z1, u2, z2, (blkc (h.mod0 M).t).1⟩
 replace HB := hid HB
 have HA := hid (fun (W : World) (M : CM w W) => (atM (h.mod0 M) hbt).mono fun e w'' ⟨h1, h2⟩ => (⟨h1, by rw [h2]; exact M⟩ : e = Ending.returned (.pointer (some ⟨lb, t * 3, none⟩)) ∧ CM w w''))
 have hq1 : decide ((k : Int) ≥ 0) = true := decide_eq_true (by omega)
 have hq2 : decide ((k : Int) < (ks.length : Int)) = true := decide_eq_true (by omega)
 have hkI : (k : Int) < ks.length := by omega
 clear h hb hi hni hnt ht hk e1
 go_enter Tryz.func141, Tryz.ntmps141
 go_wp2_with fail
 refine cq_region (by kernel_rfl) (by kernel_rfl) ?_
 iterate 32 (refine wpQuiet_step (fun K hK => ?_); go_simp; first | (refine hK _ ?_; clear hK K) | (refine ⟨_, fun _ _ => rfl, hK _ ?_⟩; clear hK K) | (apply Exists.intro; refine ⟨fun wq hq => ?_, hK _ ?_⟩; (focus (first | (go_at_call 114; exact HA.out _ hq) | (obtain ⟨d1, d2, z1, z2, z3, d3⟩ := HB.out _ hq; go_simp; try with_reducible rfl))); clear hK K))
 refine wpQuiet_nil ?_
 intro w1 M1
 go_wp2_with fail
 go_ret
 exact ⟨rfl, M1⟩
end
open Go Go.RowKit
section
variable {w w' : World} {tb ab : Nat} {lv fv : Value} {σ : List (Option Bn)} {free : List Int} {root room many : Int} {S : StB} {d : Nat}
theorem FatQ.keep {w0 : World} {g lo i k k' : Nat} {L l : List Sg} {F : List Nat} (h : FatQ w tb ab lv fv σ root room many S d g lo i k L l F k' w') (m : Mod (fun _ => False) w0 w) : FatQ w0 tb ab lv fv σ root room many S d g lo i k L l F k' w' := by
 obtain ⟨S', fv', σ', free', F', l', ks', kt, lt, kk, q1, q2, q3, q4, q5, q6, q7, q8, q9, q10⟩ := h
 exact ⟨S', fv', σ', free', F', l', ks', kt, lt, kk, q1, q2, q3, q4, q5, q6, q7, q8, (m.mono fun _ h => h.elim).trans' q9, fun x hx => (q10 x hx).imp id fun q => Nat.le_trans m.size q⟩
def hasN (d : Nat) (S : StB) (ks : List Nat) (q : Int) : Bool := decide (0 ≤ q) && (match ks[q.toNat]? with
 | none => false
 | some t => match S t with
  | none => false
  | some (lt, _) => decide (d ≤ lt.length))
theorem hasN_at {S : StB} {ks : List Nat} {k t : Nat} {lt : List Sg} {kt : List Nat} (hk : ks[k]? = some t) (ht : S t = some (lt, kt)) : hasN d S ks (k : Int) = decide (d ≤ lt.length) := by
 unfold hasN
 simp [hk, ht]
theorem hasN_no {S : StB} {ks : List Nat} {q : Int} (hq : q < 0 ∨ (ks.length : Int) ≤ q) : hasN d S ks q = false := by
 unfold hasN
 rcases hq with h | h
 ·rw [decide_eq_false (by omega)]; rfl
 ·rw [List.getElem?_eq_none (by omega)]; simp
theorem hasQ {nb tx lb n c i : Nat} {l : List Sg} {ks : List Nat} (h : MemB w tb ab (.slice (some ⟨lb, 0, none⟩) n c) fv σ free root (d : Int) room many S) (hb : HasB w nb tx lb i tb) (hi : S i = some (l, ks)) (hall : ∀ t ∈ ks, S t ≠ none) (q : Int) :
  Calls Tryz.prog 141 #[.int .i64 q, .pointer (some ⟨nb, 0, none⟩), .pointer (some ⟨tx, 0, none⟩)] w fun e w' => e = .returned (.bool (hasN d S ks q)) ∧ Mod (fun _ => False) w w' := by
 by_cases hq : q < 0 ∨ (ks.length : Int) ≤ q
 ·rw [hasN_no hq]
  exact hasZ_no h hb hi q hq
 ·obtain ⟨k, rfl⟩ := Int.eq_ofNat_of_zero_le (show 0 ≤ q by omega)
  have hk : k < ks.length := by omega
  have hk' : ks[k]? = some ks[k] := List.getElem?_eq_getElem hk
  obtain ⟨⟨lt, kt⟩, ht⟩ := Option.ne_none_iff_exists'.1 (hall _ (List.getElem_mem hk))
  rw [hasN_at hk' ht]
  refine (hasZ h hb hi hk' ht).mono ?_
  rintro e w' ⟨rfl, M⟩
  refine ⟨?_, M⟩
  congr 3
  exact propext ⟨fun h => by omega, fun h => by omega⟩
theorem Sub.kidsLive {S : StB'} {g lo i : Nat} {L l : List Sg} {ks F : List Nat} (hs : Sub d S (g + 1) lo i L F) (hi : S i = some (l, ks)) : ∀ t ∈ ks, S t ≠ none := by
 obtain ⟨l', cs, h1, h2, h3, h4, h5, h6, h7⟩ := hs
 rw [hi] at h1; cases h1
 intro t ht
 obtain ⟨c, hc, rfl⟩ := List.mem_map.1 ht
 exact (h5 c hc).live _ (h5 c hc).mem
set_option maxHeartbeats 4000000 in
theorem fatZ (h : MemB w tb ab lv fv σ free root (d : Int) room many S) (hd : 2 ≤ d ∧ d ≤ 64) {g lo i k : Nat} {L l : List Sg} {ks F : List Nat} (hs : Sub d S (g + 1) (lo + 1) i L F) (hr : Srt L) (hi : S i = some (l, ks)) (hnd : F.Nodup) (hk : k ≤ l.length) :
  Calls Tryz.prog 133 #[.pointer (some ⟨tb, 0, none⟩), .int .i64 i, .int .i64 (k : Int)] w fun e w' => ∃ k' : Nat, e = .returned (.int .i64 (k' : Int)) ∧ FatQ w tb ab lv fv σ root room many S d g lo i k L l F k' w' := by
 obtain ⟨bi, hbi, hni⟩ := h.live hi
 obtain ⟨lb, c, rfl⟩ := h.lbS hbi
 obtain ⟨i1, i2, i3, i4⟩ := hs.lens hi
 have i5 := i4 (by omega)
 have hlow := hs.low (Nat.le_succ lo)
 have kid : ∀ q, q ≤ l.length → ∃ t lt kt, ks[q]? = some t ∧ S t = some (lt, kt) ∧ hasN d S ks (q : Int) = decide (d ≤ lt.length) := by
  intro q hq
  have hq' : ks[q]? = some (ks[q]'(by omega)) := List.getElem?_eq_getElem (by omega)
  obtain ⟨⟨lt, kt⟩, ht⟩ := Option.ne_none_iff_exists'.1 (hs.kidsLive hi _ (List.getElem_mem (show q < ks.length by omega)))
  exact ⟨_, lt, kt, hq', ht, hasN_at hq' ht⟩
 obtain ⟨w0, hw0, b0, M0⟩ : ∃ w0, w.alloc (.cells #[.pointer (some ⟨tb, 0, none⟩)] 91) = w0 ∧ w0.heap[w.heap.size]? = some (.cells #[.pointer (some ⟨tb, 0, none⟩)] 91 (0, 0)) ∧ Mod (fun _ => False) w w0 := ⟨_, rfl, alloc_0 _ _, (Mod.refl _ _).alloc _⟩
 have PA := atM (h.mod0 M0) hbi
 obtain ⟨d0, e0⟩ := blkc b0
 have wk : (k : Int) - 1 = IntKind.i64.wrap ((k : Int) - 1) := by rw [IntKind.wrap_i64]; omega
 have wk1 := wk.symm
 have wk2 : IntKind.i64.wrap ((k : Int) + 1) = (k : Int) + 1 := by rw [IntKind.wrap_i64]; omega
 obtain ⟨wz, W1, hwz, hW1, bz, b1, M1⟩ : ∃ wz W1, w0.alloc (.cells #[.pointer none] 145) = wz ∧ wz.setCell ⟨w0.heap.size, 0, none⟩ (.pointer (some ⟨lb, i * 3, none⟩)) = W1 ∧ wz.heap[w0.heap.size]? = some (.cells #[.pointer none] 145 (0, 0)) ∧ W1.heap[w0.heap.size]? = some (.cells #[.pointer (some ⟨lb, i * 3, none⟩)] 145 (0, 0)) ∧ Mod (fun _ => False) w0 W1 :=
  ⟨_, _, rfl, rfl, alloc_0 _ _, by simpa using heap_setCell_same (w0.alloc (.cells #[.pointer none] 145)) w0.heap.size 0 _ 145 (.pointer (some ⟨lb, i * 3, none⟩)) (alloc_0 _ _), ((Mod.refl _ _).alloc _).setCell (.inr (Nat.le_refl _)) _⟩
 obtain ⟨dz, ez⟩ := blkc bz
 have HB : HasB W1 w0.heap.size w.heap.size lb i tb := ⟨b1, M1.heap b0 fun h => h⟩
 have MM := M0.trans' M1
 have hH := hid (fun (W : World) (q : Mod (fun _ => False) W1 W) (x : Int) => hasQ ((h.mod0 MM).mod0 q) (HB.mod0 q) hi (hs.kidsLive hi) x)
 have HBB := hid (fun (W : World) (q : Mod (fun _ => False) W1 W) => And.intro (blkc (HB.mod0 q).1).1 (And.intro (blkc (HB.mod0 q).2).1 (((h.mod0 MM).mod0 q).cells hbi).1))
 have hln := hid hni.ln
 have MMh := hid MM
 have hA : ∀ W, Mod (fun _ => False) W1 W → hasN d S ks (k : Int) = true → FatQ w tb ab (.slice (some ⟨lb, 0, none⟩) σ.length c) fv σ root room many S d g lo i k L l F k W := by
  intro W q hB
  obtain ⟨t, lt, kt, z1, z2, z3⟩ := kid k hk
  rw [z3] at hB
  exact ⟨S, fv, σ, free, F, l, ks, t, lt, kt, (h.mod0 MM).mod0 q, hi, hlow, ⟨fun _ _ _ => rfl, hnd, fun x hx => .inl hx, fun x hx hx' => absurd hx hx'⟩, z1, z2, of_decide_eq_true hB, SameP.refl _ _, (MM.trans' q).mono fun _ h => h.elim, fun x hx => .inl hx⟩
 have hB : ∀ W, Mod (fun _ => False) W1 W → hasN d S ks (k : Int) = false → hasN d S ks ((k : Int) - 1) = true → Calls Tryz.prog 142 #[.pointer (some ⟨tb, 0, none⟩), .int .i64 i, .int .i64 (k : Int), .bool true] W fun e w' => e = .returned (.tuple #[]) ∧ FatQ w tb ab (.slice (some ⟨lb, 0, none⟩) σ.length c) fv σ root room many S d g lo i k L l F k w' := by
  intro W q h1 h2
  have hk0 : 1 ≤ k := by
   rcases Nat.eq_zero_or_pos k with e | e
   ·rw [hasN_no (.inl (by omega))] at h2; cases h2
   ·exact e
  obtain ⟨k0, rfl⟩ : ∃ k0, k = k0 + 1 := ⟨k - 1, by omega⟩
  obtain ⟨t, lt, kt, z1, z2, z3⟩ := kid (k0 + 1) hk
  obtain ⟨t', lt', kt', y1, y2, y3⟩ := kid k0 (by omega)
  rw [z3] at h1
  rw [show (((k0 + 1 : Nat) : Int)) - 1 = (k0 : Int) by omega, y3] at h2
  have := fat_left ((h.mod0 MM).mod0 q) hd hlow hr hi hnd (k := k0) (by omega) y1 z1 y2 z2 (of_decide_eq_true h2) (by have := of_decide_eq_false h1; omega)
  rw [show (k0 : Int) + 1 = ((k0 + 1 : Nat) : Int) by omega] at this
  exact this.mono fun e w' ⟨h1, h2⟩ => ⟨h1, h2.keep (MM.trans' q)⟩
 have hC : ∀ W, Mod (fun _ => False) W1 W → hasN d S ks (k : Int) = false → hasN d S ks ((k : Int) + 1) = true → Calls Tryz.prog 142 #[.pointer (some ⟨tb, 0, none⟩), .int .i64 i, .int .i64 (k : Int), .bool false] W fun e w' => e = .returned (.tuple #[]) ∧ FatQ w tb ab (.slice (some ⟨lb, 0, none⟩) σ.length c) fv σ root room many S d g lo i k L l F k w' := by
  intro W q h1 h2
  have hk0 : k < l.length := by
   rcases Nat.lt_or_ge k l.length with e | e
   ·exact e
   ·rw [hasN_no (.inr (by omega))] at h2; cases h2
  obtain ⟨t, lt, kt, z1, z2, z3⟩ := kid k hk
  obtain ⟨t', lt', kt', y1, y2, y3⟩ := kid (k + 1) hk0
  rw [z3] at h1
  rw [show (k : Int) + 1 = ((k + 1 : Nat) : Int) by omega, y3] at h2
  have := fat_right ((h.mod0 MM).mod0 q) hd hlow hr hi hnd hk0 z1 y1 z2 y2 (by have := of_decide_eq_false h1; omega) (of_decide_eq_true h2)
  exact this.mono fun e w' ⟨h1, h2⟩ => ⟨h1, h2.keep (MM.trans' q)⟩
 have hD : ∀ W, Mod (fun _ => False) W1 W → hasN d S ks (k : Int) = false → hasN d S ks ((k : Int) + 1) = false → k < l.length → Calls Tryz.prog 132 #[.pointer (some ⟨tb, 0, none⟩), .int .i64 i, .int .i64 (k : Int)] W fun e w' => e = .returned (.tuple #[]) ∧ FatQ w tb ab (.slice (some ⟨lb, 0, none⟩) σ.length c) fv σ root room many S d g lo i k L l F k w' := by
  intro W q h1 h2 hk0
  obtain ⟨t, lt, kt, z1, z2, z3⟩ := kid k hk
  obtain ⟨t', lt', kt', y1, y2, y3⟩ := kid (k + 1) hk0
  rw [z3] at h1
  rw [show (k : Int) + 1 = ((k + 1 : Nat) : Int) by omega, y3] at h2
  have := fat_join ((h.mod0 MM).mod0 q) hd hs hr hi hnd hk0 z1 y1 z2 y2 (by have := of_decide_eq_false h1; omega) (by have := of_decide_eq_false h2; omega)
  exact this.mono fun e w' ⟨h1, h2, _⟩ => ⟨h1, h2.keep (MM.trans' q)⟩
 have hE : ∀ W, Mod (fun _ => False) W1 W → hasN d S ks (k : Int) = false → hasN d S ks ((k : Int) - 1) = false → ¬ k < l.length → Calls Tryz.prog 132 #[.pointer (some ⟨tb, 0, none⟩), .int .i64 i, .int .i64 ((k : Int) - 1)] W fun e w' => e = .returned (.tuple #[]) ∧ FatQ w tb ab (.slice (some ⟨lb, 0, none⟩) σ.length c) fv σ root room many S d g lo i k L l F (k - 1) w' := by
  intro W q h1 h2 hk0
  obtain ⟨k0, rfl⟩ : ∃ k0, k = k0 + 1 := ⟨k - 1, by omega⟩
  obtain ⟨t, lt, kt, z1, z2, z3⟩ := kid (k0 + 1) hk
  obtain ⟨t', lt', kt', y1, y2, y3⟩ := kid k0 (by omega)
  rw [z3] at h1
  rw [show (((k0 + 1 : Nat) : Int)) - 1 = (k0 : Int) by omega, y3] at h2
  have := fat_join ((h.mod0 MM).mod0 q) hd hs hr hi hnd (k := k0) (by omega) y1 z1 y2 z2 (by have := of_decide_eq_false h2; omega) (by have := of_decide_eq_false h1; omega)
  rw [show (((k0 + 1 : Nat) : Int)) - 1 = (k0 : Int) by omega]
  exact this.mono fun e w' ⟨h1, _, h2⟩ => ⟨h1, h2.keep (MM.trans' q)⟩
 have hk1 : ¬ k < l.length → 1 ≤ k := fun h => by omega
 replace hA := hid hA
 replace hB := hid hB
 replace hC := hid hC
 replace hD := hid hD
 replace hE := hid hE
 replace hk1 := hid hk1
 clear kid hlow hs hr hi hnd h hni HB MM M0 M1 b0 b1 bz i1 i2 i3 i4 i5 hk wk
 go_enter Tryz.func133, Tryz.ntmps133
 go_wp2_with fail
 refine PA.mono ?_; rintro e w2 ⟨rfl, hw2⟩; subst hw2
 go_wp2_with fail
 refine (hH.out _ (Mod.refl _ _) _).mono ?_; rintro e w3 ⟨rfl, M3⟩
 obtain ⟨x0, x1, x2⟩ := HBB.out _ M3
 clear PA hwz hW1 dz ez d0 e0 hw0
 cases hB1 : hasN d S ks (k : Int)
 ·go_wp2_with fail
  refine (hH.out _ M3 _).mono ?_; rintro e w4 ⟨rfl, M4⟩
  have M34 := M3.trans' M4
  clear x0 x1 x2
  obtain ⟨x0, x1, x2⟩ := HBB.out _ M34
  cases hB2 : hasN d S ks ((k : Int) - 1)
  ·go_wp2_with fail
   refine (hH.out _ M34 _).mono ?_; rintro e w5 ⟨rfl, M5⟩
   have M35 := M34.trans' M5
   clear x0 x1 x2
   obtain ⟨x0, x1, x2⟩ := HBB.out _ M35
   rw [hln.out] at x2
   cases hB3 : hasN d S ks ((k : Int) + 1)
   ·by_cases hkl : k < l.length
    ·have PJ := hD.out _ M35 hB1 hB3 hkl
     have hkI : decide ((k : Int) < (l.length : Int)) = true := decide_eq_true (by omega)
     replace hkl := hid hkl
     go_wp2_with fail
     refine PJ.mono ?_; rintro e w6 ⟨rfl, Q⟩
     have Q := hid Q
     go_wp2_with fail
     go_ret
     exact ⟨k, rfl, Q.out⟩
    ·have PJ := hE.out _ M35 hB1 hB2 hkl
     have hk1' := hk1.out hkl
     have hkI : decide ((k : Int) < (l.length : Int)) = false := decide_eq_false (by omega)
     replace hkl := hid hkl
     replace hk1' := hid hk1'
     go_wp2_with fail
     refine PJ.mono ?_; rintro e w6 ⟨rfl, Q⟩
     have Q := hid Q
     go_wp2_with fail
     go_ret
     exact ⟨k - 1, by have := hk1'.out; rw [show ((k - 1 : Nat) : Int) = (k : Int) - 1 by omega]; rfl, Q.out⟩
   ·have PJ := hC.out _ M35 hB1 hB3
    go_wp2_with fail
    refine PJ.mono ?_; rintro e w6 ⟨rfl, Q⟩
    have Q := hid Q
    go_wp2_with fail
    go_ret
    exact ⟨k, rfl, Q.out⟩
  ·have PJ := hB.out _ M34 hB1 hB2
   go_wp2_with fail
   refine PJ.mono ?_; rintro e w6 ⟨rfl, Q⟩
   have Q := hid Q
   go_wp2_with fail
   go_ret
   exact ⟨k, rfl, Q.out⟩
 ·have Q := hid (hA.out _ M3 hB1)
  go_wp2_with fail
  go_ret
  exact ⟨k, rfl, Q.out⟩
end
open Go Go.RowKit
section
variable {w w' : World} {tb ab : Nat} {lv fv : Value} {σ : List (Option Bn)} {free : List Int} {root deg room many : Int} {S : StB} {d : Nat}
def endS (first : Bool) (L : List Sg) : Option Sg := if first then L.head? else L.getLast?
theorem inter_head {l : List Sg} {p : List Sg} {ps : List (List Sg)} (h : p ≠ []) : (inter l (p :: ps)).head? = p.head? := by
 cases p with
 | nil => exact absurd rfl h
 | cons x p => rfl
theorem inter_last {l : List Sg} {ps : List (List Sg)} {p : List Sg} (hl : ps.length = l.length) (h : p ≠ []) : (inter l (ps ++ [p])).getLast? = p.getLast? := by
 have := inter_mid l [] ps p [] hl
 rw [List.append_nil] at this
 rw [this]
 simp only [post, List.append_nil]
 rw [List.getLast?_append]
 cases hx : p.getLast? with
 | none => rw [List.getLast?_eq_none_iff] at hx; exact absurd hx h
 | some x => rfl
theorem Sub.ne {S : StB'} {h lo i : Nat} {L : List Sg} {F : List Nat} (hs : Sub d S h lo i L F) (h1 : 1 ≤ lo) (hd : 2 ≤ d) : L ≠ [] := by
 intro e
 have := (hs.size hd).1 h1
 have hm := List.length_pos_of_mem hs.mem
 rw [e, List.length_nil] at this
 omega
theorem Sub.endKid {S : StB'} {h lo i : Nat} {L l : List Sg} {ks : List Nat} {F : List Nat} (hs : Sub d S (h + 1) lo i L F) (hi : S i = some (l, ks)) (hd : 2 ≤ d) (first : Bool) :
  ∃ (hk : (if first then 0 else ks.length - 1) < ks.length) (L' : List Sg) (F' : List Nat), Sub d S h (d - 1) (ks[if first then 0 else ks.length - 1]) L' F' ∧ endS first L = endS first L' := by
 obtain ⟨l', cs, h1, h2, h3, h4, h5, h6, h7⟩ := hs
 rw [hi] at h1; cases h1
 have h0 : 0 < cs.length := by omega
 cases first with
 | true =>
  cases cs with
  | nil => simp at h0
  | cons c cs =>
   have hc := h5 c (by simp)
   exact ⟨by simp, c.L, c.F, by simpa using hc, by rw [h6]; simp only [endS, if_true, List.map_cons]; exact inter_head (hc.ne (by omega) hd)⟩
 | false =>
  obtain ⟨cs0, c, rfl⟩ : ∃ cs0 c, cs = cs0 ++ [c] := by
   rcases List.eq_nil_or_concat cs with rfl | ⟨cs0, c, rfl⟩
   ·simp at h0
   ·exact ⟨cs0, c, by simp⟩
  have hc := h5 c (by simp)
  refine ⟨by simp, c.L, c.F, by simpa using hc, ?_⟩
  rw [h6]
  simp only [endS, Bool.false_eq_true, if_false, List.map_append, List.map_cons, List.map_nil]
  exact inter_last (by simp at h4; simp; omega) (hc.ne (by omega) hd)
theorem Sub.endLeaf {S : StB'} {lo i : Nat} {L l : List Sg} {ks : List Nat} {F : List Nat} (hs : Sub d S 0 lo i L F) (hi : S i = some (l, ks)) (h1 : 1 ≤ lo) (first : Bool) : ∃ (hk : (if first then 0 else l.length - 1) < l.length), endS first L = some (l[if first then 0 else l.length - 1]) := by
 obtain ⟨q1, q2, q3, q4⟩ := hs
 rw [hi] at q1; cases q1
 cases first with
 | true => exact ⟨by simp; omega, by simp only [endS, if_true]; rw [List.head?_eq_getElem?, List.getElem?_eq_getElem (by omega)]⟩
 | false => exact ⟨by simp; omega, by simp only [endS, Bool.false_eq_true, if_false]; rw [List.getLast?_eq_getElem?, List.getElem?_eq_getElem (by omega)]⟩
def EndX (d : Nat) (S : StB) (w : World) (first : Bool) (s : Sg) (g : Nat) (i : Value) (W : World) : Prop :=
 ∃ (r lo : Nat) (L : List Sg) (F : List Nat), i = .int .i64 r ∧ 1 ≤ lo ∧ Sub d S g lo r L F ∧ endS first L = some s ∧ Mod (fun _ => False) w W ∧ W.heap[w.heap.size]? = some (.cells #[.int .i64 0, .int .i64 0, .int .i64 0, .int .i64 0, .int .i64 0] 38 (0, 0))
set_option maxHeartbeats 2000000 in
theorem endZ_first (h : MemB w tb ab lv fv σ free root (d : Int) room many S) (hd : 2 ≤ d ∧ d ≤ 64) {g lo r : Nat} {L : List Sg} {F : List Nat} (hS : Sub d S g lo r L F) (hlo : 1 ≤ lo) {s : Sg} (hs : endS true L = some s) :
  Calls Tryz.prog 131 #[.pointer (some ⟨tb, 0, none⟩), .int .i64 r, .bool true] w fun e w' => e = .returned (.agg (encS s).toArray) ∧ Mod (fun _ => False) w w' := by
 have hX := hid (show EndX d S w true s g (.int .i64 r) (w.alloc (.cells #[.int .i64 0, .int .i64 0, .int .i64 0, .int .i64 0, .int .i64 0] 38)) from ⟨r, lo, L, F, rfl, hlo, hS, hs, (Mod.refl _ _).alloc _, alloc_0 _ _⟩)
 clear hS hs
 go_enter Tryz.func131, Tryz.ntmps131
 go_wp2_with fail
 go_loopg [1] g (fun g i W => EndX d S w true s g i W)
 case atStart => exact hX.out
 case round =>
  clear hX
  obtain ⟨r, lo, L, F, rfl, hlo, hS, hs, M, b0⟩ := hrel
  have m := h.mod0 M
  obtain ⟨l, ks, hSr, hl1, hl2, hks⟩ := hS.node
  obtain ⟨b, hb, hn⟩ := m.live hSr
  obtain ⟨lb, c, rfl⟩ := m.lbS hb
  have PA := atM m hb
  have PL := leafM m hb hn
  obtain ⟨q0, q1, q2, q3⟩ := m.cells hb
  obtain ⟨c0, f0⟩ := blkc b0
  have mm := hid m
  have hnn := hid hn
  cases gk with
  | zero =>
   obtain rfl := (hS.lens hSr).2.2.1 rfl
   obtain ⟨hk, he⟩ := hS.endLeaf hSr hlo true
   rw [he] at hs
   rw [show decide (([] : List Nat) = []) = true from rfl] at PL
   have hle : l.length ≤ 200 := by omega
   obtain ⟨gl, hgl, z0, z1, z2, z3, z4⟩ := hn.segC (j := 0) hk
   have hs0 : l[0] = s := by simpa using hs
   rw [hs0] at z0 z1 z2 z3 z4
   simp only [Nat.zero_mul, Nat.zero_add] at z0 z1 z2 z3 z4
   rw [hn.ln, hgl] at q0
   have hlI : (0 : Int) < l.length := by have : 0 < l.length := hk; omega
   replace b0 := hid b0
   replace M := hid M
   clear m hn hS hk he hs hks hSr hl1 hl2 hs0
   go_wp2_with fail
   refine PA.mono ?_; rintro e w2 ⟨rfl, hw2⟩; subst hw2
   go_wp2_with fail
   refine PL.mono ?_; rintro e w2 ⟨rfl, hw2⟩; subst hw2
   go_wp2_with fail
   (try simp only [Exit.inBlock, Exit.then])
   refine ret_row w.heap.size (encS s) rfl rfl (setL_whole (cs := [.int .i64 0, .int .i64 0, .int .i64 0, .int .i64 0, .int .i64 0]) (us := encS s) b0.out rfl) Tryz.underlying38 rfl (by kernel_rfl) rfl ?_
   exact ⟨rfl, ((((M.out.setCell (.inr (Nat.le_refl _)) _).setCell (.inr (Nat.le_refl _)) _).setCell (.inr (Nat.le_refl _)) _).setCell (.inr (Nat.le_refl _)) _).setCell (.inr (Nat.le_refl _)) _⟩
  | succ g =>
   have hkl := (hS.lens hSr).2.2.2 (by omega)
   obtain ⟨hk, L', F', hS', he⟩ := hS.endKid hSr hd.1 true
   rw [he] at hs
   rw [show decide (ks = []) = false from decide_eq_false (by intro e; rw [e] at hkl; simp at hkl)] at PL
   replace b0 := hid b0
   replace M := hid M
   simp only [if_true] at hS' hk
   obtain ⟨gk, hgk, z0⟩ := hn.kidC (j := 0) hk
   rw [hn.kn, hgk] at q1
   have hkI : (0 : Int) < ks.length := by omega
   obtain ⟨kt, hkt⟩ : ∃ kt, ks[0] = kt := ⟨_, rfl⟩
   rw [hkt] at hS' z0
   have fin := hid (show EndX d S w true s g (.int .i64 (kt : Int)) wr from ⟨_, d - 1, L', F', rfl, by omega, hS', hs, M.out, b0.out⟩)
   clear m hn hS he hs hks hSr hl1 hl2 hS' hkl hkt
   go_wp2_with fail
   refine PA.mono ?_; rintro e w2 ⟨rfl, hw2⟩; subst hw2
   go_wp2_with fail
   refine PL.mono ?_; rintro e w2 ⟨rfl, hw2⟩; subst hw2
   go_wp2_with fail
   refine PL.mono ?_; rintro e w2 ⟨rfl, hw2⟩; subst hw2
   go_wp2_with fail
   go_roundg g
   case measure => omega
   case rel => exact fin.out
set_option maxHeartbeats 2000000 in
theorem endZ_last (h : MemB w tb ab lv fv σ free root (d : Int) room many S) (hd : 2 ≤ d ∧ d ≤ 64) {g lo r : Nat} {L : List Sg} {F : List Nat} (hS : Sub d S g lo r L F) (hlo : 1 ≤ lo) {s : Sg} (hs : endS false L = some s) :
  Calls Tryz.prog 131 #[.pointer (some ⟨tb, 0, none⟩), .int .i64 r, .bool false] w fun e w' => e = .returned (.agg (encS s).toArray) ∧ Mod (fun _ => False) w w' := by
 have hX := hid (show EndX d S w false s g (.int .i64 r) (w.alloc (.cells #[.int .i64 0, .int .i64 0, .int .i64 0, .int .i64 0, .int .i64 0] 38)) from ⟨r, lo, L, F, rfl, hlo, hS, hs, (Mod.refl _ _).alloc _, alloc_0 _ _⟩)
 clear hS hs
 go_enter Tryz.func131, Tryz.ntmps131
 go_wp2_with fail
 go_loopg [1] g (fun g i W => EndX d S w false s g i W)
 case atStart => exact hX.out
 case round =>
  clear hX
  obtain ⟨r, lo, L, F, rfl, hlo, hS, hs, M, b0⟩ := hrel
  have m := h.mod0 M
  obtain ⟨l, ks, hSr, hl1, hl2, hks⟩ := hS.node
  obtain ⟨b, hb, hn⟩ := m.live hSr
  obtain ⟨lb, c, rfl⟩ := m.lbS hb
  have PA := atM m hb
  have PL := leafM m hb hn
  obtain ⟨q0, q1, q2, q3⟩ := m.cells hb
  obtain ⟨c0, f0⟩ := blkc b0
  have mm := hid m
  have hnn := hid hn
  cases gk with
  | zero =>
   obtain rfl := (hS.lens hSr).2.2.1 rfl
   obtain ⟨hk, he⟩ := hS.endLeaf hSr hlo false
   rw [he] at hs
   rw [show decide (([] : List Nat) = []) = true from rfl] at PL
   have hle : l.length ≤ 200 := by omega
   obtain ⟨k1, hk1⟩ : ∃ k1, l.length = k1 + 1 := ⟨l.length - 1, by simp at hk; omega⟩
   obtain ⟨gl, hgl, -⟩ := hn.segC (j := k1) (by omega)
   have hs0 : l[k1]'(by omega) = s := by
    simp only [Bool.false_eq_true, if_false, Option.some.injEq] at hs
    rw [← hs]
    congr 1
    omega
   have hsub : IntKind.i64.wrap (k1 : Int) = (k1 : Int) := by rw [IntKind.wrap_i64]; omega
   have hkI : (k1 : Int) < (k1 : Int) + 1 := by omega
   have HB : ∀ (W : World), CM wr W → W.cell? ⟨lb, r * 3, none⟩ = some (.slice (some ⟨gl, 0, none⟩) (k1 + 1) b.lc) ∧ W.cell? ⟨gl, k1 * 5, none⟩ = some (.int .i64 s.ls) ∧ W.cell? ⟨gl, k1 * 5 + 1, none⟩ = some (.int .i64 s.la) ∧ W.cell? ⟨gl, k1 * 5 + 2, none⟩ = some (.int .i64 s.hs) ∧ W.cell? ⟨gl, k1 * 5 + 3, none⟩ = some (.int .i64 s.ha) ∧ W.cell? ⟨gl, k1 * 5 + 4, none⟩ = some (.int .i64 s.v) := by
    intro W q
    obtain ⟨z, _⟩ := (mm.out.mod0 q).cells hb
    rw [hnn.out.ln, hgl, hk1] at z
    obtain ⟨g2, hg2, z0, z1, z2, z3, z4⟩ := (hnn.out.keep (w' := W) fun x k e => Mod.block q k (hnn.out.lt e) fun h => h).segC (j := k1) (by omega)
    rw [hgl] at hg2; cases hg2
    rw [hs0] at z0 z1 z2 z3 z4
    exact ⟨z, z0, z1, z2, z3, z4⟩
   replace HB := hid HB
   have b0h := hid b0
   replace M := hid M
   have hbb := hid (fun (W : World) (q : CM wr W) => Mod.heap q b0 fun h => h)
   clear m hn hS hk he hs hks hSr hl1 hl2 hs0
   go_wp2_with fail
   refine PA.mono ?_; rintro e w2 ⟨rfl, hw2⟩; subst hw2
   go_wp2_with fail
   refine PL.mono ?_; rintro e w2 ⟨rfl, hw2⟩; subst hw2
   go_wp2_with fail
   refine PL.mono ?_; rintro e w2 ⟨rfl, hw2⟩; subst hw2
   go_wp2_with fail
   refine cq_tail 12 (by kernel_rfl) (by kernel_rfl) ?_
   simp only [List.take_succ_cons, List.take_zero, List.drop_succ_cons, List.drop_zero]
   iterate 12 (refine wpQuiet_step (fun K hK => ?_); go_simp; first | (refine hK _ ?_; clear hK K) | (refine ⟨_, fun _ _ => rfl, hK _ ?_⟩; clear hK K) | (apply Exists.intro; refine ⟨fun wq hq => ?_, hK _ ?_⟩; (focus (first  | (obtain ⟨t0, t1, t2, t3, t4, t5⟩ := HB.out _ hq; go_simp; try with_reducible rfl))); clear hK K))
   refine wpQuiet_nil ?_
   intro w4 M4
   have b4 := hbb.out _ M4
   obtain ⟨c4, f4⟩ := blkc b4
   have N4 := hid (M.out.trans' M4)
   replace b4 := hid b4
   clear hbb HB b0 c0 f0 b0h q0 q1 q2 q3
   go_wp2_with fail
   (try simp only [Exit.inBlock, Exit.then])
   refine ret_row w.heap.size (encS s) rfl rfl (setL_whole (cs := [.int .i64 0, .int .i64 0, .int .i64 0, .int .i64 0, .int .i64 0]) (us := encS s) b4.out rfl) Tryz.underlying38 rfl (by kernel_rfl) rfl ?_
   exact ⟨rfl, ((((N4.out.setCell (.inr (Nat.le_refl _)) _).setCell (.inr (Nat.le_refl _)) _).setCell (.inr (Nat.le_refl _)) _).setCell (.inr (Nat.le_refl _)) _).setCell (.inr (Nat.le_refl _)) _⟩
  | succ g =>
   have hkl := (hS.lens hSr).2.2.2 (by omega)
   obtain ⟨hk, L', F', hS', he⟩ := hS.endKid hSr hd.1 false
   rw [he] at hs
   rw [show decide (ks = []) = false from decide_eq_false (by intro e; rw [e] at hkl; simp at hkl)] at PL
   replace b0 := hid b0
   replace M := hid M
   obtain ⟨k1, hk1⟩ : ∃ k1, ks.length = k1 + 1 := ⟨l.length, hkl⟩
   have hS2 : Sub d S g (d - 1) (ks[k1]'(by omega)) L' F' := by
    simp only [Bool.false_eq_true, if_false] at hS'
    have e : ks.length - 1 = k1 := by omega
    simp only [e] at hS'
    exact hS'
   have hkb : ks.length ≤ 201 := by omega
   obtain ⟨gk, hgk, -⟩ := hn.kidC (j := k1) (by omega)
   have hsub : IntKind.i64.wrap (k1 : Int) = (k1 : Int) := by rw [IntKind.wrap_i64]; omega
   have hkI : (k1 : Int) < (k1 : Int) + 1 := by omega
   obtain ⟨kt, hkt⟩ : ∃ kt, ks[k1]'(by omega) = kt := ⟨_, rfl⟩
   rw [hkt] at hS2
   have HB : ∀ (W : World), CM wr W → W.cell? ⟨lb, r * 3 + 1, none⟩ = some (.slice (some ⟨gk, 0, none⟩) (k1 + 1) b.kc) ∧ W.cell? ⟨gk, k1, none⟩ = some (.int .i64 (kt : Int)) := by
    intro W q
    obtain ⟨_, z, _⟩ := (mm.out.mod0 q).cells hb
    rw [hnn.out.kn, hgk, hk1] at z
    obtain ⟨g2, hg2, z0⟩ := (hnn.out.keep (w' := W) fun x k e => Mod.block q k (hnn.out.lt e) fun h => h).kidC (j := k1) (by omega)
    rw [hgk] at hg2; cases hg2
    rw [hkt] at z0
    exact ⟨z, z0⟩
   replace HB := hid HB
   have fin := hid (fun (W : World) (q : CM wr W) => show EndX d S w false s g (.int .i64 (kt : Int)) W from ⟨_, d - 1, L', F', rfl, by omega, hS2, hs, M.out.trans' q, Mod.heap q b0.out fun h => h⟩)
   clear m hn hS hk he hs hks hSr hl1 hl2 hS' hkl hS2 hkt hk1
   go_wp2_with fail
   refine PA.mono ?_; rintro e w2 ⟨rfl, hw2⟩; subst hw2
   go_wp2_with fail
   refine PL.mono ?_; rintro e w2 ⟨rfl, hw2⟩; subst hw2
   go_wp2_with fail
   refine PL.mono ?_; rintro e w2 ⟨rfl, hw2⟩; subst hw2
   go_wp2_with fail
   refine cq_region (by kernel_rfl) (by kernel_rfl) ?_
   iterate 13 (refine wpQuiet_step (fun K hK => ?_); go_simp; first | (refine hK _ ?_; clear hK K) | (refine ⟨_, fun _ _ => rfl, hK _ ?_⟩; clear hK K) | (apply Exists.intro; refine ⟨fun wq hq => ?_, hK _ ?_⟩; (focus (first  | (obtain ⟨t0, t1⟩ := HB.out _ hq; go_simp; try with_reducible rfl))); clear hK K))
   refine wpQuiet_nil ?_
   intro w4 M4
   go_wp2_with fail
   go_roundg g
   case measure => omega
   case rel => exact fin.out _ M4
end
open Go Go.RowKit
theorem Sub.det {d : Nat} {S : StB'} : ∀ {h lo lo' i : Nat} {L L' : List Sg} {F F' : List Nat}, Sub d S h lo i L F → Sub d S h lo' i L' F' → L = L' ∧ F = F'
 | 0, lo, lo', i, L, L', F, F', ⟨q1, q2, _⟩, ⟨r1, r2, _⟩ => by
  rw [q1] at r1; cases r1
  exact ⟨rfl, q2.trans r2.symm⟩
 | h + 1, lo, lo', i, L, L', F, F', ⟨l, cs, q1, q2, q3, q4, q5, q6, q7⟩, ⟨l', cs', r1, r2, r3, r4, r5, r6, r7⟩ => by
  rw [q1] at r1
  have e1 : l = l' := by injection r1 with r1; exact (Prod.mk.inj r1).1
  have e2 : cs.map Ch.i = cs'.map Ch.i := by injection r1 with r1; exact (Prod.mk.inj r1).2
  subst e1
  have hl : cs.length = cs'.length := by have := congrArg List.length e2; simpa using this
  have key : ∀ (t : Nat) (h1 : t < cs.length) (h2 : t < cs'.length), cs[t].L = cs'[t].L ∧ cs[t].F = cs'[t].F := by
   intro t h1 h2
   have hi : cs[t].i = cs'[t].i := by
    have := congrArg (fun u => u[t]?) e2
    simpa [h1, h2] using this
   have a := q5 cs[t] (List.getElem_mem h1)
   have b := r5 cs'[t] (List.getElem_mem h2)
   rw [hi] at a
   exact Sub.det a b
  have e3 : cs.map Ch.L = cs'.map Ch.L := List.ext_getElem (by simpa using hl) fun t h1 h2 => by simpa using (key t (by simpa using h1) (by simpa using h2)).1
  have e4 : cs.map Ch.F = cs'.map Ch.F := List.ext_getElem (by simpa using hl) fun t h1 h2 => by simpa using (key t (by simpa using h1) (by simpa using h2)).2
  rw [q6, r6, q7, r7, e3, e4]
  exact ⟨rfl, rfl⟩
section
variable {w w' : World} {tb ab : Nat} {lv fv : Value} {σ : List (Option Bn)} {free : List Int} {root room many : Int} {S : StB} {d : Nat}
def DropQ (w : World) (tb ab : Nat) (lv fv : Value) (σ : List (Option Bn)) (root room many : Int) (S : StB) (d g lo i : Nat) (c : Int) (L : List Sg) (F : List Nat) (k' : Nat) (w' : World) : Prop :=
 ∃ (S' : StB) (fv' : Value) (σ' : List (Option Bn)) (free' : List Int) (F' : List Nat) (l' : List Sg) (ks' : List Nat) (kt : Nat) (lt : List Sg) (kk : List Nat), MemB w' tb ab lv fv' σ' free' root (d : Int) room many S' ∧ S' i = some (l', ks') ∧ Sub d S' (g + 1) lo i L F' ∧ Chg S S' F F' ∧
  ks'[k']? = some kt ∧ S' kt = some (lt, kk) ∧ d ≤ lt.length ∧ posL c l' = k' ∧ hasK c l' = false ∧ Mod (FootB tb ab lv fv σ) w w' ∧ ∀ x, FootB tb ab lv fv' σ' x → FootB tb ab lv fv σ x ∨ w.heap.size ≤ x
theorem FatQ.drop {g lo i k k' : Nat} {L l : List Sg} {F : List Nat} {c : Int} (h : FatQ w tb ab lv fv σ root room many S d g lo i k L l F k' w') (h1 : posL c l = k) (h2 : hasK c l = false) : DropQ w tb ab lv fv σ root room many S d g lo i c L F k' w' := by
 obtain ⟨S', fv', σ', free', F', l', ks', kt, lt, kk, q1, q2, q3, q4, q5, q6, q7, q8, q9, q10⟩ := h
 obtain ⟨a1, a2⟩ := q8 c h1 h2
 exact ⟨S', fv', σ', free', F', l', ks', kt, lt, kk, q1, q2, q3, q4, q5, q6, q7, a1, a2, q9, q10⟩
theorem drop_join (h : MemB w tb ab lv fv σ free root (d : Int) room many S) (hd : 2 ≤ d ∧ d ≤ 64) {g lo i k : Nat} {c : Int} {L l : List Sg} {ks F : List Nat} (hs : Sub d S (g + 1) (lo + 1) i L F) (hr : Srt L) (hi : S i = some (l, ks)) (hnd : F.Nodup) (hk : k < l.length) (hp : posL c l = k) (hc : ky l[k] = c)
  {f t : Nat} {la lb : List Sg} {ka kb : List Nat} (hf0 : ks[k]? = some f) (ht0 : ks[k + 1]? = some t) (hf : S f = some (la, ka)) (ht : S t = some (lb, kb)) (hla : la.length < d) (hlb : lb.length < d) :
  Calls Tryz.prog 132 #[.pointer (some ⟨tb, 0, none⟩), .int .i64 i, .int .i64 (k : Int)] w fun e w' => e = .returned (.tuple #[]) ∧ DropQ w tb ab lv fv σ root room many S d g lo i c L F k w' := by
 obtain ⟨f', t', la', lb', ka', kb', p1, p2, p3, p4, p5, p6, p7, p8, p9, p10, p11, p12, p13⟩ := hs.pair hi hnd hk
 rw [hf0] at p1; cases p1
 rw [ht0] at p2; cases p2
 rw [hf] at p6; cases p6
 rw [ht] at p7; cases p7
 obtain ⟨i1, i2, i3, i4⟩ := hs.lens hi
 have i5 := i4 (by omega)
 have hkk : ka.length ≤ 201 ∧ kb.length ≤ 201 := by
  by_cases hg : g = 0
  ·rw [(p12 hg).1, (p12 hg).2]; simp
  ·have := p13 (by omega); omega
 refine (joinZ h hi ht hf hf0 ht0 hk p4 p3 (Ne.symm p5) (by omega) ⟨by omega, by omega, by omega, by omega, hkk.2, hkk.1⟩).mono ?_
 rintro e w' ⟨rfl, S', fv', σ', free', m', s1, s2, s3, s4, _, M', F'⟩
 obtain ⟨F2, r1, r2⟩ := (hs.low (Nat.le_succ lo)).joined (S' := S') hi hnd hk hf0 ht0 hf ht i1 (by omega) (by omega) s1 s3 s2 (fun x h1 h2 h3 => s4 x h1 h3 h2)
 have hkx : (ks.take (k + 1) ++ ks.drop (k + 2))[k]? = some f := by
  rw [List.getElem?_append_left (by simp; omega), List.getElem?_take, if_pos (by omega)]; exact hf0
 have hsl : Srt l := hr.sublist (hs.row hi)
 have hx := hsl
 rw [split_at l k hk] at hx
 have hx := Srt.app hx
 have h4 := posL_del (c := c) hk
 rw [if_neg (by omega)] at h4
 refine ⟨rfl, S', fv', σ', free', F2, _, _, f, _, _, m', s1, r1, r2, hkx, s3, by simp; omega, by omega, ?_, M', F'⟩
 rw [hasK_false]
 intro x hx2
 rcases List.mem_append.1 hx2 with hx2 | hx2
 ·have := hx.1 x hx2; omega
 ·have := hx.2 x hx2; omega
end
end Go.Proofs.Bo
