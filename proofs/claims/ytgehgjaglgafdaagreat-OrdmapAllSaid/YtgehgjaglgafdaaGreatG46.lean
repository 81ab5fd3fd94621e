import Derived.Test.YtgehgjaglgafdaaGreatG18
import Derived.Test.YtgehgjaglgafdaaGreatG22
import Derived.Test.YtgehgjaglgafdaaGreatG01
import Derived.Test.YtgehgjaglgafdaaGreatG05
import Derived.Test.YtgehgjaglgafdaaGreatG42
import Derived.Test.YtgehgjaglgafdaaGreatG26
import Derived.Test.YtgehgjaglgafdaaGreatG38
import Derived.Test.YtgehgjaglgafdaaGreatG45
set_option linter.unusedVariables false
set_option linter.unusedSimpArgs false
namespace Go.Proofs.Bo
open Go Go.RowKit
section
variable {tb ab : Nat} {lv fv : Value} {σ : List (Option Bn)} {free : List Int} {root room many : Int} {S : StB} {d : Nat}
theorem sum_take (cs : List Ch) (k : Nat) (hk : k < cs.length) : sumL ((cs.map Ch.L).take (k + 1)) = sumL ((cs.map Ch.L).take k) + cs[k].L.length := by
 rw [List.take_succ_eq_append_getElem (by simpa using hk)]
 simp [sumL]
theorem sum_take_le (ps : List (List Sg)) (k : Nat) : sumL (ps.take k) ≤ sumL ps := by
 have e : sumL ps = sumL (ps.take k ++ ps.drop k) := by rw [List.take_append_drop]
 rw [e]
 simp only [sumL, List.map_append, List.sum_append]
 omega
set_option maxRecDepth 100000 in
attribute [local irreducible] wpQuiet in
set_option maxHeartbeats 4000000 in
theorem fineBZ (hd : 2 ≤ d ∧ d ≤ 64) : ∀ (hh : Nat) (w : World), MemB w tb ab lv fv σ free root (d : Int) room many S → ∀ (lo i : Nat) (L : List Sg) (F : List Nat), Sub d S hh lo i L F → 1 ≤ lo → (root = i ∨ d - 1 ≤ lo) → L.length ≤ 65536 → hh ≤ 65536 →
  Calls Tryz.prog 118 #[.pointer (some ⟨tb, 0, none⟩), .int .i64 (i : Int)] w fun e w' => e = .returned (.tuple #[.int .i64 (L.length : Int), .int .i64 ((hh : Int) + 1), .bool true]) ∧ Mod (fun _ => False) w w' := by
 intro hh
 induction hh with
 | zero =>
  intro w h lo i L F hS hlo hlow hL65 hh65
  obtain ⟨hSi, hF, hl1, hl2⟩ := hS
  obtain ⟨b, hb, hn⟩ := h.live hSi
  obtain ⟨lb, c, rfl⟩ := h.lbS hb
  obtain ⟨c0, f0⟩ := blkc h.t
  have PA := atM h hb
  obtain ⟨q1, q2, q3, q4⟩ := h.cells hb
  have hln := hn.ln
  rw [hln] at q1
  have HB : ∀ w', CM w w' → (∀ j, w'.cell? ⟨tb, j, none⟩ = #[.pointer (some ⟨ab, 0, none⟩), .int .i64 root, .int .i64 (d : Int), .int .i64 room, .int .i64 many][j]?) ∧ w'.cell? ⟨lb, i * 3, none⟩ = some (.slice b.la L.length b.lc) ∧
    Calls Tryz.prog 129 #[.pointer (some ⟨tb, 0, none⟩)] w' (fun e w'' => e = .returned (.int .i64 (2 * (d : Int) - 1)) ∧ CM w w'') := fun w' M =>
   ⟨(blkc (h.mod0 M).t).1, by have := ((h.mod0 M).cells hb).1; rw [hln] at this; exact this, (mostM (h.mod0 M) (by omega)).mono fun e w'' ⟨h1, h2⟩ => ⟨h1, by rw [h2]; exact M⟩⟩
  have PL : ∀ w', CM w w' → Calls Tryz.prog 115 #[.pointer (some ⟨lb, i * 3, none⟩)] w' (fun e w'' => e = .returned (.bool true) ∧ w'' = w') := fun w' M => by
   obtain ⟨l', ks', e', hn9⟩ := (h.mod0 M).node i b hb
   rw [hSi] at e'; cases e'
   exact leafM (h.mod0 M) hb hn9
  have e1 : decide ((L.length : Int) > 2 * (d : Int) - 1) = false := decide_eq_false (by omega)
  have e2 : decide ((L.length : Int) < 1) = false := decide_eq_false (by omega)
  have e3 : IntKind.i64.wrap ((d : Int) - 1) = (d : Int) - 1 := by rw [IntKind.wrap_i64]; omega
  obtain ⟨bb, hne, e4⟩ : ∃ bb, ((i : Int) != root) = bb ∧ (bb = true → decide ((L.length : Int) < (d : Int) - 1) = false) := by
   by_cases hr : root = i
   ·exact ⟨false, by rw [hr]; simp, fun h => by cases h⟩
   ·exact ⟨true, by simpa using fun e => hr e.symm, fun _ => decide_eq_false (by rcases hlow with h | h; exact absurd h hr; omega)⟩
  replace HB := hid HB
  replace PL := hid PL
  clear h hn hb hSi hF hl1 hl2 hlow hln q3 q4 q2
  cases bb
  ·clear e4
   go_enter Tryz.func118, Tryz.ntmps118
   go_wp2_with fail
   refine PA.mono ?_; rintro e w1 ⟨rfl, hw1⟩; rw [hw1]; clear hw1
   clear PA
   go_wp2_with fail
   refine cq_region (by kernel_rfl) (by kernel_rfl) ?_
   iterate 41 (refine wpQuiet_step (fun K hK => ?_); go_simp; first | (refine hK _ ?_; clear hK K) | (refine ⟨_, fun _ _ => rfl, hK _ ?_⟩; clear hK K) | (apply Exists.intro; refine ⟨fun wq hq => ?_, hK _ ?_⟩; (focus (first | (go_at_call 129; exact (HB.out _ hq).2.2) | (obtain ⟨t1, t2, _⟩ := HB.out _ hq; go_simp; try with_reducible rfl))); clear hK K))
   refine wpQuiet_nil ?_
   intro w2 M2
   obtain ⟨t1, t2, _⟩ := HB.out _ M2
   go_wp2_with fail
   refine (PL.out _ M2).mono ?_; rintro e w3 ⟨rfl, hw3⟩; subst hw3
   go_wp2_with fail
   exact ret3 rfl rfl ⟨by simp, M2⟩
  ·replace e4 := e4 rfl
   go_enter Tryz.func118, Tryz.ntmps118
   go_wp2_with fail
   refine PA.mono ?_; rintro e w1 ⟨rfl, hw1⟩; rw [hw1]; clear hw1
   clear PA
   go_wp2_with fail
   refine cq_region (by kernel_rfl) (by kernel_rfl) ?_
   iterate 41 (refine wpQuiet_step (fun K hK => ?_); go_simp; first | (refine hK _ ?_; clear hK K) | (refine ⟨_, fun _ _ => rfl, hK _ ?_⟩; clear hK K) | (apply Exists.intro; refine ⟨fun wq hq => ?_, hK _ ?_⟩; (focus (first | (go_at_call 129; exact (HB.out _ hq).2.2) | (obtain ⟨t1, t2, _⟩ := HB.out _ hq; go_simp; try with_reducible rfl))); clear hK K))
   refine wpQuiet_nil ?_
   intro w2 M2
   obtain ⟨t1, t2, _⟩ := HB.out _ M2
   go_wp2_with fail
   refine (PL.out _ M2).mono ?_; rintro e w3 ⟨rfl, hw3⟩; subst hw3
   go_wp2_with fail
   exact ret3 rfl rfl ⟨by simp, M2⟩
 | succ hh ih =>
  intro w h lo i L F hS hlo hlow hL65 hh65
  obtain ⟨l, cs, hSi, hl1, hl2, hcs, hks, hLe, hFe⟩ := hS
  have hsum := inter_len l (cs.map Ch.L) (by simpa using hcs)
  rw [← hLe] at hsum
  obtain ⟨b, hb, hn⟩ := h.live hSi
  obtain ⟨lb, c, rfl⟩ := h.lbS hb
  obtain ⟨c0, f0⟩ := blkc h.t
  have PA := atM h hb
  obtain ⟨q1, q2, q3, q4⟩ := h.cells hb
  have hln := hn.ln
  have hkn := hn.kn
  rw [hln] at q1
  obtain ⟨kn, hknn⟩ : ∃ kn, cs.length = kn := ⟨_, rfl⟩
  rw [List.length_map, hknn] at hkn
  obtain ⟨gk, hgk⟩ : ∃ gk, b.ka = some ⟨gk, 0, none⟩ := (hn.kidC (j := 0) (by simp; omega)).elim fun g h => ⟨g, h.1⟩
  have HB : ∀ w', CM w w' → (∀ j, w'.cell? ⟨tb, j, none⟩ = #[.pointer (some ⟨ab, 0, none⟩), .int .i64 root, .int .i64 (d : Int), .int .i64 room, .int .i64 many][j]?) ∧ w'.cell? ⟨lb, i * 3, none⟩ = some (.slice b.la l.length b.lc) ∧ w'.cell? ⟨lb, i * 3 + 1, none⟩ = some (.slice (some ⟨gk, 0, none⟩) kn b.kc) ∧
    Calls Tryz.prog 129 #[.pointer (some ⟨tb, 0, none⟩)] w' (fun e w'' => e = .returned (.int .i64 (2 * (d : Int) - 1)) ∧ CM w w'') := fun w' M =>
   ⟨(blkc (h.mod0 M).t).1, by have := ((h.mod0 M).cells hb).1; rw [hln] at this; exact this, by have := ((h.mod0 M).cells hb).2.1; rw [hgk, hkn] at this; exact this, (mostM (h.mod0 M) (by omega)).mono fun e w'' ⟨h1, h2⟩ => ⟨h1, by rw [h2]; exact M⟩⟩
  have PL : ∀ w', CM w w' → Calls Tryz.prog 115 #[.pointer (some ⟨lb, i * 3, none⟩)] w' (fun e w'' => e = .returned (.bool false) ∧ w'' = w') := fun w' M => by
   obtain ⟨l', ks', e', hn9⟩ := (h.mod0 M).node i b hb
   rw [hSi] at e'; cases e'
   have := leafM (h.mod0 M) hb hn9
   rw [show decide (cs.map Ch.i = []) = false from by simp; rintro rfl; simp at hcs] at this
   exact this
  have PK : ∀ w', CM w w' → ∀ k (hk : k < cs.length), w'.cell? ⟨gk, k, none⟩ = some (.int .i64 (cs[k].i : Int)) ∧ Calls Tryz.prog 118 #[.pointer (some ⟨tb, 0, none⟩), .int .i64 (cs[k].i : Int)] w' fun e w'' => e = .returned (.tuple #[.int .i64 (cs[k].L.length : Int), .int .i64 ((hh : Int) + 1), .bool true]) ∧ CM w w'' := fun w' M k hk => by
   obtain ⟨l', ks', e', hn9⟩ := (h.mod0 M).node i b hb
   rw [hSi] at e'; cases e'
   obtain ⟨g', hg', y⟩ := hn9.kidC (j := k) (by simpa using hk)
   rw [hgk] at hg'; cases hg'
   have hmem := List.getElem_mem hk
   refine ⟨by simpa using y, (ih w' (h.mod0 M) (d - 1) cs[k].i cs[k].L cs[k].F (hks _ hmem) (by omega) (.inr (Nat.le_refl _)) ?_ (by omega)).mono fun e w'' ⟨h1, h2⟩ => ⟨h1, M.trans' h2⟩⟩
   have h1 := sum_take cs k hk
   have h2 := sum_take_le (cs.map Ch.L) (k + 1)
   omega
  have e1 : decide ((l.length : Int) > 2 * (d : Int) - 1) = false := decide_eq_false (by omega)
  have e2 : decide ((l.length : Int) < 1) = false := decide_eq_false (by omega)
  have e3 : IntKind.i64.wrap ((d : Int) - 1) = (d : Int) - 1 := by rw [IntKind.wrap_i64]; omega
  have e5 : IntKind.i64.wrap ((l.length : Int) + 1) = (l.length : Int) + 1 := by rw [IntKind.wrap_i64]; omega
  have e6 : ((kn : Int) == (l.length : Int) + 1) = true := by simp; omega
  obtain ⟨bb, hne, e4⟩ : ∃ bb, ((i : Int) != root) = bb ∧ (bb = true → decide ((l.length : Int) < (d : Int) - 1) = false) := by
   by_cases hr : root = i
   ·exact ⟨false, by rw [hr]; simp, fun h => by cases h⟩
   ·exact ⟨true, by simpa using fun e => hr e.symm, fun _ => decide_eq_false (by rcases hlow with h | h; exact absurd h hr; omega)⟩
  have hstep : ∀ k (hk : k < cs.length), sumL ((cs.map Ch.L).take (k + 1)) = sumL ((cs.map Ch.L).take k) + cs[k].L.length ∧ l.length + sumL ((cs.map Ch.L).take (k + 1)) ≤ L.length := fun k hk => ⟨sum_take cs k hk, by have := sum_take_le (cs.map Ch.L) (k + 1); omega⟩
  have hend : l.length + sumL ((cs.map Ch.L).take cs.length) = L.length := by rw [List.take_of_length_le (by simp)]; exact hsum.symm
  have hpos : 0 < cs.length := by omega
  have h128 : cs.length ≤ 128 := by omega
  replace hpos := hid hpos
  replace h128 := hid h128
  replace hstep := hid hstep
  replace hend := hid hend
  replace HB := hid HB
  replace PL := hid PL
  replace PK := hid PK
  replace hknn := hid hknn
  clear h hn hb hSi hl1 hl2 hlow hln q3 q4 q2 hkn hgk hks hLe hFe hsum hcs ih
  cases bb
  ·clear e4
   go_enter Tryz.func118, Tryz.ntmps118
   go_wp2_with fail
   refine PA.mono ?_; rintro e w1 ⟨rfl, hw1⟩; rw [hw1]; clear hw1
   clear PA
   go_wp2_with fail
   refine cq_region (by kernel_rfl) (by kernel_rfl) ?_
   iterate 41 (refine wpQuiet_step (fun K hK => ?_); go_simp; first | (refine hK _ ?_; clear hK K) | (refine ⟨_, fun _ _ => rfl, hK _ ?_⟩; clear hK K) | (apply Exists.intro; refine ⟨fun wq hq => ?_, hK _ ?_⟩; (focus (first | (go_at_call 129; exact (HB.out _ hq).2.2.2) | (obtain ⟨t1, t2, t3, _⟩ := HB.out _ hq; go_simp; try with_reducible rfl))); clear hK K))
   refine wpQuiet_nil ?_
   intro w2 M2
   obtain ⟨t1, t2, t3, _⟩ := HB.out _ M2
   go_wp2_with fail
   refine (PL.out _ M2).mono ?_; rintro e w3 ⟨rfl, hw3⟩; subst hw3
   clear c0 f0 q1 e1 e2 e3 hne
   clear t1 t2 t3
   go_wp2_with fail
   refine cq_region (by kernel_rfl) (by kernel_rfl) ?_
   iterate 20 (refine wpQuiet_step (fun K hK => ?_); go_simp; first | (refine hK _ ?_; clear hK K) | (refine ⟨_, fun _ _ => rfl, hK _ ?_⟩; clear hK K) | (apply Exists.intro; refine ⟨fun wq hq => ?_, hK _ ?_⟩; (focus (first  | (obtain ⟨t1, t2, t3, _⟩ := HB.out _ (Mod.trans' M2 hq); go_simp; try with_reducible rfl))); clear hK K))
   refine wpQuiet_nil ?_
   intro w4 M4
   replace M4 := Mod.trans' M2 M4
   obtain ⟨t1, t2, t3, _⟩ := HB.out _ M4
   clear M2
   go_wp2_with fail
   go_loopw [8, 9, 10, 89] (fun m hi al c W => ∃ k : Nat, k ≤ cs.length ∧ c = .int .i64 (k : Int) ∧ m = .int .i64 ((l.length + sumL ((cs.map Ch.L).take k) : Nat) : Int) ∧ hi = .int .i64 (if k = 0 then 0 else (hh : Int) + 1) ∧ al = .bool true ∧ CM w W) (fun _ _ _ c _ => (cs.length - intOf c).toNat)
   case atStart => exact ⟨0, by omega, rfl, by simp [sumL], rfl, rfl, M4⟩
   case round =>
    obtain ⟨k, hk, rfl, rfl, rfl, rfl, M⟩ := hrel
    clear t1 t2 t3 M4 e5 e6
    by_cases hlt : k < cs.length
    ·obtain ⟨y, PF⟩ := PK.out _ M k hlt
     obtain ⟨s1, s2⟩ := hstep.out k hlt
     obtain ⟨kc, hkc⟩ : ∃ kc, cs[k].i = kc := ⟨_, rfl⟩
     obtain ⟨m, hm⟩ : ∃ m, cs[k].L.length = m := ⟨_, rfl⟩
     obtain ⟨A, hA⟩ : ∃ A, l.length + sumL ((cs.map Ch.L).take k) = A := ⟨_, rfl⟩
     rw [hkc] at y PF
     rw [hm] at s1 PF
     have hltI : (k : Int) < (kn : Int) := by have := hknn.out; omega
     have hk0 : (0 : Int) ≤ (k : Int) := by omega
     have e7 : IntKind.i64.wrap ((A : Int) + (m : Int)) = (A : Int) + (m : Int) := by rw [IntKind.wrap_i64]; omega
     have e8 : IntKind.i64.wrap ((k : Int) + 1) = (k : Int) + 1 := by have := h128.out; rw [IntKind.wrap_i64]; omega
     have hfin : ((l.length + sumL ((cs.map Ch.L).take (k + 1)) : Nat) : Int) = (A : Int) + (m : Int) := by omega
     have e9 : ((hh : Int) + 1 == 0) = false := by simp; omega
     rw [hA]
     clear hkc hm hA s1 s2
     replace hfin := hid hfin
     rcases Nat.eq_zero_or_pos k with rfl | hkp
     ·simp only [if_true]
      go_wp2_with fail
      refine PF.mono ?_; rintro e w5 ⟨rfl, M5⟩
      go_wp2_with fail
      go_roundw
      case rel => exact ⟨1, hlt, rfl, by rw [hfin.out], by simp, rfl, M5⟩
      case measure => simp [intOf]; omega
     ·rw [if_neg (by omega)]
      go_wp2_with fail
      refine PF.mono ?_; rintro e w5 ⟨rfl, M5⟩
      go_wp2_with fail
      go_roundw
      case rel => exact ⟨k + 1, hlt, by simp, by rw [hfin.out], by simp, rfl, M5⟩
      case measure => simp [intOf]; omega
    ·obtain rfl : k = cs.length := by omega
     have hp := hpos.out
     have hknn' := hknn.out
     have hend' := hend.out
     rw [if_neg (by omega), hend', hknn']
     have e7 : IntKind.i64.wrap ((hh : Int) + 1 + 1) = (hh : Int) + 1 + 1 := by rw [IntKind.wrap_i64]; omega
     clear hlt hk hend' hp
     replace hknn' := hid hknn'
     go_wp2_with fail
     exact ret3 rfl rfl ⟨by simp, M⟩
  ·replace e4 := e4 rfl
   go_enter Tryz.func118, Tryz.ntmps118
   go_wp2_with fail
   refine PA.mono ?_; rintro e w1 ⟨rfl, hw1⟩; rw [hw1]; clear hw1
   clear PA
   go_wp2_with fail
   refine cq_region (by kernel_rfl) (by kernel_rfl) ?_
   iterate 41 (refine wpQuiet_step (fun K hK => ?_); go_simp; first | (refine hK _ ?_; clear hK K) | (refine ⟨_, fun _ _ => rfl, hK _ ?_⟩; clear hK K) | (apply Exists.intro; refine ⟨fun wq hq => ?_, hK _ ?_⟩; (focus (first | (go_at_call 129; exact (HB.out _ hq).2.2.2) | (obtain ⟨t1, t2, t3, _⟩ := HB.out _ hq; go_simp; try with_reducible rfl))); clear hK K))
   refine wpQuiet_nil ?_
   intro w2 M2
   obtain ⟨t1, t2, t3, _⟩ := HB.out _ M2
   go_wp2_with fail
   refine (PL.out _ M2).mono ?_; rintro e w3 ⟨rfl, hw3⟩; subst hw3
   clear c0 f0 q1 e1 e2 e3 hne
   clear t1 t2 t3
   go_wp2_with fail
   refine cq_region (by kernel_rfl) (by kernel_rfl) ?_
   iterate 20 (refine wpQuiet_step (fun K hK => ?_); go_simp; first | (refine hK _ ?_; clear hK K) | (refine ⟨_, fun _ _ => rfl, hK _ ?_⟩; clear hK K) | (apply Exists.intro; refine ⟨fun wq hq => ?_, hK _ ?_⟩; (focus (first  | (obtain ⟨t1, t2, t3, _⟩ := HB.out _ (Mod.trans' M2 hq); go_simp; try with_reducible rfl))); clear hK K))
   refine wpQuiet_nil ?_
   intro w4 M4
   replace M4 := Mod.trans' M2 M4
   obtain ⟨t1, t2, t3, _⟩ := HB.out _ M4
   clear M2
   go_wp2_with fail
   go_loopw [8, 9, 10, 89] (fun m hi al c W => ∃ k : Nat, k ≤ cs.length ∧ c = .int .i64 (k : Int) ∧ m = .int .i64 ((l.length + sumL ((cs.map Ch.L).take k) : Nat) : Int) ∧ hi = .int .i64 (if k = 0 then 0 else (hh : Int) + 1) ∧ al = .bool true ∧ CM w W) (fun _ _ _ c _ => (cs.length - intOf c).toNat)
   case atStart => exact ⟨0, by omega, rfl, by simp [sumL], rfl, rfl, M4⟩
   case round =>
    obtain ⟨k, hk, rfl, rfl, rfl, rfl, M⟩ := hrel
    clear t1 t2 t3 M4 e5 e6
    by_cases hlt : k < cs.length
    ·obtain ⟨y, PF⟩ := PK.out _ M k hlt
     obtain ⟨s1, s2⟩ := hstep.out k hlt
     obtain ⟨kc, hkc⟩ : ∃ kc, cs[k].i = kc := ⟨_, rfl⟩
     obtain ⟨m, hm⟩ : ∃ m, cs[k].L.length = m := ⟨_, rfl⟩
     obtain ⟨A, hA⟩ : ∃ A, l.length + sumL ((cs.map Ch.L).take k) = A := ⟨_, rfl⟩
     rw [hkc] at y PF
     rw [hm] at s1 PF
     have hltI : (k : Int) < (kn : Int) := by have := hknn.out; omega
     have hk0 : (0 : Int) ≤ (k : Int) := by omega
     have e7 : IntKind.i64.wrap ((A : Int) + (m : Int)) = (A : Int) + (m : Int) := by rw [IntKind.wrap_i64]; omega
     have e8 : IntKind.i64.wrap ((k : Int) + 1) = (k : Int) + 1 := by have := h128.out; rw [IntKind.wrap_i64]; omega
     have hfin : ((l.length + sumL ((cs.map Ch.L).take (k + 1)) : Nat) : Int) = (A : Int) + (m : Int) := by omega
     have e9 : ((hh : Int) + 1 == 0) = false := by simp; omega
     rw [hA]
     clear hkc hm hA s1 s2
     replace hfin := hid hfin
     rcases Nat.eq_zero_or_pos k with rfl | hkp
     ·simp only [if_true]
      go_wp2_with fail
      refine PF.mono ?_; rintro e w5 ⟨rfl, M5⟩
      go_wp2_with fail
      go_roundw
      case rel => exact ⟨1, hlt, rfl, by rw [hfin.out], by simp, rfl, M5⟩
      case measure => simp [intOf]; omega
     ·rw [if_neg (by omega)]
      go_wp2_with fail
      refine PF.mono ?_; rintro e w5 ⟨rfl, M5⟩
      go_wp2_with fail
      go_roundw
      case rel => exact ⟨k + 1, hlt, by simp, by rw [hfin.out], by simp, rfl, M5⟩
      case measure => simp [intOf]; omega
    ·obtain rfl : k = cs.length := by omega
     have hp := hpos.out
     have hknn' := hknn.out
     have hend' := hend.out
     rw [if_neg (by omega), hend', hknn']
     have e7 : IntKind.i64.wrap ((hh : Int) + 1 + 1) = (hh : Int) + 1 + 1 := by rw [IntKind.wrap_i64]; omega
     clear hlt hk hend' hp
     replace hknn' := hid hknn'
     go_wp2_with fail
     exact ret3 rfl rfl ⟨by simp, M⟩
end
open Go Go.RowKit Go.Shelf
section
variable {w w' : World} {tb d : Nat} {room : Int} {l : List Sg} {X : Nat → Prop}
attribute [local go_sem] Oper.semAt_some
set_option maxRecDepth 100000 in
attribute [local irreducible] wpQuiet in
set_option maxHeartbeats 4000000 in
theorem bb_check (h : BB X w tb d room l) : Calls Tryz.prog 100 #[.pointer (some ⟨tb, 0, none⟩)] w fun e w' => e = .returned (.bool true) ∧ Mod (fun _ => False) w w' := by
 obtain ⟨ab, lv, fv, σ, free, root, S, hT, hPT, hRow, hdd, hlr, hrm, _⟩ := h
 have hPT0 := hPT
 rcases hPT with ⟨rfl, rfl, hnone⟩ | ⟨r, hh, F, rfl, hS, hAll⟩
 ·have hc : (σ.length : Int) - free.length = 0 := hT.count (F := []) ⟨List.nodup_nil, fun i => by simp [hnone i]⟩
  obtain ⟨c0, f0⟩ := blkc hT.t
  have P := lenB hT.a
  rw [hc] at P
  simp only [List.length_nil, Int.natCast_zero] at c0
  clear hT hc
  go_enter Tryz.func100, Tryz.ntmps100
  go_wp2_with fail
  refine P.mono ?_; rintro e w1 ⟨rfl, n, hw1⟩
  go_wp2_with fail
  go_ret
  exact ⟨rfl, (Mod.refl _ _).drewN n⟩
 ·obtain ⟨c0, f0⟩ := blkc hT.t
  have hpw := hS.pow hdd.1
  have hh1 : hh < d ^ hh := Nat.lt_of_lt_of_le Nat.lt_two_pow_self (Nat.pow_le_pow_left hdd.1 hh)
  have PF := fineBZ hdd hh w hT 1 r l F hS (Nat.le_refl _) (.inl rfl) (by omega) (by omega)
  have hTF : ∀ j, FootB tb ab lv fv σ j → j < w.heap.size := fun k hk => hT.lt hk
  have hlen : l.length ≤ 65535 := by omega
  have hr1 : ((r : Int) == -1) = false := by simp
  clear hpw hh1
  refine calls_of_wp_marks Tryz.func100 rfl ?_
  simp only [Tryz.ntmps100, List.size_toArray, List.length_cons, List.length_nil, Nat.reduceAdd, Nat.reduceSub, Array.replicate_succ, Array.replicate_zero, List.push_toArray, List.append_toArray, List.nil_append, List.cons_append]
  go_wp2_with fail
  refine PF.mono ?_; rintro e w0 ⟨rfl, M0⟩
  clear PF c0 f0
  obtain ⟨w1, hw1, b1, M1, hs1⟩ : ∃ w1, w0.alloc (.cells #[.slice none 0 0] 28) = w1 ∧ w1.heap[w0.heap.size]? = some (.cells #[.slice none 0 0] 28 (0, 0)) ∧ Mod (fun _ => False) w0 w1 ∧ w1.heap.size = w0.heap.size + 1 := ⟨_, rfl, alloc_0 _ _, (Mod.refl _ _).alloc _, by simp⟩
  have HA := allBZ w1 tb
  have hz0 := M0.size
  replace hs1 := hid hs1
  go_wp2_with fail
  refine HA.mono ?_; rintro e w2 ⟨rfl, hw2⟩
  have M2 : Mod (fun _ => False) w1 w2 := by rw [hw2]; exact (Mod.refl _ _).alloc _
  have k1 : w2.heap[w1.heap.size]? = some (.cells #[.pointer (some ⟨tb, 0, none⟩)] 91 (0, 0)) := by rw [hw2]; exact alloc_0 _ _
  have hz2 : w2.heap.size = w1.heap.size + 1 := by rw [hw2]; simp
  clear hw2 HA hw1
  replace b1 := M2.heap b1 fun h => h
  replace hT := ((hT.mod0 M0).mod0 M1).mod0 M2
  replace M1 := (M0.trans' M1).trans' M2
  replace hs1 := hs1.out
  rw [hs1] at k1 hz2
  rw [hs1]
  obtain ⟨bx, hbx⟩ : ∃ bx, w0.heap.size = bx := ⟨_, rfl⟩
  rw [hbx] at b1 k1 hz2 hz0 ⊢
  clear hs1 hbx
  have hFz : ∀ j, FootB tb ab lv fv σ j → j < bx := fun j hj => Nat.lt_of_lt_of_le (hTF j hj) hz0
  replace hz0 := hid hz0
  go_wp2_with fail
  refine wp_range1G (gf := 112) (lb := #[.pointer (some ⟨bx + 1, 0, none⟩)]) rfl (enters_of Tryz.func112 (by kernel_rfl) rfl) (all_iter hT hPT0 hdd hlen k1) (fun _ => rfl)
   (fun j => j = bx) (fun j hj => by have : j = bx := hj; omega) (fun j hj h => by have h : j = bx := h; rcases hj with hj | hj; omega; have := hFz j hj; omega) (fun j hj => by rcases hj with rfl | hj; omega; have := hFz j hj; omega)
   (AllJ7 bx w2) (fun c pre G W => False) (AllJ7.stab _ _) (fun c s G W W' T h m t => h.elim)
   (fun pre G W ⟨v, g1, g2, g3, g4, g5⟩ => ⟨g5.size, fun k hk => by rcases (g1 k).1 hk with rfl | hk; exact blkl g2; exact own_lt g3 hk⟩)
   ⟨.slice none 0 0, fun k => ⟨.inl, fun h => h.elim id fun h => by cases h⟩, b1, RowV.nil _, fun k hk => (by cases hk), Mod.refl _ _⟩
   (fun x => #[.int .i64 x.ls, .int .i64 x.la, .int .i64 x.hs, .int .i64 x.ha, .int .i64 x.v]) 38 ?body ?done ?stop
  case stop => exact fun c pre G W _ h => h.elim
  case body =>
   apply Exists.intro
   constructor
   ·intro yl x W KK hKK
    simp [encSB]
    gi_wp2_with fail
    generalize W.heap.size = b at hKK ⊢
    exact hKK
   ·intro yl pre x rest b G W hx hb hGb hbz hI hne
    obtain ⟨v, g1, g2, g3, g4, g5⟩ := hI
    obtain ⟨q1, q2⟩ := blkc g2
    obtain ⟨p1, p2⟩ := blkc hb
    have hlp : pre.length ≤ 65536 := by rw [hx] at hlen; simp at hlen; omega
    clear hx
    obtain ⟨xl, xa, xh, xg, xv⟩ := x
    gi_wp2_with (refine app_oneIn [.int .i64 xl, .int .i64 xa, .int .i64 xh, .int .i64 xg, .int .i64 xv] v pre.length (pre.flatMap encS) (.tmp 40) (.tmp 42) 28 38 (.agg #[.int .i64 0, .int .i64 0, .int .i64 0, .int .i64 0, .int .i64 0]) 5 40 rfl rfl Tryz.underlying28 infoSg rfl (by omega) (by omega) rfl rfl g3 rfl (by simp [Value.oneCell']) (by omega) ?_)
    intro v6 w6 own gr bl
    have Mg : Mod (fun k => v.ownBlock = some k) W w6 := Mod.of_grown gr
    have g26 := Mg.heap g2 (fun h => by have := g4 _ h; omega)
    obtain ⟨r1, r2⟩ := blkc g26
    have hown : ∀ k, v6.ownBlock = some k → k < w6.heap.size := fun k hk => own_lt own hk
    have hg6 : ∀ k, v6.ownBlock = some k → w2.heap.size ≤ k := fun k hk => by
     rcases bl k hk with e | e
     ·exact g4 k e
     ·exact Nat.le_trans g5.size e
    have R6 : RowV w6 v6 (pre ++ [⟨xl, xa, xh, xg, xv⟩]) := by
     unfold RowV
     rw [List.flatMap_append, List.length_append]
     simpa [encS] using own
    obtain ⟨A6, c6, hv6, _⟩ := own_slice own
    have hz6 := Mg.size
    have hbl := blkl g26
    have fin : roundEnd (AllJ7 bx w2) (fun c pre G W => False) (pre ++ [⟨xl, xa, xh, xg, xv⟩]) G W .normal { tmps := #[], defers := [] } (w6.setCell ⟨bx, 0, none⟩ v6) := by
     have MS : Mod (fun k => k = bx) w6 (w6.setCell ⟨bx, 0, none⟩ v6) := Mod.setCell (S := fun k => k = bx) (p := ⟨bx, 0, none⟩) (Mod.refl _ _) (.inl rfl) _
     refine ⟨fun k => k = bx ∨ v6.ownBlock = some k, fun k hk => ?_, ?_, v6, fun k => Iff.rfl, setL_whole (cs := [v]) (us := [v6]) g26 rfl, own_mod R6 MS fun k hk h => ?_, hg6, ?_⟩
     ·rcases hk with rfl | hk
      ·exact ⟨.inl ((g1 _).2 (.inl rfl)), by simpa using hbl⟩
      ·refine ⟨?_, by simpa using hown k hk⟩
       rcases bl k hk with e | e
       ·exact .inl ((g1 k).2 (.inr e))
       ·exact .inr e
     ·exact ((Mg.mono fun i hi => .inl ((g1 i).2 (.inr hi))).trans MS fun i hi => .inl ((g1 i).2 (.inl hi)))
     ·have := hg6 k hk; have h : k = bx := h; omega
     ·exact (g5.trans Mg fun i hi => .inr (g4 i hi)).trans MS fun i hi => .inl hi
    subst hv6
    clear q1 q2 p1 p2
    replace fin := hid fin
    gi_wp2_with fail
    exact fin.out
  case done =>
   rintro G W ⟨v, g1, g2, g3, g4, g5⟩ hne hk
   obtain ⟨q1, q2⟩ := blkc g2
   have hT7 : MemB W tb ab lv fv σ free (r : Int) (d : Int) room (l.length : Int) S := hT.mod g5 fun j hj e => by have := hFz j hj; have e : j = bx := e; omega
   have M7 : Mod (fun j => bx ≤ j) w W := (M1.mono fun _ h => h.elim).trans g5 fun j hj => .inl (by have : j = bx := hj; omega)
   have hlne : 0 < l.length := by have := (hS.size hdd.1).1 (by omega); have := List.length_pos_of_mem hS.mem; omega
   obtain ⟨A, cv, rfl, hA⟩ := g3.slice
   obtain ⟨g, rfl⟩ := hA hlne
   replace hz0 := hz0.out
   have t1 := hT7.t
   obtain ⟨n, hn⟩ : ∃ n, l.length = n := ⟨_, rfl⟩
   have HB : ∀ w', CM W w' → (∀ j, w'.cell? ⟨tb, j, none⟩ = #[.pointer (some ⟨ab, 0, none⟩), .int .i64 (r : Int), .int .i64 (d : Int), .int .i64 room, .int .i64 (n : Int)][j]?) ∧ (∀ j, w'.cell? ⟨bx, j, none⟩ = #[.slice (some ⟨g, 0, none⟩) n cv][j]?) := fun w' M =>
    ⟨(blkc (by rw [← hn]; exact Mod.heap M t1 fun h => h)).1, (blkc (by rw [← hn]; exact Mod.heap M g2 fun h => h)).1⟩
   have HS : ∀ w', CM W w' → ∀ k (hk : k < l.length), w'.cell? ⟨g, k * 5, none⟩ = some (.int .i64 l[k].ls) ∧ w'.cell? ⟨g, k * 5 + 1, none⟩ = some (.int .i64 l[k].la) := fun w' M k hk => by
    have := (g3.keep M).cells hk
    exact ⟨this.1, this.2.1⟩
   have HC : ∀ w', CM W w' → ∀ k (hk : k + 1 < l.length), Calls Tryz.prog 50 #[.agg #[.int .i64 l[k].ls, .int .i64 l[k].la], .agg #[.int .i64 l[k + 1].ls, .int .i64 l[k + 1].la]] w' fun e w'' => e = .returned (.int .i64 (-1)) ∧ CM w' w'' := fun w' M k hk => by
    have h1 := hRow.2 l[k] (List.getElem_mem _)
    have h2 := hRow.2 l[k + 1] (List.getElem_mem _)
    have hlt : ky l[k] < ky l[k + 1] := List.pairwise_iff_getElem.1 hRow.1 k (k + 1) (by omega) hk (by omega)
    refine (compareZ (s := l[k].ls) (s' := l[k + 1].ls) h1.2 h2.2 w').mono ?_
    rintro e w'' ⟨rfl, hm⟩
    exact ⟨by rw [show cmpI (kx l[k].ls l[k].la) (kx l[k + 1].ls l[k + 1].la) = -1 from cmpI_lt hlt], hm⟩
   have hn4 : n ≤ 4096 := by omega
   have hn1 : 1 ≤ n := by omega
   rw [hn]
   rw [hn] at q1
   replace HB := hid HB
   replace HS := hid HS
   replace HC := hid HC
   have hfin : ∀ w', CM W w' → Mod (fun _ => False) w (w'.putObj w2.heap.size (.deferred none)) := fun w' M => mod_putObj ((M7.mono fun j hj => .inr (by have : bx ≤ j := hj; omega)).trans' M) (.inr (by omega)) _
   rw [hz2] at hfin hk
   replace hfin := hid hfin
   have hkk : ∀ w', CM W w' → w'.heap[bx + 1 + 1]? = some (.deferred (some [])) := fun w' M => Mod.heap M hk fun h => h
   replace hkk := hid hkk
   replace hn := hid hn
   clear hT7 t1 g1 g2 g3 g4 g5 hS hPT0 hRow hT M7 hlr hz0 hk hlne M1 b1 k1
   go_wp2_with fail
   go_loopw [5, 8] (fun is c W' => ∃ k : Nat, 1 ≤ k ∧ k ≤ n ∧ c = .int .i64 (k : Int) ∧ is = .bool true ∧ CM W W') (fun _ c _ => (n - intOf c).toNat)
   case atStart => exact ⟨1, by omega, hn1, rfl, rfl, Mod.refl _ _⟩
   case round =>
    obtain ⟨k, hk1, hkn, rfl, rfl, M⟩ := hrel
    obtain ⟨j, rfl⟩ : ∃ j, k = j + 1 := ⟨k - 1, by omega⟩
    obtain ⟨u1, u2⟩ := HB.out _ M
    clear q1 q2
    by_cases hlt : j + 1 < n
    ·have hlt' : j + 1 < l.length := by rw [hn.out]; exact hlt
     have HB2 := hid (fun (w' : World) (M' : CM wr w') => HB.out w' (M.trans' M'))
     have HS1 := hid (fun (w' : World) (M' : CM wr w') => HS.out w' (M.trans' M') j (by omega))
     have HS2 := hid (fun (w' : World) (M' : CM wr w') => HS.out w' (M.trans' M') (j + 1) hlt')
     have HC2 : ∀ w', CM wr w' → Calls Tryz.prog 50 #[.agg #[.int .i64 l[j].ls, .int .i64 l[j].la], .agg #[.int .i64 l[j + 1].ls, .int .i64 l[j + 1].la]] w' fun e w'' => e = .returned (.int .i64 (-1)) ∧ CM wr w'' := fun w' M' =>
      (HC.out w' (M.trans' M') j hlt').mono fun e w'' ⟨h1, h2⟩ => ⟨h1, M'.trans' h2⟩
     replace HC2 := hid HC2
     have hwj : IntKind.i64.wrap (j : Int) = (j : Int) := by rw [IntKind.wrap_i64]; omega
     have hwj2 : IntKind.i64.wrap ((j : Int) + 1 + 1) = (j : Int) + 1 + 1 := by rw [IntKind.wrap_i64]; omega
     have hj0 : (0 : Int) ≤ (j : Int) := by omega
     have hj1 : (0 : Int) ≤ (j : Int) + 1 := by omega
     have hj2 : (j : Int) + 1 < (n : Int) := by omega
     have hj3 : (j : Int) < (n : Int) := by omega
     have htn : ((j : Int) + 1).toNat = j + 1 := by omega
     replace hlt := hid hlt
     go_wp2_with fail
     refine cq_region (by kernel_rfl) (by kernel_rfl) ?_
     iterate 19 (refine wpQuiet_step (fun K hK => ?_); go_simp; first | (refine hK _ ?_; clear hK K) | (refine ⟨_, fun _ _ => rfl, hK _ ?_⟩; clear hK K) | (apply Exists.intro; refine ⟨fun wq hq => ?_, hK _ ?_⟩; (focus (first | (go_simp; exact HC2.out _ hq) | ((obtain ⟨u1, u2⟩ := HB2.out _ hq; obtain ⟨u3, u4⟩ := HS1.out _ hq; obtain ⟨u5, u6⟩ := HS2.out _ hq); go_simp; try with_reducible rfl))); clear hK K))
     refine wpQuiet_nil ?_
     intro w5 M5
     go_wp2_with fail
     go_roundw
     case rel => exact ⟨j + 1 + 1, by omega, hlt.out, by simp, rfl, M.trans' M5⟩
     case measure => have := hlt.out; simp [intOf]; omega
    ·obtain rfl : n = j + 1 := by omega
     have hk := hkk.out _ M
     clear hlt hk1 hkn hn1 hn4
     go_wp2_with fail
     refine retM1 (D := bx + 1 + 1) hk rfl (results_tmp rfl _ _ _) ⟨by simp, hfin.out _ M⟩
end
open Go Go.RowKit
section
variable {w w' : World} {v : Value} {mb tb d : Nat} {room : Int} {l : List Sg} {X Y R : Nat → Prop}
theorem tt_check (h : TT X w v d room l) : IMe w v "Check" #[] fun e w' => e = .returned (.bool true) ∧ Mod (fun _ => False) w w' := by
 obtain ⟨tb, ⟨rfl, rfl, h3, h4⟩ | ⟨rfl, h2⟩⟩ := h
 ·exact ⟨_, tb, 151, rfl, enters_of Tryz.func151 (by kernel_rfl) rfl, fun _ => by kernel_rfl, (rb_check h4).mono fun e w' h => h⟩
 ·exact ⟨_, tb, 100, rfl, enters_of Tryz.func100 (by kernel_rfl) rfl, fun _ => by kernel_rfl, (bb_check h2).mono fun e w' h => h⟩
set_option maxRecDepth 100000 in
theorem om_check (h : OM X w mb d room l) : Calls Tryz.prog 42 #[.pointer (some ⟨mb, 0, none⟩)] w fun e w' => e = .returned (.bool true) ∧ Mod (fun _ => False) w w' := by
 obtain ⟨v, hb, hX, hT⟩ := h
 obtain ⟨T, tb, K, rfl, hn, hm, hc⟩ := tt_check hT
 obtain ⟨c0, f0⟩ := blkc hb
 have hlt := blkl hb
 replace hb := hid hb
 replace hlt := hid hlt
 clear hT
 go_enter Tryz.func42, Tryz.ntmps42
 go_wp2_with fail
 refine hc.mono ?_
 rintro e w1 ⟨rfl, M1⟩
 clear hn hm hc
 go_wp2_with fail
 go_ret
 exact ⟨rfl, M1⟩
end
end Go.Proofs.Bo
