import Derived.Test.YtofgoehkahcajaaGreatPBG
import Derived.Test.YtofgoehkahcajaaGreatSmG
import Derived.Test.YtofgoehkahcajaaGreatBoG
import Derived.Test.YtofgoehkahcajaaGreatRefG
set_option linter.unusedVariables false
set_option linter.unusedSimpArgs false
namespace Go.Proofs.Bo
open Go Go.RowKit

section
variable {tb ab : Nat} {lv fv : Value} {σ : List (Option Bn)} {free : List Int} {root room many : Int} {S : StB} {d : Nat}

theorem sum_take (cs : List Ch) (k : Nat) (hk : k < cs.length) : sumL ((cs.map Ch.L).take (k + 1)) = sumL ((cs.map Ch.L).take k) + cs[k].L.length := by
  rw [List.take_succ_eq_append_getElem (by simpa using hk)]
  simp [sumL]
theorem sum_take_le (ps : List (List Sg)) (k : Nat) : sumL (ps.take k) ≤ sumL ps := by
  have e : sumL ps = sumL (ps.take k ++ ps.drop k) := by rw [List.take_append_drop]
  rw [e]
  simp only [sumL, List.map_append, List.sum_append]
  omega

set_option maxRecDepth 100000 in
attribute [local irreducible] wpQuiet in
set_option maxHeartbeats 4000000 in
theorem fineBZ (hd : 2 ≤ d ∧ d ≤ 64) : ∀ (hh : Nat) (w : World), MemB w tb ab lv fv σ free root (d : Int) room many S → ∀ (lo i : Nat) (L : List Sg) (F : List Nat), Sub d S hh lo i L F → 1 ≤ lo → (root = i ∨ d - 1 ≤ lo) → L.length ≤ 65536 → hh ≤ 65536 →
    Calls Tryz.prog 62 #[.pointer (some ⟨tb, 0, none⟩), .int .i64 (i : Int)] w fun e w' => e = .returned (.tuple #[.int .i64 (L.length : Int), .int .i64 ((hh : Int) + 1), .bool true]) ∧ Mod (fun _ => False) w w' := by
  intro hh
  induction hh with
  | zero =>
    intro w h lo i L F hS hlo hlow hL65 hh65
    obtain ⟨hSi, hF, hl1, hl2⟩ := hS
    obtain ⟨b, hb, hn⟩ := h.live hSi
    obtain ⟨lb, c, rfl⟩ := h.lbS hb
    obtain ⟨c0, f0⟩ := blkc h.t
    have PA := atM h hb
    obtain ⟨q1, q2, q3, q4⟩ := h.cells hb
    have hln := hn.ln
    rw [hln] at q1
    have HB : ∀ w', CM w w' → (∀ j, w'.cell? ⟨tb, j, none⟩ = #[.pointer (some ⟨ab, 0, none⟩), .int .i64 root, .int .i64 (d : Int), .int .i64 room, .int .i64 many][j]?) ∧ w'.cell? ⟨lb, i * 3, none⟩ = some (.slice b.la L.length b.lc) ∧
        Calls Tryz.prog 81 #[.pointer (some ⟨tb, 0, none⟩)] w' (fun e w'' => e = .returned (.int .i64 (2 * (d : Int) - 1)) ∧ CM w w'') := fun w' M =>
      ⟨(blkc (h.mod0 M).t).1, by have := ((h.mod0 M).cells hb).1; rw [hln] at this; exact this, (mostM (h.mod0 M) (by omega)).mono fun e w'' ⟨h1, h2⟩ => ⟨h1, by rw [h2]; exact M⟩⟩
    have PL : ∀ w', CM w w' → Calls Tryz.prog 56 #[.pointer (some ⟨lb, i * 3, none⟩)] w' (fun e w'' => e = .returned (.bool true) ∧ w'' = w') := fun w' M => by
      obtain ⟨l', ks', e', hn9⟩ := (h.mod0 M).node i b hb
      rw [hSi] at e'; cases e'
      exact leafM (h.mod0 M) hb hn9
    have e1 : decide ((L.length : Int) > 2 * (d : Int) - 1) = false := decide_eq_false (by omega)
    have e2 : decide ((L.length : Int) < 1) = false := decide_eq_false (by omega)
    have e3 : IntKind.i64.wrap ((d : Int) - 1) = (d : Int) - 1 := by rw [IntKind.wrap_i64]; omega
    obtain ⟨bb, hne, e4⟩ : ∃ bb, ((i : Int) != root) = bb ∧ (bb = true → decide ((L.length : Int) < (d : Int) - 1) = false) := by
      by_cases hr : root = i
      · exact ⟨false, by rw [hr]; simp, fun h => by cases h⟩
      · exact ⟨true, by simpa using fun e => hr e.symm, fun _ => decide_eq_false (by rcases hlow with h | h; exact absurd h hr; omega)⟩
    replace HB := hid HB
    replace PL := hid PL
    clear h hn hb hSi hF hl1 hl2 hlow hln q3 q4 q2
    cases bb
    · clear e4
      go_enter Tryz.func62, Tryz.ntmps62
      go_wp2_with fail
      refine PA.mono ?_; rintro e w1 ⟨rfl, hw1⟩; rw [hw1]; clear hw1
      clear PA
      go_wp2_with fail
      refine cq_region (by kernel_rfl) (by kernel_rfl) ?_
      iterate 41 (refine wpQuiet_step (fun K hK => ?_); go_simp; first | (refine hK _ ?_; clear hK K) | (refine ⟨_, fun _ _ => rfl, hK _ ?_⟩; clear hK K) | (apply Exists.intro; refine ⟨fun wq hq => ?_, hK _ ?_⟩; (focus (first | (go_at_call 81; exact (HB.out _ hq).2.2) | (obtain ⟨t1, t2, _⟩ := HB.out _ hq; go_simp; try with_reducible rfl))); clear hK K))
      refine wpQuiet_nil ?_
      intro w2 M2
      obtain ⟨t1, t2, _⟩ := HB.out _ M2
      go_wp2_with fail
      refine (PL.out _ M2).mono ?_; rintro e w3 ⟨rfl, hw3⟩; subst hw3
      go_wp2_with fail
      exact ret3 rfl rfl ⟨by simp, M2⟩
    · replace e4 := e4 rfl
      go_enter Tryz.func62, Tryz.ntmps62
      go_wp2_with fail
      refine PA.mono ?_; rintro e w1 ⟨rfl, hw1⟩; rw [hw1]; clear hw1
      clear PA
      go_wp2_with fail
      refine cq_region (by kernel_rfl) (by kernel_rfl) ?_
      iterate 41 (refine wpQuiet_step (fun K hK => ?_); go_simp; first | (refine hK _ ?_; clear hK K) | (refine ⟨_, fun _ _ => rfl, hK _ ?_⟩; clear hK K) | (apply Exists.intro; refine ⟨fun wq hq => ?_, hK _ ?_⟩; (focus (first | (go_at_call 81; exact (HB.out _ hq).2.2) | (obtain ⟨t1, t2, _⟩ := HB.out _ hq; go_simp; try with_reducible rfl))); clear hK K))
      refine wpQuiet_nil ?_
      intro w2 M2
      obtain ⟨t1, t2, _⟩ := HB.out _ M2
      go_wp2_with fail
      refine (PL.out _ M2).mono ?_; rintro e w3 ⟨rfl, hw3⟩; subst hw3
      go_wp2_with fail
      exact ret3 rfl rfl ⟨by simp, M2⟩
  | succ hh ih =>
    intro w h lo i L F hS hlo hlow hL65 hh65
    obtain ⟨l, cs, hSi, hl1, hl2, hcs, hks, hLe, hFe⟩ := hS
    have hsum := inter_len l (cs.map Ch.L) (by simpa using hcs)
    rw [← hLe] at hsum
    obtain ⟨b, hb, hn⟩ := h.live hSi
    obtain ⟨lb, c, rfl⟩ := h.lbS hb
    obtain ⟨c0, f0⟩ := blkc h.t
    have PA := atM h hb
    obtain ⟨q1, q2, q3, q4⟩ := h.cells hb
    have hln := hn.ln
    have hkn := hn.kn
    rw [hln] at q1
    obtain ⟨kn, hknn⟩ : ∃ kn, cs.length = kn := ⟨_, rfl⟩
    rw [List.length_map, hknn] at hkn
    obtain ⟨gk, hgk⟩ : ∃ gk, b.ka = some ⟨gk, 0, none⟩ := (hn.kidC (j := 0) (by simp; omega)).elim fun g h => ⟨g, h.1⟩
    have HB : ∀ w', CM w w' → (∀ j, w'.cell? ⟨tb, j, none⟩ = #[.pointer (some ⟨ab, 0, none⟩), .int .i64 root, .int .i64 (d : Int), .int .i64 room, .int .i64 many][j]?) ∧ w'.cell? ⟨lb, i * 3, none⟩ = some (.slice b.la l.length b.lc) ∧ w'.cell? ⟨lb, i * 3 + 1, none⟩ = some (.slice (some ⟨gk, 0, none⟩) kn b.kc) ∧
        Calls Tryz.prog 81 #[.pointer (some ⟨tb, 0, none⟩)] w' (fun e w'' => e = .returned (.int .i64 (2 * (d : Int) - 1)) ∧ CM w w'') := fun w' M =>
      ⟨(blkc (h.mod0 M).t).1, by have := ((h.mod0 M).cells hb).1; rw [hln] at this; exact this, by have := ((h.mod0 M).cells hb).2.1; rw [hgk, hkn] at this; exact this, (mostM (h.mod0 M) (by omega)).mono fun e w'' ⟨h1, h2⟩ => ⟨h1, by rw [h2]; exact M⟩⟩
    have PL : ∀ w', CM w w' → Calls Tryz.prog 56 #[.pointer (some ⟨lb, i * 3, none⟩)] w' (fun e w'' => e = .returned (.bool false) ∧ w'' = w') := fun w' M => by
      obtain ⟨l', ks', e', hn9⟩ := (h.mod0 M).node i b hb
      rw [hSi] at e'; cases e'
      have := leafM (h.mod0 M) hb hn9
      rw [show decide (cs.map Ch.i = []) = false from by simp; rintro rfl; simp at hcs] at this
      exact this
    have PK : ∀ w', CM w w' → ∀ k (hk : k < cs.length), w'.cell? ⟨gk, k, none⟩ = some (.int .i64 (cs[k].i : Int)) ∧ Calls Tryz.prog 62 #[.pointer (some ⟨tb, 0, none⟩), .int .i64 (cs[k].i : Int)] w' fun e w'' => e = .returned (.tuple #[.int .i64 (cs[k].L.length : Int), .int .i64 ((hh : Int) + 1), .bool true]) ∧ CM w w'' := fun w' M k hk => by
      obtain ⟨l', ks', e', hn9⟩ := (h.mod0 M).node i b hb
      rw [hSi] at e'; cases e'
      obtain ⟨g', hg', y⟩ := hn9.kidC (j := k) (by simpa using hk)
      rw [hgk] at hg'; cases hg'
      have hmem := List.getElem_mem hk
      refine ⟨by simpa using y, (ih w' (h.mod0 M) (d - 1) cs[k].i cs[k].L cs[k].F (hks _ hmem) (by omega) (.inr (Nat.le_refl _)) ?_ (by omega)).mono fun e w'' ⟨h1, h2⟩ => ⟨h1, M.trans' h2⟩⟩
      have h1 := sum_take cs k hk
      have h2 := sum_take_le (cs.map Ch.L) (k + 1)
      omega
    have e1 : decide ((l.length : Int) > 2 * (d : Int) - 1) = false := decide_eq_false (by omega)
    have e2 : decide ((l.length : Int) < 1) = false := decide_eq_false (by omega)
    have e3 : IntKind.i64.wrap ((d : Int) - 1) = (d : Int) - 1 := by rw [IntKind.wrap_i64]; omega
    have e5 : IntKind.i64.wrap ((l.length : Int) + 1) = (l.length : Int) + 1 := by rw [IntKind.wrap_i64]; omega
    have e6 : ((kn : Int) == (l.length : Int) + 1) = true := by simp; omega
    obtain ⟨bb, hne, e4⟩ : ∃ bb, ((i : Int) != root) = bb ∧ (bb = true → decide ((l.length : Int) < (d : Int) - 1) = false) := by
      by_cases hr : root = i
      · exact ⟨false, by rw [hr]; simp, fun h => by cases h⟩
      · exact ⟨true, by simpa using fun e => hr e.symm, fun _ => decide_eq_false (by rcases hlow with h | h; exact absurd h hr; omega)⟩
    have hstep : ∀ k (hk : k < cs.length), sumL ((cs.map Ch.L).take (k + 1)) = sumL ((cs.map Ch.L).take k) + cs[k].L.length ∧ l.length + sumL ((cs.map Ch.L).take (k + 1)) ≤ L.length := fun k hk => ⟨sum_take cs k hk, by have := sum_take_le (cs.map Ch.L) (k + 1); omega⟩
    have hend : l.length + sumL ((cs.map Ch.L).take cs.length) = L.length := by rw [List.take_of_length_le (by simp)]; exact hsum.symm
    have hpos : 0 < cs.length := by omega
    have h128 : cs.length ≤ 128 := by omega
    replace hpos := hid hpos
    replace h128 := hid h128
    replace hstep := hid hstep
    replace hend := hid hend
    replace HB := hid HB
    replace PL := hid PL
    replace PK := hid PK
    replace hknn := hid hknn
    clear h hn hb hSi hl1 hl2 hlow hln q3 q4 q2 hkn hgk hks hLe hFe hsum hcs ih
    cases bb
    · clear e4
      go_enter Tryz.func62, Tryz.ntmps62
      go_wp2_with fail
      refine PA.mono ?_; rintro e w1 ⟨rfl, hw1⟩; rw [hw1]; clear hw1
      clear PA
      go_wp2_with fail
      refine cq_region (by kernel_rfl) (by kernel_rfl) ?_
      iterate 41 (refine wpQuiet_step (fun K hK => ?_); go_simp; first | (refine hK _ ?_; clear hK K) | (refine ⟨_, fun _ _ => rfl, hK _ ?_⟩; clear hK K) | (apply Exists.intro; refine ⟨fun wq hq => ?_, hK _ ?_⟩; (focus (first | (go_at_call 81; exact (HB.out _ hq).2.2.2) | (obtain ⟨t1, t2, t3, _⟩ := HB.out _ hq; go_simp; try with_reducible rfl))); clear hK K))
      refine wpQuiet_nil ?_
      intro w2 M2
      obtain ⟨t1, t2, t3, _⟩ := HB.out _ M2
      go_wp2_with fail
      refine (PL.out _ M2).mono ?_; rintro e w3 ⟨rfl, hw3⟩; subst hw3
      clear c0 f0 q1 e1 e2 e3 hne
      clear t1 t2 t3
      go_wp2_with fail
      refine cq_region (by kernel_rfl) (by kernel_rfl) ?_
      iterate 20 (refine wpQuiet_step (fun K hK => ?_); go_simp; first | (refine hK _ ?_; clear hK K) | (refine ⟨_, fun _ _ => rfl, hK _ ?_⟩; clear hK K) | (apply Exists.intro; refine ⟨fun wq hq => ?_, hK _ ?_⟩; (focus (first  | (obtain ⟨t1, t2, t3, _⟩ := HB.out _ (Mod.trans' M2 hq); go_simp; try with_reducible rfl))); clear hK K))
      refine wpQuiet_nil ?_
      intro w4 M4
      replace M4 := Mod.trans' M2 M4
      obtain ⟨t1, t2, t3, _⟩ := HB.out _ M4
      clear M2
      go_wp2_with fail
      go_loopw [8, 9, 10, 89] (fun m hi al c W => ∃ k : Nat, k ≤ cs.length ∧ c = .int .i64 (k : Int) ∧ m = .int .i64 ((l.length + sumL ((cs.map Ch.L).take k) : Nat) : Int) ∧ hi = .int .i64 (if k = 0 then 0 else (hh : Int) + 1) ∧ al = .bool true ∧ CM w W) (fun _ _ _ c _ => (cs.length - intOf c).toNat)
      case atStart => exact ⟨0, by omega, rfl, by simp [sumL], rfl, rfl, M4⟩
      case round =>
        obtain ⟨k, hk, rfl, rfl, rfl, rfl, M⟩ := hrel
        clear t1 t2 t3 M4 e5 e6
        by_cases hlt : k < cs.length
        · obtain ⟨y, PF⟩ := PK.out _ M k hlt
          obtain ⟨s1, s2⟩ := hstep.out k hlt
          obtain ⟨kc, hkc⟩ : ∃ kc, cs[k].i = kc := ⟨_, rfl⟩
          obtain ⟨m, hm⟩ : ∃ m, cs[k].L.length = m := ⟨_, rfl⟩
          obtain ⟨A, hA⟩ : ∃ A, l.length + sumL ((cs.map Ch.L).take k) = A := ⟨_, rfl⟩
          rw [hkc] at y PF
          rw [hm] at s1 PF
          have hltI : (k : Int) < (kn : Int) := by have := hknn.out; omega
          have hk0 : (0 : Int) ≤ (k : Int) := by omega
          have e7 : IntKind.i64.wrap ((A : Int) + (m : Int)) = (A : Int) + (m : Int) := by rw [IntKind.wrap_i64]; omega
          have e8 : IntKind.i64.wrap ((k : Int) + 1) = (k : Int) + 1 := by have := h128.out; rw [IntKind.wrap_i64]; omega
          have hfin : ((l.length + sumL ((cs.map Ch.L).take (k + 1)) : Nat) : Int) = (A : Int) + (m : Int) := by omega
          have e9 : ((hh : Int) + 1 == 0) = false := by simp; omega
          rw [hA]
          clear hkc hm hA s1 s2
          replace hfin := hid hfin
          rcases Nat.eq_zero_or_pos k with rfl | hkp
          · simp only [if_true]
            go_wp2_with fail
            refine PF.mono ?_; rintro e w5 ⟨rfl, M5⟩
            go_wp2_with fail
            go_roundw
            case rel => exact ⟨1, hlt, rfl, by rw [hfin.out], by simp, rfl, M5⟩
            case measure => simp [intOf]; omega
          · rw [if_neg (by omega)]
            go_wp2_with fail
            refine PF.mono ?_; rintro e w5 ⟨rfl, M5⟩
            go_wp2_with fail
            go_roundw
            case rel => exact ⟨k + 1, hlt, by simp, by rw [hfin.out], by simp, rfl, M5⟩
            case measure => simp [intOf]; omega
        · obtain rfl : k = cs.length := by omega
          have hp := hpos.out
          have hknn' := hknn.out
          have hend' := hend.out
          rw [if_neg (by omega), hend', hknn']
          have e7 : IntKind.i64.wrap ((hh : Int) + 1 + 1) = (hh : Int) + 1 + 1 := by rw [IntKind.wrap_i64]; omega
          clear hlt hk hend' hp
          replace hknn' := hid hknn'
          go_wp2_with fail
          exact ret3 rfl rfl ⟨by simp, M⟩
    · replace e4 := e4 rfl
      go_enter Tryz.func62, Tryz.ntmps62
      go_wp2_with fail
      refine PA.mono ?_; rintro e w1 ⟨rfl, hw1⟩; rw [hw1]; clear hw1
      clear PA
      go_wp2_with fail
      refine cq_region (by kernel_rfl) (by kernel_rfl) ?_
      iterate 41 (refine wpQuiet_step (fun K hK => ?_); go_simp; first | (refine hK _ ?_; clear hK K) | (refine ⟨_, fun _ _ => rfl, hK _ ?_⟩; clear hK K) | (apply Exists.intro; refine ⟨fun wq hq => ?_, hK _ ?_⟩; (focus (first | (go_at_call 81; exact (HB.out _ hq).2.2.2) | (obtain ⟨t1, t2, t3, _⟩ := HB.out _ hq; go_simp; try with_reducible rfl))); clear hK K))
      refine wpQuiet_nil ?_
      intro w2 M2
      obtain ⟨t1, t2, t3, _⟩ := HB.out _ M2
      go_wp2_with fail
      refine (PL.out _ M2).mono ?_; rintro e w3 ⟨rfl, hw3⟩; subst hw3
      clear c0 f0 q1 e1 e2 e3 hne
      clear t1 t2 t3
      go_wp2_with fail
      refine cq_region (by kernel_rfl) (by kernel_rfl) ?_
      iterate 20 (refine wpQuiet_step (fun K hK => ?_); go_simp; first | (refine hK _ ?_; clear hK K) | (refine ⟨_, fun _ _ => rfl, hK _ ?_⟩; clear hK K) | (apply Exists.intro; refine ⟨fun wq hq => ?_, hK _ ?_⟩; (focus (first  | (obtain ⟨t1, t2, t3, _⟩ := HB.out _ (Mod.trans' M2 hq); go_simp; try with_reducible rfl))); clear hK K))
      refine wpQuiet_nil ?_
      intro w4 M4
      replace M4 := Mod.trans' M2 M4
      obtain ⟨t1, t2, t3, _⟩ := HB.out _ M4
      clear M2
      go_wp2_with fail
      go_loopw [8, 9, 10, 89] (fun m hi al c W => ∃ k : Nat, k ≤ cs.length ∧ c = .int .i64 (k : Int) ∧ m = .int .i64 ((l.length + sumL ((cs.map Ch.L).take k) : Nat) : Int) ∧ hi = .int .i64 (if k = 0 then 0 else (hh : Int) + 1) ∧ al = .bool true ∧ CM w W) (fun _ _ _ c _ => (cs.length - intOf c).toNat)
      case atStart => exact ⟨0, by omega, rfl, by simp [sumL], rfl, rfl, M4⟩
      case round =>
        obtain ⟨k, hk, rfl, rfl, rfl, rfl, M⟩ := hrel
        clear t1 t2 t3 M4 e5 e6
        by_cases hlt : k < cs.length
        · obtain ⟨y, PF⟩ := PK.out _ M k hlt
          obtain ⟨s1, s2⟩ := hstep.out k hlt
          obtain ⟨kc, hkc⟩ : ∃ kc, cs[k].i = kc := ⟨_, rfl⟩
          obtain ⟨m, hm⟩ : ∃ m, cs[k].L.length = m := ⟨_, rfl⟩
          obtain ⟨A, hA⟩ : ∃ A, l.length + sumL ((cs.map Ch.L).take k) = A := ⟨_, rfl⟩
          rw [hkc] at y PF
          rw [hm] at s1 PF
          have hltI : (k : Int) < (kn : Int) := by have := hknn.out; omega
          have hk0 : (0 : Int) ≤ (k : Int) := by omega
          have e7 : IntKind.i64.wrap ((A : Int) + (m : Int)) = (A : Int) + (m : Int) := by rw [IntKind.wrap_i64]; omega
          have e8 : IntKind.i64.wrap ((k : Int) + 1) = (k : Int) + 1 := by have := h128.out; rw [IntKind.wrap_i64]; omega
          have hfin : ((l.length + sumL ((cs.map Ch.L).take (k + 1)) : Nat) : Int) = (A : Int) + (m : Int) := by omega
          have e9 : ((hh : Int) + 1 == 0) = false := by simp; omega
          rw [hA]
          clear hkc hm hA s1 s2
          replace hfin := hid hfin
          rcases Nat.eq_zero_or_pos k with rfl | hkp
          · simp only [if_true]
            go_wp2_with fail
            refine PF.mono ?_; rintro e w5 ⟨rfl, M5⟩
            go_wp2_with fail
            go_roundw
            case rel => exact ⟨1, hlt, rfl, by rw [hfin.out], by simp, rfl, M5⟩
            case measure => simp [intOf]; omega
          · rw [if_neg (by omega)]
            go_wp2_with fail
            refine PF.mono ?_; rintro e w5 ⟨rfl, M5⟩
            go_wp2_with fail
            go_roundw
            case rel => exact ⟨k + 1, hlt, by simp, by rw [hfin.out], by simp, rfl, M5⟩
            case measure => simp [intOf]; omega
        · obtain rfl : k = cs.length := by omega
          have hp := hpos.out
          have hknn' := hknn.out
          have hend' := hend.out
          rw [if_neg (by omega), hend', hknn']
          have e7 : IntKind.i64.wrap ((hh : Int) + 1 + 1) = (hh : Int) + 1 + 1 := by rw [IntKind.wrap_i64]; omega
          clear hlt hk hend' hp
          replace hknn' := hid hknn'
          go_wp2_with fail
          exact ret3 rfl rfl ⟨by simp, M⟩
end
end Go.Proofs.Bo
