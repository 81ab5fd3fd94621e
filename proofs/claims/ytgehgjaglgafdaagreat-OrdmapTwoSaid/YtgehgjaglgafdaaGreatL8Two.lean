import Derived.Test.YtgehgjaglgafdaaGreatG43
import Derived.Test.YtgehgjaglgafdaaGreatG42
import Derived.Test.YtgehgjaglgafdaaGreatG49
set_option linter.unusedVariables false
set_option linter.unusedSimpArgs false
namespace Go.Proofs.Bo
open Go Go.RowKit
def Two8 (w0 W : World) (ma ca da mb cb db : Nat) (room : Int) (L : List Sg) (C : Cu) : Prop :=
 ∃ Xa Xb : Nat → Prop, MC Xa W ma ca da room L C ∧ MC Xb W mb cb db room L C ∧ (∀ k, Xa k → (w0.heap.size ≤ k ∧ k < W.heap.size) ∧ ¬ Xb k) ∧ (∀ k, Xb k → w0.heap.size ≤ k ∧ k < W.heap.size) ∧ Mod (fun _ => False) w0 W
section
variable {w0 W : World} {ma ca da mb cb db : Nat} {room : Int} {L : List Sg} {C : Cu}
theorem Two8.mod0 {W' : World} (h : Two8 w0 W ma ca da mb cb db room L C) (M : Mod (fun _ => False) W W') : Two8 w0 W' ma ca da mb cb db room L C := by
 obtain ⟨Xa, Xb, h1, h2, h3, h4, h5⟩ := h
 have := M.size
 exact ⟨Xa, Xb, h1.mod0 M, h2.mod0 M, fun k hk => ⟨⟨(h3 k hk).1.1, by have := (h3 k hk).1.2; omega⟩, (h3 k hk).2⟩, fun k hk => ⟨(h4 k hk).1, by have := (h4 k hk).2; omega⟩, h5.trans' M⟩
theorem Two8.below (h : Two8 w0 W ma ca da mb cb db room L C) : Below w0.heap.size w0 W := by
 obtain ⟨Xa, Xb, h1, h2, h3, h4, h5⟩ := h
 exact h5.to_below (Nat.le_refl _) fun _ h => h.elim
theorem Two8.oa (h : Two8 w0 W ma ca da mb cb db room L C) : OM (fun k => k < W.heap.size) W ma da room L := by
 obtain ⟨Xa, Xb, h1, h2, h3, h4, h5⟩ := h
 exact h1.om.mono fun k hk hl => hl
theorem Two8.ob (h : Two8 w0 W ma ca da mb cb db room L C) : OM (fun k => k < W.heap.size) W mb db room L := by
 obtain ⟨Xa, Xb, h1, h2, h3, h4, h5⟩ := h
 exact h2.om.mono fun k hk hl => hl
def Two8h (w0 W : World) (ma ca da mb cb db : Nat) (room : Int) (L : List Sg) (C : Cu) (L' : List Sg) (C' : Cu) (b : Nat) : Prop :=
 ∃ Xa Xb : Nat → Prop, MC Xa W ma ca da room L' C' ∧ MC Xb W mb cb db room L C ∧ (∀ k, Xa k → (w0.heap.size ≤ k ∧ k < W.heap.size) ∧ ¬ Xb k) ∧ (∀ k, Xb k → w0.heap.size ≤ k ∧ k < W.heap.size ∧ k ≠ b) ∧ Mod (fun _ => False) w0 W
theorem two_first {W0 : World} (h : Two8 w0 W0 ma ca da mb cb db room L C) (M : Mod (fun _ => False) W0 W) (o : Op8) (hf : fit64 o.s.la) (hk : o.k ≠ 7) {b : Nat} {cs : Array Value} {t : TypeId} (hb : W.heap[b]? = some (.cells cs t (0, 0))) (hlb : W0.heap.size ≤ b) :
  Calls Tryz.prog 31 #[.pointer (some ⟨ma, 0, none⟩), .pointer (some ⟨ca, 0, none⟩), .agg (encO8 o).toArray] W fun e W' => e = .returned (.agg (ans8 room o L C).toArray) ∧ Two8h w0 W' ma ca da mb cb db room L C (do8L room o L) (do8C o L C) b ∧ W'.heap[b]? = some (.cells cs t (0, 0)) := by
 obtain ⟨Xa, Xb, h1, h2, h3, h4, h5⟩ := h
 have hM := M.size
 refine (does8 (h1.mod0 M) o hf).mono ?_
 rintro e W' ⟨rfl, R, M1⟩
 have hd : do8D o da = da := by unfold do8D; rw [if_neg hk]
 rw [hd] at R
 have hs := M1.size
 refine ⟨rfl, ⟨fun k => (Xa k ∨ W.heap.size ≤ k) ∧ k < W'.heap.size, Xb, R.mono fun k hk hl => ⟨hk, hl⟩, (h2.mod0 M).mod M1 fun k hk _ hk' => (h3 k hk').2 hk, fun k hk => ?_, fun k hk => ⟨(h4 k hk).1, by have := (h4 k hk).2; omega, by have := (h4 k hk).2; omega⟩, (h5.trans' M).trans M1 fun j hj => .inr (h3 j hj).1.1⟩, M1.heap hb fun hk => by have := (h3 b hk).1.2; omega⟩
 have h6 := h5.size
 rcases hk.1 with h | h
 ·exact ⟨⟨(h3 k h).1.1, hk.2⟩, (h3 k h).2⟩
 ·exact ⟨⟨by omega, hk.2⟩, fun hx => by have := (h4 k hx).2; omega⟩
theorem two_second {L' : List Sg} {C' : Cu} {b : Nat} (h : Two8h w0 W ma ca da mb cb db room L C L' C' b) (o : Op8) (hf : fit64 o.s.la) (hk : o.k ≠ 7) (e1 : do8L room o L = L') (e2 : do8C o L C = C') :
  Calls Tryz.prog 31 #[.pointer (some ⟨mb, 0, none⟩), .pointer (some ⟨cb, 0, none⟩), .agg (encO8 o).toArray] W fun e W' => e = .returned (.agg (ans8 room o L C).toArray) ∧ Two8 w0 W' ma ca da mb cb db room L' C' := by
 obtain ⟨Xa, Xb, h1, h2, h3, h4, h5⟩ := h
 refine (does8 h2 o hf).mono ?_
 rintro e W' ⟨rfl, R, M1⟩
 have hd : do8D o db = db := by unfold do8D; rw [if_neg hk]
 rw [hd, e1, e2] at R
 have hs := M1.size
 have h6 := h5.size
 refine ⟨rfl, Xa, fun k => (Xb k ∨ W.heap.size ≤ k) ∧ k < W'.heap.size, h1.mod M1 fun k hk _ hk' => (h3 k hk).2 hk', R.mono fun k hk hl => ⟨hk, hl⟩, fun k hk => ⟨⟨(h3 k hk).1.1, by have := (h3 k hk).1.2; omega⟩, fun hx => ?_⟩, fun k hk => ⟨?_, hk.2⟩, h5.trans M1 fun j hj => .inr (h4 j hj).1⟩
 ·rcases hx.1 with h | h
  ·exact (h3 k hk).2 h
  ·have := (h3 k hk).1.2; omega
 ·rcases hk.1 with h | h
  ·exact (h4 k h).1
  ·omega
theorem Two8h.mod0 {W' : World} {L' : List Sg} {C' : Cu} {b : Nat} (h : Two8h w0 W ma ca da mb cb db room L C L' C' b) (M : Mod (fun _ => False) W W') : Two8h w0 W' ma ca da mb cb db room L C L' C' b := by
 obtain ⟨Xa, Xb, h1, h2, h3, h4, h5⟩ := h
 have := M.size
 exact ⟨Xa, Xb, h1.mod0 M, h2.mod0 M, fun k hk => ⟨⟨(h3 k hk).1.1, by have := (h3 k hk).1.2; omega⟩, (h3 k hk).2⟩, fun k hk => ⟨(h4 k hk).1, by have := (h4 k hk).2.1; omega, (h4 k hk).2.2⟩, h5.trans' M⟩
end
attribute [local irreducible] wpQuiet in
set_option maxRecDepth 100000 in
set_option maxHeartbeats 4000000 in
theorem two8 (deg room d2 : Int) (a : Option Addr) (len cap : Nat) (zs : List Op8) (w : World) (hr : RdS encO8 7 w a len zs) (hG : ∀ z ∈ zs, GOp8 z) :
  Calls Tryz.prog 7 #[.agg #[.int .i64 deg, .int .i64 room], .int .i64 d2, .slice a len cap] w fun e w' => e = .returned (.bool true) ∧ Below w.heap.size w w' := by
 obtain ⟨w0, hw0, b0, M0, hs0⟩ := boxSe8 w deg room
 obtain ⟨x0, f0⟩ := blkc b0
 have B0 : Below w.heap.size w w0 := M0.to_below (Nat.le_refl _) fun _ h => h.elim
 replace hr := hr.below (by decide) B0
 replace hs0 := hid hs0
 by_cases ha : rightD deg = true ∧ 0 ≤ room ∧ room ≤ 4096
 ·have P := fo_new deg room ha.1 ha.2 w0
  by_cases hb : rightD d2 = true ∧ 0 ≤ room ∧ room ≤ 4096
  ·have P2 := fun W => fo_new d2 room hb.1 hb.2 W
   by_cases h2 : 200 < len
   ·have h2' : (200 : Int) < len := by omega
    clear ha hb hr
    go_enter Tryz.func7, Tryz.ntmps7
    go_wp2_with fail
    refine P.mono ?_
    rintro e w1 ⟨ma, rfl, F1⟩
    obtain ⟨x1, f1⟩ := blkc (F1.2.heap b0 fun h => h)
    clear x0 f0
    go_wp2_with fail
    refine (P2 w1).mono ?_
    rintro e w2 ⟨mb, rfl, F2⟩
    go_wp2_with fail
    refine (alive8 _).mono ?_
    rintro e w3 ⟨rfl, B3⟩
    go_wp2_with fail
    go_ret
    exact ⟨rfl, B0.trans ((F1.below.trans ((F2.below.trans (B3.mono F2.below.size)).mono F1.below.size)).mono B0.size)⟩
   have h2' : ¬ (200 : Int) < len := by omega
   obtain ⟨da, rfl⟩ : ∃ n : Nat, deg = n := ⟨deg.toNat, by have := ha.1; unfold rightD at this; simp at this; omega⟩
   have hr0 := ha.2
   simp only [Int.toNat_natCast] at P
   generalize d2.toNat = db at P2
   clear ha hb h2
   replace hr0 := hid hr0
   go_enter Tryz.func7, Tryz.ntmps7
   go_wp2_with fail
   refine P.mono ?_
   rintro e w1 ⟨ma, rfl, F1⟩
   obtain ⟨x1, f1⟩ := blkc (F1.2.heap b0 fun h => h)
   clear x0 f0 P
   go_wp2_with fail
   refine (P2 w1).mono ?_
   rintro e w2 ⟨mb, rfl, F2⟩
   clear P2 x1 f1
   go_wp2_with fail
   refine (om_cursor ma w2).mono ?_
   rintro e w3 ⟨rfl, C3, M3, hz3⟩
   go_wp2_with fail
   refine (om_cursor mb w3).mono ?_
   rintro e w4 ⟨rfl, C4, M4, hz4⟩
   have T : Two8 w0 w4 ma w2.heap.size da mb w3.heap.size db room [] Cu.z := by
    have s1 := F1.2.size
    have s2 := F2.2.size
    have hz : fit64 Cu.z.a := by unfold Cu.z fit64; decide
    refine ⟨fun k => (w0.heap.size ≤ k ∧ k < w1.heap.size) ∨ k = w2.heap.size, fun k => (w1.heap.size ≤ k ∧ k < w2.heap.size) ∨ k = w3.heap.size, ⟨?_, C3.mod M4 (fun h => h), .inr rfl, hz⟩, ⟨?_, C4, .inr rfl, hz⟩, fun k hk => ⟨by rcases hk with h | h; exact ⟨h.1, by omega⟩; exact ⟨by omega, by omega⟩, by rintro (h | h) <;> omega⟩, fun k hk => by rcases hk with h | h; exact ⟨by omega, by omega⟩; exact ⟨by omega, by omega⟩, (F1.2.trans' F2.2).trans' (M3.trans' M4)⟩
    ·exact (((F1.1.mono (Y := fun k => ((w0.heap.size ≤ k ∧ k < w1.heap.size) ∨ k = w2.heap.size) ∧ k ≠ w2.heap.size) fun k hk hl => ⟨.inl ⟨hk, hl⟩, by omega⟩).mod0 F2.2).mod0 M3).mod0 M4
    ·exact ((F2.1.mono (Y := fun k => ((w1.heap.size ≤ k ∧ k < w2.heap.size) ∨ k = w3.heap.size) ∧ k ≠ w3.heap.size) fun k hk hl => ⟨.inl ⟨hk, hl⟩, by omega⟩).mod0 M3).mod0 M4
   obtain ⟨ca, hca⟩ : ∃ ca, w2.heap.size = ca := ⟨_, rfl⟩
   obtain ⟨cb, hcb⟩ : ∃ cb, w3.heap.size = cb := ⟨_, rfl⟩
   rw [hca, hcb] at T
   rw [hca, hcb]
   clear C3 C4 M3 M4 hz3 hz4 F1 F2 hca hcb
   go_wp2_with fail
   go_loopw [64] (fun c W => ∃ (k : Nat) (L : List Sg) (C : Cu), k ≤ len ∧ c = .int .i64 k ∧ Two8 w0 W ma ca da mb cb db room L C) (fun c _ => (len - intOf c).toNat)
   case atStart => exact ⟨0, _, _, by omega, rfl, T⟩
   case round =>
    clear T
    obtain ⟨k, L, C, hk, rfl, T⟩ := hrel
    by_cases hlt : k < len
    ·skip
     have hzl : k < zs.length := by rw [hr.1]; exact hlt
     obtain ⟨b, o, rfl, hc⟩ := hr.2.2 (by omega)
     obtain ⟨x0, x1, x2, x3, x4, x5, x6⟩ := RdS.op8 hc T.below hzl
     have hg := hG zs[k] (by simp)
     generalize zs[k] = op at x0 x1 x2 x3 x4 x5 x6 hg
     obtain ⟨W1, hW1, ho, m1⟩ := boxO8 wr op
     have hw1 := m1.size
     have hf : fit64 op.s.la := hg.2.2.2.2.1
     clear hc hr hzl hG hg
     have hob : wr.heap.size < W1.heap.size := blkl ho
     obtain ⟨d1, e1⟩ := blkc ho
     by_cases h7 : op.k = 7
     ·obtain ⟨q, n, ls, la, hs, ha, v⟩ := op
      dsimp only at h7
      subst h7
      have HB := hid fun W (M : CM W1 W) => blkc (Mod.heap M ho fun h => h)
      simp only [encO8] at hW1 d1 HB
      go_wp2_with fail
      clear d1 e1
      refine cq_region (by kernel_rfl) (by kernel_rfl) ?_
      iterate 14 (refine wpQuiet_step (fun K hK => ?_); go_simp; first | (refine hK _ ?_; clear hK K) | (refine ⟨_, fun _ _ => rfl, hK _ ?_⟩; clear hK K) | (apply Exists.intro; refine ⟨fun wq hq => ?_, hK _ ?_⟩; (focus (first  | (obtain ⟨u1, u2⟩ := HB.out _ hq; go_simp; try with_reducible rfl))); clear hK K))
      refine wpQuiet_nil ?_
      intro w4 M4
      go_wp2_with fail
      go_roundw
      case rel => exact ⟨k + 1, L, C, by omega, by simp, (T.mod0 m1).mod0 M4⟩
      case measure => simp [intOf]; omega
     ·have MD : Mod (fun _ => False) W1 (W1.drewN 1) := (Mod.refl _ W1).drewN 1
      have hoD := MD.heap ho fun h => h
      have P1 := two_first T (m1.trans' MD) op hf h7 hoD (Nat.le_refl _)
      have P2 := fun W (h : Two8h w0 W ma ca da mb cb db room L C (do8L room op L) (do8C op L C) wr.heap.size) => two_second h op hf h7 rfl rfl
      unfold ans8 at P1 P2
      obtain ⟨q, n, ls, la, hs, ha, v⟩ := op
      dsimp only at h7
      generalize oS (do8S ⟨q, n, ls, la, hs, ha, v⟩ L C) = S1, do8B ⟨q, n, ls, la, hs, ha, v⟩ L C = r1, do8E room ⟨q, n, ls, la, hs, ha, v⟩ L = r2, do8L room ⟨q, n, ls, la, hs, ha, v⟩ L = L1, do8C ⟨q, n, ls, la, hs, ha, v⟩ L C = C1 at P1 P2
      obtain ⟨xl, xa, xh, xg, xv⟩ := S1
      simp only [encO8, ansL] at hW1 d1 P1 P2
      obtain ⟨l1, l2⟩ := blkc hoD
      simp only [encO8] at l1
      replace P2 := hid P2
      replace hoD := hid hoD
      have e7 : (q != 7) = true := by simpa using h7
      have e7' : (q == 7) = false := by simpa using h7
      clear T h7 MD hf
      go_wp2_with fail
      refine ft_region 12 (.free 0 (.one 1 (.free 2 (.free 3 (.free 4 (.free 5 (.free 8 (.free 9 (.two 6 10 (.two 7 10 (.one 10 (.one 11 .rest)) (.one 7 (.one 11 .rest))) (.one 6 (.one 7 (.one 11 .rest)))))))))))) (by kernel_rfl) (by kernel_rfl) ?_
      intro Q0 hQ0
      iterate 1 (refine wpT_free _ rfl (fun K hK => ?_); refine ⟨?_, ?_⟩; (focus (go_simp)); apply Exists.intro; refine ⟨fun wz => ?_, ?_⟩; (focus (go_simp; try with_reducible rfl)); go_simp; refine hK _ ?_; clear hK K)
      refine wpT_one _ rfl ⟨by go_simp, fun K hK => ?_⟩
      go_simp
      refine hK _ _ ?_
      clear hK K
      iterate 6 (refine wpT_free _ rfl (fun K hK => ?_); refine ⟨?_, ?_⟩; (focus (go_simp)); apply Exists.intro; refine ⟨fun wz => ?_, ?_⟩; (focus (go_simp; try with_reducible rfl)); go_simp; refine hK _ ?_; clear hK K)
      refine wpT_two _ _ rfl rfl ⟨by go_simp, fun K hK => ?_⟩ ⟨by go_simp, fun K hK => ?_⟩
      ·go_simp
       refine hK _ _ ?_
       clear hK K
       refine wpT_two _ _ rfl rfl ⟨by go_simp, fun K hK => ?_⟩ ⟨by go_simp, fun K hK => ?_⟩
       ·go_simp
        refine P1.mono ?_
        rintro e W5 ⟨rfl, T5, ho5⟩
        have P3 := P2.out W5 T5
        obtain ⟨l3, l4⟩ := blkc ho5
        refine hK _ _ ?_
        clear hK K
        refine wpT_one _ rfl ⟨by go_simp, fun K hK => ?_⟩
        go_simp
        refine hK _ _ ?_
        clear hK K
        refine wpT_one _ rfl ⟨by go_simp, fun K hK => ?_⟩
        go_simp
        refine P3.mono ?_
        rintro e W6 ⟨rfl, T6⟩
        refine hK _ _ ?_
        clear hK K
        refine wpT_rest ?_
        simp only [List.drop_succ_cons, List.drop_zero]
        clear P1 P2 P3 T5 ho5 l3 l4
        iterate 2 (refine wpQuiet_step (fun K hK => ?_); go_simp; first | (refine hK _ ?_; clear hK K) | (refine ⟨_, fun _ _ => rfl, hK _ ?_⟩; clear hK K) | (apply Exists.intro; refine ⟨fun wq hq => ?_, hK _ ?_⟩; (focus (first  | (skip; go_simp; try with_reducible rfl))); clear hK K))
        refine wpQuiet_nil ?_
        intro w8 M8
        refine hQ0 _ _ ?_
        replace T6 := T6.mod0 M8
        go_wp2_with fail
        go_roundw
        case rel => exact ⟨k + 1, L1, C1, by omega, by simp, T6⟩
        case measure => simp [intOf]; omega
       ·go_simp
        refine hK _ _ ?_
        clear hK K
        refine wpT_one _ rfl ⟨by go_simp, fun K hK => ?_⟩
        go_simp
        refine P1.mono ?_
        rintro e W5 ⟨rfl, T5, ho5⟩
        have P3 := P2.out W5 T5
        obtain ⟨l3, l4⟩ := blkc ho5
        refine hK _ _ ?_
        clear hK K
        refine wpT_one _ rfl ⟨by go_simp, fun K hK => ?_⟩
        go_simp
        refine P3.mono ?_
        rintro e W6 ⟨rfl, T6⟩
        refine hK _ _ ?_
        clear hK K
        refine wpT_rest ?_
        simp only [List.drop_succ_cons, List.drop_zero]
        clear P1 P2 P3 T5 ho5 l3 l4
        iterate 2 (refine wpQuiet_step (fun K hK => ?_); go_simp; first | (refine hK _ ?_; clear hK K) | (refine ⟨_, fun _ _ => rfl, hK _ ?_⟩; clear hK K) | (apply Exists.intro; refine ⟨fun wq hq => ?_, hK _ ?_⟩; (focus (first  | (skip; go_simp; try with_reducible rfl))); clear hK K))
        refine wpQuiet_nil ?_
        intro w8 M8
        refine hQ0 _ _ ?_
        replace T6 := T6.mod0 M8
        go_wp2_with fail
        go_roundw
        case rel => exact ⟨k + 1, L1, C1, by omega, by simp, T6⟩
        case measure => simp [intOf]; omega
      ·go_simp
       refine hK _ _ ?_
       clear hK K
       refine wpT_one _ rfl ⟨by go_simp, fun K hK => ?_⟩
       go_simp
       refine hK _ _ ?_
       clear hK K
       refine wpT_one _ rfl ⟨by go_simp, fun K hK => ?_⟩
       go_simp
       refine P1.mono ?_
       rintro e W5 ⟨rfl, T5, ho5⟩
       have P3 := P2.out W5 T5
       obtain ⟨l3, l4⟩ := blkc ho5
       refine hK _ _ ?_
       clear hK K
       refine wpT_one _ rfl ⟨by go_simp, fun K hK => ?_⟩
       go_simp
       refine P3.mono ?_
       rintro e W6 ⟨rfl, T6⟩
       refine hK _ _ ?_
       clear hK K
       refine wpT_rest ?_
       simp only [List.drop_succ_cons, List.drop_zero]
       clear P1 P2 P3 T5 ho5 l3 l4
       iterate 2 (refine wpQuiet_step (fun K hK => ?_); go_simp; first | (refine hK _ ?_; clear hK K) | (refine ⟨_, fun _ _ => rfl, hK _ ?_⟩; clear hK K) | (apply Exists.intro; refine ⟨fun wq hq => ?_, hK _ ?_⟩; (focus (first  | (skip; go_simp; try with_reducible rfl))); clear hK K))
       refine wpQuiet_nil ?_
       intro w8 M8
       refine hQ0 _ _ ?_
       replace T6 := T6.mod0 M8
       go_wp2_with fail
       go_roundw
       case rel => exact ⟨k + 1, L1, C1, by omega, by simp, T6⟩
       case measure => simp [intOf]; omega
    ·obtain rfl : k = len := by omega
     clear hlt hk hr
     go_wp2_with fail
     refine (om_list T.oa).mono ?_
     rintro e W5 ⟨v5, rfl, R5, H5, M5⟩
     replace T := T.mod0 M5
     obtain ⟨A5, cap5, hv5, _⟩ := R5.slice
     subst hv5
     have OA := T.oa
     have OB := T.ob
     have hL5 : L.length ≤ 65536 := by have := om_bound OA; omega
     have B5 := T.below
     have b5 := B5.block _ (blkl b0) |>.trans b0
     have ho5 : ∀ k, (Value.slice A5 L.length cap5).ownBlock = some k → k < W5.heap.size := fun k hk => own_lt R5 hk
     clear T M5 H5
     replace hL5 := hid hL5
     go_wp2_with fail
     refine (om_copy OA).mono ?_
     rintro e W6 ⟨nb, rfl, O6, M6⟩
     have b6 := M6.heap b5 fun h => h
     have P1 := hid fun w' (M : CM W6 w') => (om_degree (O6.mod0 M)).mono fun e w'' ⟨h1, h2⟩ => (⟨h1, Mod.trans' M h2⟩ : _ ∧ CM W6 w'')
     have HX := hid fun w' (M : CM W6 w') => blkc (Mod.heap M b6 fun h => h)
     have ed : ((da : Int) != (da : Int)) = false := by simp
     go_wp2_with fail
     refine cq_region (by kernel_rfl) (by kernel_rfl) ?_
     iterate 9 (refine wpQuiet_step (fun K hK => ?_); go_simp; first | (refine hK _ ?_; clear hK K) | (refine ⟨_, fun _ _ => rfl, hK _ ?_⟩; clear hK K) | (apply Exists.intro; refine ⟨fun wq hq => ?_, hK _ ?_⟩; (focus (first | (go_at_call 34; exact P1.out _ hq) | (obtain ⟨u1, u2⟩ := HX.out _ hq; go_simp; try with_reducible rfl))); clear hK K))
     refine wpQuiet_nil ?_
     intro W7 M7
     replace O6 := O6.mod0 M7
     have M57 : Mod (fun k => W5.heap.size ≤ k) W5 W7 := (M6.trans' M7).mono fun _ h => h.elim
     clear P1 HX M6 M7 b6
     go_wp2_with fail
     refine (om_clear O6).mono ?_
     rintro e W8 ⟨rfl, O8, M8⟩
     have h57 := M57.size
     replace O8 : OM (fun k => W5.heap.size ≤ k) W8 nb da room [] := O8.mono fun k hk _ => by omega
     have M58 := M57.trans' M8
     clear O6 M57 M8
     go_wp2_with fail
     refine (segM 77 W8).mono ?_
     rintro e W9 ⟨rfl, M9⟩
     go_wp2_with fail
     refine (om_put (O8.mod0 M9) (segN 77) (by unfold fit64 segN; decide)).mono ?_
     rintro e W10 ⟨rfl, O10, M10⟩
     have M510 := (M58.trans M9 fun _ h => h.elim).trans' M10
     have h58 := M58.size
     have h89 := M9.size
     replace O10 : OM (fun k => W5.heap.size ≤ k) W10 nb da room (putL room (segN 77) []) := O10.mono fun k hk _ => by omega
     clear O8 M58 M9 M10
     replace OA := OA.mod M510 fun k hk _ h => by omega
     replace OB := OB.mod M510 fun k hk _ h => by omega
     replace R5 : RowV W10 (.slice A5 L.length cap5) L := own_mod R5 M510 fun k hk h => by have := ho5 k hk; omega
     have b10 := M510.heap b5 fun h => by have := blkl b5; omega
     have B10 := B5.trans (M510.to_below (B := w0.heap.size) B5.size fun j h => by have := B5.size; omega)
     clear M510 h57 h58 h89 b5 ho5
     have hput : ((putL room (segN 77) []).length = 1 ∧ 1 ≤ room) ∨ ((putL room (segN 77) []).length = 0 ∧ room = 0) := by
      by_cases h : 1 ≤ room
      ·refine .inl ⟨?_, h⟩
       rw [(put_last (room := room) (l := []) (s := segN 77) (by unfold KeyOK okKey fit64 segN; decide) (fun y hy => by simp at hy) (by simp; omega)).1]; rfl
      ·have : room = 0 := by have := hr0.out; omega
       subst this
       exact .inr ⟨rfl, rfl⟩
     go_wp2_with fail
     refine (alive8 _).mono ?_
     rintro e V1 ⟨rfl, BV⟩
     have MV := Mod.of_below (S := fun _ => False) BV
     go_wp2_with fail
     refine (om_list (OA.mod0 MV)).mono ?_
     rintro e V2 ⟨v2, rfl, R2, H2, M2⟩
     have MV2 := MV.trans' M2
     have PS := sameR R2 (R5.keep MV2) hL5.out
     go_wp2_with fail
     refine PS.mono ?_
     rintro e V3 ⟨rfl, M3⟩
     have MV3 := MV2.trans' M3
     clear PS R2 H2
     go_wp2_with fail
     refine (om_list (OB.mod0 MV3)).mono ?_
     rintro e V4 ⟨v4, rfl, R4, H4, M4⟩
     have MV4 := MV3.trans' M4
     have PS := sameR R4 (R5.keep MV4) hL5.out
     go_wp2_with fail
     refine PS.mono ?_
     rintro e V5 ⟨rfl, M6⟩
     have MV5 := MV4.trans' M6
     clear PS R4 H4
     go_wp2_with fail
     refine (om_len (O10.mod0 MV5)).mono ?_
     rintro e V6 ⟨rfl, M7⟩
     have MV6 := MV5.trans' M7
     obtain ⟨u1, u2⟩ := blkc (MV6.heap b10 fun h => h)
     have BF := B0.trans ((B10.trans (MV6.to_below (B := w0.heap.size) B10.size fun _ h => h.elim)).mono B0.size)
     clear MV MV2 MV3 MV4 MV5 MV6 M2 M3 M4 M6 M7 BV OA OB O10 R5 b10 B10 B5
     rcases hput with ⟨hp, hp2⟩ | ⟨hp, hp2⟩
     ·rw [hp]
      clear hp hp2
      go_wp2_with fail
      go_ret
      exact ⟨rfl, BF⟩
     ·rw [hp]
      subst hp2
      clear hp
      go_wp2_with fail
      go_ret
      exact ⟨rfl, BF⟩
  ·have P2 := fun W => om_new_no d2 room hb W
   clear ha hb hr
   go_enter Tryz.func7, Tryz.ntmps7
   go_wp2_with fail
   refine P.mono ?_
   rintro e w1 ⟨ma, rfl, F1⟩
   obtain ⟨x1, f1⟩ := blkc (F1.2.heap b0 fun h => h)
   clear x0 f0
   go_wp2_with fail
   refine (P2 w1).mono ?_
   rintro e w2 ⟨rfl, hw⟩
   rw [hw]; clear hw
   go_wp2_with fail
   refine (alive8 _).mono ?_
   rintro e w3 ⟨rfl, B3⟩
   go_wp2_with fail
   go_ret
   exact ⟨rfl, B0.trans ((F1.below.trans (B3.mono F1.below.size)).mono B0.size)⟩
 ·have P := om_new_no deg room ha w0
  by_cases hb : rightD d2 = true ∧ 0 ≤ room ∧ room ≤ 4096
  ·have P2 := fun W => fo_new d2 room hb.1 hb.2 W
   clear ha hb hr
   go_enter Tryz.func7, Tryz.ntmps7
   go_wp2_with fail
   refine P.mono ?_
   rintro e w1 ⟨rfl, hw⟩
   rw [hw]; clear hw
   go_wp2_with fail
   refine (P2 w0).mono ?_
   rintro e w2 ⟨mb, rfl, F2⟩
   go_wp2_with fail
   refine (alive8 _).mono ?_
   rintro e w3 ⟨rfl, B3⟩
   go_wp2_with fail
   go_ret
   exact ⟨rfl, B0.trans ((F2.below.trans (B3.mono F2.below.size)).mono B0.size)⟩
  ·have P2 := fun W => om_new_no d2 room hb W
   clear ha hb hr
   go_enter Tryz.func7, Tryz.ntmps7
   go_wp2_with fail
   refine P.mono ?_
   rintro e w1 ⟨rfl, hw⟩
   rw [hw]; clear hw
   go_wp2_with fail
   refine (P2 w0).mono ?_
   rintro e w2 ⟨rfl, hw⟩
   rw [hw]; clear hw
   go_wp2_with fail
   refine (alive8 _).mono ?_
   rintro e w3 ⟨rfl, B3⟩
   go_wp2_with fail
   go_ret
   exact ⟨rfl, B0.trans (B3.mono B0.size)⟩
open Go Go.RowKit
theorem two8r (cs : Array Value) (d2 : Int) (a : Option Addr) (len cap : Nat) (zs : List Op8) (w : World) (fit : Fit [.int .i64, .int .i64] cs.toList) (_ : (Lit.int .i64 d2).wf = true) (hr : RdS encO8 7 w a len zs) (hG : ∀ z ∈ zs, GOp8 z) (_ : len * 56 ≤ 140737488351232) :
  Calls Tryz.prog 7 #[.agg cs, .int .i64 d2, .slice a len cap] w fun e w' => e = .returned (.bool true) ∧ Below w.heap.size w w' := by
 obtain ⟨deg, room, rfl, _, _⟩ := seatArg8 fit
 exact two8 deg room d2 a len cap zs w hr hG
end Go.Proofs.Bo
