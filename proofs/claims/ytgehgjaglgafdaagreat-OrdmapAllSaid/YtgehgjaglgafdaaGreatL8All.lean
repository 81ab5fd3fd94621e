import Derived.Test.YtgehgjaglgafdaaGreatG43
import Derived.Test.YtgehgjaglgafdaaGreatG42
import Derived.Test.YtgehgjaglgafdaaGreatG46
import Derived.Test.YtgehgjaglgafdaaGreatG05
set_option linter.unusedVariables false
set_option linter.unusedSimpArgs false
namespace Go.Proofs.Bo
open Go Go.RowKit
attribute [local irreducible] wpQuiet in
set_option maxRecDepth 100000 in
set_option maxHeartbeats 4000000 in
theorem all8 (deg room : Int) (a : Option Addr) (len cap : Nat) (zs : List Op8) (w : World) (hr : RdS encO8 7 w a len zs) (hG : ∀ z ∈ zs, GOp8 z) :
  Calls Tryz.prog 8 #[.agg #[.int .i64 deg, .int .i64 room], .slice a len cap] w fun e w' => e = .returned (.bool true) ∧ Below w.heap.size w w' := by
 obtain ⟨w0, hw0, b0, M0, hs0⟩ := boxSe8 w deg room
 obtain ⟨x0, f0⟩ := blkc b0
 have B0 : Below w.heap.size w w0 := M0.to_below (Nat.le_refl _) fun _ h => h.elim
 replace hr := hr.below (by decide) B0
 replace hs0 := hid hs0
 by_cases h2 : 200 < len
 ·have h2' : (200 : Int) < len := by omega
  go_enter Tryz.func8, Tryz.ntmps8
  go_wp2_with fail
  refine (alive8 _).mono ?_
  rintro e w2 ⟨rfl, B2⟩
  go_wp2_with fail
  go_ret
  exact ⟨rfl, B0.trans (B2.mono B0.size)⟩
 have h2' : ¬ (200 : Int) < len := by omega
 have PR := right8R deg room w0
 by_cases hb : ¬ (rightD deg = true ∧ 0 ≤ room ∧ room ≤ 4096)
 ·have P := om_new_no deg room hb w0
  have e0 : (rightD deg && (decide (0 ≤ room) && decide (room ≤ 4096))) = false := by
   cases h : rightD deg <;> simp [h] at hb ⊢; omega
  rw [e0] at PR
  clear hb e0
  go_enter Tryz.func8, Tryz.ntmps8
  go_wp2_with fail
  refine P.mono ?_
  rintro e w1 ⟨rfl, hw⟩
  rw [hw]; clear hw P
  go_wp2_with fail
  refine PR.mono ?_
  rintro e w1 ⟨rfl, hw⟩
  rw [hw]; clear hw PR
  go_wp2_with fail
  refine (alive8 _).mono ?_
  rintro e w2 ⟨rfl, B2⟩
  go_wp2_with fail
  go_ret
  exact ⟨rfl, B0.trans (B2.mono B0.size)⟩
 have hd : rightD deg = true := Classical.byContradiction fun h => hb fun h' => h h'.1
 have hr0 : 0 ≤ room ∧ room ≤ 4096 := Classical.byContradiction fun h => hb fun h' => h h'.2
 obtain ⟨d0, rfl⟩ : ∃ n : Nat, deg = n := ⟨deg.toNat, by unfold rightD at hd; simp at hd; omega⟩
 have PR := fun w => right8R (d0 : Int) room w
 rw [hd, decide_eq_true hr0.1, decide_eq_true hr0.2] at PR
 have P := fo_new (d0 : Int) room hd hr0 w0
 simp only [Bool.and_true, Int.toNat_natCast] at PR P
 clear hb hd h2
 replace hr0 := hid hr0
 replace PR := hid PR
 go_enter Tryz.func8, Tryz.ntmps8
 go_wp2_with fail
 refine P.mono ?_
 rintro e w1 ⟨mb, rfl, F1⟩
 clear P
 have b1 := F1.2.heap b0 fun h => h
 obtain ⟨x1, f1⟩ := blkc b1
 clear x0 f0
 go_wp2_with fail
 refine (PR.out w1).mono ?_
 rintro e w2 ⟨rfl, hw⟩
 rw [hw]; clear hw PR
 go_wp2_with fail
 refine fs_region 9 [(0, true), (1, true), (2, true), (3, true), (4, true), (5, true), (6, true), (7, true), (8, false)] (by kernel_rfl) (by kernel_rfl) ?_
 intro Q0 hQ0
 iterate 8 (refine wpG_free _ rfl (fun K hK => ?_); refine ⟨?_, ?_⟩; (focus (go_simp)); apply Exists.intro; refine ⟨fun wz => ?_, ?_⟩; (focus (go_simp; try with_reducible rfl)); go_simp; refine hK _ ?_; clear hK K)
 refine wpG_one _ rfl ⟨by go_simp, fun K hK => ?_⟩
 go_simp
 refine (om_cursor mb _).mono ?_
 rintro e w3 ⟨rfl, _, M3, _⟩
 have M13 : Mod (fun _ => False) w1 w3 := ((Mod.refl _ w1).drewN 1).trans' M3
 replace F1 := F1.mod0 M13
 replace b1 := M13.heap b1 fun h => h
 refine hK _ _ ?_
 clear hK K x1 f1
 refine wpG_rest ?_
 have P1 := hid fun w' (M : CM w3 w') => (om_degree (F1.mod0 M).1).mono fun e w'' ⟨h1, h2⟩ => (⟨h1, Mod.trans' M h2⟩ : _ ∧ CM w3 w'')
 have P2 := hid fun w' (M : CM w3 w') => (om_room (F1.mod0 M).1).mono fun e w'' ⟨h1, h2⟩ => (⟨h1, Mod.trans' M h2⟩ : _ ∧ CM w3 w'')
 have HX := hid fun w' (M : CM w3 w') => blkc (Mod.heap M b1 fun h => h)
 have ed : ((d0 : Int) != (d0 : Int)) = false := by simp
 have er : (room != room) = false := by simp
 simp only [List.drop_succ_cons, List.drop_zero]
 iterate 16 (refine wpQuiet_step (fun K hK => ?_); go_simp; first | (refine hK _ ?_; clear hK K) | (refine ⟨_, fun _ _ => rfl, hK _ ?_⟩; clear hK K) | (apply Exists.intro; refine ⟨fun wq hq => ?_, hK _ ?_⟩; (focus (first | (go_at_call 34; exact P1.out _ hq) | (go_at_call 40; exact P2.out _ hq) | (obtain ⟨u1, u2⟩ := HX.out _ hq; go_simp; try with_reducible rfl))); clear hK K))
 refine wpQuiet_nil ?_
 intro w4 M4
 refine hQ0 _ _ ?_
 replace F1 := F1.mod0 M4
 clear P1 P2 HX
 go_wp2_with fail
 refine (fo_cursor F1).mono ?_
 rintro e w5 ⟨cb, rfl, F2⟩
 clear F1 M13 b1 M3 M4
 obtain ⟨W3, hW3, bd, M3, hs3⟩ := boxRC w5 Cu.z
 have F3 := (BothD.start F2.1 F2.2).more (D' := fun k => k = w5.heap.size) M3 (fun k hk => .inr (by have : k = w5.heap.size := hk; omega)) (fun k hk => by have : k = w5.heap.size := hk; omega)
 have hdb : w0.heap.size ≤ w5.heap.size := F2.2.size
 obtain ⟨db, hdb'⟩ : ∃ db, w5.heap.size = db := ⟨_, rfl⟩
 simp only [encRC, Cu.z] at hW3
 replace hs3 := hid hs3
 go_wp2_with fail
 rw [hdb'] at F3 bd hdb
 clear F2 hW3 M3 hs3 hdb'
 go_loopw [8, 71] (fun v c W => ∃ (k : Nat) (L : List Sg) (C : Cu) (d : Nat), k ≤ len ∧ c = .int .i64 k ∧ BothD (fun k => k = db) w0 W mb cb d room v L C L ∧ W.heap[db]? = some (.cells (encRC C).toArray 71 (0, 0))) (fun _ c _ => (len - intOf c).toNat)
 case atStart => exact ⟨0, _, _, _, by omega, rfl, F3, bd⟩
 case round =>
  clear F3 bd
  obtain ⟨k, L, C, d, hk, rfl, F, bd⟩ := hrel
  by_cases hlt : k < len
  ·have hzl : k < zs.length := by rw [hr.1]; exact hlt
   obtain ⟨b, o, rfl, hc⟩ := hr.2.2 (by omega)
   obtain ⟨x0, x1, x2, x3, x4, x5, x6⟩ := RdS.op8 hc F.below hzl
   have hg := hG zs[k] (by simp)
   generalize zs[k] = op at x0 x1 x2 x3 x4 x5 x6 hg
   have hdo : db < wr.heap.size := F.2.2.2.2 db rfl
   obtain ⟨W1, hW1, ho, m1⟩ := boxO8 wr op
   obtain ⟨d1, e1⟩ := blkc ho
   replace F := F.mod0 m1
   replace bd := m1.heap bd fun h => h
   obtain ⟨y1, y2⟩ := blkc bd
   have hw1 := m1.size
   have hf : fit64 op.s.la := hg.2.2.2.2.1
   have P := bothD_do F op hf
   have P2 := fun (D : Nat → Prop) (W : World) (v' : Value) (G : BothD D w0 W mb cb d room v' L C (do8L room op L)) => bothD_does G op hf
   have bS := F.2.2.2.1.heap b0 fun h => h
   obtain ⟨s1, s2⟩ := blkc bS
   clear hc hr hzl hG hg
   have hob : wr.heap.size < W1.heap.size := blkl ho
   unfold ans8 at P P2
   obtain ⟨q, n, ls, la, hs, ha, v⟩ := op
   generalize oS (do8S ⟨q, n, ls, la, hs, ha, v⟩ L C) = S1, do8B ⟨q, n, ls, la, hs, ha, v⟩ L C = r1, do8E room ⟨q, n, ls, la, hs, ha, v⟩ L = r2, do8L room ⟨q, n, ls, la, hs, ha, v⟩ L = L1, do8C ⟨q, n, ls, la, hs, ha, v⟩ L C = C1, do8D ⟨q, n, ls, la, hs, ha, v⟩ d = dd at P P2
   obtain ⟨xl, xa, xh, xg, xv⟩ := S1
   simp only [encO8, encRC, ansL] at hW1 d1 P P2 y1
   replace P2 := hid P2
   replace hdo := hid hdo
   go_wp2_with fail
   refine P.mono ?_
   rintro e w2 ⟨v', rfl, F2, M2⟩
   clear P d1 e1 x0 x1 x2 x3 x4 x5 x6 s1 s2 y1 y2
   obtain ⟨W3, hW3, br, ba, M3, hs3⟩ := box2RA w2 C1 [.int .i64 xl, .int .i64 xa, .int .i64 xh, .int .i64 xg, .int .i64 xv, .bool r1, .int .i64 r2]
   have hdo2 : db < w2.heap.size := M2.lt (m1.lt hdo.out)
   have F3 := F2.more (D' := fun k => k = db ∨ k = w2.heap.size + 1) M3 (fun k hk => by rcases hk with h | h; exact .inl h; exact .inr (by omega)) (fun k hk => by omega)
   have bd3 := M3.heap (M2.heap bd fun h => h) fun h => h
   have ho3 := M3.heap (M2.heap ho fun h => h) fun h => h
   obtain ⟨y1, y2⟩ := blkc br
   obtain ⟨y3, y4⟩ := blkc bd3
   simp only [encRC] at y1 y3 hW3
   have key := hid fun W (e : W = (setL W3 db 0 (encRC C1)).drew) => (by
    obtain ⟨q1, q2, q3⟩ := F3.store (.inl rfl) hdb bd3 C1
    have hne := hdo.out
    subst e
    exact ⟨q1, q2.mod0 (Mod.refl _ _).drew, q3.heap ho3 fun h => by omega, q3.heap ba fun h => by omega⟩ : W.heap[db]? = some (.cells (encRC C1).toArray 71 (0, 0)) ∧ BothD (fun k => k = db ∨ k = w2.heap.size + 1) w0 W mb cb d room v' L C L1 ∧ W.heap[wr.heap.size]? = some (.cells (encO8 ⟨q, n, ls, la, hs, ha, v⟩).toArray 59 (0, 0)) ∧
     W.heap[w2.heap.size + 1]? = some (.cells #[.int .i64 xl, .int .i64 xa, .int .i64 xh, .int .i64 xg, .int .i64 xv, .bool r1, .int .i64 r2] 61 (0, 0)))
   replace hs3 := hid hs3
   replace hdo2 := hid hdo2
   go_wp2_with fail
   clear hW3
   go_region
   all_goals
    generalize hW4 : World.drew _ = W4
    obtain ⟨bd4, F4, ho4, ba4⟩ := key.out W4 hW4.symm
    clear hW4 key y1 y2 y3 y4 bd3 br ba ho3 F3 F2
    obtain ⟨A3, cap3, hv3, _⟩ := F4.2.1.slice
    subst hv3
    go_wp2_with fail
    refine ft_region 10 (.free 0 (.free 1 (.two 2 4 (.two 3 4 (.one 4 (.free 5 (.free 6 (.free 7 (.free 9 (.one 8 .rest)))))) (.one 3 (.free 5 (.free 6 (.free 7 (.free 9 (.one 8 .rest))))))) (.one 2 (.one 3 (.free 5 (.free 6 (.free 7 (.free 9 (.one 8 .rest)))))))))) (by kernel_rfl) (by kernel_rfl) ?_
    intro Q0 hQ0
    replace F4 := F4.mod0 ((Mod.refl _ W4).drewN 1)
    replace P3 := P2.out _ _ _ F4
    have M41 : Mod (fun _ => False) W4 (W4.drewN 1) := (Mod.refl _ W4).drewN 1
    replace bd4 := M41.heap bd4 fun h => h
    replace ba4 := M41.heap ba4 fun h => h
    replace ho4 := M41.heap ho4 fun h => h
    clear P2 M41
    obtain ⟨l1, l2⟩ := blkc ho4
    obtain ⟨l3, l4⟩ := blkc ba4
    simp only [encO8] at l1
    iterate 2 (refine wpT_free _ rfl (fun K hK => ?_); refine ⟨?_, ?_⟩; (focus (go_simp)); apply Exists.intro; refine ⟨fun wz => ?_, ?_⟩; (focus (go_simp; try with_reducible rfl)); go_simp; refine hK _ ?_; clear hK K)
    refine wpT_two _ _ rfl rfl ⟨by go_simp, fun K hK => ?_⟩ ⟨by go_simp, fun K hK => ?_⟩
    ·go_simp
     refine hK _ _ ?_
     clear hK K
     refine wpT_two _ _ rfl rfl ⟨by go_simp, fun K hK => ?_⟩ ⟨by go_simp, fun K hK => ?_⟩
     ·go_simp
      refine P3.mono ?_
      rintro e W5 ⟨rfl, F5, M5⟩
      replace F5 := F5
      have bd5 := M5.heap bd4 fun h => h.2.2 (.inl rfl)
      obtain ⟨t3, t4⟩ := blkc (M5.heap ba4 fun h => h.2.2 (.inr rfl))
      refine hK _ _ ?_
      clear hK K
      refine wpT_one _ rfl ⟨by go_simp, fun K hK => ?_⟩
      go_simp
      refine hK _ _ ?_
      clear hK K
      clear t3 t4
      iterate 4 (refine wpT_free _ rfl (fun K hK => ?_); refine ⟨?_, ?_⟩; (focus (go_simp)); apply Exists.intro; refine ⟨fun wz => ?_, ?_⟩; (focus (go_simp; try with_reducible rfl)); go_simp; refine hK _ ?_; clear hK K)
      refine wpT_one _ rfl ⟨by go_simp, fun K hK => ?_⟩
      go_simp
      refine (om_list F5.1.om).mono ?_
      rintro e W6 ⟨v6, rfl, R6, H6, M6⟩
      replace F5 := F5.mod0 M6
      replace bd5 := M6.heap bd5 fun h => h
      refine hK _ _ ?_
      clear hK K M6
      refine wpT_rest ?_
      have hL5 : L1.length ≤ 65536 := by have := mc_bound F5.1; omega
      have P1 := hid fun w' (M : CM W6 w') => (sameR (R6.keep M) (F5.2.1.keep M) hL5).mono fun e w'' ⟨h1, h2⟩ => (⟨h1, Mod.trans' M h2⟩ : _ ∧ CM W6 w'')
      have P2 := hid fun w' (M : CM W6 w') => (om_check (F5.mod0 M).1.om).mono fun e w'' ⟨h1, h2⟩ => (⟨h1, Mod.trans' M h2⟩ : _ ∧ CM W6 w'')
      have P4 := hid fun w' (M : CM W6 w') => (om_len (F5.mod0 M).1.om).mono fun e w'' ⟨h1, h2⟩ => (⟨h1, Mod.trans' M h2⟩ : _ ∧ CM W6 w'')
      have er : (((L1.length : Nat) : Int) != ((L1.length : Nat) : Int)) = false := by simp
      replace hL5 := hid hL5
      simp only [List.drop_succ_cons, List.drop_zero]
      iterate 15 (refine wpQuiet_step (fun K hK => ?_); go_simp; first | (refine hK _ ?_; clear hK K) | (refine ⟨_, fun _ _ => rfl, hK _ ?_⟩; clear hK K) | (apply Exists.intro; refine ⟨fun wq hq => ?_, hK _ ?_⟩; (focus (first | (go_at_call 28; exact P1.out _ hq) | (go_at_call 42; exact P2.out _ hq) | (go_at_call 38; exact P4.out _ hq) | (skip; go_simp; try with_reducible rfl))); clear hK K))
      refine wpQuiet_nil ?_
      intro w8 M8
      refine hQ0 _ _ ?_
      replace F5 := F5.mod0 M8
      replace bd5 := M8.heap bd5 fun h => h
      clear P1 P2 P4 R6 H6
      go_wp2_with fail
      go_roundw
      case rel => exact ⟨k + 1, L1, C1, dd, by omega, by simp, F5.less (fun _ h => .inl h), bd5⟩
      case measure => simp [intOf]; omega
     ·go_simp
      refine hK _ _ ?_
      clear hK K
      refine wpT_one _ rfl ⟨by go_simp, fun K hK => ?_⟩
      go_simp
      refine P3.mono ?_
      rintro e W5 ⟨rfl, F5, M5⟩
      replace F5 := F5
      have bd5 := M5.heap bd4 fun h => h.2.2 (.inl rfl)
      obtain ⟨t3, t4⟩ := blkc (M5.heap ba4 fun h => h.2.2 (.inr rfl))
      refine hK _ _ ?_
      clear hK K
      clear t3 t4
      iterate 4 (refine wpT_free _ rfl (fun K hK => ?_); refine ⟨?_, ?_⟩; (focus (go_simp)); apply Exists.intro; refine ⟨fun wz => ?_, ?_⟩; (focus (go_simp; try with_reducible rfl)); go_simp; refine hK _ ?_; clear hK K)
      refine wpT_one _ rfl ⟨by go_simp, fun K hK => ?_⟩
      go_simp
      refine (om_list F5.1.om).mono ?_
      rintro e W6 ⟨v6, rfl, R6, H6, M6⟩
      replace F5 := F5.mod0 M6
      replace bd5 := M6.heap bd5 fun h => h
      refine hK _ _ ?_
      clear hK K M6
      refine wpT_rest ?_
      have hL5 : L1.length ≤ 65536 := by have := mc_bound F5.1; omega
      have P1 := hid fun w' (M : CM W6 w') => (sameR (R6.keep M) (F5.2.1.keep M) hL5).mono fun e w'' ⟨h1, h2⟩ => (⟨h1, Mod.trans' M h2⟩ : _ ∧ CM W6 w'')
      have P2 := hid fun w' (M : CM W6 w') => (om_check (F5.mod0 M).1.om).mono fun e w'' ⟨h1, h2⟩ => (⟨h1, Mod.trans' M h2⟩ : _ ∧ CM W6 w'')
      have P4 := hid fun w' (M : CM W6 w') => (om_len (F5.mod0 M).1.om).mono fun e w'' ⟨h1, h2⟩ => (⟨h1, Mod.trans' M h2⟩ : _ ∧ CM W6 w'')
      have er : (((L1.length : Nat) : Int) != ((L1.length : Nat) : Int)) = false := by simp
      replace hL5 := hid hL5
      simp only [List.drop_succ_cons, List.drop_zero]
      iterate 15 (refine wpQuiet_step (fun K hK => ?_); go_simp; first | (refine hK _ ?_; clear hK K) | (refine ⟨_, fun _ _ => rfl, hK _ ?_⟩; clear hK K) | (apply Exists.intro; refine ⟨fun wq hq => ?_, hK _ ?_⟩; (focus (first | (go_at_call 28; exact P1.out _ hq) | (go_at_call 42; exact P2.out _ hq) | (go_at_call 38; exact P4.out _ hq) | (skip; go_simp; try with_reducible rfl))); clear hK K))
      refine wpQuiet_nil ?_
      intro w8 M8
      refine hQ0 _ _ ?_
      replace F5 := F5.mod0 M8
      replace bd5 := M8.heap bd5 fun h => h
      clear P1 P2 P4 R6 H6
      go_wp2_with fail
      go_roundw
      case rel => exact ⟨k + 1, L1, C1, dd, by omega, by simp, F5.less (fun _ h => .inl h), bd5⟩
      case measure => simp [intOf]; omega
    ·go_simp
     refine hK _ _ ?_
     clear hK K
     refine wpT_one _ rfl ⟨by go_simp, fun K hK => ?_⟩
     go_simp
     refine hK _ _ ?_
     clear hK K
     refine wpT_one _ rfl ⟨by go_simp, fun K hK => ?_⟩
     go_simp
     refine P3.mono ?_
     rintro e W5 ⟨rfl, F5, M5⟩
     replace F5 := F5
     have bd5 := M5.heap bd4 fun h => h.2.2 (.inl rfl)
     obtain ⟨t3, t4⟩ := blkc (M5.heap ba4 fun h => h.2.2 (.inr rfl))
     refine hK _ _ ?_
     clear hK K
     clear t3 t4
     iterate 4 (refine wpT_free _ rfl (fun K hK => ?_); refine ⟨?_, ?_⟩; (focus (go_simp)); apply Exists.intro; refine ⟨fun wz => ?_, ?_⟩; (focus (go_simp; try with_reducible rfl)); go_simp; refine hK _ ?_; clear hK K)
     refine wpT_one _ rfl ⟨by go_simp, fun K hK => ?_⟩
     go_simp
     refine (om_list F5.1.om).mono ?_
     rintro e W6 ⟨v6, rfl, R6, H6, M6⟩
     replace F5 := F5.mod0 M6
     replace bd5 := M6.heap bd5 fun h => h
     refine hK _ _ ?_
     clear hK K M6
     refine wpT_rest ?_
     have hL5 : L1.length ≤ 65536 := by have := mc_bound F5.1; omega
     have P1 := hid fun w' (M : CM W6 w') => (sameR (R6.keep M) (F5.2.1.keep M) hL5).mono fun e w'' ⟨h1, h2⟩ => (⟨h1, Mod.trans' M h2⟩ : _ ∧ CM W6 w'')
     have P2 := hid fun w' (M : CM W6 w') => (om_check (F5.mod0 M).1.om).mono fun e w'' ⟨h1, h2⟩ => (⟨h1, Mod.trans' M h2⟩ : _ ∧ CM W6 w'')
     have P4 := hid fun w' (M : CM W6 w') => (om_len (F5.mod0 M).1.om).mono fun e w'' ⟨h1, h2⟩ => (⟨h1, Mod.trans' M h2⟩ : _ ∧ CM W6 w'')
     have er : (((L1.length : Nat) : Int) != ((L1.length : Nat) : Int)) = false := by simp
     replace hL5 := hid hL5
     simp only [List.drop_succ_cons, List.drop_zero]
     iterate 15 (refine wpQuiet_step (fun K hK => ?_); go_simp; first | (refine hK _ ?_; clear hK K) | (refine ⟨_, fun _ _ => rfl, hK _ ?_⟩; clear hK K) | (apply Exists.intro; refine ⟨fun wq hq => ?_, hK _ ?_⟩; (focus (first | (go_at_call 28; exact P1.out _ hq) | (go_at_call 42; exact P2.out _ hq) | (go_at_call 38; exact P4.out _ hq) | (skip; go_simp; try with_reducible rfl))); clear hK K))
     refine wpQuiet_nil ?_
     intro w8 M8
     refine hQ0 _ _ ?_
     replace F5 := F5.mod0 M8
     replace bd5 := M8.heap bd5 fun h => h
     clear P1 P2 P4 R6 H6
     go_wp2_with fail
     go_roundw
     case rel => exact ⟨k + 1, L1, C1, dd, by omega, by simp, F5.less (fun _ h => .inl h), bd5⟩
     case measure => simp [intOf]; omega
  ·obtain rfl : k = len := by omega
   clear hlt hk hr
   go_wp2_with fail
   refine (alive8 _).mono ?_
   rintro e w7 ⟨rfl, B7⟩
   go_wp2_with fail
   go_ret
   exact ⟨rfl, B0.trans ((F.below.trans (B7.mono F.below.size)).mono B0.size)⟩
open Go Go.RowKit
theorem all8r (cs : Array Value) (a : Option Addr) (len cap : Nat) (zs : List Op8) (w : World) (fit : Fit [.int .i64, .int .i64] cs.toList) (hr : RdS encO8 7 w a len zs) (hG : ∀ z ∈ zs, GOp8 z) (_ : len * 56 ≤ 140737488351232) :
  Calls Tryz.prog 8 #[.agg cs, .slice a len cap] w fun e w' => e = .returned (.bool true) ∧ Below w.heap.size w w' := by
 obtain ⟨deg, room, rfl, _, _⟩ := seatArg8 fit
 exact all8 deg room a len cap zs w hr hG
end Go.Proofs.Bo
