import Derived.Test.YtgehgjaglgafdaaGreatG43
import Derived.Test.YtgehgjaglgafdaaGreatG42
import Derived.Test.YtgehgjaglgafdaaGreatG46
import Derived.Test.YtgehgjaglgafdaaGreatG05
set_option linter.unusedVariables false
set_option linter.unusedSimpArgs false
namespace Go.Proofs.Bo
open Go Go.RowKit
theorem bothD_turn {D : Nat → Prop} {w0 W : World} {mb cb d : Nat} {room : Int} {v : Value} {Lt Lv : List Sg} {c : Cu} (h : BothD D w0 W mb cb d room v Lt c Lv) (deg : Int) : Calls Tryz.prog 43 #[.pointer (some ⟨mb, 0, none⟩), .int .i64 deg] W fun e W' =>
  e = .returned (.int .i64 (if rightD deg then 0 else 1)) ∧ BothD D w0 W' mb cb (if rightD deg then deg.toNat else d) room v Lt c Lv :=
 (mc_turn h.1 deg).mono fun e w' ⟨a, b, c⟩ => ⟨a, h.map b c⟩
attribute [local irreducible] wpQuiet in
set_option maxRecDepth 100000 in
set_option maxHeartbeats 2000000 in
theorem turns8 (deg room : Int) (a : Option Addr) (len cap : Nat) (zs : List Op8) (dg : Int) (w : World) (hr : RdS encO8 7 w a len zs) (hG : ∀ z ∈ zs, GOp8 z) :
  Calls Tryz.prog 9 #[.agg #[.int .i64 deg, .int .i64 room], .slice a len cap, .int .i64 dg] w fun e w' => e = .returned (.bool true) ∧ Below w.heap.size w w' := by
 obtain ⟨w0, hw0, b0, M0, hs0⟩ := boxSe8 w deg room
 obtain ⟨x0, f0⟩ := blkc b0
 have B0 : Below w.heap.size w w0 := M0.to_below (Nat.le_refl _) fun _ h => h.elim
 replace hr := hr.below (by decide) B0
 replace hs0 := hid hs0
 by_cases hb : ¬ (rightD deg = true ∧ 0 ≤ room ∧ room ≤ 4096) ∨ 200 < len
 ·have P := madeM_no deg room a len cap w0 hb
  clear hb
  go_enter Tryz.func9, Tryz.ntmps9
  go_wp2_with fail
  refine P.mono ?_
  rintro e w1 ⟨rfl, B1⟩
  go_wp2_with fail
  refine (alive8 _).mono ?_
  rintro e w2 ⟨rfl, B2⟩
  go_wp2_with fail
  go_ret
  exact ⟨rfl, B0.trans ((B1.trans (B2.mono B1.size)).mono B0.size)⟩
 have hd : rightD deg = true := Classical.byContradiction fun h => hb (.inl fun h' => h h'.1)
 have hr0 : 0 ≤ room ∧ room ≤ 4096 := Classical.byContradiction fun h => hb (.inl fun h' => h h'.2)
 have hle : len ≤ 200 := by omega
 have P := madeM deg room a len cap zs w0 hr hG hd hr0 hle
 have PR := fun w => right8R dg 0 w
 clear hb hd hr0 hle hr hG
 go_enter Tryz.func9, Tryz.ntmps9
 go_wp2_with fail
 refine P.mono ?_
 rintro e w1 ⟨mb, cb, d, v, L, c, rfl, F⟩
 clear P x0 f0
 have hbox := hid fun (W : World) (M : Mod (fun _ => False) w0 W) => blkc (M.heap b0 fun h => h)
 obtain ⟨A, cap3, hv3, _⟩ := F.2.1.slice
 subst hv3
 go_wp2_with fail
 refine (om_degree F.1.om).mono ?_
 rintro e w2 ⟨rfl, M2⟩
 replace F := F.mod0 M2
 clear M2
 go_wp2_with fail
 have PT := bothD_turn F dg
 clear F
 cases hdg : rightD dg with
 | false =>
  rw [hdg] at PT PR
  simp only [Bool.false_and, Bool.false_eq_true, if_false] at PT PR
  clear hdg
  refine PT.mono ?_
  rintro e w3 ⟨rfl, F⟩
  clear PT
  go_wp2_with fail
  refine (PR _).mono ?_
  rintro e w4 ⟨rfl, hw⟩
  rw [hw]; clear hw
  go_wp2_with fail
  refine (alive8 _).mono ?_
  rintro e w5 ⟨rfl, B5⟩
  replace F := F.mod0 (Mod.of_below B5)
  clear B5
  go_wp2_with fail
  refine (om_degree F.1.om).mono ?_
  rintro e w6 ⟨rfl, M⟩
  replace F := F.mod0 M
  clear M
  have ed : ((d : Int) == (d : Int)) = true := by simp
  go_wp2_with fail
  refine (om_list F.1.om).mono ?_
  rintro e w7 ⟨v7, rfl, R7, H7, M⟩
  replace F := F.mod0 M
  clear M
  have hL5 : L.length ≤ 65536 := by have := mc_bound F.1; omega
  have PS := sameR R7 F.2.1 hL5
  go_wp2_with fail
  refine PS.mono ?_
  rintro e w8 ⟨rfl, M⟩
  replace F := F.mod0 M
  clear M PS
  go_wp2_with fail
  go_ret
  exact ⟨rfl, B0.trans (F.below.mono B0.size)⟩
 | true =>
  obtain ⟨n, rfl⟩ : ∃ n : Nat, dg = n := ⟨dg.toNat, by unfold rightD at hdg; simp at hdg; omega⟩
  rw [hdg] at PT PR
  simp only [Bool.true_and, if_true, Int.toNat_natCast] at PT PR
  rw [show (decide ((0 : Int) ≤ 0) && decide ((0 : Int) ≤ 4096)) = true from rfl] at PR
  clear hdg
  refine PT.mono ?_
  rintro e w3 ⟨rfl, F⟩
  clear PT
  go_wp2_with fail
  refine (PR _).mono ?_
  rintro e w4 ⟨rfl, hw⟩
  rw [hw]; clear hw
  go_wp2_with fail
  refine fs_region 15 [(0, false), (1, true), (2, true), (3, true), (4, true), (5, true), (6, true), (8, true), (7, false), (9, true), (10, true), (11, true), (12, true), (14, true), (13, false)] (by kernel_rfl) (by kernel_rfl) ?_
  intro Q0 hQ0
  refine wpG_one _ rfl ⟨by go_simp, fun K hK => ?_⟩
  replace F := F.mod0 ((Mod.refl _ w3).drewN 1)
  go_simp
  refine (alive8 _).mono ?_
  rintro e w5 ⟨rfl, B5⟩
  replace F := F.mod0 (Mod.of_below B5)
  refine hK _ _ ?_
  clear hK K B5
  iterate 7 (refine wpG_free _ rfl (fun K hK => ?_); refine ⟨?_, ?_⟩; (focus (go_simp)); apply Exists.intro; refine ⟨fun wz => ?_, ?_⟩; (focus (go_simp; try with_reducible rfl)); go_simp; refine hK _ ?_; clear hK K)
  refine wpG_one _ rfl ⟨by go_simp, fun K hK => ?_⟩
  go_simp
  refine (om_degree F.1.om).mono ?_
  rintro e w6 ⟨rfl, M⟩
  replace F := F.mod0 M
  refine hK _ _ ?_
  clear hK K M
  have ed : ((n : Int) == (n : Int)) = true := by simp
  iterate 5 (refine wpG_free _ rfl (fun K hK => ?_); refine ⟨?_, ?_⟩; (focus (go_simp)); apply Exists.intro; refine ⟨fun wz => ?_, ?_⟩; (focus (go_simp; try with_reducible rfl)); go_simp; refine hK _ ?_; clear hK K)
  refine wpG_one _ rfl ⟨by go_simp, fun K hK => ?_⟩
  go_simp
  refine (om_list F.1.om).mono ?_
  rintro e w7 ⟨v7, rfl, R7, H7, M⟩
  replace F := F.mod0 M
  refine hK _ _ ?_
  clear hK K M
  refine wpG_rest ?_
  have hL5 : L.length ≤ 65536 := by have := mc_bound F.1; omega
  have P1 := hid fun w' (M : CM w7 w') => (sameR (R7.keep M) (F.2.1.keep M) hL5).mono fun e w'' ⟨h1, h2⟩ => (⟨h1, Mod.trans' M h2⟩ : _ ∧ CM w7 w'')
  have P2 := hid fun w' (M : CM w7 w') => (om_check (F.mod0 M).1.om).mono fun e w'' ⟨h1, h2⟩ => (⟨h1, Mod.trans' M h2⟩ : _ ∧ CM w7 w'')
  have P3 := hid fun w' (M : CM w7 w') => (om_room (F.mod0 M).1.om).mono fun e w'' ⟨h1, h2⟩ => (⟨h1, Mod.trans' M h2⟩ : _ ∧ CM w7 w'')
  have HX := hid fun w' (M : CM w7 w') => hbox.out w' (F.2.2.2.1.trans' M)
  have er : (room == room) = true := by simp
  replace hL5 := hid hL5
  simp only [List.drop_succ_cons, List.drop_zero]
  iterate 14 (refine wpQuiet_step (fun K hK => ?_); go_simp; first | (refine hK _ ?_; clear hK K) | (refine ⟨_, fun _ _ => rfl, hK _ ?_⟩; clear hK K) | (apply Exists.intro; refine ⟨fun wq hq => ?_, hK _ ?_⟩; (focus (first | (go_at_call 28; exact P1.out _ hq) | (go_at_call 42; exact P2.out _ hq) | (go_at_call 40; exact P3.out _ hq) | (obtain ⟨u1, u2⟩ := HX.out _ hq; go_simp; try with_reducible rfl))); clear hK K))
  refine wpQuiet_nil ?_
  intro w8 M8
  refine hQ0 _ _ ?_
  replace F := F.mod0 M8
  clear P1 P2 P3 HX R7 H7
  go_wp2_with fail
  go_ret
  exact ⟨rfl, B0.trans (F.below.mono B0.size)⟩
theorem turns8r (cs : Array Value) (a : Option Addr) (len cap : Nat) (zs : List Op8) (dg : Int) (w : World) (fit : Fit [.int .i64, .int .i64] cs.toList) (hr : RdS encO8 7 w a len zs) (hG : ∀ z ∈ zs, GOp8 z) (_ : len * 56 ≤ 140737488351232) (_ : (Lit.int .i64 dg).wf = true) :
  Calls Tryz.prog 9 #[.agg cs, .slice a len cap, .int .i64 dg] w fun e w' => e = .returned (.bool true) ∧ Below w.heap.size w w' := by
 obtain ⟨deg, room, rfl, _, _⟩ := seatArg8 fit
 exact turns8 deg room a len cap zs dg w hr hG
end Go.Proofs.Bo
