/- OrdmapSweeps: FOR EVERY INPUT the law returns true, and each argument reads behind the call as it read before. No condition. -/
import Derived.Test.YtgehgjaglgafdaaGreatRows
import Derived.Test.YtgehgjaglgafdaaGreatL8Sweeps
import Derived.Test.YtgehgjaglgafdaaGreatG02
set_option linter.unusedVariables false
set_option linter.unusedSimpArgs false
namespace Go.Proofs.YtgehgjaglgafdaaGreat.ordmapSweeps
open Go Go.ChangeShapes Go.WideShapes Go.ChangeAt Go.RowKit Go.Proofs.Bo
theorem own : ownKnob Tryz.prog.godebug = none := by kernel_rfl
theorem laidOut : laidOutB Tryz.prog = true := by kernel_rfl
theorem flat0 : ∃ ks, flat Tryz.prog 20 23 = some ks ∧ ks = [.int .i64, .int .i64] := ⟨_, by kernel_rfl, rfl⟩
theorem flat1 : ∃ ks, flat Tryz.prog 20 59 = some ks ∧ ks = [.int .i64, .int .i64, .int .i64, .int .i64, .int .i64, .int .i64, .int .i64] := ⟨_, by kernel_rfl, rfl⟩
theorem flat2 : ∃ ks, flat Tryz.prog 20 4 = some ks ∧ ks = [.bool] := ⟨_, by kernel_rfl, rfl⟩
set_option maxRecDepth 100000 in
theorem lifted (os : Os) (started : os.Started) (H : Type) (enc : TypeId × Value → H) :
  ReturnsInHanded {} Tryz.checked os 3 .any (Rows.ordmapSweepsSpec.pre6 enc Tryz.prog Tryz.f3 Rows.ordmapSweepsRow.domain false) (Rows.ordmapSweepsSpec.post enc Tryz.prog Tryz.f3 false true false false) := by
 refine returnsInHanded_of_change_sized (C := Tryz.checked) own started (by kernel_rfl) Tryz.func3
  (ChangeSpec.witness6 (enc := enc) (C := Tryz.checked) false ⟨#[], #[.agg #[.int .i64 0, .int .i64 0], .slice none 0 0, .slice none 0 0], []⟩ 8 (by kernel_rfl) (by kernel_rfl) (by kernel_rfl) (by kernel_rfl)) ?_
 intro W base args ds gs before hval0 hW hcnd hsz0 _
 have hsz : (DataW.weightsEach Tryz.prog (Tryz.f3.params.toList ++ Rows.ordmapSweepsSpec.plain.varTypes Tryz.prog) (ds ++ gs)).all (· ≤ reachBytes) = true := hsz0
 have hval : ∀ (j : Nat) t v, Tryz.f3.params[j]? = some t → args[j]? = some v → Value.okWide Tryz.prog W .any base t v := hval0
 have hW' := hW
 obtain ⟨p, q, hA0, hV, rfl, hfz, hnd⟩ := hW
 have hA : DataW.TrodAll enc Tryz.prog W 0 (fun _ => true) true Tryz.f3.params.toList args.toList ds p := hA0
 rw [Tryz.params3] at hA hval hsz
 obtain ⟨v0, vs0, d0, ds0, p0, q0, hargs, rfl, rfl, h0, r0⟩ := trodAll_cons hA
 obtain ⟨v1, vs1, d1, ds1, p1, q1, rfl, rfl, rfl, h1, r1⟩ := trodAll_cons r0
 obtain ⟨v2, vs2, d2, ds2, p2, q2, rfl, rfl, rfl, h2, r2⟩ := trodAll_cons r1
 obtain ⟨rfl, rfl, rfl⟩ := trodAll_nil r2
 obtain rfl : args = #[v0, v1, v2] := by cases args; simp_all
 obtain ⟨rfl, rfl⟩ := trodVars_none hV
 have k0 := h0
 have lt0 : ∀ x ∈ p0, x.block < W.heap.size := by obtain ⟨m, hm⟩ := k0; exact DataW.trod_lt m _ _ _ hm
 obtain ⟨ks0, hks0, rfl⟩ := flat0
 obtain ⟨cs0, rfl, hcs0⟩ := okWide_struct Tryz.underlying23 (hval 0 23 v0 rfl rfl)
 have fit0 : Fit [.int .i64, .int .i64] cs0.toList := open_flat hks0 h0
 have k1 := h1
 have lt1 : ∀ x ∈ p1, x.block < W.heap.size := by obtain ⟨m, hm⟩ := k1; exact DataW.trod_lt m _ _ _ hm
 obtain ⟨ks1, hks1, rfl⟩ := flat1
 obtain ⟨a1, len1, cap1, rfl⟩ := okWide_slice Tryz.underlying24 (hval 1 24 v1 rfl rfl)
 obtain ⟨zs1, rd1, gd1, y1⟩ := open_flat_slice Tryz.underlying24 hks1 (by kernel_rfl) (by decide) fitOp8 (fun _ => rfl) h1 hsz (j := 1) rfl rfl
 have yy1 : len1 * 56 ≤ 140737488351232 := y1
 have k2 := h2
 have lt2 : ∀ x ∈ p2, x.block < W.heap.size := by obtain ⟨m, hm⟩ := k2; exact DataW.trod_lt m _ _ _ hm
 obtain ⟨ks2, hks2, rfl⟩ := flat2
 obtain ⟨a2, len2, cap2, rfl⟩ := okWide_slice Tryz.underlying25 (hval 2 25 v2 rfl rfl)
 obtain ⟨zs2, rd2, gd2, y2⟩ := open_flat_slice Tryz.underlying25 hks2 (by kernel_rfl) (by decide) fitBo (fun _ => rfl) h2 hsz (j := 2) rfl rfl
 have yy2 : len2 * 1 ≤ 140737488351232 := y2
 clear hA0 hval0 hsz0 hsz hval
 refine (sweeps8r cs0 a1 len1 cap1 zs1 a2 len2 cap2 zs2 W fit0 rd1 gd1 yy1 rd2 gd2 yy2).mono fun e W' ⟨he, bel⟩ => ?_
 subst he
 exact ⟨_, rfl, _, _, _, [], _, [], hW', trodAll_mk1 (shut_bool Tryz.underlying4 _), (trodAll_cons_mk (Below.trod laidOut (by kernel_rfl) (of_decide_eq_true (by kernel_rfl)) k0 bel lt0) (trodAll_cons_mk (Below.trod laidOut (by kernel_rfl) (of_decide_eq_true (by kernel_rfl)) k1 bel lt1) (trodAll_cons_mk (Below.trod laidOut (by kernel_rfl) (of_decide_eq_true (by kernel_rfl)) k2 bel lt2) trodAll_mk0))), rfl, bel.frame _, fun h => by cases h⟩
theorem over : Rows.ordmapSweepsRow.holds Tryz.pinned (OpenSpec.ofChange Rows.ordmapSweepsSpec) :=
 OpenClaim.holds_of_wide 3 Tryz.f3 rfl rfl rfl rfl rfl rfl rfl ⟨rfl, rfl, rfl, rfl, rfl⟩ rfl rfl rfl rfl rfl (by kernel_rfl) Tryz.func3 (by kernel_rfl)
  (of_decide_eq_true (by kernel_rfl)) (by unfold Func.isWrapper; first | (rw [if_pos (by decide +kernel)]; kernel_rfl) | (rw [if_neg (by decide +kernel)]; exact ⟨rfl, rfl⟩))
  (fun os started H enc _ => lifted os started H enc)
end Go.Proofs.YtgehgjaglgafdaaGreat.ordmapSweeps
namespace Go.Proofs.YtgehgjaglgafdaaGreat
theorem ordmapSweeps_holds : Rows.OrdmapSweepsSaid := ordmapSweeps.over
#print axioms ordmapSweeps_holds
end Go.Proofs.YtgehgjaglgafdaaGreat
