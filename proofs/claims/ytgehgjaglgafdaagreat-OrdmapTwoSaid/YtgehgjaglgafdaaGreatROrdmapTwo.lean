/- OrdmapTwo: FOR EVERY INPUT the law returns true, and each argument reads behind the call as it read before. No condition. -/
import Derived.Test.YtgehgjaglgafdaaGreatRows
import Derived.Test.YtgehgjaglgafdaaGreatL8Two
import Derived.Test.YtgehgjaglgafdaaGreatG02
set_option linter.unusedVariables false
set_option linter.unusedSimpArgs false
namespace Go.Proofs.YtgehgjaglgafdaaGreat.ordmapTwo
open Go Go.ChangeShapes Go.WideShapes Go.ChangeAt Go.RowKit Go.Proofs.Bo
theorem own : ownKnob Tryz.prog.godebug = none := by kernel_rfl
theorem laidOut : laidOutB Tryz.prog = true := by kernel_rfl
theorem flat0 : ∃ ks, flat Tryz.prog 20 23 = some ks ∧ ks = [.int .i64, .int .i64] := ⟨_, by kernel_rfl, rfl⟩
theorem flat2 : ∃ ks, flat Tryz.prog 20 59 = some ks ∧ ks = [.int .i64, .int .i64, .int .i64, .int .i64, .int .i64, .int .i64, .int .i64] := ⟨_, by kernel_rfl, rfl⟩
set_option maxRecDepth 100000 in
theorem lifted (os : Os) (started : os.Started) (H : Type) (enc : TypeId × Value → H) :
  ReturnsInHanded {} Tryz.checked os 7 .any (Rows.ordmapTwoSpec.pre6 enc Tryz.prog Tryz.f7 Rows.ordmapTwoRow.domain false) (Rows.ordmapTwoSpec.post enc Tryz.prog Tryz.f7 false true false false) := by
 refine returnsInHanded_of_change_sized (C := Tryz.checked) own started (by kernel_rfl) Tryz.func7
  (ChangeSpec.witness6 (enc := enc) (C := Tryz.checked) false ⟨#[], #[.agg #[.int .i64 0, .int .i64 0], .int .i64 0, .slice none 0 0], []⟩ 8 (by kernel_rfl) (by kernel_rfl) (by kernel_rfl) (by kernel_rfl)) ?_
 intro W base args ds gs before hval0 hW hcnd hsz0 _
 have hsz : (DataW.weightsEach Tryz.prog (Tryz.f7.params.toList ++ Rows.ordmapTwoSpec.plain.varTypes Tryz.prog) (ds ++ gs)).all (· ≤ reachBytes) = true := hsz0
 have hval : ∀ (j : Nat) t v, Tryz.f7.params[j]? = some t → args[j]? = some v → Value.okWide Tryz.prog W .any base t v := hval0
 have hW' := hW
 obtain ⟨p, q, hA0, hV, rfl, hfz, hnd⟩ := hW
 have hA : DataW.TrodAll enc Tryz.prog W 0 (fun _ => true) true Tryz.f7.params.toList args.toList ds p := hA0
 rw [Tryz.params7] at hA hval hsz
 obtain ⟨v0, vs0, d0, ds0, p0, q0, hargs, rfl, rfl, h0, r0⟩ := trodAll_cons hA
 obtain ⟨v1, vs1, d1, ds1, p1, q1, rfl, rfl, rfl, h1, r1⟩ := trodAll_cons r0
 obtain ⟨v2, vs2, d2, ds2, p2, q2, rfl, rfl, rfl, h2, r2⟩ := trodAll_cons r1
 obtain ⟨rfl, rfl, rfl⟩ := trodAll_nil r2
 obtain rfl : args = #[v0, v1, v2] := by cases args; simp_all
 obtain ⟨rfl, rfl⟩ := trodVars_none hV
 have k0 := h0
 have lt0 : ∀ x ∈ p0, x.block < W.heap.size := by obtain ⟨m, hm⟩ := k0; exact DataW.trod_lt m _ _ _ hm
 obtain ⟨ks0, hks0, rfl⟩ := flat0
 obtain ⟨cs0, rfl, hcs0⟩ := okWide_struct Tryz.underlying23 (hval 0 23 v0 rfl rfl)
 have fit0 : Fit [.int .i64, .int .i64] cs0.toList := open_flat hks0 h0
 obtain ⟨a1, rfl, rfl, rfl, w1⟩ := open_int Tryz.underlying3 (hval 1 3 v1 rfl rfl) h1
 have k2 := h2
 have lt2 : ∀ x ∈ p2, x.block < W.heap.size := by obtain ⟨m, hm⟩ := k2; exact DataW.trod_lt m _ _ _ hm
 obtain ⟨ks2, hks2, rfl⟩ := flat2
 obtain ⟨a2, len2, cap2, rfl⟩ := okWide_slice Tryz.underlying24 (hval 2 24 v2 rfl rfl)
 obtain ⟨zs2, rd2, gd2, y2⟩ := open_flat_slice Tryz.underlying24 hks2 (by kernel_rfl) (by decide) fitOp8 (fun _ => rfl) h2 hsz (j := 2) rfl rfl
 have yy2 : len2 * 56 ≤ 140737488351232 := y2
 clear hA0 hval0 hsz0 hsz hval
 refine (two8r cs0 a1 a2 len2 cap2 zs2 W fit0 w1 rd2 gd2 yy2).mono fun e W' ⟨he, bel⟩ => ?_
 subst he
 exact ⟨_, rfl, _, _, _, [], _, [], hW', trodAll_mk1 (shut_bool Tryz.underlying4 _), (trodAll_cons_mk (Below.trod laidOut (by kernel_rfl) (of_decide_eq_true (by kernel_rfl)) k0 bel lt0) (trodAll_cons_mk (shut_int Tryz.underlying3 w1) (trodAll_cons_mk (Below.trod laidOut (by kernel_rfl) (of_decide_eq_true (by kernel_rfl)) k2 bel lt2) trodAll_mk0))), rfl, bel.frame _, fun h => by cases h⟩
theorem over : Rows.ordmapTwoRow.holds Tryz.pinned (OpenSpec.ofChange Rows.ordmapTwoSpec) :=
 OpenClaim.holds_of_wide 7 Tryz.f7 rfl rfl rfl rfl rfl rfl rfl ⟨rfl, rfl, rfl, rfl, rfl⟩ rfl rfl rfl rfl rfl (by kernel_rfl) Tryz.func7 (by kernel_rfl)
  (of_decide_eq_true (by kernel_rfl)) (by unfold Func.isWrapper; first | (rw [if_pos (by decide +kernel)]; kernel_rfl) | (rw [if_neg (by decide +kernel)]; exact ⟨rfl, rfl⟩))
  (fun os started H enc _ => lifted os started H enc)
end Go.Proofs.YtgehgjaglgafdaaGreat.ordmapTwo
namespace Go.Proofs.YtgehgjaglgafdaaGreat
theorem ordmapTwo_holds : Rows.OrdmapTwoSaid := ordmapTwo.over
#print axioms ordmapTwo_holds
end Go.Proofs.YtgehgjaglgafdaaGreat
