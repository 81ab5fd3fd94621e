import Derived.Test.YtgehgjaglgafdaaGreatG19
set_option linter.unusedVariables false
set_option linter.unusedSimpArgs false
namespace Go.Proofs.Bo
open Go Go.RowKit
section
variable {w w' : World} {tb ab : Nat} {lv fv : Value} {σ : List (Option Bn)} {free : List Int} {root deg room many : Int} {S : StB}
theorem NodeB.row {b : Bn} {l : List Sg} {ks : List Nat} (h : NodeB w b l ks) : RowV w (.slice b.la b.ln b.lc) l := h.1
theorem placeM {lb n c k : Nat} {v : Bn} {l : List Sg} {ks : List Nat} (h : MemB w tb ab (.slice (some ⟨lb, 0, none⟩) n c) fv σ free root deg room many S) (hp : σ[k]? = some (some v)) (hn : NodeB w v l ks) (hr : Row l) (hlen : l.length ≤ 65536) (cs ca : Int) (hf : fit64 ca) :
  Calls Tryz.prog 127 #[.pointer (some ⟨lb, k * 3, none⟩), .agg #[.int .i64 cs, .int .i64 ca]] w fun e w' => e = .returned (.tuple #[.int .i64 (posL (kx cs ca) l), .bool (hasK (kx cs ca) l)]) ∧ Mod (fun _ => False) w w' := by
 obtain ⟨w0, hw0, b0, M0⟩ := boxC w cs ca
 have hc := (h.mod0 M0).cells hp
 obtain ⟨c0, _, f0, _⟩ := hc
 obtain ⟨d0, e0⟩ := blkc b0
 have HB := hid (fun (w' : World) (M : CM w0 w') => And.intro (((h.mod0 M0).mod0 M).cells hp).1 (blkc (Mod.heap M b0 fun h => h)))
 have HP := hid (fun (w' : World) (M : CM w0 w') => (bsfZ (hn.row.keep (M0.trans' M)) hr hlen cs ca hf).mono fun e w'' ⟨h1, h2⟩ => (⟨h1, Mod.trans' M h2⟩ : e = Ending.returned (.tuple #[.int .i64 (posL (kx cs ca) l), .bool (hasK (kx cs ca) l)]) ∧ CM w0 w''))
 clear h hn hr
 go_enter Tryz.func127, Tryz.ntmps127
 go_wp2_with fail
 refine cq_region (by kernel_rfl) (by kernel_rfl) ?_
 iterate 10 (refine wpQuiet_step (fun K hK => ?_); go_simp; first | (refine hK _ ?_; clear hK K) | (refine ⟨_, fun _ _ => rfl, hK _ ?_⟩; clear hK K) | (apply Exists.intro; refine ⟨fun wq hq => ?_, hK _ ?_⟩; (focus (first | (go_at_call 136; exact HP.out _ hq) | (obtain ⟨t1, t2, t3⟩ := HB.out _ hq; go_simp; try with_reducible rfl))); clear hK K))
 refine wpQuiet_nil ?_
 intro w2 M2
 go_wp2_with fail
 go_ret2
 exact ⟨rfl, M0.trans' M2⟩
theorem fullM {k : Nat} {v : Bn} {l : List Sg} {ks : List Nat} (h : MemB w tb ab lv fv σ free root deg room many S) (hp : σ[k]? = some (some v)) (hn : NodeB w v l ks) (hd : 0 ≤ deg ∧ deg ≤ 64) :
  Calls Tryz.prog 125 #[.pointer (some ⟨tb, 0, none⟩), .int .i64 k] w fun e w' => e = .returned (.bool (decide ((l.length : Int) = 2 * deg - 1))) ∧ Mod (fun _ => False) w w' := by
 obtain ⟨lb, c, rfl⟩ := h.lbS hp
 have HA := fun n => atM (h.mod0 ((Mod.refl (fun _ => False) w).drewN n)) hp
 have HM := fun n => mostM (h.mod0 ((Mod.refl (fun _ => False) w).drewN n)) hd
 obtain ⟨c0, _, f0, _⟩ := h.cells hp
 have hl := hn.ln
 rw [hl] at c0
 have e1 : (((l.length : Nat) : Int) == 2 * deg - 1) = decide ((l.length : Int) = 2 * deg - 1) := by rw [Bool.eq_iff_iff]; simp
 clear h hn
 generalize decide ((l.length : Int) = 2 * deg - 1) = r at e1 ⊢
 generalize l.length = m at c0 e1
 go_enter Tryz.func125, Tryz.ntmps125
 go_wp2_with fail
 go_quiet ((first | (go_at_call 114; exact Calls.quiet_of_same (HA _)) | (go_at_call 129; exact Calls.quiet_of_same (HM _))))
 go_wp2_with fail
 go_ret
 exact ⟨rfl, (Mod.refl _ _).drewN _⟩
end
end Go.Proofs.Bo
