import Derived.Test.YtgehgjaglgafdaaGreatG27
import Derived.Deep.CutBlock
set_option linter.unusedVariables false
set_option linter.unusedSimpArgs false
namespace Go.Proofs.Bo
open Go Go.RowKit
theorem put2 (w : World) (cs ca : Int) : ∃ w0 W, w.alloc (.cells #[.int .i64 0, .int .i64 0] 34) = w0 ∧ (w0.setCell ⟨w.heap.size, 0, none⟩ (.int .i64 cs)).setCell ⟨w.heap.size, 1, none⟩ (.int .i64 ca) = W ∧
  w0.heap[w.heap.size]? = some (.cells #[.int .i64 0, .int .i64 0] 34 (0, 0)) ∧ W.heap[w.heap.size]? = some (.cells #[.int .i64 cs, .int .i64 ca] 34 (0, 0)) ∧ Mod (fun _ => False) w W := by
 have M0 : Mod (fun _ => False) w (w.alloc (.cells #[.int .i64 0, .int .i64 0] 34)) := (Mod.refl _ _).alloc _
 refine ⟨_, _, rfl, rfl, alloc_0 _ _, ?_, (M0.setCell (.inr (Nat.le_refl _)) _).setCell (.inr (Nat.le_refl _)) _⟩
 exact setL_whole (cs := [.int .i64 0, .int .i64 0]) (us := [.int .i64 cs, .int .i64 ca]) (alloc_0 _ _) rfl
theorem put5z (w : World) (s : Sg) : ∃ w0 W, w.alloc (.cells #[.int .i64 0, .int .i64 0, .int .i64 0, .int .i64 0, .int .i64 0] 38) = w0 ∧
  ((((w0.setCell ⟨w.heap.size, 0, none⟩ (.int .i64 s.ls)).setCell ⟨w.heap.size, 1, none⟩ (.int .i64 s.la)).setCell ⟨w.heap.size, 2, none⟩ (.int .i64 s.hs)).setCell ⟨w.heap.size, 3, none⟩ (.int .i64 s.ha)).setCell ⟨w.heap.size, 4, none⟩ (.int .i64 s.v) = W ∧
  w0.heap[w.heap.size]? = some (.cells #[.int .i64 0, .int .i64 0, .int .i64 0, .int .i64 0, .int .i64 0] 38 (0, 0)) ∧
  W.heap[w.heap.size]? = some (.cells (encS s).toArray 38 (0, 0)) ∧ Mod (fun _ => False) w W := by
 have M0 : Mod (fun _ => False) w (w.alloc (.cells #[.int .i64 0, .int .i64 0, .int .i64 0, .int .i64 0, .int .i64 0] 38)) := (Mod.refl _ _).alloc _
 exact ⟨_, _, rfl, rfl, alloc_0 _ _, setL_whole (cs := [.int .i64 0, .int .i64 0, .int .i64 0, .int .i64 0, .int .i64 0]) (us := encS s) (alloc_0 _ _) rfl,
  ((((M0.setCell (.inr (Nat.le_refl _)) _).setCell (.inr (Nat.le_refl _)) _).setCell (.inr (Nat.le_refl _)) _).setCell (.inr (Nat.le_refl _)) _).setCell (.inr (Nat.le_refl _)) _⟩
section
variable {w w' : World} {tb ab : Nat} {lv fv : Value} {σ : List (Option Bn)} {free : List Int} {root room many : Int} {S : StB} {d : Nat} {L : List Sg}
def PutQ7 (w : World) (tb ab : Nat) (lv fv : Value) (σ : List (Option Bn)) (d : Nat) (room many' : Int) (L' : List Sg) (w' : World) : Prop :=
 ∃ (S' : StB) (lv' fv' : Value) (σ' : List (Option Bn)) (free' : List Int) (root' : Int), MemB w' tb ab lv' fv' σ' free' root' d room many' S' ∧ PT d S' root' L' ∧ Mod (FootB tb ab lv fv σ) w w' ∧ (∀ x, FootB tb ab lv' fv' σ' x → FootB tb ab lv fv σ x ∨ w.heap.size ≤ x)
def PutS7 (wb : World) (tb ab : Nat) (lv fv : Value) (σ : List (Option Bn)) (d : Nat) (room many' : Int) (L : List Sg) (H lo0 r0 : Nat) (k : Int) (g r : Nat) (W : World) : Prop :=
 ∃ (S' : StB) (lv' fv' : Value) (σ' : List (Option Bn)) (free' : List Int), MemB W tb ab lv' fv' σ' free' (r0 : Int) d room many' S' ∧ At9 d S' L H lo0 r0 k g r ∧ Mod (FootB tb ab lv fv σ) wb W ∧ (∀ x, FootB tb ab lv' fv' σ' x → FootB tb ab lv fv σ x ∨ wb.heap.size ≤ x)
set_option maxHeartbeats 4000000 in
set_option maxRecDepth 100000 in
theorem putBZ_arg1 (h : MemB w tb ab lv fv σ free root (d : Int) room many S) (hd : 2 ≤ d ∧ d ≤ 64) (hT : PT d S root L) (hr : Row L) (s : Sg) (hf : fit64 s.la) (hs : ¬ (canS s.ls s.la = s.ls ∧ canA s.ls s.la = s.la)) :
  Calls Tryz.prog 110 #[.pointer (some ⟨tb, 0, none⟩), .agg (encS s).toArray] w fun e w' => e = .returned (.int .i64 1) ∧ Mod (fun _ => False) w w' := by
 obtain ⟨w0, hw0, b0, M0⟩ := boxS w s
 obtain ⟨d0, e0⟩ := blkc b0
 obtain ⟨wz, wa, hwz, hwa, bz, ba, Ma⟩ := put2 w0 s.ls s.la
 obtain ⟨dz, ez⟩ := blkc bz
 obtain ⟨d1, e1⟩ := blkc ba
 have m1 := (h.mod0 M0).mod0 Ma
 have HG := getBZ m1 hd.2 hT hr (cs := s.ls) (ca := s.la) hf
 have hgh := get_has (kx s.ls s.la) L
 obtain ⟨o, ho⟩ : ∃ o, getS (kx s.ls s.la) L = o := ⟨_, rfl⟩
 rw [ho] at HG hgh
 unfold optS at HG
 rw [hgh] at HG
 have hky : kx s.ls s.la = ky s := rfl
 rw [hky] at HG
 generalize oS o = so at HG
 have hs0 := M0.size
 have hsa := Ma.size
 have hb0 := blkl b0
 have hba := blkl ba
 replace b0 := hid (Ma.heap b0 fun h => h)
 replace ba := hid ba
 replace M0 := M0.trans' Ma
 clear hgh ho Ma hky
 dsimp only [encS]
 go_enter Tryz.func110, Tryz.ntmps110
 go_upto_region 3 with (go_at_call 105; refine HG.mono ?_; rintro e w1 ⟨rfl, M1⟩; obtain ⟨u1, W1, g1, k1, x1, X1, N1⟩ := put5z w1 so; obtain ⟨d2, e2⟩ := blkc x1)
 have hs1 := M1.size
 have hs2 := N1.size
 replace b0 := N1.heap (M1.heap b0.out fun h => h) fun h => h
 replace ba := N1.heap (M1.heap ba.out fun h => h) fun h => h
 replace M0 := (M0.trans' M1).trans' N1
 clear d0 e0 d1 e1 dz ez d2 e2 hwz hwa hw0 g1 k1 x1 X1 N1 M1 HG m1 bz
 have m2 := h.mod0 M0
 have HR := hid (fun w1 (M : CM W1 w1) => (rightZ s.ls s.la w1).mono fun e w' ⟨h1, h2⟩ => (⟨h1, Mod.trans' M h2⟩ : e = Ending.returned (.bool (decide (canS s.ls s.la = s.ls ∧ canA s.ls s.la = s.la))) ∧ CM W1 w'))
 have HL := hid (fun w1 (M : CM W1 w1) => (lastZ w1).mono fun e w' ⟨h1, h2⟩ => (⟨h1, Mod.trans' M h2⟩ : e = Ending.returned (.agg #[.int .i64 1, .int .i64 0]) ∧ CM W1 w'))
 replace ba := hid ba
 replace b0 := hid b0
 have HB := hid (fun w1 (M : CM W1 w1) => blkc (Mod.heap M ba.out fun h => h))
 rw [decide_eq_false hs] at HR
 go_cut [23] (fun v W => v = .bool true ∧ Mod (fun _ => False) W1 W)
 case first =>
  refine cq_region (by kernel_rfl) (by kernel_rfl) ?_
  iterate 9 (refine wpQuiet_step (fun K hK => ?_); go_simp; first | (refine hK _ ?_; clear hK K) | (refine ⟨_, fun _ _ => rfl, hK _ ?_⟩; clear hK K) | (apply Exists.intro; refine ⟨fun wq hq => ?_, hK _ ?_⟩; (focus (first | (go_at_call 122; exact HR.out _ hq) | (go_at_call 73; exact HL.out _ hq) | (obtain ⟨d1, e1⟩ := HB.out _ hq; go_simp; try with_reducible rfl))); clear hK K))
  refine wpQuiet_nil ?_
  intro w1 M1
  go_wp2_with fail
  go_meet
  exact ⟨rfl, M1⟩
 case rest =>
  obtain ⟨rfl, M1⟩ := hcut
  clear HR HL HB
  go_wp2_with fail
  go_ret
  exact ⟨rfl, M0.trans' M1⟩
set_option maxHeartbeats 4000000 in
set_option maxRecDepth 100000 in
theorem putBZ_arg2 (h : MemB w tb ab lv fv σ free root (d : Int) room many S) (hd : 2 ≤ d ∧ d ≤ 64) (hT : PT d S root L) (hr : Row L) (s : Sg) (hf : fit64 s.la) (hs : s.ls = 1 ∧ s.la = 0) :
  Calls Tryz.prog 110 #[.pointer (some ⟨tb, 0, none⟩), .agg (encS s).toArray] w fun e w' => e = .returned (.int .i64 1) ∧ Mod (fun _ => False) w w' := by
 obtain ⟨ls, la, hs', ha', v'⟩ := s
 obtain ⟨rfl, rfl⟩ := hs
 obtain ⟨w0, hw0, b0, M0⟩ := boxS w ⟨1, 0, hs', ha', v'⟩
 obtain ⟨d0, e0⟩ := blkc b0
 obtain ⟨wz, wa, hwz, hwa, bz, ba, Ma⟩ := put2 w0 1 0
 obtain ⟨dz, ez⟩ := blkc bz
 obtain ⟨d1, e1⟩ := blkc ba
 have m1 := (h.mod0 M0).mod0 Ma
 have HG := getBZ m1 hd.2 hT hr (cs := 1) (ca := 0) hf
 have hgh := get_has (kx 1 0) L
 obtain ⟨o, ho⟩ : ∃ o, getS (kx 1 0) L = o := ⟨_, rfl⟩
 rw [ho] at HG hgh
 unfold optS at HG
 rw [hgh] at HG
 have hky : kx 1 0 = ky ⟨1, 0, hs', ha', v'⟩ := rfl
 rw [hky] at HG
 generalize oS o = so at HG
 have hs0 := M0.size
 have hsa := Ma.size
 have hb0 := blkl b0
 have hba := blkl ba
 replace b0 := hid (Ma.heap b0 fun h => h)
 replace ba := hid ba
 replace M0 := M0.trans' Ma
 clear hgh ho Ma hky
 dsimp only [encS]
 go_enter Tryz.func110, Tryz.ntmps110
 go_upto_region 3 with (go_at_call 105; refine HG.mono ?_; rintro e w1 ⟨rfl, M1⟩; obtain ⟨u1, W1, g1, k1, x1, X1, N1⟩ := put5z w1 so; obtain ⟨d2, e2⟩ := blkc x1)
 have hs1 := M1.size
 have hs2 := N1.size
 replace b0 := N1.heap (M1.heap b0.out fun h => h) fun h => h
 replace ba := N1.heap (M1.heap ba.out fun h => h) fun h => h
 replace M0 := (M0.trans' M1).trans' N1
 clear d0 e0 d1 e1 dz ez d2 e2 hwz hwa hw0 g1 k1 x1 X1 N1 M1 HG m1 bz
 have m2 := h.mod0 M0
 have HR := hid (fun w1 (M : CM W1 w1) => (rightZ 1 0 w1).mono fun e w' ⟨h1, h2⟩ => (⟨h1, Mod.trans' M h2⟩ : e = Ending.returned (.bool (decide (canS 1 0 = 1 ∧ canA 1 0 = 0))) ∧ CM W1 w'))
 have HL := hid (fun w1 (M : CM W1 w1) => (lastZ w1).mono fun e w' ⟨h1, h2⟩ => (⟨h1, Mod.trans' M h2⟩ : e = Ending.returned (.agg #[.int .i64 1, .int .i64 0]) ∧ CM W1 w'))
 replace ba := hid ba
 replace b0 := hid b0
 have HB := hid (fun w1 (M : CM W1 w1) => blkc (Mod.heap M ba.out fun h => h))
 rw [decide_eq_true (by decide)] at HR
 go_cut [23] (fun v W => v = .bool true ∧ Mod (fun _ => False) W1 W)
 case first =>
  refine cq_region (by kernel_rfl) (by kernel_rfl) ?_
  iterate 9 (refine wpQuiet_step (fun K hK => ?_); go_simp; first | (refine hK _ ?_; clear hK K) | (refine ⟨_, fun _ _ => rfl, hK _ ?_⟩; clear hK K) | (apply Exists.intro; refine ⟨fun wq hq => ?_, hK _ ?_⟩; (focus (first | (go_at_call 122; exact HR.out _ hq) | (go_at_call 73; exact HL.out _ hq) | (obtain ⟨d1, e1⟩ := HB.out _ hq; go_simp; try with_reducible rfl))); clear hK K))
  refine wpQuiet_nil ?_
  intro w1 M1
  go_wp2_with fail
  go_meet
  exact ⟨rfl, M1⟩
 case rest =>
  obtain ⟨rfl, M1⟩ := hcut
  clear HR HL HB
  go_wp2_with fail
  go_ret
  exact ⟨rfl, M0.trans' M1⟩
set_option maxHeartbeats 4000000 in
set_option maxRecDepth 100000 in
theorem putBZ_old (h : MemB w tb ab lv fv σ free root (d : Int) room many S) (hd : 2 ≤ d ∧ d ≤ 64) (hT : PT d S root L) (hr : Row L) (s : Sg) (hf : fit64 s.la) (hk : okKey s.ls s.la) (ho : hasK (ky s) L = true) :
  Calls Tryz.prog 110 #[.pointer (some ⟨tb, 0, none⟩), .agg (encS s).toArray] w fun e w' => e = .returned (.int .i64 0) ∧ PutQ7 w tb ab lv fv σ d room many (insL s L) w' := by
 obtain ⟨w0, hw0, b0, M0⟩ := boxS w s
 obtain ⟨d0, e0⟩ := blkc b0
 obtain ⟨wz, wa, hwz, hwa, bz, ba, Ma⟩ := put2 w0 s.ls s.la
 obtain ⟨dz, ez⟩ := blkc bz
 obtain ⟨d1, e1⟩ := blkc ba
 have m1 := (h.mod0 M0).mod0 Ma
 have HG := getBZ m1 hd.2 hT hr (cs := s.ls) (ca := s.la) hf
 have hgh := get_has (kx s.ls s.la) L
 obtain ⟨o, ho⟩ : ∃ o, getS (kx s.ls s.la) L = o := ⟨_, rfl⟩
 rw [ho] at HG hgh
 unfold optS at HG
 rw [hgh] at HG
 have hky : kx s.ls s.la = ky s := rfl
 rw [hky] at HG
 generalize oS o = so at HG
 have hs0 := M0.size
 have hsa := Ma.size
 have hb0 := blkl b0
 have hba := blkl ba
 replace b0 := hid (Ma.heap b0 fun h => h)
 replace ba := hid ba
 replace M0 := M0.trans' Ma
 clear hgh ho Ma hky
 dsimp only [encS]
 go_enter Tryz.func110, Tryz.ntmps110
 go_upto_region 3 with (go_at_call 105; refine HG.mono ?_; rintro e w1 ⟨rfl, M1⟩; obtain ⟨u1, W1, g1, k1, x1, X1, N1⟩ := put5z w1 so; obtain ⟨d2, e2⟩ := blkc x1)
 have hs1 := M1.size
 have hs2 := N1.size
 replace b0 := N1.heap (M1.heap b0.out fun h => h) fun h => h
 replace ba := N1.heap (M1.heap ba.out fun h => h) fun h => h
 replace M0 := (M0.trans' M1).trans' N1
 clear d0 e0 d1 e1 dz ez d2 e2 hwz hwa hw0 g1 k1 x1 X1 N1 M1 HG m1 bz
 have m2 := h.mod0 M0
 have HR := hid (fun w1 (M : CM W1 w1) => (rightZ s.ls s.la w1).mono fun e w' ⟨h1, h2⟩ => (⟨h1, Mod.trans' M h2⟩ : e = Ending.returned (.bool (decide (canS s.ls s.la = s.ls ∧ canA s.ls s.la = s.la))) ∧ CM W1 w'))
 have HL := hid (fun w1 (M : CM W1 w1) => (lastZ w1).mono fun e w' ⟨h1, h2⟩ => (⟨h1, Mod.trans' M h2⟩ : e = Ending.returned (.agg #[.int .i64 1, .int .i64 0]) ∧ CM W1 w'))
 replace ba := hid ba
 replace b0 := hid b0
 have HB := hid (fun w1 (M : CM W1 w1) => blkc (Mod.heap M ba.out fun h => h))
 rw [decide_eq_true ⟨hk.1, hk.2.1⟩] at HR
 have hx1 : (s.ls == 1) = false := by have := hk.2.2; simp; omega
 go_cut [23] (fun v W => v = .bool false ∧ Mod (fun _ => False) W1 W)
 case first =>
  refine cq_region (by kernel_rfl) (by kernel_rfl) ?_
  iterate 9 (refine wpQuiet_step (fun K hK => ?_); go_simp; first | (refine hK _ ?_; clear hK K) | (refine ⟨_, fun _ _ => rfl, hK _ ?_⟩; clear hK K) | (apply Exists.intro; refine ⟨fun wq hq => ?_, hK _ ?_⟩; (focus (first | (go_at_call 122; exact HR.out _ hq) | (go_at_call 73; exact HL.out _ hq) | (obtain ⟨d1, e1⟩ := HB.out _ hq; go_simp; try with_reducible rfl))); clear hK K))
  refine wpQuiet_nil ?_
  intro w1 M1
  go_wp2_with fail
  go_meet
  exact ⟨rfl, M1⟩
 case rest =>
  obtain ⟨rfl, M1⟩ := hcut
  clear HR HL HB
  have hs2 := hid (M0.trans' M1).size
  have PS := swapBZ (m2.mod0 M1) hd.2 hT hr s hf ho
  obtain ⟨d0, e0⟩ := blkc (M1.heap b0.out fun h => h)
  clear hx1
  go_wp2_with fail
  refine PS.mono ?_; rintro e w2 ⟨rfl, S', m3, p3, M3⟩
  go_wp2_with fail
  go_ret
  exact ⟨rfl, S', _, _, _, _, _, m3, p3, ((M0.trans' M1).mono fun _ h => h.elim).trans' M3, fun x hx => .inl hx⟩
set_option maxHeartbeats 4000000 in
set_option maxRecDepth 100000 in
theorem putBZ_full (h : MemB w tb ab lv fv σ free root (d : Int) room many S) (hd : 2 ≤ d ∧ d ≤ 64) (hT : PT d S root L) (hr : Row L) (s : Sg) (hf : fit64 s.la) (hk : okKey s.ls s.la) (ho : hasK (ky s) L = false) (hm : room ≤ many) :
  Calls Tryz.prog 110 #[.pointer (some ⟨tb, 0, none⟩), .agg (encS s).toArray] w fun e w' => e = .returned (.int .i64 50) ∧ Mod (fun _ => False) w w' := by
 obtain ⟨w0, hw0, b0, M0⟩ := boxS w s
 obtain ⟨d0, e0⟩ := blkc b0
 obtain ⟨wz, wa, hwz, hwa, bz, ba, Ma⟩ := put2 w0 s.ls s.la
 obtain ⟨dz, ez⟩ := blkc bz
 obtain ⟨d1, e1⟩ := blkc ba
 have m1 := (h.mod0 M0).mod0 Ma
 have HG := getBZ m1 hd.2 hT hr (cs := s.ls) (ca := s.la) hf
 have hgh := get_has (kx s.ls s.la) L
 obtain ⟨o, ho⟩ : ∃ o, getS (kx s.ls s.la) L = o := ⟨_, rfl⟩
 rw [ho] at HG hgh
 unfold optS at HG
 rw [hgh] at HG
 have hky : kx s.ls s.la = ky s := rfl
 rw [hky] at HG
 generalize oS o = so at HG
 have hs0 := M0.size
 have hsa := Ma.size
 have hb0 := blkl b0
 have hba := blkl ba
 replace b0 := hid (Ma.heap b0 fun h => h)
 replace ba := hid ba
 replace M0 := M0.trans' Ma
 clear hgh ho Ma hky
 dsimp only [encS]
 go_enter Tryz.func110, Tryz.ntmps110
 go_upto_region 3 with (go_at_call 105; refine HG.mono ?_; rintro e w1 ⟨rfl, M1⟩; obtain ⟨u1, W1, g1, k1, x1, X1, N1⟩ := put5z w1 so; obtain ⟨d2, e2⟩ := blkc x1)
 have hs1 := M1.size
 have hs2 := N1.size
 replace b0 := N1.heap (M1.heap b0.out fun h => h) fun h => h
 replace ba := N1.heap (M1.heap ba.out fun h => h) fun h => h
 replace M0 := (M0.trans' M1).trans' N1
 clear d0 e0 d1 e1 dz ez d2 e2 hwz hwa hw0 g1 k1 x1 X1 N1 M1 HG m1 bz
 have m2 := h.mod0 M0
 have HR := hid (fun w1 (M : CM W1 w1) => (rightZ s.ls s.la w1).mono fun e w' ⟨h1, h2⟩ => (⟨h1, Mod.trans' M h2⟩ : e = Ending.returned (.bool (decide (canS s.ls s.la = s.ls ∧ canA s.ls s.la = s.la))) ∧ CM W1 w'))
 have HL := hid (fun w1 (M : CM W1 w1) => (lastZ w1).mono fun e w' ⟨h1, h2⟩ => (⟨h1, Mod.trans' M h2⟩ : e = Ending.returned (.agg #[.int .i64 1, .int .i64 0]) ∧ CM W1 w'))
 replace ba := hid ba
 replace b0 := hid b0
 have HB := hid (fun w1 (M : CM W1 w1) => blkc (Mod.heap M ba.out fun h => h))
 rw [decide_eq_true ⟨hk.1, hk.2.1⟩] at HR
 have hx1 : (s.ls == 1) = false := by have := hk.2.2; simp; omega
 go_cut [23] (fun v W => v = .bool false ∧ Mod (fun _ => False) W1 W)
 case first =>
  refine cq_region (by kernel_rfl) (by kernel_rfl) ?_
  iterate 9 (refine wpQuiet_step (fun K hK => ?_); go_simp; first | (refine hK _ ?_; clear hK K) | (refine ⟨_, fun _ _ => rfl, hK _ ?_⟩; clear hK K) | (apply Exists.intro; refine ⟨fun wq hq => ?_, hK _ ?_⟩; (focus (first | (go_at_call 122; exact HR.out _ hq) | (go_at_call 73; exact HL.out _ hq) | (obtain ⟨d1, e1⟩ := HB.out _ hq; go_simp; try with_reducible rfl))); clear hK K))
  refine wpQuiet_nil ?_
  intro w1 M1
  go_wp2_with fail
  go_meet
  exact ⟨rfl, M1⟩
 case rest =>
  obtain ⟨rfl, M1⟩ := hcut
  clear HR HL HB
  have HT := hid (fun W (M : CM wc W) => (blkc ((m2.mod0 M1).mod0 M).t))
  obtain ⟨t0, t1⟩ := HT.out _ (Mod.refl _ _)
  have hge : decide (many ≥ room) = true := by simpa using hm
  clear hx1
  go_wp2_with fail
  refine cq_region (by kernel_rfl) (by kernel_rfl) ?_
  iterate 10 (refine wpQuiet_step (fun K hK => ?_); go_simp; first | (refine hK _ ?_; clear hK K) | (refine ⟨_, fun _ _ => rfl, hK _ ?_⟩; clear hK K) | (apply Exists.intro; refine ⟨fun wq hq => ?_, hK _ ?_⟩; (focus (first  | (obtain ⟨t0, t1⟩ := HT.out _ hq; go_simp; try with_reducible rfl))); clear hK K))
  refine wpQuiet_nil ?_
  intro w2 M2
  go_wp2_with fail
  go_ret
  exact ⟨rfl, M0.trans' (M1.trans' M2)⟩
end
end Go.Proofs.Bo
