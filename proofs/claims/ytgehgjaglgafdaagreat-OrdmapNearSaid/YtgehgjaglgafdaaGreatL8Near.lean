import Derived.Test.YtgehgjaglgafdaaGreatG43
import Derived.Test.YtgehgjaglgafdaaGreatG38
import Derived.Test.YtgehgjaglgafdaaGreatG03
import Derived.Test.YtgehgjaglgafdaaGreatG44
set_option linter.unusedVariables false
set_option linter.unusedSimpArgs false
namespace Go.Proofs.Bo
open Go Go.RowKit
theorem fitCut {cs : Array Value} (h : Fit [.int .i64, .int .i64] cs.toList) : ∃ s a : Int, cs = #[.int .i64 s, .int .i64 a] ∧ fit64 a := by
 obtain ⟨v, vs, e, ⟨n, rfl, hn⟩, h2⟩ := h.cons_inv
 obtain ⟨v2, vs2, rfl, ⟨n2, rfl, hn2⟩, h3⟩ := h2.cons_inv
 obtain rfl := h3.nil_inv
 exact ⟨n, n2, by apply Array.toList_inj.1; rw [e], wf64 hn2⟩
theorem get_find (k : Int) (L : List Sg) : (getS k L = none ∧ findI k L = -1) ∨ ∃ (i : Nat) (h : i < L.length), getS k L = some L[i] ∧ findI k L = i := by
 unfold getS
 cases hf : L.find? (fun x => decide (ky x = k)) with
 | none =>
  refine .inl ⟨rfl, findI_none L fun y hy => ?_⟩
  have := List.find?_eq_none.1 hf y hy
  simpa using this
 | some x =>
  obtain ⟨h1, pre, rest, h2, h3⟩ := List.find?_eq_some_iff_append.1 hf
  subst h2
  refine .inr ⟨pre.length, by simp, by simp, findI_pre pre rest (fun y hy => ?_) (by simpa using h1)⟩
  have := h3 y hy
  simpa using this
set_option maxHeartbeats 4000000 in
set_option maxRecDepth 100000 in
theorem near8 (deg room : Int) (a : Option Addr) (len cap : Nat) (zs : List Op8) (cc : Array Value) (w : World) (hr : RdS encO8 7 w a len zs) (hG : ∀ z ∈ zs, GOp8 z) (hl : len * 56 ≤ 140737488351232) (hc : Fit [.int .i64, .int .i64] cc.toList) :
  Calls Tryz.prog 5 #[.agg #[.int .i64 deg, .int .i64 room], .slice a len cap, .agg cc] w fun e w' => e = .returned (.bool true) ∧ Below w.heap.size w w' := by
 obtain ⟨cs, ca, rfl, hf⟩ := fitCut hc
 clear hc
 obtain ⟨wS, hwS, bS, MS, hsS⟩ := boxSe8 w deg room
 obtain ⟨w0, hw0, b0, M0⟩ := boxC wS cs ca
 have bS0 := M0.heap bS fun h => h
 obtain ⟨xS, yS⟩ := blkc bS0
 replace M0 := MS.trans' M0
 replace hr := hr.below (by decide) (M0.to_below (Nat.le_refl _) fun _ h => h.elim)
 have B0 : Below w.heap.size w w0 := M0.to_below (Nat.le_refl _) fun _ h => h.elim
 clear bS bS0 MS
 replace hsS := hid hsS
 by_cases hb : ¬ (rightD deg = true ∧ 0 ≤ room ∧ room ≤ 4096) ∨ 200 < len
 ·have P := madeM_no deg room a len cap w0 hb
  clear hb
  go_enter Tryz.func5, Tryz.ntmps5
  go_wp2_with fail
  refine P.mono ?_
  rintro e w1 ⟨rfl, B1⟩
  go_wp2_with fail
  refine (alive8 _).mono ?_
  rintro e w2 ⟨rfl, B2⟩
  go_wp2_with fail
  go_ret
  exact ⟨rfl, B0.trans ((B1.trans (B2.mono B1.size)).mono B0.size)⟩
 have hd : rightD deg = true := Classical.byContradiction fun h => hb (.inl fun h' => h h'.1)
 have hr0 : 0 ≤ room ∧ room ≤ 4096 := Classical.byContradiction fun h => hb (.inl fun h' => h h'.2)
 have hle : len ≤ 200 := by omega
 have P := madeM deg room a len cap zs w0 hr hG hd hr0 hle
 clear hb
 go_enter Tryz.func5, Tryz.ntmps5
 go_wp2_with fail
 refine P.mono ?_
 rintro e w1 ⟨tb, cb, d, v, L, c0, rfl, F1⟩
 clear hr hG hl P xS yS
 have b1 := F1.2.2.2.1.heap b0 fun h => h
 obtain ⟨d1, e1⟩ := blkc b1
 go_wp2_with fail
 obtain ⟨w2, hw2, bf, M2⟩ : ∃ w2, w1.alloc (.cells (#[.func (.func 18) #[.pointer (some ⟨tb, 0, none⟩)] #[], .func (.func 19) #[.pointer (some ⟨tb, 0, none⟩)] #[], .func (.func 20) #[.pointer (some ⟨tb, 0, none⟩)] #[], .func (.func 21) #[.pointer (some ⟨tb, 0, none⟩)] #[]]) 43) = w2 ∧
   w2.heap[w1.heap.size]? = some (.cells (#[.func (.func 18) #[.pointer (some ⟨tb, 0, none⟩)] #[], .func (.func 19) #[.pointer (some ⟨tb, 0, none⟩)] #[], .func (.func 20) #[.pointer (some ⟨tb, 0, none⟩)] #[], .func (.func 21) #[.pointer (some ⟨tb, 0, none⟩)] #[]]) 43 (0, 0)) ∧ Mod (fun _ => False) w1 w2 := ⟨_, rfl, alloc_0 _ _, (Mod.refl _ _).alloc _⟩
 rw [hw2]
 replace F1 := F1.mod0 M2
 clear d1 e1 b1 hw2 M2
 have hbL := mc_bound F1.1
 have hrow := mc_row F1.1
 obtain ⟨A, c, hv, hA⟩ := F1.2.1.slice
 subst hv
 replace hbL := hid hbL
 replace hrow := hid hrow
 go_loopw [45] (fun c1 W => ∃ k : Nat, k ≤ 4 ∧ c1 = .int .i64 k ∧ BothD (fun _ => False) w0 W tb cb d room (.slice A L.length c) L c0 L ∧ W.heap[w1.heap.size]? = some (.cells (#[.func (.func 18) #[.pointer (some ⟨tb, 0, none⟩)] #[], .func (.func 19) #[.pointer (some ⟨tb, 0, none⟩)] #[], .func (.func 20) #[.pointer (some ⟨tb, 0, none⟩)] #[], .func (.func 21) #[.pointer (some ⟨tb, 0, none⟩)] #[]]) 43 (0, 0))) (fun c1 _ => (4 - intOf c1).toNat)
 case atStart => exact ⟨0, by omega, rfl, F1, bf⟩
 case round =>
  clear F1 bf
  obtain ⟨k, hk, rfl, F, bf⟩ := hrel
  have b1 := F.2.2.2.1.heap b0 fun h => h
  by_cases hlt : k < 4
  ·obtain ⟨d1, e1⟩ := blkc b1
   obtain ⟨d2, e2⟩ := blkc bf
   have P0 := om_floor F.1.om cs ca hf
   have P1 := om_lower F.1.om cs ca hf
   have P2 := om_ceil F.1.om cs ca hf
   have P3 := om_high F.1.om cs ca hf
   have Q0 := hid (fun W (G : BothD (fun _ => False) w0 W tb cb d room (.slice A L.length c) L c0 L) => (show Calls Tryz.prog 22 #[.slice A L.length c, .agg #[.int .i64 cs, .int .i64 ca], .int .i64 0] W _ from nearR false true G.2.1 hrow.out (by have := hbL.out; omega) cs ca hf))
   have Q1 := hid (fun W (G : BothD (fun _ => False) w0 W tb cb d room (.slice A L.length c) L c0 L) => (show Calls Tryz.prog 22 #[.slice A L.length c, .agg #[.int .i64 cs, .int .i64 ca], .int .i64 1] W _ from nearR false false G.2.1 hrow.out (by have := hbL.out; omega) cs ca hf))
   have Q2 := hid (fun W (G : BothD (fun _ => False) w0 W tb cb d room (.slice A L.length c) L c0 L) => (show Calls Tryz.prog 22 #[.slice A L.length c, .agg #[.int .i64 cs, .int .i64 ca], .int .i64 2] W _ from nearR true true G.2.1 hrow.out (by have := hbL.out; omega) cs ca hf))
   have Q3 := hid (fun W (G : BothD (fun _ => False) w0 W tb cb d room (.slice A L.length c) L c0 L) => (show Calls Tryz.prog 22 #[.slice A L.length c, .agg #[.int .i64 cs, .int .i64 ca], .int .i64 3] W _ from nearR true false G.2.1 hrow.out (by have := hbL.out; omega) cs ca hf))
   have hfin : ∀ k' : Nat, k' ≤ 4 → ∀ W, Mod (fun _ => False) wr W → BothD (fun _ => False) w0 W tb cb d room (.slice A L.length c) L c0 L → ∃ k : Nat, k ≤ 4 ∧ Value.int .i64 k' = .int .i64 k ∧ BothD (fun _ => False) w0 W tb cb d room (.slice A L.length c) L c0 L ∧ W.heap[w1.heap.size]? = some (.cells (#[.func (.func 18) #[.pointer (some ⟨tb, 0, none⟩)] #[], .func (.func 19) #[.pointer (some ⟨tb, 0, none⟩)] #[], .func (.func 20) #[.pointer (some ⟨tb, 0, none⟩)] #[], .func (.func 21) #[.pointer (some ⟨tb, 0, none⟩)] #[]]) 43 (0, 0)) :=
    fun k' hk' W M G => ⟨k', hk', rfl, G, M.heap bf fun h => h⟩
   replace hfin := hid hfin
   clear bf
   generalize nearS false true (kx cs ca) L = o0, nearS false false (kx cs ca) L = o1, nearS true true (kx cs ca) L = o2, nearS true false (kx cs ca) L = o3 at P0 P1 P2 P3 Q0 Q1 Q2 Q3
   rcases (show k = 0 ∨ k = 1 ∨ k = 2 ∨ k = 3 by omega) with rfl | rfl | rfl | rfl
   all_goals
    go_wp2_with fail
    first
     | (refine P0.mono ?_; clear P0 P1 P2 P3 Q1 Q2 Q3; have P0 := Q0; clear Q0; clear o1 o2 o3)
     | (refine P1.mono ?_; clear P0 P1 P2 P3 Q0 Q2 Q3; have P0 := Q1; clear Q1; clear o0 o2 o3)
     | (refine P2.mono ?_; clear P0 P1 P2 P3 Q1 Q0 Q3; have P0 := Q2; clear Q2; clear o0 o1 o3)
     | (refine P3.mono ?_; clear P0 P1 P2 P3 Q1 Q2 Q0; have P0 := Q3; clear Q3; clear o0 o1 o2)
    rintro e w3 ⟨rfl, M3⟩
    rename Option Sg => oo
    obtain ⟨u4, W4, g4, k4, b4, B4, N4⟩ := put5s8 w3 (oS oo)
    replace F := (F.mod0 M3).mod0 N4
    replace P0 := P0.out _ F
    have M4 := M3.trans' N4
    obtain ⟨d4, e4⟩ := blkc b4
    obtain ⟨d5, e5⟩ := blkc (M4.heap b1 fun h => h)
    clear M3 N4 d1 e1 d2 e2
    unfold optS
    go_wp2_with fail
    refine P0.mono ?_
    rintro e w5 ⟨rfl, M5⟩
    obtain ⟨u6, W6, g6, k6, b6, B6, N6⟩ := put5s8 w5 (oS oo)
    replace F := (F.mod0 M5).mod0 N6
    have M6 := (M4.trans' M5).trans' N6
    obtain ⟨d6, e6⟩ := blkc b6
    obtain ⟨d7, e7⟩ := blkc B6
    obtain ⟨d8, e8⟩ := blkc (N6.heap (M5.heap B4 fun h => h) fun h => h)
    clear P0 d4 e4 d5 e5 g4 k4 M4 M5 N6
    dsimp only [encS] at d7 d8
    replace hfin := hid (fun k' hk' => hfin.out k' hk' _ M6 F)
    unfold optS
    go_wp2_with fail
    go_roundw
    case rel => exact hfin.out _ (by decide)
    case measure => simp [intOf]
  ·obtain rfl : k = 4 := by omega
   clear hlt hk bf
   obtain ⟨d1, e1⟩ := blkc b1
   have PG := om_get F.1.om cs ca hf
   have PF := hid (fun W (G : BothD (fun _ => False) w0 W tb cb d room (.slice A L.length c) L c0 L) => findR G.2.1 hrow.out (by have := hbL.out; omega) cs ca hf)
   have PH := hid (fun W (G : BothD (fun _ => False) w0 W tb cb d room (.slice A L.length c) L c0 L) => om_first G.1.om)
   have PL := hid (fun W (G : BothD (fun _ => False) w0 W tb cb d room (.slice A L.length c) L c0 L) => om_last G.1.om)
   have GF := get_find (kx cs ca) L
   have hL65 : L.length ≤ 65536 := by have := hbL.out; omega
   replace hL65 := hid hL65
   by_cases hL0 : L = []
   ·subst hL0
    simp only [getS, findI, List.find?_nil, List.head?_nil, List.getLast?_nil, List.length_nil] at *
    simp only [optS, oS, zSg, Option.getD_none, Option.isSome_none] at *
    clear GF hA
    go_wp2_with fail
    refine PG.mono ?_
    rintro e w3 ⟨rfl, M3⟩
    obtain ⟨u4, W4, g4, k4, b4, B4, N4⟩ := put5s8 w3 ⟨0, 0, 0, 0, 0⟩
    replace F := (F.mod0 M3).mod0 N4
    replace PF := PF.out _ F
    obtain ⟨d4, e4⟩ := blkc b4
    replace b1 := N4.heap (M3.heap b1 fun h => h) fun h => h
    obtain ⟨d5, e5⟩ := blkc b1
    clear N4 M3 d1 e1
    go_wp2_with fail
    refine PF.mono ?_
    rintro e w5 ⟨rfl, M5⟩
    replace F := F.mod0 M5
    replace PH := PH.out _ F
    go_wp2_with fail
    refine PH.mono ?_
    rintro e w6 ⟨rfl, M6⟩
    obtain ⟨u7, W7, g7, k7, b7, B7, N7⟩ := put5s8 w6 ⟨0, 0, 0, 0, 0⟩
    replace F := (F.mod0 M6).mod0 N7
    replace PL := PL.out _ F
    obtain ⟨d7, e7⟩ := blkc b7
    replace B4 := N7.heap (M6.heap (M5.heap B4 fun h => h) fun h => h) fun h => h
    clear PH PF d4 e4 d5 e5 g4 k4
    go_wp2_with fail
    refine PL.mono ?_
    rintro e w8 ⟨rfl, M8⟩
    obtain ⟨u9, W9, g9, k9, b9, B9, N9⟩ := put5s8 w8 ⟨0, 0, 0, 0, 0⟩
    replace F := (F.mod0 M8).mod0 N9
    obtain ⟨d9, e9⟩ := blkc b9
    replace B4 := N9.heap (M8.heap B4 fun h => h) fun h => h
    replace B7 := N9.heap (M8.heap B7 fun h => h) fun h => h
    obtain ⟨c4, f4⟩ := blkc B4
    obtain ⟨c7, f7⟩ := blkc B7
    obtain ⟨c9, f9⟩ := blkc B9
    clear PL d7 e7 g7 k7
    dsimp only [encS] at c4 c7 c9
    go_wp2_with fail
    go_quiet (fail)
    go_wp2_with fail
    have Nd : Mod (fun _ => False) W9 (W9.drewN nq) := (Mod.refl _ _).drewN _
    generalize W9.drewN nq = WA at Nd ⊢
    replace B4 := Nd.heap B4 fun h => h
    replace B7 := Nd.heap B7 fun h => h
    replace B9 := Nd.heap B9 fun h => h
    replace F := F.mod0 Nd
    have FB := F.below
    clear F
    refine wp_region_head_quiet (by kernel_rfl) rfl (by kernel_rfl) (by kernel_rfl) (fun K hK => ?_)
    go_simp
    refine (alive8 _).mono ?_
    rintro e WB ⟨rfl, BB⟩
    replace BB : Below WA.heap.size WA WB := ⟨BB.os, BB.tape, BB.output, BB.size, BB.block⟩
    obtain ⟨t1, t2⟩ := blkc ((BB.block _ (blkl B4)).trans B4)
    obtain ⟨t3, t4⟩ := blkc ((BB.block _ (blkl B7)).trans B7)
    obtain ⟨t5, t6⟩ := blkc ((BB.block _ (blkl B9)).trans B9)
    dsimp only [encS] at t1 t3 t5
    replace FB := FB.trans (BB.mono FB.size)
    clear B4 B7 B9
    refine hK _ _ ?_
    clear hK K
    repeat (any_goals (first | go_big_quiet_step (fail) | quiet_step (fail)))
    refine wpQuiet_nil ?_
    rintro WC ⟨nc, rfl⟩
    go_wp2_with fail
    go_ret
    exact ⟨rfl, pw_below_drewN' (B0.trans (FB.mono B0.size)) nc⟩
   ·obtain ⟨m, hm⟩ : ∃ m, L.length = m + 1 := ⟨L.length - 1, by have := List.length_pos_iff.2 hL0; omega⟩
    obtain ⟨g, rfl⟩ := hA (by omega)
    rw [show L.head? = some L[0] from by rw [List.head?_eq_getElem?]; simp [hm]] at PH
    rw [show L.getLast? = some L[m] from by rw [List.getLast?_eq_getElem?]; simp [hm]] at PL
    have HR := hid (fun W (G : BothD (fun _ => False) w0 W tb cb d room (.slice (some ⟨g, 0, none⟩) L.length c) L c0 L) => And.intro (RowV.cells G.2.1 (show 0 < L.length by omega)) (RowV.cells G.2.1 (show m < L.length by omega)))
    have HR2 := hid (fun W (G : BothD (fun _ => False) w0 W tb cb d room (.slice (some ⟨g, 0, none⟩) L.length c) L c0 L) (i : Nat) (hi : i < L.length) => RowV.cells G.2.1 hi)
    simp only [optS, oS, zSg, Option.getD_some, Option.isSome_some] at PH PL
    generalize L[0] = x0, L[m] = xm at PH PL HR
    have hm0 : (0 : Int) < (m : Int) + 1 := by omega
    have hm64 : (m : Int) + 1 ≤ 65536 := by have := hL65.out; omega
    rcases GF with ⟨ga, gb⟩ | ⟨i, hi, ga, gb⟩
    ·rw [ga] at PG
     rw [gb] at PF
     simp only [optS, oS, zSg, Option.getD_none, Option.isSome_none] at PG
     clear ga gb HR2 hA hL0
     have hLi : (L.length : Int) = (m : Int) + 1 := by omega
     simp only [hm] at PF PH PL HR F ⊢
     replace hm := hid hm
     clear hLi
     go_wp2_with fail
     refine PG.mono ?_
     rintro e w3 ⟨rfl, M3⟩
     obtain ⟨u4, W4, g4, k4, b4, B4, N4⟩ := put5s8 w3 ⟨0, 0, 0, 0, 0⟩
     replace F := (F.mod0 M3).mod0 N4
     replace PF := PF.out _ F
     obtain ⟨d4, e4⟩ := blkc b4
     replace b1 := N4.heap (M3.heap b1 fun h => h) fun h => h
     obtain ⟨d5, e5⟩ := blkc b1
     clear N4 M3 d1 e1
     go_wp2_with fail
     refine PF.mono ?_
     rintro e w5 ⟨rfl, M5⟩
     replace F := F.mod0 M5
     replace PH := PH.out _ F
     go_wp2_with fail
     refine PH.mono ?_
     rintro e w6 ⟨rfl, M6⟩
     obtain ⟨u7, W7, g7, k7, b7, B7, N7⟩ := put5s8 w6 x0
     replace F := (F.mod0 M6).mod0 N7
     replace PL := PL.out _ F
     obtain ⟨d7, e7⟩ := blkc b7
     replace B4 := N7.heap (M6.heap (M5.heap B4 fun h => h) fun h => h) fun h => h
     clear PH PF d4 e4 d5 e5 g4 k4
     go_wp2_with fail
     refine PL.mono ?_
     rintro e w8 ⟨rfl, M8⟩
     obtain ⟨u9, W9, g9, k9, b9, B9, N9⟩ := put5s8 w8 xm
     replace F := (F.mod0 M8).mod0 N9
     obtain ⟨d9, e9⟩ := blkc b9
     replace B4 := N9.heap (M8.heap B4 fun h => h) fun h => h
     replace B7 := N9.heap (M8.heap B7 fun h => h) fun h => h
     obtain ⟨c4, f4⟩ := blkc B4
     obtain ⟨c7, f7⟩ := blkc B7
     obtain ⟨c9, f9⟩ := blkc B9
     clear PL d7 e7 g7 k7
     dsimp only [encS] at c4 c7 c9
     go_wp2_with fail
     go_quiet (fail)
     go_wp2_with fail
     have Nd : Mod (fun _ => False) W9 (W9.drewN nq) := (Mod.refl _ _).drewN _
     generalize W9.drewN nq = WA at Nd ⊢
     replace B4 := Nd.heap B4 fun h => h
     replace B7 := Nd.heap B7 fun h => h
     replace B9 := Nd.heap B9 fun h => h
     replace F := F.mod0 Nd
     have FB := F.below
     refine wp_region_head_quiet (by kernel_rfl) rfl (by kernel_rfl) (by kernel_rfl) (fun K hK => ?_)
     go_simp
     refine (alive8 _).mono ?_
     rintro e WB ⟨rfl, BB⟩
     replace BB : Below WA.heap.size WA WB := ⟨BB.os, BB.tape, BB.output, BB.size, BB.block⟩
     obtain ⟨t1, t2⟩ := blkc ((BB.block _ (blkl B4)).trans B4)
     obtain ⟨t3, t4⟩ := blkc ((BB.block _ (blkl B7)).trans B7)
     obtain ⟨t5, t6⟩ := blkc ((BB.block _ (blkl B9)).trans B9)
     dsimp only [encS] at t1 t3 t5
     obtain ⟨⟨r0, r1, r2, r3, r4⟩, r5, r6, r7, r8, r9⟩ := HR.out _ (F.mod0 (Mod.of_below BB))
     simp only [Nat.zero_mul, Nat.zero_add] at r0 r1 r2 r3 r4
     replace FB := FB.trans (BB.mono FB.size)
     clear B4 B7 B9 F
     refine hK _ _ ?_
     clear hK K
     repeat (any_goals (first | go_big_quiet_step (fail) | quiet_step (fail)))
     refine wpQuiet_nil ?_
     rintro WC ⟨nc, rfl⟩
     go_wp2_with fail
     go_ret
     exact ⟨rfl, pw_below_drewN' (B0.trans (FB.mono B0.size)) nc⟩
    ·rw [ga] at PG
     rw [gb] at PF
     simp only [optS, oS, zSg, Option.getD_some, Option.isSome_some] at PG
     have HRi := hid (fun W G => HR2.out W G i hi)
     generalize L[i] = xi at PG HRi
     have hil : (i : Int) < (m : Int) + 1 := by omega
     clear ga gb HR2 hA hL0
     simp only [hm] at PF PH PL HR HRi F ⊢
     replace hm := hid hm
     go_wp2_with fail
     refine PG.mono ?_
     rintro e w3 ⟨rfl, M3⟩
     obtain ⟨u4, W4, g4, k4, b4, B4, N4⟩ := put5s8 w3 xi
     replace F := (F.mod0 M3).mod0 N4
     replace PF := PF.out _ F
     obtain ⟨d4, e4⟩ := blkc b4
     replace b1 := N4.heap (M3.heap b1 fun h => h) fun h => h
     obtain ⟨d5, e5⟩ := blkc b1
     clear N4 M3 d1 e1
     go_wp2_with fail
     refine PF.mono ?_
     rintro e w5 ⟨rfl, M5⟩
     replace F := F.mod0 M5
     replace PH := PH.out _ F
     go_wp2_with fail
     refine PH.mono ?_
     rintro e w6 ⟨rfl, M6⟩
     obtain ⟨u7, W7, g7, k7, b7, B7, N7⟩ := put5s8 w6 x0
     replace F := (F.mod0 M6).mod0 N7
     replace PL := PL.out _ F
     obtain ⟨d7, e7⟩ := blkc b7
     replace B4 := N7.heap (M6.heap (M5.heap B4 fun h => h) fun h => h) fun h => h
     clear PH PF d4 e4 d5 e5 g4 k4
     go_wp2_with fail
     refine PL.mono ?_
     rintro e w8 ⟨rfl, M8⟩
     obtain ⟨u9, W9, g9, k9, b9, B9, N9⟩ := put5s8 w8 xm
     replace F := (F.mod0 M8).mod0 N9
     obtain ⟨d9, e9⟩ := blkc b9
     replace B4 := N9.heap (M8.heap B4 fun h => h) fun h => h
     replace B7 := N9.heap (M8.heap B7 fun h => h) fun h => h
     obtain ⟨c4, f4⟩ := blkc B4
     obtain ⟨c7, f7⟩ := blkc B7
     obtain ⟨c9, f9⟩ := blkc B9
     clear PL d7 e7 g7 k7
     dsimp only [encS] at c4 c7 c9
     obtain ⟨i0, i1, i2, i3, i4⟩ := HRi.out _ F
     go_wp2_with fail
     go_quiet (fail)
     go_wp2_with fail
     have Nd : Mod (fun _ => False) W9 (W9.drewN nq) := (Mod.refl _ _).drewN _
     generalize W9.drewN nq = WA at Nd ⊢
     replace B4 := Nd.heap B4 fun h => h
     replace B7 := Nd.heap B7 fun h => h
     replace B9 := Nd.heap B9 fun h => h
     replace F := F.mod0 Nd
     have FB := F.below
     refine wp_region_head_quiet (by kernel_rfl) rfl (by kernel_rfl) (by kernel_rfl) (fun K hK => ?_)
     go_simp
     refine (alive8 _).mono ?_
     rintro e WB ⟨rfl, BB⟩
     replace BB : Below WA.heap.size WA WB := ⟨BB.os, BB.tape, BB.output, BB.size, BB.block⟩
     obtain ⟨t1, t2⟩ := blkc ((BB.block _ (blkl B4)).trans B4)
     obtain ⟨t3, t4⟩ := blkc ((BB.block _ (blkl B7)).trans B7)
     obtain ⟨t5, t6⟩ := blkc ((BB.block _ (blkl B9)).trans B9)
     dsimp only [encS] at t1 t3 t5
     obtain ⟨⟨r0, r1, r2, r3, r4⟩, r5, r6, r7, r8, r9⟩ := HR.out _ (F.mod0 (Mod.of_below BB))
     simp only [Nat.zero_mul, Nat.zero_add] at r0 r1 r2 r3 r4
     replace FB := FB.trans (BB.mono FB.size)
     clear B4 B7 B9 F
     refine hK _ _ ?_
     clear hK K
     repeat (any_goals (first | go_big_quiet_step (fail) | quiet_step (fail)))
     refine wpQuiet_nil ?_
     rintro WC ⟨nc, rfl⟩
     go_wp2_with fail
     go_ret
     exact ⟨rfl, pw_below_drewN' (B0.trans (FB.mono B0.size)) nc⟩
theorem near8r (cs : Array Value) (a : Option Addr) (len cap : Nat) (zs : List Op8) (cc : Array Value) (w : World) (fit : Fit [.int .i64, .int .i64] cs.toList) (hr : RdS encO8 7 w a len zs) (hG : ∀ z ∈ zs, GOp8 z) (hl : len * 56 ≤ 140737488351232) (hc : Fit [.int .i64, .int .i64] cc.toList) :
  Calls Tryz.prog 5 #[.agg cs, .slice a len cap, .agg cc] w fun e w' => e = .returned (.bool true) ∧ Below w.heap.size w w' := by
 obtain ⟨deg, room, rfl, _, _⟩ := seatArg8 fit
 exact near8 deg room a len cap zs cc w hr hG hl hc
end Go.Proofs.Bo
