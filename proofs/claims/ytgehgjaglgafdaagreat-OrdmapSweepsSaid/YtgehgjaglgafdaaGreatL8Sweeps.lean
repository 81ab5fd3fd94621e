import Derived.Test.YtgehgjaglgafdaaGreatG47
import Derived.Test.YtgehgjaglgafdaaGreatG43
set_option linter.unusedVariables false
set_option linter.unusedSimpArgs false
namespace Go.Proofs.Bo
open Go Go.RowKit
def encBo (b : Bool) : List Value := [.bool b]
theorem fitBo (cs : List Value) (h : Fit [.bool] cs) : ∃ b, encBo b = cs ∧ (fun _ => True) b := by
 obtain ⟨v, vs, rfl, ⟨n, rfl⟩, h2⟩ := h.cons_inv
 obtain rfl := h2.nil_inv
 exact ⟨n, rfl, trivial⟩
theorem RdS.bo {w W : World} {b o : Nat} {zs : List Bool} {k : Nat} (hc : ∀ i z, zs[i]? = some z → ∀ j u, (encBo z)[j]? = some u → w.cell? ⟨b, o + i * 1 + j, none⟩ = some u) (B : Below w.heap.size w W) (hk : k < zs.length) :
  W.cell? ⟨b, o + k, none⟩ = some (.bool zs[k]) := by
 have h := hc k zs[k] (by simp [hk]) 0 _ rfl
 rw [Nat.mul_one, Nat.add_zero] at h
 exact (B.cell (p := ⟨b, o + k, none⟩) (World.block_lt_of_cell? w _ h)).trans h
def Swp (K R : List Sg) : Prop := Row (K ++ R)
theorem Swp.step {K R : List Sg} {x : Sg} (h : Swp K (x :: R)) : getS (ky x) (K ++ x :: R) = some x ∧ hasK (ky x) (K ++ x :: R) = true ∧ delL (ky x) (K ++ x :: R) = K ++ R ∧ nearS true false (ky x) (K ++ R) = R.head? ∧ nearS true false (ky x) (K ++ x :: R) = R.head? ∧ Swp K R ∧ Swp (K ++ [x]) R := by
 obtain ⟨h1, h2, h3⟩ := List.pairwise_append.1 h.1
 have hP : ∀ y ∈ K, ky y < ky x := fun y hy => h3 y hy _ List.mem_cons_self
 have hR : ∀ y ∈ R, ky x < ky y := fun y hy => (List.pairwise_cons.1 h2).1 y hy
 refine ⟨get_mid (fun y hy => by have := hP y hy; omega) rfl, by unfold hasK; simp, ?_, near_high (fun y hy => Int.le_of_lt (hP y hy)) hR, ?_, ?_, ?_⟩
 ·unfold delL
  rw [List.filter_append, List.filter_cons, if_neg (by simp), List.filter_eq_self.2 fun y hy => by have := hP y hy; simp; omega, List.filter_eq_self.2 fun y hy => by have := hR y hy; simp; omega]
 ·have := near_high (P := K ++ [x]) (R := R) (k := ky x) (fun y hy => by
   rcases List.mem_append.1 hy with hy | hy
   ·exact Int.le_of_lt (hP y hy)
   ·obtain rfl := List.mem_singleton.1 hy; exact Int.le_refl _) hR
  rwa [List.append_assoc, List.singleton_append] at this
 ·exact ⟨h.1.sublist (List.Sublist.append_left (List.sublist_cons_self x R) K), fun s hs => h.2 s (by simp at hs ⊢; rcases hs with h | h; exact .inl h; exact .inr (.inr h))⟩
 ·unfold Swp; rw [List.append_assoc, List.singleton_append]; exact h
attribute [local irreducible] wpQuiet in
set_option maxRecDepth 100000 in
set_option maxHeartbeats 2000000 in
theorem sweeps8 (deg room : Int) (a : Option Addr) (len cap : Nat) (zs : List Op8) (ta : Option Addr) (tl tc : Nat) (bs : List Bool) (w : World) (hr : RdS encO8 7 w a len zs) (hG : ∀ z ∈ zs, GOp8 z) (ht : RdS encBo 1 w ta tl bs) :
  Calls Tryz.prog 3 #[.agg #[.int .i64 deg, .int .i64 room], .slice a len cap, .slice ta tl tc] w fun e w' => e = .returned (.bool true) ∧ Below w.heap.size w w' := by
 obtain ⟨w0, hw0, b0, M0, hs0⟩ := boxSe8 w deg room
 obtain ⟨x0, f0⟩ := blkc b0
 have B0 : Below w.heap.size w w0 := M0.to_below (Nat.le_refl _) fun _ h => h.elim
 replace hr := hr.below (by decide) B0
 replace ht := ht.below (by decide) B0
 replace hs0 := hid hs0
 by_cases hb : ¬ (rightD deg = true ∧ 0 ≤ room ∧ room ≤ 4096) ∨ 200 < len
 ·have P := madeM_no deg room a len cap w0 hb
  clear hb
  go_enter Tryz.func3, Tryz.ntmps3
  go_wp2_with fail
  refine P.mono ?_
  rintro e w1 ⟨rfl, B1⟩
  go_wp2_with fail
  refine (alive8 _).mono ?_
  rintro e w2 ⟨rfl, B2⟩
  go_wp2_with fail
  go_ret
  exact ⟨rfl, B0.trans ((B1.trans (B2.mono B1.size)).mono B0.size)⟩
 have hd : rightD deg = true := Classical.byContradiction fun h => hb (.inl fun h' => h h'.1)
 have hr0 : 0 ≤ room ∧ room ≤ 4096 := Classical.byContradiction fun h => hb (.inl fun h' => h h'.2)
 have hle : len ≤ 200 := by omega
 have P := madeM deg room a len cap zs w0 hr hG hd hr0 hle
 clear hb hd hr0 hle hr hG
 go_enter Tryz.func3, Tryz.ntmps3
 go_wp2_with fail
 refine P.mono ?_
 rintro e w1 ⟨mb, cb, d, v, L, c, rfl, F⟩
 clear P x0 f0
 obtain ⟨A, cap3, hv3, hA⟩ := F.2.1.slice
 subst hv3
 have hrow := mc_row F.1
 have hbd := mc_bound F.1
 have PK := bothD_seek F (-1) 0 (by unfold fit64; decide)
 rw [first_ceil hrow] at PK
 have hL64 : L.length ≤ 4096 := by omega
 replace hbd := hid hbd
 replace hrow := hid hrow
 go_wp2_with fail
 refine PK.mono ?_
 rintro e w6 ⟨rfl, F6, M6⟩
 clear PK F M6
 go_wp2_with fail
 go_loopw [11, 12] (fun n g W => ∃ (k : Nat) (K : List Sg), k ≤ L.length ∧ n = .int .i64 k ∧ g = .bool (L.drop k).head?.isSome ∧ Swp K (L.drop k) ∧ BothD (fun _ => False) w0 W mb cb d room (.slice A L.length cap3) (K ++ L.drop k) (standC (L.drop k).head?) L) (fun n _ _ => (L.length + 1 - intOf n).toNat)
 case atStart => exact ⟨0, [], by omega, rfl, by simp, by simpa [Swp] using hrow.out, by simpa using F6⟩
 case round =>
  clear F6
  obtain ⟨k, K, hk, rfl, rfl, hS, F⟩ := hrel
  by_cases hkl : k < L.length
  ·have eD : L.drop k = L[k] :: L.drop (k + 1) := (List.getElem_cons_drop hkl).symm
   rw [eD] at hS F ⊢
   obtain ⟨q1, q2, q3, q4, q5, q6, q7⟩ := hS.step
   have hfk : fit64 L[k].la := (hrow.out.2 _ (by simp)).2
   obtain ⟨g, rfl⟩ := hA (by omega)
   have HC := fun W (R : RowV W (.slice (some ⟨g, 0, none⟩) L.length cap3) L) => RowV.cells R hkl
   obtain ⟨x, hx⟩ : ∃ x, L[k] = x := ⟨_, rfl⟩
   obtain ⟨R, hR⟩ : ∃ R, L.drop (k + 1) = R := ⟨_, rfl⟩
   simp only [hx, hR] at F q1 q2 q3 q4 q5 q6 q7 hfk HC ⊢
   simp only [List.head?_cons, Option.isSome_some] at F ⊢
   have PS := mc_seg F.1
   rw [show (if (standC (some x)).on then getS (standC (some x)).key (K ++ x :: R) else none) = some x from q1] at PS
   have hnx : ∀ l, nearS true false (ky x) l = R.head? → curC (standC (some x)) (nearS true false (standC (some x)).key l) = standC R.head? ∧ ((standC (some x)).on && (nearS true false (standC (some x)).key l).isSome) = R.head?.isSome := fun l hl => by
    have e : (standC (some x)).key = ky x := rfl
    rw [e, hl]
    exact ⟨rfl, rfl⟩
   have hfin : ∀ (W : World) (K' : List Sg), Swp K' R → BothD (fun _ => False) w0 W mb cb d room (.slice (some ⟨g, 0, none⟩) L.length cap3) (K' ++ R) (standC R.head?) L → ∃ (k' : Nat) (K : List Sg), k' ≤ L.length ∧ Value.int .i64 ((k : Int) + 1) = .int .i64 k' ∧ Value.bool R.head?.isSome = .bool (L.drop k').head?.isSome ∧ Swp K (L.drop k') ∧ BothD (fun _ => False) w0 W mb cb d room (.slice (some ⟨g, 0, none⟩) L.length cap3) (K ++ L.drop k') (standC (L.drop k').head?) L := fun W K' hS' F' =>
    ⟨k + 1, K', hkl, by simp, by rw [hR], by rw [hR]; exact hS', by rw [hR]; exact F'⟩
   have hk64 : (k : Int) + 1 ≤ 65536 := by omega
   have hkm : (k : Int) < L.length := by omega
   have hlt1 : ¬ (L.length : Int) ≤ k := by omega
   clear hx hR eD hS
   replace HC := hid HC
   replace hnx := hid hnx
   replace hfin := hid hfin
   replace q4 := hid q4
   replace q5 := hid q5
   replace q6 := hid q6
   replace q7 := hid q7
   simp only [optS, oS, Option.getD_some, Option.isSome_some] at PS
   go_wp2_with fail
   refine PS.mono ?_
   rintro e w7 ⟨rfl, M7⟩
   replace F := F.mod0 M7
   obtain ⟨u4, W4, g4, k4, b4, B4, N4⟩ := put5s8 w7 x
   obtain ⟨d4, e4⟩ := blkc b4
   obtain ⟨d5, e5⟩ := blkc B4
   replace F := F.mod0 N4
   obtain ⟨c0, c1, c2, c3, c4⟩ := HC.out W4 F.2.1
   obtain ⟨ls', la', hs', ha', sv'⟩ := x
   simp only [encS] at k4 d5 ⊢
   dsimp only at c0 c1 c2 c3 c4
   clear PS M7
   go_wp2_with fail
   go_quiet (fail)
   have Nd : Mod (fun _ => False) W4 (W4.drewN nq) := (Mod.refl _ _).drewN _
   generalize W4.drewN nq = WA at Nd ⊢
   replace F := F.mod0 Nd
   replace B4 := Nd.heap B4 fun h => h
   clear d4 e4 d5 e5 g4 k4 b4 N4 c0 c1 c2 c3 c4 Nd hA hkm
   obtain ⟨d5, e5⟩ := blkc B4
   simp only [encS] at d5
   have e1 : IntKind.i64.wrap ((k : Int) + 1) = (k : Int) + 1 := by rw [IntKind.wrap_i64]; omega
   clear hk64
   by_cases hkt : k < tl
   ·obtain ⟨tb, o2, rfl, htc⟩ := ht.2.2 (by omega)
    have hkb : k < bs.length := by rw [ht.1]; exact hkt
    have t1 := RdS.bo htc (F.below) hkb
    have hkt' : (k : Int) < tl := by omega
    cases hbk : bs[k] with
    | true =>
     rw [hbk] at t1
     have PD := bothD_del F ls' la' hfk
     rw [show kx ls' la' = ky ⟨ls', la', hs', ha', sv'⟩ from rfl, q2, q3] at PD
     clear htc hkt hkb hbk ht q1 q2 q3 F
     go_wp2_with fail
     refine PD.mono ?_
     rintro e W3 ⟨rfl, F3, M3⟩
     clear PD t1 d5 e5 B4 M3
     have PP := bothD_next F3
     rw [(hnx.out _ q4.out).1, (hnx.out _ q4.out).2] at PP
     go_wp2_with fail
     refine PP.mono ?_
     rintro e W5 ⟨rfl, F5, M5⟩
     replace hfin := hid (hfin.out W5 K q6.out (F5))
     clear PP F5 M5
     go_wp2_with fail
     go_roundw
     case rel => exact hfin.out
     case measure => simp [intOf]; omega
    | false =>
     rw [hbk] at t1
     clear htc hkt hkb hbk ht q1 q2 q3
     have PP := bothD_next F
     rw [(hnx.out _ q5.out).1, (hnx.out _ q5.out).2] at PP
     go_wp2_with fail
     refine PP.mono ?_
     rintro e W5 ⟨rfl, F5, M5⟩
     replace hfin := hid (hfin.out W5 (K ++ [⟨ls', la', hs', ha', sv'⟩]) q7.out (by rw [List.append_assoc, List.singleton_append]; exact F5))
     clear PP F5 M5
     go_wp2_with fail
     go_roundw
     case rel => exact hfin.out
     case measure => simp [intOf]; omega
   ·have hkt' : ¬ (k : Int) < tl := by omega
    clear hkt ht q1 q2 q3
    have PP := bothD_next F
    rw [(hnx.out _ q5.out).1, (hnx.out _ q5.out).2] at PP
    go_wp2_with fail
    refine PP.mono ?_
    rintro e W5 ⟨rfl, F5, M5⟩
    replace hfin := hid (hfin.out W5 (K ++ [⟨ls', la', hs', ha', sv'⟩]) q7.out (by rw [List.append_assoc, List.singleton_append]; exact F5))
    clear PP F5 M5
    go_wp2_with fail
    go_roundw
    case rel => exact hfin.out
    case measure => simp [intOf]; omega
  ·obtain rfl : k = L.length := by omega
   simp only [List.drop_length, List.head?_nil, Option.isSome_none, List.append_nil] at F ⊢
   have PS := mc_seg F.1
   rw [show (if (standC none).on then getS (standC none).key K else none) = none from rfl] at PS
   simp only [optS, oS, zSg, Option.getD_none, Option.isSome_none] at PS
   clear hkl hS hA
   go_wp2_with fail
   refine PS.mono ?_
   rintro e w7 ⟨rfl, M7⟩
   replace F := F.mod0 M7
   obtain ⟨u4, W4, g4, k4, b4, B4, N4⟩ := put5s8 w7 ⟨0, 0, 0, 0, 0⟩
   obtain ⟨d4, e4⟩ := blkc b4
   replace F := F.mod0 N4
   clear PS M7
   go_wp2_with fail
   refine (alive8 _).mono ?_
   rintro e w8 ⟨rfl, B8⟩
   replace F := F.mod0 (Mod.of_below B8)
   have eL : ((L.length : Int) == (L.length : Int)) = true := by simp
   clear d4 e4 g4 k4 b4 B4 N4 B8
   go_wp2_with fail
   go_ret
   exact ⟨rfl, B0.trans (F.below.mono B0.size)⟩
open Go Go.RowKit
theorem sweeps8r (cs : Array Value) (a : Option Addr) (len cap : Nat) (zs : List Op8) (ta : Option Addr) (tl tc : Nat) (bs : List Bool) (w : World) (fit : Fit [.int .i64, .int .i64] cs.toList) (hr : RdS encO8 7 w a len zs) (hG : ∀ z ∈ zs, GOp8 z) (_ : len * 56 ≤ 140737488351232) (ht : RdS encBo 1 w ta tl bs) (_ : ∀ z ∈ bs, True) (_ : tl * 1 ≤ 140737488351232) :
  Calls Tryz.prog 3 #[.agg cs, .slice a len cap, .slice ta tl tc] w fun e w' => e = .returned (.bool true) ∧ Below w.heap.size w w' := by
 obtain ⟨deg, room, rfl, _, _⟩ := seatArg8 fit
 exact sweeps8 deg room a len cap zs ta tl tc bs w hr hG ht
end Go.Proofs.Bo
