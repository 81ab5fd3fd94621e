import Derived.Test.YtgehgjaglgafdaaGreatG47
import Derived.Test.YtgehgjaglgafdaaGreatG43
set_option linter.unusedVariables false
set_option linter.unusedSimpArgs false
namespace Go.Proofs.Bo
open Go Go.RowKit
theorem last_take {L : List Sg} {k : Nat} (h : k < L.length) : (L.take (k + 1)).getLast? = some L[k] := by
 rw [List.take_succ_eq_append_getElem h]; exact List.getLast?_concat
theorem at_key {L : List Sg} (hr : Row L) {k : Nat} (h : k < L.length) : nearS true true (ky L[k]) L = some L[k] ∧ getS (ky L[k]) L = some L[k] ∧ nearS false false (ky L[k]) L = (L.take k).getLast? ∧ nearS true false (ky L[k]) L = L[k + 1]? := by
 have e : L = L.take k ++ L[k] :: L.drop (k + 1) := by rw [List.getElem_cons_drop h, List.take_append_drop]
 have hs := hr.1
 rw [e] at hs
 obtain ⟨h1, h2, h3⟩ := List.pairwise_append.1 hs
 have hP : ∀ y ∈ L.take k, ky y < ky L[k] := fun y hy => h3 y hy _ List.mem_cons_self
 have hR : ∀ y ∈ L.drop (k + 1), ky L[k] < ky y := fun y hy => (List.pairwise_cons.1 h2).1 y hy
 have hR2 : ∀ y ∈ L[k] :: L.drop (k + 1), ky L[k] ≤ ky y := fun y hy => by
  rcases List.mem_cons.1 hy with rfl | hy
  ·exact Int.le_refl _
  ·exact Int.le_of_lt (hR y hy)
 refine ⟨?_, ?_, ?_, ?_⟩
 ·have := near_ceil (k := ky L[k]) hP hR2
  rw [← e] at this; rw [this]; rfl
 ·have := get_mid (P := L.take k) (R := L.drop (k + 1)) (x := L[k]) (k := ky L[k]) (fun y hy => by have := hP y hy; omega) rfl
  rwa [← e] at this
 ·have := near_low (k := ky L[k]) hP hR2
  rwa [← e] at this
 ·have := near_high (P := L.take k ++ [L[k]]) (R := L.drop (k + 1)) (k := ky L[k]) (fun y hy => by
   rcases List.mem_append.1 hy with hy | hy
   ·exact Int.le_of_lt (hP y hy)
   ·obtain rfl := List.mem_singleton.1 hy; exact Int.le_refl _) hR
  rw [List.append_assoc, List.singleton_append, ← e] at this
  rw [this, List.head?_drop]
attribute [local irreducible] wpQuiet in
set_option maxRecDepth 100000 in
set_option maxHeartbeats 2000000 in
theorem back8 (deg room : Int) (a : Option Addr) (len cap : Nat) (zs : List Op8) (w : World) (hr : RdS encO8 7 w a len zs) (hG : ∀ z ∈ zs, GOp8 z) :
  Calls Tryz.prog 4 #[.agg #[.int .i64 deg, .int .i64 room], .slice a len cap] w fun e w' => e = .returned (.bool true) ∧ Below w.heap.size w w' := by
 obtain ⟨w0, hw0, b0, M0, hs0⟩ := boxSe8 w deg room
 obtain ⟨x0, f0⟩ := blkc b0
 have B0 : Below w.heap.size w w0 := M0.to_below (Nat.le_refl _) fun _ h => h.elim
 replace hr := hr.below (by decide) B0
 replace hs0 := hid hs0
 by_cases hb : ¬ (rightD deg = true ∧ 0 ≤ room ∧ room ≤ 4096) ∨ 200 < len
 ·have P := madeM_no deg room a len cap w0 hb
  clear hb
  go_enter Tryz.func4, Tryz.ntmps4
  go_wp2_with fail
  refine P.mono ?_
  rintro e w1 ⟨rfl, B1⟩
  go_wp2_with fail
  refine (alive8 _).mono ?_
  rintro e w2 ⟨rfl, B2⟩
  go_wp2_with fail
  go_ret
  exact ⟨rfl, B0.trans ((B1.trans (B2.mono B1.size)).mono B0.size)⟩
 have hd : rightD deg = true := Classical.byContradiction fun h => hb (.inl fun h' => h h'.1)
 have hr0 : 0 ≤ room ∧ room ≤ 4096 := Classical.byContradiction fun h => hb (.inl fun h' => h h'.2)
 have hle : len ≤ 200 := by omega
 have P := madeM deg room a len cap zs w0 hr hG hd hr0 hle
 clear hb hd hr0 hle hr hG
 go_enter Tryz.func4, Tryz.ntmps4
 go_wp2_with fail
 refine P.mono ?_
 rintro e w1 ⟨mb, cb, d, v, L, c, rfl, F⟩
 clear P x0 f0
 obtain ⟨A, cap3, hv3, hA⟩ := F.2.1.slice
 subst hv3
 have hrow := mc_row F.1
 have hbd := mc_bound F.1
 go_wp2_with fail
 have PL := om_last F.1.om
 by_cases hL0 : L = []
 ·subst hL0
  simp only [List.getLast?_nil, List.length_nil, optS, oS, zSg, Option.getD_none, Option.isSome_none] at *
  clear hA hbd hrow
  refine PL.mono ?_
  rintro e w2 ⟨rfl, M2⟩
  obtain ⟨u4, W4, g4, k4, b4, B4, N4⟩ := put5s8 w2 ⟨0, 0, 0, 0, 0⟩
  obtain ⟨d4, e4⟩ := blkc b4
  replace F := (F.mod0 M2).mod0 N4
  clear PL M2
  go_wp2_with fail
  refine (alive8 _).mono ?_
  rintro e w5 ⟨rfl, B5⟩
  replace F := F.mod0 (Mod.of_below B5)
  clear B5 d4 e4 g4 k4 b4 N4
  go_wp2_with fail
  refine (bothD_seek F (-1) 0 (by unfold fit64; decide)).mono ?_
  rintro e w6 ⟨rfl, F6, _⟩
  rw [show (nearS true true (kx (-1) 0) []).isSome = false from rfl]
  replace F6 : BothD (fun _ => False) w0 w6 mb cb d room (.slice A 0 cap3) [] Cu.z [] := F6
  clear F
  go_wp2_with fail
  refine (bothD_prev F6).mono ?_
  rintro e w7 ⟨rfl, F7, _⟩
  rw [show (Cu.z.on && (nearS false false Cu.z.key []).isSome) = false from rfl]
  go_wp2_with fail
  go_ret
  exact ⟨rfl, B0.trans (F7.below.mono B0.size)⟩
 obtain ⟨m, hm⟩ : ∃ m, L.length = m + 1 := ⟨L.length - 1, by have := List.length_pos_iff.2 hL0; omega⟩
 have hml : m < L.length := by omega
 obtain ⟨hk1, -, -, -⟩ := at_key hrow hml
 rw [show L.getLast? = some L[m] from by rw [List.getLast?_eq_getElem?]; simp [hm]] at PL
 have hft : fit64 L[m].la := (hrow.2 _ (by simp)).2
 have hkey := fun k (hk : k < L.length) => at_key hrow hk
 have hfit : ∀ k (hk : k < L.length), fit64 L[k].la := fun k hk => (hrow.2 _ (by simp)).2
 obtain ⟨lastS, hlast⟩ : ∃ s, L[m] = s := ⟨_, rfl⟩
 rw [hlast] at PL hk1 hft
 have hst : standC (some lastS) = standC (L.take L.length).getLast? := by rw [← hlast, hm, last_take hml]
 replace hst := hid hst
 replace hkey := hid hkey
 replace hfit := hid hfit
 replace hlast := hid hlast
 have hk1' : nearS true true (kx lastS.ls lastS.la) L = some lastS := hk1
 simp only [optS, oS, zSg, Option.getD_some, Option.isSome_some] at PL
 refine PL.mono ?_
 rintro e w2 ⟨rfl, M2⟩
 obtain ⟨u4, W4, g4, k4, b4, B4, N4⟩ := put5s8 w2 lastS
 obtain ⟨d4, e4⟩ := blkc b4
 obtain ⟨d5, e5⟩ := blkc B4
 replace F := (F.mod0 M2).mod0 N4
 have PK := bothD_seek F lastS.ls lastS.la hft
 rw [hk1'] at PK
 clear PL M2 hk1 hk1'
 obtain ⟨ls, la, hs, ha, sv⟩ := lastS
 simp only [encS] at k4 d5 ⊢
 dsimp only at PK
 have hm64 : (m : Int) + 1 ≤ 4096 := by omega
 replace hbd := hid hbd
 simp only [hm] at F PK hA ⊢
 replace hrow := hid hrow
 go_wp2_with fail
 refine PK.mono ?_
 rintro e w6 ⟨rfl, F6, M6⟩
 clear PK d4 e4 d5 e5 g4 k4 b4 B4 N4 F
 simp only [Option.isSome_some]
 go_wp2_with fail
 go_loopw [11, 12] (fun n g W => ∃ (k : Nat), k ≤ m + 1 ∧ n = .int .i64 k ∧ g = .bool (decide (0 < k)) ∧ BothD (fun _ => False) w0 W mb cb d room (.slice A (m + 1) cap3) L (standC (L.take k).getLast?) L) (fun n _ _ => (intOf n).toNat)
 case atStart =>
  refine ⟨m + 1, Nat.le_refl _, by simp, by simp, ?_⟩
  have := hst.out
  rw [hm] at this
  rw [← this]; exact F6
 case round =>
  clear F6 M6
  obtain ⟨k, hk, rfl, rfl, F⟩ := hrel
  cases k with
  | zero =>
   simp only [Nat.lt_irrefl, decide_false]
   go_wp2_with fail
   refine (alive8 _).mono ?_
   rintro e w7 ⟨rfl, B7⟩
   replace F := F.mod0 (Mod.of_below B7)
   clear B7
   go_wp2_with fail
   refine (bothD_next F).mono ?_
   rintro e w8 ⟨rfl, F8, M8⟩
   rw [show ((standC (L.take 0).getLast?).on && (nearS true false (standC (L.take 0).getLast?).key L).isSome) = false from rfl]
   go_wp2_with fail
   go_ret
   exact ⟨rfl, B0.trans (F8.below.mono B0.size)⟩
  | succ k =>
   have hkl : k < L.length := by omega
   simp only [Nat.zero_lt_succ, decide_true]
   obtain ⟨-, q2, q3, -⟩ := hkey.out k hkl
   have hfk := hfit.out k hkl
   obtain ⟨g, rfl⟩ := hA (by omega)
   have HC := fun W (R : RowV W (.slice (some ⟨g, 0, none⟩) (m + 1) cap3) L) => RowV.cells R hkl
   rw [last_take hkl] at F
   obtain ⟨x, hx⟩ : ∃ x, L[k] = x := ⟨_, rfl⟩
   rw [hx] at F q2 q3 hfk
   simp only [hx] at HC
   have hnx : curC (standC (some x)) (nearS false false (standC (some x)).key L) = standC (L.take k).getLast? ∧ ((standC (some x)).on && (nearS false false (standC (some x)).key L).isSome) = decide (0 < k) := by
    have e : (standC (some x)).key = ky x := rfl
    rw [e, q3]
    refine ⟨rfl, ?_⟩
    show (L.take k).getLast?.isSome = decide (0 < k)
    cases k with
    | zero => rfl
    | succ k => rw [last_take (by omega)]; simp
   have PS := mc_seg F.1
   rw [show (if (standC (some x)).on then getS (standC (some x)).key L else none) = some x from q2] at PS
   have hk64 : (k : Int) + 1 ≤ 65536 := by omega
   have hkm : (k : Int) < (m : Int) + 1 := by omega
   clear hx q2 q3 hkl
   replace HC := hid HC
   replace hnx := hid hnx
   simp only [optS, oS, Option.getD_some, Option.isSome_some] at PS
   go_wp2_with fail
   refine PS.mono ?_
   rintro e w7 ⟨rfl, M7⟩
   replace F := F.mod0 M7
   obtain ⟨u4, W4, g4, k4, b4, B4, N4⟩ := put5s8 w7 x
   obtain ⟨d4, e4⟩ := blkc b4
   obtain ⟨d5, e5⟩ := blkc B4
   replace F := F.mod0 N4
   obtain ⟨c0, c1, c2, c3, c4⟩ := HC.out W4 F.2.1
   obtain ⟨ls', la', hs', ha', sv'⟩ := x
   simp only [encS] at k4 d5 ⊢
   dsimp only at c0 c1 c2 c3 c4
   clear PS M7
   go_wp2_with fail
   go_quiet (fail)
   have Nd : Mod (fun _ => False) W4 (W4.drewN nq) := (Mod.refl _ _).drewN _
   generalize W4.drewN nq = WA at Nd ⊢
   replace F := F.mod0 Nd
   clear d4 e4 d5 e5 g4 k4 b4 B4 N4 c0 c1 c2 c3 c4 Nd
   have PP := bothD_prev F
   rw [hnx.out.1, hnx.out.2] at PP
   clear hfk hA hk64 hkm
   go_wp2_with fail
   refine PP.mono ?_
   rintro e W5 ⟨rfl, F5, M5⟩
   clear PP F M5
   go_wp2_with fail
   go_roundw
   case rel => exact ⟨k, by omega, rfl, rfl, F5⟩
   case measure => simp [intOf]
open Go Go.RowKit
theorem back8r (cs : Array Value) (a : Option Addr) (len cap : Nat) (zs : List Op8) (w : World) (fit : Fit [.int .i64, .int .i64] cs.toList) (hr : RdS encO8 7 w a len zs) (hG : ∀ z ∈ zs, GOp8 z) (_ : len * 56 ≤ 140737488351232) :
  Calls Tryz.prog 4 #[.agg cs, .slice a len cap] w fun e w' => e = .returned (.bool true) ∧ Below w.heap.size w w' := by
 obtain ⟨deg, room, rfl, _, _⟩ := seatArg8 fit
 exact back8 deg room a len cap zs w hr hG
end Go.Proofs.Bo
