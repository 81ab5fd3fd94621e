import Derived.Test.YtgehgjaglgafdaaGreatG43
import Derived.Test.YtgehgjaglgafdaaGreatG44
import Derived.Test.YtgehgjaglgafdaaGreatG42
import Derived.Test.YtgehgjaglgafdaaGreatG40
import Derived.Test.YtgehgjaglgafdaaGreatG24
set_option linter.unusedVariables false
set_option linter.unusedSimpArgs false
namespace Go.Proofs.Bo
open Go Go.RowKit Go.Shelf
theorem box2SA (w : World) (deg room r0 r1 r2 : Int) : ∃ w0, (w.alloc (.cells #[.int .i64 deg, .int .i64 room] 23)).alloc (.cells #[.int .i64 r0, .int .i64 r1, .int .i64 r2] 48) = w0 ∧ w0.heap[w.heap.size]? = some (.cells #[.int .i64 deg, .int .i64 room] 23 (0, 0)) ∧
  w0.heap[w.heap.size + 1]? = some (.cells #[.int .i64 r0, .int .i64 r1, .int .i64 r2] 48 (0, 0)) ∧ Mod (fun _ => False) w w0 ∧ w0.heap.size = w.heap.size + 2 :=
 ⟨_, rfl, alloc2_0 _ _ _, alloc2_1 _ _ _, ((Mod.refl _ _).alloc _).alloc _, by simp⟩
def AllN7 (b : Nat) (W0 : World) (R : Nat → Prop) (pre : List Sg) (G : Nat → Prop) (W : World) : Prop := AllJ7 b W0 pre G W ∧ R pre.length
theorem AllN7.stab (b : Nat) (W0 : World) (R : Nat → Prop) : Stab W0.heap.size (AllN7 b W0 R) := by
 rintro s G W W' T ⟨h, h2⟩ m t
 exact ⟨AllJ7.stab b W0 _ _ _ _ _ h m t, h2⟩
def RngOut (gb : Nat) (w7 : World) (Ml : List Sg) (r2 : Int) (W : World) : Prop :=
 ∃ pre G, AllJ7 gb w7 pre G W ∧ W.heap[w7.heap.size]? = some (.deferred (some [])) ∧ (∀ k, G k → k ≠ w7.heap.size) ∧ ((pre = Ml ∧ ((Ml.length : Int) < r2 ∨ r2 ≤ 0)) ∨ (pre <+: Ml ∧ (pre.length : Int) = r2 ∧ 0 < pre.length))
theorem range_share {P : Program} {g : Operand} {ps : Array Tmp} {assign body : Code} {Q : Exit → Act → World → Prop} {a : Act} {w : World} (F : World → Prop)
  (h1 : (∀ W, F W → Q .normal { a with defers := { target := .collected w.heap.size, args := #[] } :: a.defers } W) → (Code.rangeFunc g ps assign body).wp P Q a w)
  (h2 : ∀ W, F W → Q .normal { a with defers := { target := .collected w.heap.size, args := #[] } :: a.defers } W) : (Code.rangeFunc g ps assign body).wp P Q a w := h1 h2
theorem got_eq {pre Ml : List Sg} {r2 : Int} (h : (pre = Ml ∧ ((Ml.length : Int) < r2 ∨ r2 ≤ 0)) ∨ (pre <+: Ml ∧ (pre.length : Int) = r2 ∧ 0 < pre.length)) :
  ((1 ≤ r2 ∧ r2 < Ml.length) → pre = Ml.take r2.toNat) ∧ (¬ (1 ≤ r2 ∧ r2 < Ml.length) → pre = Ml) := by
 rcases h with ⟨rfl, h⟩ | ⟨h1, h2, h3⟩
 ·exact ⟨fun h' => by omega, fun _ => rfl⟩
 ·refine ⟨fun h' => ?_, fun h' => ?_⟩
  ·rw [show r2.toNat = pre.length by omega]; exact List.prefix_iff_eq_take.1 h1
  ·exact h1.eq_of_length (by have := h1.length_le; omega)
section
attribute [local go_sem] Oper.semAt_some
set_option maxHeartbeats 4000000 in
set_option maxRecDepth 100000 in
theorem ranges8 (deg room : Int) (a : Option Addr) (len cap : Nat) (zs : List Op8) (r0 r1 r2 : Int) (w : World) (hr0 : fit64 r0) (hr1 : fit64 r1) (hr2 : fit64 r2) (hr : RdS encO8 7 w a len zs) (hG : ∀ z ∈ zs, GOp8 z) :
  Calls Tryz.prog 6 #[.agg #[.int .i64 deg, .int .i64 room], .slice a len cap, .agg #[.int .i64 r0, .int .i64 r1, .int .i64 r2]] w fun e w' => e = .returned (.bool true) ∧ Below w.heap.size w w' := by
 obtain ⟨w0, hw0, bS, bA, M0, hs0⟩ := box2SA w deg room r0 r1 r2
 obtain ⟨dS, eS⟩ := blkc bS
 have B0 : Below w.heap.size w w0 := M0.to_below (Nat.le_refl _) fun _ h => h.elim
 replace hr := hr.below (by decide) B0
 replace hs0 := hid hs0
 by_cases hb : ¬ (rightD deg = true ∧ 0 ≤ room ∧ room ≤ 4096) ∨ 200 < len
 ·have P := madeM_no deg room a len cap w0 hb
  clear hb
  refine calls_of_wp_marks Tryz.func6 rfl ?_
  simp only [Tryz.ntmps6, List.size_toArray, List.length_cons, List.length_nil, Nat.reduceAdd, Nat.reduceSub, Array.replicate_succ, Array.replicate_zero, List.push_toArray, List.append_toArray, List.nil_append, List.cons_append]
  go_wp2_with fail
  refine P.mono ?_
  rintro e w1 ⟨rfl, B1⟩
  go_wp2_with fail
  refine (alive8 _).mono ?_
  rintro e w2 ⟨rfl, B2⟩
  go_wp2_with fail
  exact retM0 (results_tmp rfl _ _ _) rfl ⟨rfl, B0.trans ((B1.trans (B2.mono B1.size)).mono B0.size)⟩
 have hd : rightD deg = true := Classical.byContradiction fun h => hb (.inl fun h' => h h'.1)
 have hrm : 0 ≤ room ∧ room ≤ 4096 := Classical.byContradiction fun h => hb (.inl fun h' => h h'.2)
 have hle : len ≤ 200 := by omega
 have P := madeM deg room a len cap zs w0 hr hG hd hrm hle
 clear hb hd hrm hle hr hG
 refine calls_of_wp_marks Tryz.func6 rfl ?_
 simp only [Tryz.ntmps6, List.size_toArray, List.length_cons, List.length_nil, Nat.reduceAdd, Nat.reduceSub, Array.replicate_succ, Array.replicate_zero, List.push_toArray, List.append_toArray, List.nil_append, List.cons_append]
 go_wp2_with fail
 refine P.mono ?_
 rintro e w1 ⟨mb, cb, d, v, L, c, rfl, F⟩
 clear P dS eS
 obtain ⟨A, cap3, hv3, _⟩ := F.2.1.slice
 subst hv3
 have hrow := mc_row F.1
 have hbd := mc_bound F.1
 have bA1 := F.2.2.2.1.heap bA fun h => h
 obtain ⟨d2, e2⟩ := blkc bA1
 replace hbd := hid hbd
 replace hrow := hid hrow
 go_wp2_with fail
 refine shareNM (fun W4 nb mb => CM w1 W4 ∧ W4.heap[nb]? = some (.cells #[.int .i64 0, .int .i64 r0] 34 (0, 0)) ∧ W4.heap[mb]? = some (.cells #[.int .i64 0, .int .i64 r1] 34 (0, 0))) ?_
 apply Exists.intro
 refine ⟨fun hP => ?_, fun W4 nb hb hF => ?_⟩
 ·have f1 : ∀ o, (∀ j, (w1.alloc o).cell? ⟨w.heap.size + 1, j, none⟩ = #[.int .i64 r0, .int .i64 r1, .int .i64 r2][j]?) := fun o => (blkc (((Mod.refl (fun _ => False) w1).alloc o).heap bA1 fun h => h)).1
  have f2 : ∀ o o', (∀ j, ((w1.alloc o).alloc o').cell? ⟨w.heap.size + 1, j, none⟩ = #[.int .i64 r0, .int .i64 r1, .int .i64 r2][j]?) := fun o o' => (blkc ((((Mod.refl (fun _ => False) w1).alloc o).alloc o').heap bA1 fun h => h)).1
  go_region
  ·have x0 : CM w1 ((w1.alloc (.cells #[.int .i64 0, .int .i64 r0] 34)).alloc (.cells #[.int .i64 0, .int .i64 r1] 34)).drew := (((Mod.refl _ _).alloc _).alloc _).drew
   have x1 : ((w1.alloc (.cells #[.int .i64 0, .int .i64 r0] 34)).alloc (.cells #[.int .i64 0, .int .i64 r1] 34)).drew.heap[w1.heap.size]? = some (.cells #[.int .i64 0, .int .i64 r0] 34 (0, 0)) := alloc2_0 _ _ _
   have x2 : ((w1.alloc (.cells #[.int .i64 0, .int .i64 r0] 34)).alloc (.cells #[.int .i64 0, .int .i64 r1] 34)).drew.heap[w1.heap.size + 1]? = some (.cells #[.int .i64 0, .int .i64 r1] 34 (0, 0)) := alloc2_1 _ _ _
   clear f1 f2
   generalize e2 : w1.heap.size + 1 = mb at x2 ⊢
   generalize e1 : ((w1.alloc (.cells #[.int .i64 0, .int .i64 r0] 34)).alloc (.cells #[.int .i64 0, .int .i64 r1] 34)).drew = W4 at x0 x1 x2 ⊢
   generalize e3 : w1.heap.size = nb at x1 ⊢
   exact hP W4 nb mb ⟨x0, x1, x2⟩
  ·have x0 : CM w1 ((w1.alloc (.cells #[.int .i64 0, .int .i64 r1] 34)).alloc (.cells #[.int .i64 0, .int .i64 r0] 34)).drew := (((Mod.refl _ _).alloc _).alloc _).drew
   have x1 : ((w1.alloc (.cells #[.int .i64 0, .int .i64 r1] 34)).alloc (.cells #[.int .i64 0, .int .i64 r0] 34)).drew.heap[w1.heap.size]? = some (.cells #[.int .i64 0, .int .i64 r1] 34 (0, 0)) := alloc2_0 _ _ _
   have x2 : ((w1.alloc (.cells #[.int .i64 0, .int .i64 r1] 34)).alloc (.cells #[.int .i64 0, .int .i64 r0] 34)).drew.heap[w1.heap.size + 1]? = some (.cells #[.int .i64 0, .int .i64 r0] 34 (0, 0)) := alloc2_1 _ _ _
   clear f1 f2
   generalize e2 : w1.heap.size + 1 = nb at x2 ⊢
   generalize e1 : ((w1.alloc (.cells #[.int .i64 0, .int .i64 r1] 34)).alloc (.cells #[.int .i64 0, .int .i64 r0] 34)).drew = W4 at x0 x1 x2 ⊢
   generalize e3 : w1.heap.size = mb at x1 ⊢
   exact hP W4 nb mb ⟨x0, x2, x1⟩
 obtain ⟨M4, n4, m4⟩ := hF
 clear d2 e2 hw0
 have F4 := F.mod0 M4
 obtain ⟨c0, f0⟩ := blkc n4
 obtain ⟨c1, f1⟩ := blkc m4
 have hfits : ∀ s ∈ L, fit64 s.la := fun s hs => (hrow.out.2 s hs).2
 have PR := rangeR F4.2.1.rd hfits (by have := hbd.out; omega) 0 r0 0 r1 hr0 hr1
 obtain ⟨Ml, hMl⟩ : ∃ Ml, rangeL (kx 0 r0) (kx 0 r1) L = Ml := ⟨_, rfl⟩
 have hMlen : Ml.length ≤ 4096 := by rw [← hMl]; have := range_len (kx 0 r0) (kx 0 r1) L; have := hbd.out; omega
 rw [hMl] at PR
 go_wp2_with fail
 refine PR.mono ?_
 rintro e w5 ⟨v5, rfl, R5, hv5, M5⟩
 clear PR
 obtain ⟨A5, cap5, hv, hA5⟩ := R5.slice
 subst hv
 obtain ⟨W6, hW6, b6, M6, hz6⟩ : ∃ W6, w5.alloc (.cells #[.slice none 0 0] 28) = W6 ∧ W6.heap[w5.heap.size]? = some (.cells #[.slice none 0 0] 28 (0, 0)) ∧ Mod (fun _ => False) w5 W6 ∧ W6.heap.size = w5.heap.size + 1 := ⟨_, rfl, alloc_0 _ _, (Mod.refl _ _).alloc _, by simp⟩
 have M46 := M5.trans' M6
 obtain ⟨c0', f0'⟩ := blkc (M46.heap n4 fun h => h)
 obtain ⟨c1', f1'⟩ := blkc (M46.heap m4 fun h => h)
 clear c0 f0 c1 f1
 replace hz6 := hid hz6
 go_wp2_with fail
 refine (om_range mb 0 r0 0 r1 W6).mono ?_
 rintro e w7 ⟨rfl, k1, k2, k3, M7, hz7⟩
 clear c0' f0' c1' f1' hW6
 have M17 := (M4.trans' M46).trans' M7
 have O1 : OM (fun k => k < w1.heap.size) w1 mb d room L := F.1.om.mono fun k _ hl => hl
 have O7 := O1.mod0 M17
 have hs17 := M17.size
 have hs5 := (M4.trans' M5).size
 have IT := range_iter O7 (fun k hk => by omega) hr0 hr1 k1 k2 k3
 rw [hMl] at IT
 replace hz6 := hz6.out
 replace b6 := M7.heap b6 fun h => h
 have hw1s := F.2.2.2.1.size
 have F1 := F
 replace F := F.mod0 M17
 have R7 := R5.keep (M6.trans' M7)
 rw [hz6] at k1 k2 k3 hz7 IT
 have hv7 : ∀ k, (Value.slice A5 Ml.length cap5).ownBlock = some k → k < w5.heap.size := fun k hk => own_lt R5 hk
 obtain ⟨gb, hgb⟩ : ∃ gb, w5.heap.size = gb := ⟨_, rfl⟩
 rw [hgb] at b6 k1 k2 k3 hz7 IT hs5 hv7
 rw [hz6, hgb]
 have bA7 := F.2.2.2.1.heap bA fun h => h
 have hAsz : w.heap.size + 1 < w0.heap.size := by have := hs0.out; omega
 have hw01 := F.2.2.2.1.size
 have hlt7 : w7.heap.size = gb + 4 ∧ w1.heap.size ≤ gb := by omega
 clear O7 O1 n4 m4 M4 M5 M6 M7 M46 F4 hz6 hgb hz7 hs17 hs5
 have hbA : w.heap.size + 1 ≠ gb := by omega
 go_wp2_with fail
 refine range_share (RngOut gb w7 Ml r2) ?_ ?_
 ·intro hP
  refine wp_range1G (gf := 49) rfl (enters_of Tryz.func49 (by kernel_rfl) rfl) IT (fun _ => rfl)
   (fun j => j = gb) (fun j hj => by have : j = gb := hj; omega) (fun j hj h => by have h : j = gb := h; omega) (fun j hj => by omega)
   (AllN7 gb w7 (fun m => (m : Int) < r2 ∨ r2 ≤ 0)) (fun c pre G W => c = .exit 0 ∧ AllN7 gb w7 (fun m => (m : Int) = r2 ∧ 0 < m) pre G W) (AllN7.stab _ _ _) (fun c s G W W' T h m t => ⟨h.1, AllN7.stab _ _ _ _ _ _ _ _ h.2 m t⟩)
   (fun pre G W ⟨⟨v, g1, g2, g3, g4, g5⟩, _⟩ => ⟨g5.size, fun k hk => by rcases (g1 k).1 hk with rfl | hk; exact blkl g2; exact own_lt g3 hk⟩)
   ⟨⟨.slice none 0 0, fun k => ⟨.inl, fun h => h.elim id fun h => by cases h⟩, b6, RowV.nil _, fun k hk => (by cases hk), Mod.refl _ _⟩, by show ((0 : Nat) : Int) < r2 ∨ r2 ≤ 0; omega⟩
   (fun x => #[.int .i64 x.ls, .int .i64 x.la, .int .i64 x.hs, .int .i64 x.ha, .int .i64 x.v]) 38 ?body ?done ?stop
  case done =>
   intro G W hI hne hk
   exact hP W ⟨Ml, G, hI.1, hk, fun k hk => (hne k hk).1, .inl ⟨rfl, hI.2⟩⟩
  case stop =>
   rintro cc pre G W hpre ⟨rfl, hI⟩ hne hk
   refine wp_exit ?_
   exact hP W ⟨pre, G, hI.1, hk, fun k hk => (hne k hk).1, .inr ⟨hpre, hI.2⟩⟩
  case body =>
   apply Exists.intro
   constructor
   ·intro yl x W KK hKK
    simp [encSB]
    gi_wp2_with fail
    generalize W.heap.size = b at hKK ⊢
    exact hKK
   ·intro yl pre x rest b G W hx hb hGb hbz hI hne
    obtain ⟨⟨v, g1, g2, g3, g4, g5⟩, hcnt⟩ := hI
    obtain ⟨q1, q2⟩ := blkc g2
    obtain ⟨p1, p2⟩ := blkc hb
    have bAW := g5.heap bA7 hbA
    have hx' : Ml = pre ++ x :: rest := hx
    have hlp : pre.length ≤ 65536 := by rw [hx'] at hMlen; simp at hMlen; omega
    clear hx hx'
    obtain ⟨xl, xa, xh, xg, xv⟩ := x
    replace hcnt := hid hcnt
    gi_wp2_with (refine app_oneIn [.int .i64 xl, .int .i64 xa, .int .i64 xh, .int .i64 xg, .int .i64 xv] v pre.length (pre.flatMap encS) (.tmp 43) (.tmp 45) 28 38 (.agg #[.int .i64 0, .int .i64 0, .int .i64 0, .int .i64 0, .int .i64 0]) 5 40 rfl rfl Tryz.underlying28 infoSg rfl (by omega) (by omega) rfl rfl g3 rfl (by simp [Value.oneCell']) (by omega) ?_)
    intro v6 w6 own gr bl
    have Mg : Mod (fun k => v.ownBlock = some k) W w6 := Mod.of_grown gr
    have g26 := Mg.heap g2 (fun h => by have := g4 _ h; omega)
    have hown : ∀ k, v6.ownBlock = some k → k < w6.heap.size := fun k hk => own_lt own hk
    have hg6 : ∀ k, v6.ownBlock = some k → w7.heap.size ≤ k := fun k hk => by
     rcases bl k hk with e | e
     ·exact g4 k e
     ·exact Nat.le_trans g5.size e
    have R6 : RowV w6 v6 (pre ++ [⟨xl, xa, xh, xg, xv⟩]) := by
     unfold RowV
     rw [List.flatMap_append, List.length_append]
     simpa [encS] using own
    obtain ⟨A6, c6, hv6, _⟩ := own_slice own
    have hz6 := Mg.size
    have hbl := blkl g26
    have fin : ∀ (R : Nat → Prop), R (pre.length + 1) → ∃ G', (∀ k, G' k → (G k ∨ W.heap.size ≤ k) ∧ k < (w6.setCell ⟨gb, 0, none⟩ v6).heap.size) ∧ Mod G W (w6.setCell ⟨gb, 0, none⟩ v6) ∧ AllN7 gb w7 R (pre ++ [⟨xl, xa, xh, xg, xv⟩]) G' (w6.setCell ⟨gb, 0, none⟩ v6) := by
     intro R hR
     have MS : Mod (fun k => k = gb) w6 (w6.setCell ⟨gb, 0, none⟩ v6) := Mod.setCell (S := fun k => k = gb) (p := ⟨gb, 0, none⟩) (Mod.refl _ _) (.inl rfl) _
     refine ⟨fun k => k = gb ∨ v6.ownBlock = some k, fun k hk => ?_, ?_, ⟨v6, fun k => Iff.rfl, setL_whole (cs := [v]) (us := [v6]) g26 rfl, own_mod R6 MS fun k hk h => ?_, hg6, ?_⟩, by simpa using hR⟩
     ·rcases hk with rfl | hk
      ·exact ⟨.inl ((g1 _).2 (.inl rfl)), by simpa using hbl⟩
      ·refine ⟨?_, by simpa using hown k hk⟩
       rcases bl k hk with e | e
       ·exact .inl ((g1 k).2 (.inr e))
       ·exact .inr e
     ·exact ((Mg.mono fun i hi => .inl ((g1 i).2 (.inr hi))).trans MS fun i hi => .inl ((g1 i).2 (.inl hi)))
     ·have := hg6 k hk; have h : k = gb := h; omega
     ·exact (g5.trans Mg fun i hi => .inr (g4 i hi)).trans MS fun i hi => .inl hi
    have bA6 := Mg.heap bAW (fun h => by have := g4 _ h; omega)
    have bAS : (w6.setCell ⟨gb, 0, none⟩ v6).heap[w.heap.size + 1]? = some (.cells #[.int .i64 r0, .int .i64 r1, .int .i64 r2] 48 (0, 0)) := (Mod.setCell (S := fun k => k = gb) (p := ⟨gb, 0, none⟩) (Mod.refl _ w6) (.inl rfl) v6).heap bA6 hbA
    have bgS : (w6.setCell ⟨gb, 0, none⟩ v6).heap[gb]? = some (.cells #[v6] 28 (0, 0)) := setL_whole (cs := [v]) (us := [v6]) g26 rfl
    obtain ⟨y1, y2⟩ := blkc bAS
    obtain ⟨y3, y4⟩ := blkc bgS
    obtain ⟨r1', r2'⟩ := blkc g26
    have hl65 : ((pre.length : Int) + 1) ≤ 65537 := by omega
    clear q1 q2 p1 p2 bAS bgS bA6 bAW g26 R6 hown hg6 Mg own gr bl hbl hb g2 g3 g4 g5
    subst hv6
    generalize pre.length = q at *
    by_cases hst : (q : Int) + 1 = r2
    ·have fin := hid (fin (fun m => (m : Int) = r2 ∧ 0 < m) ⟨by simpa using hst, by omega⟩)
     have hb : ((q : Int) + 1 == r2) = true := by simpa using hst
     clear hst
     gi_wp2_with fail
     obtain ⟨G', t1, t2, t3⟩ := fin.out
     exact ⟨G', t1, t2, rfl, t3⟩
    ·have fin := hid (fin (fun m => (m : Int) < r2 ∨ r2 ≤ 0) (by rcases hcnt.out with h | h; exact .inl (by omega); exact .inr h))
     have hb : ((q : Int) + 1 == r2) = false := by simpa using hst
     clear hst
     gi_wp2_with fail
     exact fin.out
 rintro W hF
 obtain ⟨pre, G, ⟨vg, g1, g2, g3, g4, g5⟩, hk1, hGk, hcase⟩ := hF
 obtain ⟨q1, q2⟩ := got_eq hcase
 clear hcase IT k1 k2 k3 b6 hA5
 obtain ⟨Ag, cg, hvg, _⟩ := g3.slice
 subst hvg
 have RW : RowV W (.slice A5 Ml.length cap5) Ml := own_mod R7 g5 fun k hk e => by have := hv7 k hk; have : k = gb := e; omega
 have bAW := g5.heap bA7 hbA
 have MW : Mod (fun _ => False) w1 W := M17.trans g5 fun j hj => .inr (by have : j = gb := hj; omega)
 have hgown : ∀ k, (Value.slice Ag pre.length cg).ownBlock = some k → k ≠ w7.heap.size := fun k hk => hGk k ((g1 k).2 (.inr hk))
 have hgown2 : ∀ k, (Value.slice Ag pre.length cg).ownBlock = some k → k < W.heap.size := fun k hk => own_lt g3 hk
 obtain ⟨y1, y2⟩ := blkc bAW
 obtain ⟨wn, hwn, hwle, hRn, hpn⟩ : ∃ wn : Nat, ((1 ≤ r2 ∧ r2 < Ml.length) → (wn : Int) = r2) ∧ (¬ (1 ≤ r2 ∧ r2 < Ml.length) → wn = Ml.length) ∧ RowV W (.slice A5 wn cap5) (Ml.take wn) ∧ pre = Ml.take wn := by
  by_cases hc : 1 ≤ r2 ∧ r2 < Ml.length
  ·refine ⟨r2.toNat, fun _ => by omega, fun h => absurd hc h, ?_, q1 hc⟩
   have := own_take RW r2.toNat (by omega)
   unfold RowV
   rw [List.length_take, Nat.min_eq_left (by omega)]
   have e := (flat5_cut Ml r2.toNat (by omega)).1.symm
   rw [e]; exact this
  ·exact ⟨Ml.length, fun h => absurd h hc, fun _ => rfl, by rw [List.take_length]; exact RW, by rw [List.take_length]; exact q2 hc⟩
 have hcap5 : (Ml.length : Int) ≤ cap5 := by
  obtain ⟨_, _, e, h, _⟩ := own_slice R5
  cases e; omega
 have hWsz := MW.size
 have hW7 := g5.size
 have O8 : OM (fun k => k < w1.heap.size) W mb d room L := (F1.1.om.mono (Y := fun k => k < w1.heap.size) fun k _ hl => hl).mod0 MW
 obtain ⟨W8, hW8, b8, M8, hz8⟩ : ∃ W8, W.alloc (.cells #[.int .i64 0] 3) = W8 ∧ W8.heap[W.heap.size]? = some (.cells #[.int .i64 0] 3 (0, 0)) ∧ Mod (fun _ => False) W W8 ∧ W8.heap.size = W.heap.size + 1 := ⟨_, rfl, alloc_0 _ _, (Mod.refl _ _).alloc _, by simp⟩
 have PR := om_range mb (-1) 0 1 0 W8
 rw [hz8, ← hW8] at PR
 replace hW8 := hid hW8
 have hRW := hid hRn
 have hG3 := hid g3
 have hlt : w7.heap.size < W.heap.size := blkl hk1
 have hGb := g2
 replace hpn := hid hpn
 have hPn := hpn
 clear hpn hRn
 have BW : Below w0.heap.size w0 W := F.below.trans (g5.to_below (B := w0.heap.size) (F.below.size) fun j h => by have : j = gb := h; omega)
 clear g1 g3 g4 q1 q2 RW R7 hv7 hgown hGk
 have hdec : (1 ≤ r2 ∧ r2 < Ml.length) ∨ (1 ≤ r2 ∧ ¬ r2 < Ml.length) ∨ ¬ 1 ≤ r2 := by omega
 replace hz8 := hid hz8
 replace hlt := hid hlt
 replace BW := hid BW
 replace hlt7 := hid hlt7
 rcases hdec with ⟨h1, h2⟩ | ⟨h1, h2⟩ | h1
 ·have e := hwn ⟨h1, h2⟩
  have hwn1 : (wn : Int) ≤ cap5 := by omega
  subst e
  clear hwn hwle
  go_wp2_with fail
  refine PR.mono ?_
  rintro e w9 ⟨rfl, k1, k2, k3, M9, hz9⟩
  rw [hW8.out] at M9
  have M89 := M8.trans' M9
  have IT2 := range_iter (O8.mod0 M89) (fun k hk => by have := M89.size; omega) (by unfold fit64; decide) (by unfold fit64; decide) k1 k2 k3
  rw [range_all hrow.out] at IT2
  replace b8 := M9.heap b8 fun h => h
  have hk9 := M89.heap hk1 fun h => h
  have bg9 := M89.heap hGb fun h => h
  clear PR y1 y2 hW8 k1 k2 k3
  go_wp2_with fail
  refine wp_range0 (gf := 49) rfl (enters_of Tryz.func49 (by kernel_rfl) rfl) IT2 (fun _ => rfl)
   (fun j => j = W.heap.size) (fun j hj => by have : j = W.heap.size := hj; have := M89.size; have := blkl b8; omega) (fun j hj h => by have h : j = W.heap.size := h; omega) (fun j hj => by have := hz8.out; omega)
   (CntR7 W.heap.size (fun m => (m : Int)) (fun _ => True)) (fun c pre W => False)
   CntR7.looks (fun c pre W W' h hk => h.elim) ⟨by simpa using b8, trivial⟩ ?body ?done ?stop
  case stop => exact fun c pre W _ _ h _ => h.elim
  case body =>
   apply Exists.intro
   constructor
   ·intro yl x W KK hKK
    simp [encSB]
    gi_wp2_with fail
    exact hKK
   ·intro yl pre x rest W' hx hM hR
    obtain ⟨hR1, _⟩ := hR
    dsimp only at hR1
    obtain ⟨t1, t2⟩ := blkc hR1
    have hlen : L.length = pre.length + 1 + rest.length := by rw [show L = pre ++ x :: rest from hx]; simp; omega
    have hq : ((pre.length : Nat) : Int) + 1 ≤ 65536 := by have := hbd.out; omega
    have fin : Mod (fun j => j = W.heap.size) W' (W'.setCell ⟨W.heap.size, 0, none⟩ (.int .i64 ((pre.length : Int) + 1))) ∧ CntR7 W.heap.size (fun m => (m : Int)) (fun _ => True) (pre ++ [x]) (W'.setCell ⟨W.heap.size, 0, none⟩ (.int .i64 ((pre.length : Int) + 1))) := by
     refine ⟨Mod.setCell (S := fun j => j = W.heap.size) (p := ⟨W.heap.size, 0, none⟩) (Mod.refl _ _) (.inl rfl) _, ?_, trivial⟩
     have e : (((pre ++ [x]).length : Nat) : Int) = (pre.length : Int) + 1 := by simp
     show (W'.setCell _ _).heap[W.heap.size]? = some (.cells #[.int .i64 (((pre ++ [x]).length : Nat) : Int)] 3 (0, 0))
     rw [e]; exact one_setCell7 hR1
    clear hx hlen hM hR1
    replace fin := hid fin
    gi_wp2_with fail
    exact fin.out
  case done =>
   intro V hM hR hk
   have hR1 : V.heap[W.heap.size]? = some (.cells #[.int .i64 (L.length : Int)] 3 (0, 0)) := hR.1
   have hlt' := hlt.out
   have hkV := hM.heap hk9 (by omega)
   have bgV := hM.heap bg9 (by have := hlt7.out; omega)
   have RgV : RowV V (.slice Ag pre.length cg) pre := own_mod (hG3.out.keep M89) hM fun k hk e => by have := hgown2 k hk; have : k = W.heap.size := e; omega
   have RwV : RowV V (.slice A5 wn cap5) (Ml.take wn) := own_mod (hRW.out.keep M89) hM fun k hk e => by have := own_lt hRW.out hk; have : k = W.heap.size := e; omega
   rw [← hPn.out] at RwV
   have hw0W := BW.out.size
   have hs9 := M89.size
   have hsV := hM.size
   have hd9 : w9.heap.size < V.heap.size := blkl hk
   have BV : Below w0.heap.size w0 V := (BW.out.trans (M89.to_below hw0W fun _ h => h.elim)).trans (hM.to_below (by omega) fun j h => by have : j = W.heap.size := h; omega)
   have hpl : pre.length ≤ 65536 := by rw [hPn.out]; simp; omega
   replace hpl := hid hpl
   clear hM hR IT2 hk9 bg9 O8 b8 hz9 hlt'
   go_wp2_with fail
   refine (alive8 _).mono ?_
   rintro e V2 ⟨rfl, B2⟩
   have MV := Mod.of_below (S := fun _ => False) B2
   have PS := same5 (RgV.keep MV).rd (RwV.keep MV).rd hpl.out
   obtain ⟨t1, t2⟩ := blkc (MV.heap bgV fun h => h)
   go_wp2_with fail
   refine PS.mono ?_
   rintro e V3 ⟨rfl, M3⟩
   have MV3 := MV.trans' M3
   clear PS t1 t2
   obtain ⟨t1, t2⟩ := blkc (MV3.heap hR1 fun h => h)
   have eL : ((L.length : Int) == (L.length : Int)) = true := by simp
   have BV3 : Below w0.heap.size w0 V3 := BV.trans (MV3.to_below (by have := BV.size; omega) fun _ h => h.elim)
   have hkA := MV3.heap hk fun h => h
   have hkB := MV3.heap hkV fun h => h
   go_wp2_with fail
   have hne : w7.heap.size ≠ w9.heap.size := by have := hlt.out; omega
   exact retM2 (D := w9.heap.size) (E := w7.heap.size) hne hkA hkB rfl (results_tmp rfl _ _ _) ⟨rfl, B0.trans ((below_put (below_put BV3 (by omega) _) (by have := hlt7.out; omega) _).mono B0.size)⟩
 ·have e := hwle (fun h => h2 h.2)
  subst e
  clear hwn hwle
  go_wp2_with fail
  refine PR.mono ?_
  rintro e w9 ⟨rfl, k1, k2, k3, M9, hz9⟩
  rw [hW8.out] at M9
  have M89 := M8.trans' M9
  have IT2 := range_iter (O8.mod0 M89) (fun k hk => by have := M89.size; omega) (by unfold fit64; decide) (by unfold fit64; decide) k1 k2 k3
  rw [range_all hrow.out] at IT2
  replace b8 := M9.heap b8 fun h => h
  have hk9 := M89.heap hk1 fun h => h
  have bg9 := M89.heap hGb fun h => h
  clear PR y1 y2 hW8 k1 k2 k3
  go_wp2_with fail
  refine wp_range0 (gf := 49) rfl (enters_of Tryz.func49 (by kernel_rfl) rfl) IT2 (fun _ => rfl)
   (fun j => j = W.heap.size) (fun j hj => by have : j = W.heap.size := hj; have := M89.size; have := blkl b8; omega) (fun j hj h => by have h : j = W.heap.size := h; omega) (fun j hj => by have := hz8.out; omega)
   (CntR7 W.heap.size (fun m => (m : Int)) (fun _ => True)) (fun c pre W => False)
   CntR7.looks (fun c pre W W' h hk => h.elim) ⟨by simpa using b8, trivial⟩ ?body ?done ?stop
  case stop => exact fun c pre W _ _ h _ => h.elim
  case body =>
   apply Exists.intro
   constructor
   ·intro yl x W KK hKK
    simp [encSB]
    gi_wp2_with fail
    exact hKK
   ·intro yl pre x rest W' hx hM hR
    obtain ⟨hR1, _⟩ := hR
    dsimp only at hR1
    obtain ⟨t1, t2⟩ := blkc hR1
    have hlen : L.length = pre.length + 1 + rest.length := by rw [show L = pre ++ x :: rest from hx]; simp; omega
    have hq : ((pre.length : Nat) : Int) + 1 ≤ 65536 := by have := hbd.out; omega
    have fin : Mod (fun j => j = W.heap.size) W' (W'.setCell ⟨W.heap.size, 0, none⟩ (.int .i64 ((pre.length : Int) + 1))) ∧ CntR7 W.heap.size (fun m => (m : Int)) (fun _ => True) (pre ++ [x]) (W'.setCell ⟨W.heap.size, 0, none⟩ (.int .i64 ((pre.length : Int) + 1))) := by
     refine ⟨Mod.setCell (S := fun j => j = W.heap.size) (p := ⟨W.heap.size, 0, none⟩) (Mod.refl _ _) (.inl rfl) _, ?_, trivial⟩
     have e : (((pre ++ [x]).length : Nat) : Int) = (pre.length : Int) + 1 := by simp
     show (W'.setCell _ _).heap[W.heap.size]? = some (.cells #[.int .i64 (((pre ++ [x]).length : Nat) : Int)] 3 (0, 0))
     rw [e]; exact one_setCell7 hR1
    clear hx hlen hM hR1
    replace fin := hid fin
    gi_wp2_with fail
    exact fin.out
  case done =>
   intro V hM hR hk
   have hR1 : V.heap[W.heap.size]? = some (.cells #[.int .i64 (L.length : Int)] 3 (0, 0)) := hR.1
   have hlt' := hlt.out
   have hkV := hM.heap hk9 (by omega)
   have bgV := hM.heap bg9 (by have := hlt7.out; omega)
   have RgV : RowV V (.slice Ag pre.length cg) pre := own_mod (hG3.out.keep M89) hM fun k hk e => by have := hgown2 k hk; have : k = W.heap.size := e; omega
   have RwV : RowV V (.slice A5 Ml.length cap5) (Ml.take Ml.length) := own_mod (hRW.out.keep M89) hM fun k hk e => by have := own_lt hRW.out hk; have : k = W.heap.size := e; omega
   rw [← hPn.out] at RwV
   have hw0W := BW.out.size
   have hs9 := M89.size
   have hsV := hM.size
   have hd9 : w9.heap.size < V.heap.size := blkl hk
   have BV : Below w0.heap.size w0 V := (BW.out.trans (M89.to_below hw0W fun _ h => h.elim)).trans (hM.to_below (by omega) fun j h => by have : j = W.heap.size := h; omega)
   have hpl : pre.length ≤ 65536 := by rw [hPn.out]; simp; omega
   replace hpl := hid hpl
   clear hM hR IT2 hk9 bg9 O8 b8 hz9 hlt'
   go_wp2_with fail
   refine (alive8 _).mono ?_
   rintro e V2 ⟨rfl, B2⟩
   have MV := Mod.of_below (S := fun _ => False) B2
   have PS := same5 (RgV.keep MV).rd (RwV.keep MV).rd hpl.out
   obtain ⟨t1, t2⟩ := blkc (MV.heap bgV fun h => h)
   go_wp2_with fail
   refine PS.mono ?_
   rintro e V3 ⟨rfl, M3⟩
   have MV3 := MV.trans' M3
   clear PS t1 t2
   obtain ⟨t1, t2⟩ := blkc (MV3.heap hR1 fun h => h)
   have eL : ((L.length : Int) == (L.length : Int)) = true := by simp
   have BV3 : Below w0.heap.size w0 V3 := BV.trans (MV3.to_below (by have := BV.size; omega) fun _ h => h.elim)
   have hkA := MV3.heap hk fun h => h
   have hkB := MV3.heap hkV fun h => h
   go_wp2_with fail
   have hne : w7.heap.size ≠ w9.heap.size := by have := hlt.out; omega
   exact retM2 (D := w9.heap.size) (E := w7.heap.size) hne hkA hkB rfl (results_tmp rfl _ _ _) ⟨rfl, B0.trans ((below_put (below_put BV3 (by omega) _) (by have := hlt7.out; omega) _).mono B0.size)⟩
 ·have e := hwle (fun h => h1 h.1)
  subst e
  clear hwn hwle
  go_wp2_with fail
  refine PR.mono ?_
  rintro e w9 ⟨rfl, k1, k2, k3, M9, hz9⟩
  rw [hW8.out] at M9
  have M89 := M8.trans' M9
  have IT2 := range_iter (O8.mod0 M89) (fun k hk => by have := M89.size; omega) (by unfold fit64; decide) (by unfold fit64; decide) k1 k2 k3
  rw [range_all hrow.out] at IT2
  replace b8 := M9.heap b8 fun h => h
  have hk9 := M89.heap hk1 fun h => h
  have bg9 := M89.heap hGb fun h => h
  clear PR y1 y2 hW8 k1 k2 k3
  go_wp2_with fail
  refine wp_range0 (gf := 49) rfl (enters_of Tryz.func49 (by kernel_rfl) rfl) IT2 (fun _ => rfl)
   (fun j => j = W.heap.size) (fun j hj => by have : j = W.heap.size := hj; have := M89.size; have := blkl b8; omega) (fun j hj h => by have h : j = W.heap.size := h; omega) (fun j hj => by have := hz8.out; omega)
   (CntR7 W.heap.size (fun m => (m : Int)) (fun _ => True)) (fun c pre W => False)
   CntR7.looks (fun c pre W W' h hk => h.elim) ⟨by simpa using b8, trivial⟩ ?body ?done ?stop
  case stop => exact fun c pre W _ _ h _ => h.elim
  case body =>
   apply Exists.intro
   constructor
   ·intro yl x W KK hKK
    simp [encSB]
    gi_wp2_with fail
    exact hKK
   ·intro yl pre x rest W' hx hM hR
    obtain ⟨hR1, _⟩ := hR
    dsimp only at hR1
    obtain ⟨t1, t2⟩ := blkc hR1
    have hlen : L.length = pre.length + 1 + rest.length := by rw [show L = pre ++ x :: rest from hx]; simp; omega
    have hq : ((pre.length : Nat) : Int) + 1 ≤ 65536 := by have := hbd.out; omega
    have fin : Mod (fun j => j = W.heap.size) W' (W'.setCell ⟨W.heap.size, 0, none⟩ (.int .i64 ((pre.length : Int) + 1))) ∧ CntR7 W.heap.size (fun m => (m : Int)) (fun _ => True) (pre ++ [x]) (W'.setCell ⟨W.heap.size, 0, none⟩ (.int .i64 ((pre.length : Int) + 1))) := by
     refine ⟨Mod.setCell (S := fun j => j = W.heap.size) (p := ⟨W.heap.size, 0, none⟩) (Mod.refl _ _) (.inl rfl) _, ?_, trivial⟩
     have e : (((pre ++ [x]).length : Nat) : Int) = (pre.length : Int) + 1 := by simp
     show (W'.setCell _ _).heap[W.heap.size]? = some (.cells #[.int .i64 (((pre ++ [x]).length : Nat) : Int)] 3 (0, 0))
     rw [e]; exact one_setCell7 hR1
    clear hx hlen hM hR1
    replace fin := hid fin
    gi_wp2_with fail
    exact fin.out
  case done =>
   intro V hM hR hk
   have hR1 : V.heap[W.heap.size]? = some (.cells #[.int .i64 (L.length : Int)] 3 (0, 0)) := hR.1
   have hlt' := hlt.out
   have hkV := hM.heap hk9 (by omega)
   have bgV := hM.heap bg9 (by have := hlt7.out; omega)
   have RgV : RowV V (.slice Ag pre.length cg) pre := own_mod (hG3.out.keep M89) hM fun k hk e => by have := hgown2 k hk; have : k = W.heap.size := e; omega
   have RwV : RowV V (.slice A5 Ml.length cap5) (Ml.take Ml.length) := own_mod (hRW.out.keep M89) hM fun k hk e => by have := own_lt hRW.out hk; have : k = W.heap.size := e; omega
   rw [← hPn.out] at RwV
   have hw0W := BW.out.size
   have hs9 := M89.size
   have hsV := hM.size
   have hd9 : w9.heap.size < V.heap.size := blkl hk
   have BV : Below w0.heap.size w0 V := (BW.out.trans (M89.to_below hw0W fun _ h => h.elim)).trans (hM.to_below (by omega) fun j h => by have : j = W.heap.size := h; omega)
   have hpl : pre.length ≤ 65536 := by rw [hPn.out]; simp; omega
   replace hpl := hid hpl
   clear hM hR IT2 hk9 bg9 O8 b8 hz9 hlt'
   go_wp2_with fail
   refine (alive8 _).mono ?_
   rintro e V2 ⟨rfl, B2⟩
   have MV := Mod.of_below (S := fun _ => False) B2
   have PS := same5 (RgV.keep MV).rd (RwV.keep MV).rd hpl.out
   obtain ⟨t1, t2⟩ := blkc (MV.heap bgV fun h => h)
   go_wp2_with fail
   refine PS.mono ?_
   rintro e V3 ⟨rfl, M3⟩
   have MV3 := MV.trans' M3
   clear PS t1 t2
   obtain ⟨t1, t2⟩ := blkc (MV3.heap hR1 fun h => h)
   have eL : ((L.length : Int) == (L.length : Int)) = true := by simp
   have BV3 : Below w0.heap.size w0 V3 := BV.trans (MV3.to_below (by have := BV.size; omega) fun _ h => h.elim)
   have hkA := MV3.heap hk fun h => h
   have hkB := MV3.heap hkV fun h => h
   go_wp2_with fail
   have hne : w7.heap.size ≠ w9.heap.size := by have := hlt.out; omega
   exact retM2 (D := w9.heap.size) (E := w7.heap.size) hne hkA hkB rfl (results_tmp rfl _ _ _) ⟨rfl, B0.trans ((below_put (below_put BV3 (by omega) _) (by have := hlt7.out; omega) _).mono B0.size)⟩
end
open Go Go.RowKit
theorem fit3 {cs : Array Value} (h : Fit [.int .i64, .int .i64, .int .i64] cs.toList) : ∃ a b c : Int, cs = #[.int .i64 a, .int .i64 b, .int .i64 c] ∧ fit64 a ∧ fit64 b ∧ fit64 c := by
 obtain ⟨v, vs, e, ⟨n, rfl, hn⟩, h2⟩ := h.cons_inv
 obtain ⟨v2, vs2, rfl, ⟨n2, rfl, hn2⟩, h3⟩ := h2.cons_inv
 obtain ⟨v3, vs3, rfl, ⟨n3, rfl, hn3⟩, h4⟩ := h3.cons_inv
 obtain rfl := h4.nil_inv
 exact ⟨n, n2, n3, by cases cs; simp_all, wf64 hn, wf64 hn2, wf64 hn3⟩
theorem ranges8r (cs : Array Value) (a : Option Addr) (len cap : Nat) (zs : List Op8) (cr : Array Value) (w : World) (fit : Fit [.int .i64, .int .i64] cs.toList) (hr : RdS encO8 7 w a len zs) (hG : ∀ z ∈ zs, GOp8 z) (_ : len * 56 ≤ 140737488351232) (fr : Fit [.int .i64, .int .i64, .int .i64] cr.toList) :
  Calls Tryz.prog 6 #[.agg cs, .slice a len cap, .agg cr] w fun e w' => e = .returned (.bool true) ∧ Below w.heap.size w w' := by
 obtain ⟨deg, room, rfl, _, _⟩ := seatArg8 fit
 obtain ⟨r0, r1, r2, rfl, h0, h1, h2⟩ := fit3 fr
 exact ranges8 deg room a len cap zs r0 r1 r2 w h0 h1 h2 hr hG
end Go.Proofs.Bo
