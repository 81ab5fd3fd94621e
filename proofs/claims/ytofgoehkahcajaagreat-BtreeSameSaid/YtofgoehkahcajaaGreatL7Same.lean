import Derived.Test.YtofgoehkahcajaaGreatAMG
import Derived.Test.YtofgoehkahcajaaGreatAll7
import Derived.Test.YtofgoehkahcajaaGreatWkG
import Derived.Test.YtofgoehkahcajaaGreatRefG
import Derived.Test.YtofgoehkahcajaaGreatBoG
set_option linter.unusedVariables false
set_option linter.unusedSimpArgs false
namespace Go.Proofs.Bo
open Go Go.RowKit Go.Shelf

theorem fitCut7 {cs : Array Value} (h : Fit [.int .i64, .int .i64] cs.toList) : ∃ s a : Int, cs = #[.int .i64 s, .int .i64 a] ∧ fit64 a := by
  obtain ⟨s, a, e, _, h⟩ := seatArg h
  exact ⟨s, a, e, h⟩

theorem box2w (w : World) (deg room cs ca : Int) : ∃ w0, (w.alloc (.cells #[.int .i64 deg, .int .i64 room] 23)).alloc (.cells #[.int .i64 cs, .int .i64 ca] 26) = w0 ∧ w0.heap[w.heap.size]? = some (.cells #[.int .i64 deg, .int .i64 room] 23 (0, 0)) ∧
    w0.heap[w.heap.size + 1]? = some (.cells #[.int .i64 cs, .int .i64 ca] 26 (0, 0)) ∧ Mod (fun _ => False) w w0 ∧ w0.heap.size = w.heap.size + 2 :=
  ⟨_, rfl, alloc2_0 _ _ _, alloc2_1 _ _ _, ((Mod.refl _ _).alloc _).alloc _, by simp⟩

theorem FB.clear {w0 w w' : World} {tb : Nat} {room : Int} {l : List Sg} (h : FB w0 w tb room l) (a : RB (fun k => w0.heap.size ≤ k ∨ w.heap.size ≤ k) w' tb room []) (m : Mod (fun k => w0.heap.size ≤ k) w w') : FB w0 w' tb room [] := h.grow a m

section
attribute [local go_sem] Oper.semAt_some
attribute [local irreducible] wpQuiet
set_option maxHeartbeats 4000000 in
set_option maxRecDepth 100000 in
theorem same7 (deg room : Int) (a : Option Addr) (len cap : Nat) (zs : List Op6) (cs ca : Int) (w : World) (hf : fit64 ca) (hr : RdS encO6 6 w a len zs) (hG : ∀ z ∈ zs, GOp6 z) :
    Calls Tryz.prog 3 #[.agg #[.int .i64 deg, .int .i64 room], .slice a len cap, .agg #[.int .i64 cs, .int .i64 ca]] w fun e w' => e = .returned (.bool true) ∧ Below w.heap.size w w' := by
  obtain ⟨w0, hw0, bS, b0, M0, hz0⟩ := box2w w deg room cs ca
  replace hr := hr.below (by decide) (M0.to_below (Nat.le_refl _) fun _ h => h.elim)
  have B0 : Below w.heap.size w w0 := M0.to_below (Nat.le_refl _) fun _ h => h.elim
  obtain ⟨dS, eS⟩ := blkc bS
  replace hz0 := hid hz0
  by_cases hb : (deg < 2 ∨ 64 < deg ∨ room < 0 ∨ 4096 < room) ∨ 200 < len
  · have P := madeB_no deg room a len cap w0 hb
    clear hb
    refine calls_of_wp_marks Tryz.func3 rfl ?_
    simp only [Tryz.ntmps3, List.size_toArray, List.length_cons, List.length_nil, Nat.reduceAdd, Nat.reduceSub, Array.replicate_succ, Array.replicate_zero, List.push_toArray, List.append_toArray, List.nil_append, List.cons_append]
    go_wp2_with fail
    refine P.mono ?_
    rintro e w1 ⟨rfl, B1⟩
    obtain ⟨d1, e1⟩ := blkc ((B1.block _ (blkl bS)).trans bS)
    have P2 : Calls Tryz.prog 5 #[.int .i64 room] w1 fun e w2 => Below w1.heap.size w1 w2 ∧ ((∃ tr, e = .returned (.tuple #[.pointer (some ⟨tr, 0, none⟩), .int .i64 0])) ∨ e = .returned (.tuple #[.pointer none, .int .i64 1])) := by
      by_cases hr2 : room < 0 ∨ 4096 < room
      · refine (newTZ_no room hr2 w1).mono ?_
        rintro e w2 ⟨rfl, rfl⟩
        exact ⟨Below.refl _ _, .inr rfl⟩
      · refine (fb_new (by omega) (by omega) w1).mono ?_
        rintro e w2 ⟨tr, rfl, F⟩
        exact ⟨F.below, .inl ⟨tr, rfl⟩⟩
    clear dS eS P
    go_wp2_with fail
    refine P2.mono ?_
    rintro e w2 ⟨B2, hq⟩
    have B12 := B1.trans (B2.mono B1.size)
    clear d1 e1 P2
    rcases hq with ⟨tr, rfl⟩ | rfl
    all_goals
      go_wp2_with fail
      refine (alive7 _).mono ?_
      rintro e w3 ⟨rfl, B3⟩
      have Ball := B0.trans ((B12.trans (B3.mono B12.size)).mono B0.size)
      go_wp2_with fail
      exact retM0 (results_tmp rfl _ _ _) rfl ⟨rfl, Ball⟩
  obtain ⟨d, rfl⟩ : ∃ d : Nat, deg = d := ⟨deg.toNat, by omega⟩
  have hd : 2 ≤ d ∧ d ≤ 64 := by omega
  have hr0 : 0 ≤ room ∧ room ≤ 4096 := by omega
  have hle : len ≤ 200 := by omega
  have P := madeB2 d room a len cap zs w0 hr hG hd hr0 hle
  clear hb
  refine calls_of_wp_marks Tryz.func3 rfl ?_
  simp only [Tryz.ntmps3, List.size_toArray, List.length_cons, List.length_nil, Nat.reduceAdd, Nat.reduceSub, Array.replicate_succ, Array.replicate_zero, List.push_toArray, List.append_toArray, List.nil_append, List.cons_append]
  go_wp2_with fail
  refine P.mono ?_
  rintro e w1 ⟨tb, v, rfl, F1⟩
  obtain ⟨A, c, rfl, _⟩ := F1.2.1.slice
  have T1 := F1.fb7
  clear F1
  obtain ⟨d1, e1⟩ := blkc (T1.2.heap bS fun h => h)
  have P2 := fb_new (room := room) hr0.1 hr0.2 w1
  clear dS eS P
  go_wp2_with fail
  refine P2.mono ?_
  rintro e w2 ⟨tr, rfl, R2⟩
  clear d1 e1 P2
  have hlen : (foldR room zs).length ≤ 4096 := by have := bb_bound T1.1; omega
  replace hlen := hid hlen
  go_wp2_with fail
  go_loopw [50] (fun c W => ∃ k : Nat, k ≤ len ∧ c = .int .i64 (k : Int) ∧ FB w1 W tr room (foldR room (zs.take k))) (fun c _ => (len - intOf c).toNat)
  case atStart => exact ⟨0, by omega, rfl, by simpa [foldR] using R2⟩
  case round =>
    clear R2
    obtain ⟨k, hk, rfl, R⟩ := hrel
    by_cases hlt : k < len
    · have hzl : k < zs.length := by rw [hr.1]; exact hlt
      obtain ⟨b, o, rfl, hc⟩ := hr.2.2 (by omega)
      have BW : Below w0.heap.size w0 wr := T1.below.trans (R.below.mono T1.below.size)
      obtain ⟨x0, x1, x2, x3, x4, x5⟩ := RdS.op6 hc BW hzl
      have hg := hG zs[k] (by simp)
      have hnx := foldR_take (room := room) hzl
      generalize zs[k] = op at x0 x1 x2 x3 x4 x5 hg hnx
      generalize foldR room (zs.take k) = L at R hnx
      obtain ⟨W1, hW1, ho, m1⟩ := boxO wr op
      obtain ⟨q1, q2⟩ := blkc ho
      replace R := R.mod0 m1
      have hgf := hg.2.2.1
      have PU := fb_put R op.s hgf
      have PD := fb_del R op.s.ls op.s.la hgf
      have PC := rb_clear R.1
      have fin : ∀ W2, FB w1 W2 tr room (do6L room op L) → FB w1 W2 tr room (foldR room (zs.take (k + 1))) := fun W2 h => by rw [hnx]; exact h
      clear hc hr hG hg BW hnx hzl
      obtain ⟨q, ls, la, hs, ha, sv⟩ := op
      simp only [encO6] at hW1 q1
      simp only [encS] at PU
      dsimp only at PU PD x0 x1 x2 x3 x4 x5
      unfold do6L at fin
      by_cases h0 : q = 0
      · subst h0
        simp only [if_true] at fin
        replace fin := hid fin
        clear PD PC
        go_wp2_with fail
        refine PU.mono ?_
        rintro e w3 ⟨rfl, R3⟩
        go_wp2_with fail
        go_roundw
        case rel => exact ⟨k + 1, by omega, by simp, fin.out _ R3⟩
        case measure => simp [intOf]; omega
      · simp only [if_neg h0] at fin
        have h0' : (q == 0) = false := by simpa using h0
        clear PU
        by_cases h1 : q = 1
        · subst h1
          simp only [if_true] at fin
          replace fin := hid fin
          clear PC
          go_wp2_with fail
          refine PD.mono ?_
          rintro e w3 ⟨rfl, R3⟩
          go_wp2_with fail
          go_roundw
          case rel => exact ⟨k + 1, by omega, by simp, fin.out _ R3⟩
          case measure => simp [intOf]; omega
        · simp only [if_neg h1] at fin
          have h1' : (q == 1) = false := by simpa using h1
          clear PD
          by_cases h2 : q = 2
          · subst h2
            simp only [if_true] at fin
            replace fin := hid fin
            go_wp2_with fail
            refine PC.mono ?_
            rintro e w3 ⟨rfl, R3, M3⟩
            go_wp2_with fail
            go_roundw
            case rel => exact ⟨k + 1, by omega, by simp, fin.out _ (R.clear R3 M3)⟩
            case measure => simp [intOf]; omega
          · simp only [if_neg h2] at fin
            have h2' : (q == 2) = false := by simpa using h2
            replace fin := hid fin
            clear PC
            go_wp2_with fail
            go_roundw
            case rel => exact ⟨k + 1, by omega, by simp, fin.out _ R⟩
            case measure => simp [intOf]; omega
    · obtain rfl : k = len := by omega
      have hz : zs.take k = zs := List.take_of_length_le (by rw [hr.1]; omega)
      rw [hz] at R
      generalize foldR room zs = L at R T1 hlen
      clear hlt hk hr hz hG
      have T := T1.mod0 R.2
      have RW := T1.below.trans (R.below.mono T1.below.size)
      obtain ⟨ab, N, lv, fv, free, t, hT, hrow, hfine, hL, hX⟩ := R.1
      obtain ⟨w3, hw3, b3, M3, hs3⟩ : ∃ w3, wr.alloc (.cells #[.slice none 0 0] 28) = w3 ∧ w3.heap[wr.heap.size]? = some (.cells #[.slice none 0 0] 28 (0, 0)) ∧ Mod (fun _ => False) wr w3 ∧ w3.heap.size = wr.heap.size + 1 := ⟨_, rfl, alloc_0 _ _, (Mod.refl _ _).alloc _, by simp⟩
      have hTF : ∀ j, TF tr ab lv fv j → j < wr.heap.size := fun k hk => hT.lt hk
      have HA := allTZ w3 tr
      replace hs3 := hid hs3
      have hcut : wr.heap[w.heap.size + 1]? = some (.cells #[.int .i64 cs, .int .i64 ca] 26 (0, 0)) := T.2.heap b0 fun h => h
      go_wp2_with fail
      refine HA.mono ?_; rintro e w4 ⟨rfl, hw4⟩
      have M4 : Mod (fun _ => False) w3 w4 := by rw [hw4]; exact ((Mod.refl _ _).alloc _).alloc _
      have k1 : w4.heap[w3.heap.size]? = some (.cells #[.pointer (some ⟨tr, 0, none⟩)] 31 (0, 0)) := by rw [hw4]; exact alloc2_0 _ _ _
      have k2 : w4.heap[w3.heap.size + 1]? = some (.cells #[.int .i64 (di false)] 3 (0, 0)) := by rw [hw4]; exact alloc2_1 _ _ _
      have hz4 : w4.heap.size = w3.heap.size + 2 := by rw [hw4]; simp [WalkW]
      clear hw4 HA hw3
      replace b3 := M4.heap b3 fun h => h
      have M34 := M3.trans' M4
      have hT4 := hT.mod0 M34
      replace hs3 := hs3.out
      rw [hs3] at k1 k2 hz4
      rw [hs3]
      have IT := walk_iter false hT4 k1 k2
      rw [hL] at IT
      change Iter _ _ _ _ L _ _ at IT
      obtain ⟨bx, hbx⟩ : ∃ bx, wr.heap.size = bx := ⟨_, rfl⟩
      rw [hbx] at b3 k1 k2 hz4 hTF IT
      rw [hbx]
      have hlt4 : w4.heap.size = bx + 3 := by omega
      have e43 : w4.heap.size = bx + 1 + 2 := hlt4
      have hw0b : w0.heap.size ≤ bx := by have := RW.size; omega
      have hw1b : w1.heap.size ≤ bx := by have := R.2.size; omega
      have hwrb : ∀ j, j = bx → wr.heap.size ≤ j := fun j e => by omega
      have hz0' := hz0.out
      clear hs3 hbx hz4
      replace hlen := hlen.out
      go_wp2_with fail
      refine wp_range1G (gf := 70) (lb := #[.pointer (some ⟨bx + 1, 0, none⟩), .pointer (some ⟨bx + 1 + 1, 0, none⟩)]) rfl (enters_of Tryz.func70 (by kernel_rfl) rfl) IT (fun _ => rfl)
        (fun j => j = bx) (fun j hj => by have : j = bx := hj; omega) (fun j hj h => by have h : j = bx := h; rcases hj with hj | hj | hj; omega; omega; have := hTF j hj; omega) (fun j hj => by rcases hj with hj | hj | hj; omega; omega; have := hTF j hj; omega)
        (AllJ7 bx w4) (fun c pre G W => False) (AllJ7.stab _ _) (fun c s G W W' T h m t => h.elim)
        (fun pre G W ⟨v, g1, g2, g3, g4, g5⟩ => ⟨g5.size, fun k hk => by rcases (g1 k).1 hk with rfl | hk; exact blkl g2; exact own_lt g3 hk⟩)
        ⟨.slice none 0 0, fun k => ⟨.inl, fun h => h.elim id fun h => by cases h⟩, b3, RowV.nil _, fun k hk => (by cases hk), Mod.refl _ _⟩
        (fun x => #[.int .i64 x.ls, .int .i64 x.la, .int .i64 x.hs, .int .i64 x.ha, .int .i64 x.v]) 39 ?body ?done ?stop
      case stop => exact fun c pre G W _ h => h.elim
      case body =>
        apply Exists.intro
        constructor
        · intro yl x W KK hKK
          simp [encSV]
          gi_wp2_with fail
          generalize W.heap.size = b at hKK ⊢
          exact hKK
        · intro yl pre x rest b G W hx hb hGb hbz hI hne
          obtain ⟨v, g1, g2, g3, g4, g5⟩ := hI
          obtain ⟨q1, q2⟩ := blkc g2
          obtain ⟨p1, p2⟩ := blkc hb
          have hlp : pre.length ≤ 65536 := by rw [hx] at hlen; simp at hlen; omega
          clear hx
          obtain ⟨xl, xa, xh, xg, xv⟩ := x
          gi_wp2_with (refine app_oneIn [.int .i64 xl, .int .i64 xa, .int .i64 xh, .int .i64 xg, .int .i64 xv] v pre.length (pre.flatMap encS) (.tmp 78) (.tmp 80) 28 39 (.agg #[.int .i64 0, .int .i64 0, .int .i64 0, .int .i64 0, .int .i64 0]) 5 40 rfl rfl Tryz.underlying28 infoSg rfl (by omega) (by omega) rfl rfl g3 rfl (by simp [Value.oneCell']) (by omega) ?_)
          intro v6 w6 own gr bl
          have Mg : Mod (fun k => v.ownBlock = some k) W w6 := Mod.of_grown gr
          have g26 := Mg.heap g2 (fun h => by have := g4 _ h; omega)
          obtain ⟨r1, r2⟩ := blkc g26
          have hown : ∀ k, v6.ownBlock = some k → k < w6.heap.size := fun k hk => own_lt own hk
          have hg6 : ∀ k, v6.ownBlock = some k → w4.heap.size ≤ k := fun k hk => by
            rcases bl k hk with e | e
            · exact g4 k e
            · exact Nat.le_trans g5.size e
          have R6 : RowV w6 v6 (pre ++ [⟨xl, xa, xh, xg, xv⟩]) := by
            unfold RowV
            rw [List.flatMap_append, List.length_append]
            simpa [encS] using own
          obtain ⟨A6, c6, hv6, _⟩ := own_slice own
          have hz6 := Mg.size
          have hbl := blkl g26
          have fin : roundEnd (AllJ7 bx w4) (fun c pre G W => False) (pre ++ [⟨xl, xa, xh, xg, xv⟩]) G W .normal { tmps := #[], defers := [] } (w6.setCell ⟨bx, 0, none⟩ v6) := by
            have MS : Mod (fun k => k = bx) w6 (w6.setCell ⟨bx, 0, none⟩ v6) := Mod.setCell (S := fun k => k = bx) (p := ⟨bx, 0, none⟩) (Mod.refl _ _) (.inl rfl) _
            refine ⟨fun k => k = bx ∨ v6.ownBlock = some k, fun k hk => ?_, ?_, v6, fun k => Iff.rfl, setL_whole (cs := [v]) (us := [v6]) g26 rfl, own_mod R6 MS fun k hk h => ?_, hg6, ?_⟩
            · rcases hk with rfl | hk
              · exact ⟨.inl ((g1 _).2 (.inl rfl)), by simpa using hbl⟩
              · refine ⟨?_, by simpa using hown k hk⟩
                rcases bl k hk with e | e
                · exact .inl ((g1 k).2 (.inr e))
                · exact .inr e
            · exact ((Mg.mono fun i hi => .inl ((g1 i).2 (.inr hi))).trans MS fun i hi => .inl ((g1 i).2 (.inl hi)))
            · have := hg6 k hk; have h : k = bx := h; omega
            · exact (g5.trans Mg fun i hi => .inr (g4 i hi)).trans MS fun i hi => .inl hi
          subst hv6
          clear q1 q2 p1 p2
          replace fin := hid fin
          gi_wp2_with fail
          exact fin.out
      case done =>
        rintro G W ⟨v, g1, g2, g3, g4, g5⟩ hne hk
        have MrW : Mod (fun _ => False) wr W := M34.trans g5 fun j h => .inr (hwrb j h)
        replace T := T.mod0 MrW
        have R7 := R.1.mod0 MrW
        have hcW := MrW.heap hcut fun h => h
        have BW := RW.trans ((MrW.to_below (B := w0.heap.size) RW.size fun _ h => h.elim))
        obtain ⟨A', c', rfl, _⟩ := g3.slice
        have hzW := MrW.size
        clear g1 g4 g5 hne IT hT4 k1 k2 b3 hX hT hrow hfine hL hTF R T1 MrW M34 M3 M4 RW
        have PF7 := hid fun W' (M : CM W W') => bb_floor (T.mod0 M).1 cs ca hf
        have PH7 := hid fun W' (M : CM W W') => bb_high (T.mod0 M).1 cs ca hf
        have PF6 := hid fun W' (M : CM W W') => rb_floor (R7.mod0 M) cs ca hf
        have PH6 := hid fun W' (M : CM W W') => rb_high (R7.mod0 M) cs ca hf
        generalize nearS false true (kx cs ca) L = o1, nearS true false (kx cs ca) L = o2 at PF7 PH7 PF6 PH6
        unfold optS at PF7 PH7 PF6 PH6
        have HC := hid fun W' (M : CM W W') => blkc (M.heap hcW fun h => h)
        obtain ⟨q1, q2⟩ := HC.out _ (Mod.refl _ _)
        generalize hs1 : oS o1 = s1 at *
        generalize hs2 : oS o2 = s2 at *
        generalize o1.isSome = f1, o2.isSome = f2 at *
        go_wp2_with fail
        refine (PF7.out _ (Mod.refl _ _)).mono ?_; rintro e wA ⟨rfl, MA⟩
        obtain ⟨uA, WA, gA, kA, bA, BA, NA⟩ := put5s wA s1
        have CA : CM W WA := MA.trans' NA
        obtain ⟨dA, eA⟩ := blkc bA
        clear q1 q2
        obtain ⟨q1, q2⟩ := HC.out _ CA
        go_wp2_with fail
        clear dA eA gA kA bA q1 q2
        refine (PF6.out _ CA).mono ?_; rintro e wB ⟨rfl, MB⟩
        obtain ⟨uB, WB, gB, kB, bB, BB', NB⟩ := put5s wB s1
        have CB : CM W WB := (CA.trans' MB).trans' NB
        replace BA := NB.heap (MB.heap BA fun h => h) fun h => h
        obtain ⟨dB, eB⟩ := blkc bB
        obtain ⟨q1, q2⟩ := HC.out _ CB
        go_wp2_with fail
        clear dB eB gB kB bB q1 q2
        refine (PH7.out _ CB).mono ?_; rintro e wC ⟨rfl, MC⟩
        obtain ⟨uC, WC, gC, kC, bC, BC, NC⟩ := put5s wC s2
        have CC : CM W WC := (CB.trans' MC).trans' NC
        replace BA := NC.heap (MC.heap BA fun h => h) fun h => h
        replace BB' := NC.heap (MC.heap BB' fun h => h) fun h => h
        obtain ⟨dC, eC⟩ := blkc bC
        obtain ⟨q1, q2⟩ := HC.out _ CC
        go_wp2_with fail
        clear dC eC gC kC bC q1 q2
        refine (PH6.out _ CC).mono ?_; rintro e wD ⟨rfl, MD⟩
        obtain ⟨uD, WD, gD, kD, bD, BD, ND⟩ := put5s wD s2
        have CD : CM W WD := (CC.trans' MD).trans' ND
        replace BA := ND.heap (MD.heap BA fun h => h) fun h => h
        replace BB' := ND.heap (MD.heap BB' fun h => h) fun h => h
        replace BC := ND.heap (MD.heap BC fun h => h) fun h => h
        obtain ⟨dD, eD⟩ := blkc bD
        go_wp2_with fail
        clear dD eD gD kD bD PF7 PF6 PH7 PH6 HC
        replace T := T.mod0 CD
        replace g3 := g3.keep CD
        replace g2 := CD.heap g2 fun h => h
        replace hk := CD.heap hk fun h => h
        replace BW := BW.trans ((CD.to_below (B := w0.heap.size) BW.size fun _ h => h.elim))
        refine ft_region 5 (.one 0 (.free 1 (.free 2 (.two 3 4 (.one 4 .rest) (.one 3 .rest))))) (by kernel_rfl) (by kernel_rfl) ?_
        intro Q0 hQ0
        refine wpT_one _ rfl ⟨by go_simp, fun K hK => ?_⟩
        go_simp
        refine (alive7 _).mono ?_
        rintro e wE ⟨rfl, BE⟩
        have ME : CM WD wE := ((Mod.refl _ WD).drewN 1).trans' (Mod.of_below BE)
        refine hK _ _ ?_
        clear hK K
        iterate 2 (refine wpT_free _ rfl (fun K hK => ?_); refine ⟨?_, ?_⟩; (focus (go_simp)); apply Exists.intro; refine ⟨fun wz => ?_, ?_⟩; (focus (go_simp; try with_reducible rfl)); go_simp; refine hK _ ?_; clear hK K)
        refine wpT_two _ _ rfl rfl ⟨by go_simp, fun K hK => ?_⟩ ⟨by go_simp, fun K hK => ?_⟩
        · go_simp
          refine (allR7 (T.mod0 ME).1 (by omega)).mono ?_
          rintro e wG ⟨v7, rfl, RV, _, MF⟩
          have MG : CM WD wG := ME.trans' MF
          have RL := g3.keep MG
          refine hK _ _ ?_
          clear hK K
          obtain ⟨l1, l2⟩ := blkc (MG.heap g2 fun h => h)
          refine wpT_one _ rfl ⟨by go_simp, fun K hK => ?_⟩
          go_simp
          refine hK _ _ ?_
          clear hK K l1 l2
          refine wpT_rest ?_
          have P1 : ∀ w', CM wG w' → Calls Tryz.prog 15 #[v7, .slice A' L.length c'] w' fun e w'' => e = .returned (.bool true) ∧ CM wG w'' := fun w' M => (sameR (RV.keep M) (RL.keep M) (by omega)).mono fun e w'' ⟨h1, h2⟩ => ⟨h1, M.trans' h2⟩
          have HX := fun w' (M : CM wG w') => And.intro (blkc (M.heap (MG.heap BA fun h => h) fun h => h)).1 (And.intro (blkc (M.heap (MG.heap BB' fun h => h) fun h => h)).1 (And.intro (blkc (M.heap (MG.heap BC fun h => h) fun h => h)).1 (blkc (M.heap (MG.heap BD fun h => h) fun h => h)).1))
          replace P1 := hid P1
          replace HX := hid HX
          simp only [List.drop_succ_cons, List.drop_zero]
          iterate 23 (refine wpQuiet_step (fun K hK => ?_); go_simp; first | (refine hK _ ?_; clear hK K) | (refine ⟨_, fun _ _ => rfl, hK _ ?_⟩; clear hK K) | (apply Exists.intro; refine ⟨fun wq hq => ?_, hK _ ?_⟩; (focus (first | (go_at_call 15; exact P1.out _ hq) | ((obtain ⟨u1, u2, u3, u4⟩ := HX.out _ hq; dsimp only [encS] at u1 u2 u3 u4); go_simp; try with_reducible rfl))); clear hK K))
          refine wpQuiet_nil ?_
          intro wH MH
          refine hQ0 _ _ ?_
          have BH := BW.trans (((MG.trans' MH).to_below (B := w0.heap.size) BW.size fun _ h => h.elim))
          replace hk := (MG.trans' MH).heap hk fun h => h
          clear P1 HX RV RL
          go_wp2_with fail
          first | (rw [hlt4] at hk; exact retM1 (D := bx + 3) hk rfl (results_tmp rfl _ _ _) ⟨rfl, below_put (B0.trans (BH.mono B0.size)) (by omega) _⟩) | (rw [e43] at hk; exact retM1 (D := bx + 1 + 2) hk rfl (results_tmp rfl _ _ _) ⟨rfl, below_put (B0.trans (BH.mono B0.size)) (by omega) _⟩)
        · obtain ⟨l1, l2⟩ := blkc (ME.heap g2 fun h => h)
          go_simp
          refine hK _ _ ?_
          clear hK K l1 l2
          refine wpT_one _ rfl ⟨by go_simp, fun K hK => ?_⟩
          go_simp
          refine (allR7 (T.mod0 ME).1 (by omega)).mono ?_
          rintro e wG ⟨v7, rfl, RV, _, MF⟩
          have MG : CM WD wG := ME.trans' MF
          have RL := g3.keep MG
          refine hK _ _ ?_
          clear hK K
          refine wpT_rest ?_
          have P1 : ∀ w', CM wG w' → Calls Tryz.prog 15 #[v7, .slice A' L.length c'] w' fun e w'' => e = .returned (.bool true) ∧ CM wG w'' := fun w' M => (sameR (RV.keep M) (RL.keep M) (by omega)).mono fun e w'' ⟨h1, h2⟩ => ⟨h1, M.trans' h2⟩
          have HX := fun w' (M : CM wG w') => And.intro (blkc (M.heap (MG.heap BA fun h => h) fun h => h)).1 (And.intro (blkc (M.heap (MG.heap BB' fun h => h) fun h => h)).1 (And.intro (blkc (M.heap (MG.heap BC fun h => h) fun h => h)).1 (blkc (M.heap (MG.heap BD fun h => h) fun h => h)).1))
          replace P1 := hid P1
          replace HX := hid HX
          simp only [List.drop_succ_cons, List.drop_zero]
          iterate 23 (refine wpQuiet_step (fun K hK => ?_); go_simp; first | (refine hK _ ?_; clear hK K) | (refine ⟨_, fun _ _ => rfl, hK _ ?_⟩; clear hK K) | (apply Exists.intro; refine ⟨fun wq hq => ?_, hK _ ?_⟩; (focus (first | (go_at_call 15; exact P1.out _ hq) | ((obtain ⟨u1, u2, u3, u4⟩ := HX.out _ hq; dsimp only [encS] at u1 u2 u3 u4); go_simp; try with_reducible rfl))); clear hK K))
          refine wpQuiet_nil ?_
          intro wH MH
          refine hQ0 _ _ ?_
          have BH := BW.trans (((MG.trans' MH).to_below (B := w0.heap.size) BW.size fun _ h => h.elim))
          replace hk := (MG.trans' MH).heap hk fun h => h
          clear P1 HX RV RL
          go_wp2_with fail
          first | (rw [hlt4] at hk; exact retM1 (D := bx + 3) hk rfl (results_tmp rfl _ _ _) ⟨rfl, below_put (B0.trans (BH.mono B0.size)) (by omega) _⟩) | (rw [e43] at hk; exact retM1 (D := bx + 1 + 2) hk rfl (results_tmp rfl _ _ _) ⟨rfl, below_put (B0.trans (BH.mono B0.size)) (by omega) _⟩)
theorem same7r (cs : Array Value) (a : Option Addr) (len cap : Nat) (zs : List Op6) (cc : Array Value) (w : World) (fit : Fit [.int .i64, .int .i64] cs.toList) (hr : RdS encO6 6 w a len zs) (hG : ∀ z ∈ zs, GOp6 z) (_ : len * 48 ≤ 140737488351232) (hc : Fit [.int .i64, .int .i64] cc.toList) :
    Calls Tryz.prog 3 #[.agg cs, .slice a len cap, .agg cc] w fun e w' => e = .returned (.bool true) ∧ Below w.heap.size w w' := by
  obtain ⟨deg, room, rfl, _, _⟩ := seatArg fit
  obtain ⟨s, x, rfl, hf⟩ := fitCut7 hc
  exact same7 deg room a len cap zs s x w hf hr hG
end
end Go.Proofs.Bo
