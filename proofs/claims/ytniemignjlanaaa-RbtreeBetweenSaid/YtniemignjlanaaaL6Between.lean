import Derived.Test.YtniemignjlanaaaL6Near
import Derived.Test.YtniemignjlanaaaPBetw
set_option linter.unusedVariables false
namespace Go.Proofs.Bo
open Go Go.RowKit

set_option maxHeartbeats 8000000 in
set_option maxRecDepth 100000 in
theorem between6 (room : Int) (a : Option Addr) (len cap : Nat) (zs : List Op6) (cc : Array Value) (w : World) (_ : (Lit.int .i64 room).wf = true) (hr : RdS encO6 6 w a len zs) (hG : ∀ z ∈ zs, GOp6 z) (hl : len * 48 ≤ 140737488351232) (hc : Fit [.int .i64, .int .i64] cc.toList) :
    Calls Try.prog 7 #[.int .i64 room, .slice a len cap, .agg cc] w fun e w' => e = .returned (.bool true) ∧ Below w.heap.size w w' := by
  obtain ⟨cs, ca, rfl, hf⟩ := fitCut hc
  clear hc
  obtain ⟨w0, hw0, b0, M0⟩ := boxC w cs ca
  replace hr := hr.below (by decide) (M0.to_below (Nat.le_refl _) fun _ h => h.elim)
  have B0 : Below w.heap.size w w0 := M0.to_below (Nat.le_refl _) fun _ h => h.elim
  by_cases hb : (room < 0 ∨ 4096 < room) ∨ 200 < len
  · go_enter Try.func7, Try.ntmps7
    go_wp2_with fail
    refine (madeZ_no room a len cap _ hb).mono ?_
    rintro e w1 ⟨rfl, B1⟩
    go_wp2_with fail
    refine (alive6 _).mono ?_
    rintro e w2 ⟨rfl, B2⟩
    go_wp2_with fail
    go_ret
    exact ⟨rfl, B0.trans ((B1.trans (B2.mono B1.size)).mono B0.size)⟩
  have hr0 : 0 ≤ room := by omega
  have hrm : room ≤ 4096 := by omega
  have hle : len ≤ 200 := by omega
  clear hb
  go_enter Try.func7, Try.ntmps7
  go_wp2_with fail
  refine (madeZ room a len cap zs _ hr hG hr0 hrm hle).mono ?_
  rintro e w1 ⟨tb, v, L, rfl, F1⟩
  clear hr hG hl
  have hbL := rb_bound F1.1
  have hrow := rb_row F1.1
  obtain ⟨A, c, hv, hA⟩ := F1.2.1.slice
  subst hv
  obtain ⟨b1, b2, b5, x, y, cnt, n1, n2, n3, n4, n5, n6, n7⟩ := betw hrow (kx cs ca)
  have hL65 : L.length ≤ 65536 := by omega
  replace hL65 := hid hL65
  have P1 := rb_floor F1.1 cs ca hf
  have P2 := hid (fun W (G : BothP w0 W tb room (.slice A L.length c) L L) => rb_high G.1 cs ca hf)
  have P3 := hid (fun W (G : BothP w0 W tb room (.slice A L.length c) L L) => rb_lower G.1 cs ca hf)
  have P4 := hid (fun W (G : BothP w0 W tb room (.slice A L.length c) L L) => rb_ceil G.1 cs ca hf)
  have P5 := hid (fun W (G : BothP w0 W tb room (.slice A L.length c) L L) => rb_get G.1 cs ca hf)
  have HR := hid (fun W (G : BothP w0 W tb room (.slice A L.length c) L L) => G.2.1)
  have d0 := F1.2.2.2.heap b0 fun h => h
  rw [n1] at P1
  rw [n2] at P2
  have cases : ∃ (oc od og : Option Sg), nearS false false (kx cs ca) L = oc ∧ nearS true true (kx cs ca) L = od ∧ getS (kx cs ca) L = og ∧
      ((b1 = true ∧ od = some x ∧ og = some x) ∨ (og = none ∧ oc = (if b1 then some x else none) ∧ od = (if b2 then some y else none) ∧ (b1 = true → b2 = true → neK x y))) := by
    rcases n3 with ⟨_, e1, e2, e3⟩ | ⟨_, e1, e2, e3, e4⟩
    · exact ⟨_, _, _, rfl, rfl, rfl, .inl ⟨e1, e2, e3⟩⟩
    · exact ⟨_, _, _, rfl, rfl, rfl, .inr ⟨e3, e1, e2, e4⟩⟩
  obtain ⟨oc, od, og, q3, q4, q5, cases⟩ := cases
  rw [q3] at P3
  rw [q4] at P4
  rw [q5] at P5
  clear n1 n2 n3 q3 q4 q5 hbL hrow hf
  replace n4 := hid n4
  replace n5 := hid n5
  replace n6 := hid n6
  replace n7 := hid n7
  have HC : ∃ (b6 : Bool), (b1 = true ∧ b6 = true ∧ od = some x ∧ og = some x) ∨ (b6 = false ∧ og = none ∧ oc = (if b1 then some x else none) ∧ od = (if b2 then some y else none) ∧ ((b1 = false ∨ b2 = false) ∨ (b1 = true ∧ b2 = true ∧ ¬ x.ls = y.ls) ∨ (b1 = true ∧ b2 = true ∧ x.ls = y.ls ∧ ¬ x.la = y.la))) := by
    rcases cases with ⟨e1, e2, e3⟩ | ⟨e1, e2, e3, e4⟩
    · exact ⟨true, .inl ⟨e1, rfl, e2, e3⟩⟩
    · refine ⟨false, .inr ⟨rfl, e1, e2, e3, ?_⟩⟩
      cases b1 <;> cases b2 <;> simp
      have := e4 rfl rfl
      unfold neK at this
      rcases this with h | h
      · exact .inl h
      · exact .inr h
  clear cases
  obtain ⟨xs, xa, xh, xg, xv⟩ := x
  obtain ⟨ys, ya, yh, yg, yv⟩ := y
  obtain ⟨oa, hoa⟩ : ∃ oa, (if b1 then some (⟨xs, xa, xh, xg, xv⟩ : Sg) else none) = oa := ⟨_, rfl⟩
  obtain ⟨ob, hob⟩ : ∃ ob, (if b2 then some (⟨ys, ya, yh, yg, yv⟩ : Sg) else none) = ob := ⟨_, rfl⟩
  rw [hoa] at P1 HC
  rw [hob] at P2 HC
  replace hoa := hid hoa
  replace hob := hid hob
  replace HC := hid HC
  obtain ⟨t0, s0⟩ := blkc d0
  go_wp2_with fail
  refine P1.mono ?_
  rintro e v1 ⟨rfl, M1⟩
  obtain ⟨u1, W1, g1, k1, c1, C1, N1⟩ := put5 v1 (oS oa)
  replace F1 := (F1.mod0 M1).mod0 N1
  replace d0 := N1.heap (M1.heap d0 fun h => h) fun h => h
  replace P2 := P2.out _ F1
  obtain ⟨f1, h1⟩ := blkc c1
  clear s0 t0 
  obtain ⟨t0, s0⟩ := blkc d0
  unfold optS
  go_wp2_with fail
  refine P2.mono ?_
  rintro e v2 ⟨rfl, M2⟩
  obtain ⟨u2, W2, g2, k2, c2, C2, N2⟩ := put5 v2 (oS ob)
  replace F1 := (F1.mod0 M2).mod0 N2
  replace d0 := N2.heap (M2.heap d0 fun h => h) fun h => h
  replace C1 := N2.heap (M2.heap C1 fun h => h) fun h => h
  replace P3 := P3.out _ F1
  obtain ⟨f2, h2⟩ := blkc c2
  clear s0 t0 f1 h1 g1 k1
  obtain ⟨t0, s0⟩ := blkc d0
  unfold optS
  go_wp2_with fail
  refine P3.mono ?_
  rintro e v3 ⟨rfl, M3⟩
  obtain ⟨u3, W3, g3, k3, c3, C3, N3⟩ := put5 v3 (oS oc)
  replace F1 := (F1.mod0 M3).mod0 N3
  replace d0 := N3.heap (M3.heap d0 fun h => h) fun h => h
  replace C1 := N3.heap (M3.heap C1 fun h => h) fun h => h
  replace C2 := N3.heap (M3.heap C2 fun h => h) fun h => h
  replace P4 := P4.out _ F1
  obtain ⟨f3, h3⟩ := blkc c3
  clear s0 t0 f2 h2 g2 k2
  obtain ⟨t0, s0⟩ := blkc d0
  unfold optS
  go_wp2_with fail
  refine P4.mono ?_
  rintro e v4 ⟨rfl, M4⟩
  obtain ⟨u4, W4, g4, k4, c4, C4, N4⟩ := put5 v4 (oS od)
  replace F1 := (F1.mod0 M4).mod0 N4
  replace d0 := N4.heap (M4.heap d0 fun h => h) fun h => h
  replace C1 := N4.heap (M4.heap C1 fun h => h) fun h => h
  replace C2 := N4.heap (M4.heap C2 fun h => h) fun h => h
  replace C3 := N4.heap (M4.heap C3 fun h => h) fun h => h
  replace P5 := P5.out _ F1
  obtain ⟨f4, h4⟩ := blkc c4
  clear s0 t0 f3 h3 g3 k3
  obtain ⟨t0, s0⟩ := blkc d0
  unfold optS
  go_wp2_with fail
  refine P5.mono ?_
  rintro e v5 ⟨rfl, M5⟩
  obtain ⟨u5, W5, g5, k5, c5, C5, N5⟩ := put5 v5 (oS og)
  replace F1 := (F1.mod0 M5).mod0 N5
  replace d0 := N5.heap (M5.heap d0 fun h => h) fun h => h
  replace C1 := N5.heap (M5.heap C1 fun h => h) fun h => h
  replace C2 := N5.heap (M5.heap C2 fun h => h) fun h => h
  replace C3 := N5.heap (M5.heap C3 fun h => h) fun h => h
  replace C4 := N5.heap (M5.heap C4 fun h => h) fun h => h
  obtain ⟨f5, h5⟩ := blkc c5
  clear s0 t0 f4 h4 g4 k4
  obtain ⟨t0, s0⟩ := blkc d0
  unfold optS
  have HZ := hid (fun (W : World) (M : CM W5 W) => And.intro (blkc (Mod.heap M C1 fun h => h)) (And.intro (blkc (Mod.heap M C2 fun h => h)) (And.intro (blkc (Mod.heap M C3 fun h => h)) (blkc (Mod.heap M C4 fun h => h)))))
  have ⟨⟨r1, r2⟩, ⟨r3, r4⟩, ⟨r5, r6⟩, r7, r8⟩ := HZ.out W5 (Mod.refl _ _)
  clear C1 C2 C3 C4 C5 d0
  replace hoa := hoa.out
  replace hob := hob.out
  have F1m := Mod.refl (fun _ => False) W5
  rcases HC.out with ⟨b6, ⟨rfl, rfl, rfl, rfl⟩ | ⟨rfl, rfl, rfl, rfl, e3⟩⟩
  · clear HC
    simp only [if_true] at hoa
    subst hoa
    cases b2
    · simp only [Bool.false_eq_true, if_false] at hob
      subst hob
      simp only [oS, zSg, Option.getD_some, Option.getD_none, Option.isSome_some, Option.isSome_none] at r1 r3 r5 r7 HZ k5 ⊢
      dsimp only [encS] at r1 r3 r5 r7 HZ
      go_wp2_with fail
      go_loopw [20, 101] (fun n i W => ∃ k : Nat, k ≤ L.length ∧ i = .int .i64 k ∧ n = .int .i64 (cnt k) ∧ Mod (fun _ => False) W5 W) (fun _ i _ => (L.length - intOf i).toNat)
      case atStart => exact ⟨0, by omega, rfl, by rw [n4.out], Mod.refl _ _⟩
      case round =>
        clear r1 r2 r3 r4 r5 r6 r7 r8
        obtain ⟨k, hk, rfl, rfl, M⟩ := hrel
        by_cases hlt : k < L.length
        · obtain ⟨g, rfl⟩ := hA (by omega)
          obtain ⟨l0, l1, l2, l3, l4⟩ := RowV.cells (HR.out _ (F1.mod0 M)) hlt
          have hh := n6.out k hlt
          have hb := n5.out k
          have hkl : (k : Int) < L.length := by omega
          have hkb : (k : Int) < 65536 := by have := hL65.out; omega
          generalize L[k] = s at l0 l1 l2 l3 l4 hh
          obtain ⟨sl, sa, sh, sg, sv⟩ := s
          obtain ⟨us, Ws, gs, ks, c6, C6, N6⟩ := put5 wr ⟨sl, sa, sh, sg, sv⟩
          obtain ⟨⟨r1, r2⟩, ⟨r3, r4⟩, ⟨r5, r6⟩, r7, r8⟩ := HZ.out Ws (Mod.trans' M N6)
          obtain ⟨f6, h6⟩ := blkc c6
          obtain ⟨r9, ra⟩ := blkc C6
          have fin : ∀ x : Int, x = cnt (k + 1) → ∃ k' : Nat, k' ≤ L.length ∧ Value.int .i64 ((k : Int) + 1) = .int .i64 k' ∧ Value.int .i64 x = .int .i64 (cnt k') ∧ Mod (fun _ => False) W5 Ws := fun x e => ⟨k + 1, by omega, by simp, by rw [e], M.trans' N6⟩
          replace fin := hid fin
          dsimp only [encS] at r9
          clear c6 C6 N6 M
          simp only [neK] at hh
          rcases hh with ⟨hb1, hh, he⟩ | ⟨hb1, hh⟩
          · first
              | (cases hb1; done)
              | cases hh
                replace he := hid he
                first
                  | (exfalso; omega)
                  | try subst hz1
                    try subst hz2
                    go_wp2_with fail
                    go_roundw
                    case rel => exact fin.out _ he.out.symm
                    case measure => simp [intOf]; omega
          · rcases hh with ⟨hb2, hh, he⟩ | ⟨hb2, he⟩
            · first
                | (cases hb2; done)
                | cases hh
                  replace he := hid he
                  rcases hb1 (by trivial) with hb1 | ⟨hz1, hb1⟩
                  all_goals
                    first
                      | (exfalso; omega)
                      | try subst hz1
                        try subst hz2
                        go_wp2_with fail
                        go_roundw
                        case rel => exact fin.out _ he.out.symm
                        case measure => simp [intOf]; omega
            · replace he := hid he
              rcases hb1 (by trivial) with hb1 | ⟨hz1, hb1⟩
              all_goals
                clear hb2; skip
                all_goals
                  first
                    | (exfalso; omega)
                    | try subst hz1
                      try subst hz2
                      go_wp2_with fail
                      go_roundw
                      case rel => exact fin.out _ he.out.symm
                      case measure => simp [intOf]; omega
        · obtain rfl : k = L.length := by omega
          rw [n7.out]
          simp only [if_true, if_false, Bool.false_eq_true]
          clear hlt hk HZ
          have FB := (F1.mod0 M).below
          go_wp2_with fail
          refine (alive6 _).mono ?_
          rintro e WB ⟨rfl, BB⟩
          go_wp2_with fail
          go_ret
          exact ⟨rfl, B0.trans ((FB.trans (BB.mono FB.size)).mono B0.size)⟩
    · simp only [if_true] at hob
      subst hob
      simp only [oS, zSg, Option.getD_some, Option.getD_none, Option.isSome_some, Option.isSome_none] at r1 r3 r5 r7 HZ k5 ⊢
      dsimp only [encS] at r1 r3 r5 r7 HZ
      go_wp2_with fail
      go_loopw [20, 101] (fun n i W => ∃ k : Nat, k ≤ L.length ∧ i = .int .i64 k ∧ n = .int .i64 (cnt k) ∧ Mod (fun _ => False) W5 W) (fun _ i _ => (L.length - intOf i).toNat)
      case atStart => exact ⟨0, by omega, rfl, by rw [n4.out], Mod.refl _ _⟩
      case round =>
        clear r1 r2 r3 r4 r5 r6 r7 r8
        obtain ⟨k, hk, rfl, rfl, M⟩ := hrel
        by_cases hlt : k < L.length
        · obtain ⟨g, rfl⟩ := hA (by omega)
          obtain ⟨l0, l1, l2, l3, l4⟩ := RowV.cells (HR.out _ (F1.mod0 M)) hlt
          have hh := n6.out k hlt
          have hb := n5.out k
          have hkl : (k : Int) < L.length := by omega
          have hkb : (k : Int) < 65536 := by have := hL65.out; omega
          generalize L[k] = s at l0 l1 l2 l3 l4 hh
          obtain ⟨sl, sa, sh, sg, sv⟩ := s
          obtain ⟨us, Ws, gs, ks, c6, C6, N6⟩ := put5 wr ⟨sl, sa, sh, sg, sv⟩
          obtain ⟨⟨r1, r2⟩, ⟨r3, r4⟩, ⟨r5, r6⟩, r7, r8⟩ := HZ.out Ws (Mod.trans' M N6)
          obtain ⟨f6, h6⟩ := blkc c6
          obtain ⟨r9, ra⟩ := blkc C6
          have fin : ∀ x : Int, x = cnt (k + 1) → ∃ k' : Nat, k' ≤ L.length ∧ Value.int .i64 ((k : Int) + 1) = .int .i64 k' ∧ Value.int .i64 x = .int .i64 (cnt k') ∧ Mod (fun _ => False) W5 Ws := fun x e => ⟨k + 1, by omega, by simp, by rw [e], M.trans' N6⟩
          replace fin := hid fin
          dsimp only [encS] at r9
          clear c6 C6 N6 M
          simp only [neK] at hh
          rcases hh with ⟨hb1, hh, he⟩ | ⟨hb1, hh⟩
          · first
              | (cases hb1; done)
              | cases hh
                replace he := hid he
                first
                  | (exfalso; omega)
                  | try subst hz1
                    try subst hz2
                    go_wp2_with fail
                    go_roundw
                    case rel => exact fin.out _ he.out.symm
                    case measure => simp [intOf]; omega
          · rcases hh with ⟨hb2, hh, he⟩ | ⟨hb2, he⟩
            · first
                | (cases hb2; done)
                | cases hh
                  replace he := hid he
                  rcases hb1 (by trivial) with hb1 | ⟨hz1, hb1⟩
                  all_goals
                    first
                      | (exfalso; omega)
                      | try subst hz1
                        try subst hz2
                        go_wp2_with fail
                        go_roundw
                        case rel => exact fin.out _ he.out.symm
                        case measure => simp [intOf]; omega
            · replace he := hid he
              rcases hb1 (by trivial) with hb1 | ⟨hz1, hb1⟩
              all_goals
                rcases hb2 (by trivial) with hb2 | ⟨hz2, hb2⟩
                all_goals
                  first
                    | (exfalso; omega)
                    | try subst hz1
                      try subst hz2
                      go_wp2_with fail
                      go_roundw
                      case rel => exact fin.out _ he.out.symm
                      case measure => simp [intOf]; omega
        · obtain rfl : k = L.length := by omega
          rw [n7.out]
          simp only [if_true, if_false, Bool.false_eq_true]
          clear hlt hk HZ
          have FB := (F1.mod0 M).below
          go_wp2_with fail
          refine (alive6 _).mono ?_
          rintro e WB ⟨rfl, BB⟩
          go_wp2_with fail
          go_ret
          exact ⟨rfl, B0.trans ((FB.trans (BB.mono FB.size)).mono B0.size)⟩
  · clear HC
    cases b1
    · simp only [Bool.false_eq_true, if_false] at hoa
      subst hoa
      clear e3
      cases b2
      · simp only [Bool.false_eq_true, if_false] at hob
        subst hob
        simp only [oS, zSg, Option.getD_some, Option.getD_none, Option.isSome_some, Option.isSome_none] at r1 r3 r5 r7 HZ k5 ⊢
        dsimp only [encS] at r1 r3 r5 r7 HZ
        go_wp2_with fail
        go_loopw [20, 101] (fun n i W => ∃ k : Nat, k ≤ L.length ∧ i = .int .i64 k ∧ n = .int .i64 (cnt k) ∧ Mod (fun _ => False) W5 W) (fun _ i _ => (L.length - intOf i).toNat)
        case atStart => exact ⟨0, by omega, rfl, by rw [n4.out], Mod.refl _ _⟩
        case round =>
          clear r1 r2 r3 r4 r5 r6 r7 r8
          obtain ⟨k, hk, rfl, rfl, M⟩ := hrel
          by_cases hlt : k < L.length
          · obtain ⟨g, rfl⟩ := hA (by omega)
            obtain ⟨l0, l1, l2, l3, l4⟩ := RowV.cells (HR.out _ (F1.mod0 M)) hlt
            have hh := n6.out k hlt
            have hb := n5.out k
            have hkl : (k : Int) < L.length := by omega
            have hkb : (k : Int) < 65536 := by have := hL65.out; omega
            generalize L[k] = s at l0 l1 l2 l3 l4 hh
            obtain ⟨sl, sa, sh, sg, sv⟩ := s
            obtain ⟨us, Ws, gs, ks, c6, C6, N6⟩ := put5 wr ⟨sl, sa, sh, sg, sv⟩
            obtain ⟨⟨r1, r2⟩, ⟨r3, r4⟩, ⟨r5, r6⟩, r7, r8⟩ := HZ.out Ws (Mod.trans' M N6)
            obtain ⟨f6, h6⟩ := blkc c6
            obtain ⟨r9, ra⟩ := blkc C6
            have fin : ∀ x : Int, x = cnt (k + 1) → ∃ k' : Nat, k' ≤ L.length ∧ Value.int .i64 ((k : Int) + 1) = .int .i64 k' ∧ Value.int .i64 x = .int .i64 (cnt k') ∧ Mod (fun _ => False) W5 Ws := fun x e => ⟨k + 1, by omega, by simp, by rw [e], M.trans' N6⟩
            replace fin := hid fin
            dsimp only [encS] at r9
            clear c6 C6 N6 M
            simp only [neK] at hh
            rcases hh with ⟨hb1, hh, he⟩ | ⟨hb1, hh⟩
            · first
                | (cases hb1; done)
                | cases hh
                  replace he := hid he
                  first
                    | (exfalso; omega)
                    | try subst hz1
                      try subst hz2
                      go_wp2_with fail
                      go_roundw
                      case rel => exact fin.out _ he.out.symm
                      case measure => simp [intOf]; omega
            · rcases hh with ⟨hb2, hh, he⟩ | ⟨hb2, he⟩
              · first
                  | (cases hb2; done)
                  | cases hh
                    replace he := hid he
                    clear hb1; skip
                    all_goals
                      first
                        | (exfalso; omega)
                        | try subst hz1
                          try subst hz2
                          go_wp2_with fail
                          go_roundw
                          case rel => exact fin.out _ he.out.symm
                          case measure => simp [intOf]; omega
              · replace he := hid he
                clear hb1; skip
                all_goals
                  clear hb2; skip
                  all_goals
                    first
                      | (exfalso; omega)
                      | try subst hz1
                        try subst hz2
                        go_wp2_with fail
                        go_roundw
                        case rel => exact fin.out _ he.out.symm
                        case measure => simp [intOf]; omega
          · obtain rfl : k = L.length := by omega
            rw [n7.out]
            simp only [if_true, if_false, Bool.false_eq_true]
            clear hlt hk HZ
            have FB := (F1.mod0 M).below
            go_wp2_with fail
            refine (alive6 _).mono ?_
            rintro e WB ⟨rfl, BB⟩
            go_wp2_with fail
            go_ret
            exact ⟨rfl, B0.trans ((FB.trans (BB.mono FB.size)).mono B0.size)⟩
      · simp only [if_true] at hob
        subst hob
        simp only [oS, zSg, Option.getD_some, Option.getD_none, Option.isSome_some, Option.isSome_none] at r1 r3 r5 r7 HZ k5 ⊢
        dsimp only [encS] at r1 r3 r5 r7 HZ
        go_wp2_with fail
        go_loopw [20, 101] (fun n i W => ∃ k : Nat, k ≤ L.length ∧ i = .int .i64 k ∧ n = .int .i64 (cnt k) ∧ Mod (fun _ => False) W5 W) (fun _ i _ => (L.length - intOf i).toNat)
        case atStart => exact ⟨0, by omega, rfl, by rw [n4.out], Mod.refl _ _⟩
        case round =>
          clear r1 r2 r3 r4 r5 r6 r7 r8
          obtain ⟨k, hk, rfl, rfl, M⟩ := hrel
          by_cases hlt : k < L.length
          · obtain ⟨g, rfl⟩ := hA (by omega)
            obtain ⟨l0, l1, l2, l3, l4⟩ := RowV.cells (HR.out _ (F1.mod0 M)) hlt
            have hh := n6.out k hlt
            have hb := n5.out k
            have hkl : (k : Int) < L.length := by omega
            have hkb : (k : Int) < 65536 := by have := hL65.out; omega
            generalize L[k] = s at l0 l1 l2 l3 l4 hh
            obtain ⟨sl, sa, sh, sg, sv⟩ := s
            obtain ⟨us, Ws, gs, ks, c6, C6, N6⟩ := put5 wr ⟨sl, sa, sh, sg, sv⟩
            obtain ⟨⟨r1, r2⟩, ⟨r3, r4⟩, ⟨r5, r6⟩, r7, r8⟩ := HZ.out Ws (Mod.trans' M N6)
            obtain ⟨f6, h6⟩ := blkc c6
            obtain ⟨r9, ra⟩ := blkc C6
            have fin : ∀ x : Int, x = cnt (k + 1) → ∃ k' : Nat, k' ≤ L.length ∧ Value.int .i64 ((k : Int) + 1) = .int .i64 k' ∧ Value.int .i64 x = .int .i64 (cnt k') ∧ Mod (fun _ => False) W5 Ws := fun x e => ⟨k + 1, by omega, by simp, by rw [e], M.trans' N6⟩
            replace fin := hid fin
            dsimp only [encS] at r9
            clear c6 C6 N6 M
            simp only [neK] at hh
            rcases hh with ⟨hb1, hh, he⟩ | ⟨hb1, hh⟩
            · first
                | (cases hb1; done)
                | cases hh
                  replace he := hid he
                  first
                    | (exfalso; omega)
                    | try subst hz1
                      try subst hz2
                      go_wp2_with fail
                      go_roundw
                      case rel => exact fin.out _ he.out.symm
                      case measure => simp [intOf]; omega
            · rcases hh with ⟨hb2, hh, he⟩ | ⟨hb2, he⟩
              · first
                  | (cases hb2; done)
                  | cases hh
                    replace he := hid he
                    clear hb1; skip
                    all_goals
                      first
                        | (exfalso; omega)
                        | try subst hz1
                          try subst hz2
                          go_wp2_with fail
                          go_roundw
                          case rel => exact fin.out _ he.out.symm
                          case measure => simp [intOf]; omega
              · replace he := hid he
                clear hb1; skip
                all_goals
                  rcases hb2 (by trivial) with hb2 | ⟨hz2, hb2⟩
                  all_goals
                    first
                      | (exfalso; omega)
                      | try subst hz1
                        try subst hz2
                        go_wp2_with fail
                        go_roundw
                        case rel => exact fin.out _ he.out.symm
                        case measure => simp [intOf]; omega
          · obtain rfl : k = L.length := by omega
            rw [n7.out]
            simp only [if_true, if_false, Bool.false_eq_true]
            clear hlt hk HZ
            have FB := (F1.mod0 M).below
            go_wp2_with fail
            refine (alive6 _).mono ?_
            rintro e WB ⟨rfl, BB⟩
            go_wp2_with fail
            go_ret
            exact ⟨rfl, B0.trans ((FB.trans (BB.mono FB.size)).mono B0.size)⟩
    · simp only [if_true] at hoa
      subst hoa
      cases b2
      · clear e3
        simp only [Bool.false_eq_true, if_false] at hob
        subst hob
        simp only [oS, zSg, Option.getD_some, Option.getD_none, Option.isSome_some, Option.isSome_none] at r1 r3 r5 r7 HZ k5 ⊢
        dsimp only [encS] at r1 r3 r5 r7 HZ
        go_wp2_with fail
        go_loopw [20, 101] (fun n i W => ∃ k : Nat, k ≤ L.length ∧ i = .int .i64 k ∧ n = .int .i64 (cnt k) ∧ Mod (fun _ => False) W5 W) (fun _ i _ => (L.length - intOf i).toNat)
        case atStart => exact ⟨0, by omega, rfl, by rw [n4.out], Mod.refl _ _⟩
        case round =>
          clear r1 r2 r3 r4 r5 r6 r7 r8
          obtain ⟨k, hk, rfl, rfl, M⟩ := hrel
          by_cases hlt : k < L.length
          · obtain ⟨g, rfl⟩ := hA (by omega)
            obtain ⟨l0, l1, l2, l3, l4⟩ := RowV.cells (HR.out _ (F1.mod0 M)) hlt
            have hh := n6.out k hlt
            have hb := n5.out k
            have hkl : (k : Int) < L.length := by omega
            have hkb : (k : Int) < 65536 := by have := hL65.out; omega
            generalize L[k] = s at l0 l1 l2 l3 l4 hh
            obtain ⟨sl, sa, sh, sg, sv⟩ := s
            obtain ⟨us, Ws, gs, ks, c6, C6, N6⟩ := put5 wr ⟨sl, sa, sh, sg, sv⟩
            obtain ⟨⟨r1, r2⟩, ⟨r3, r4⟩, ⟨r5, r6⟩, r7, r8⟩ := HZ.out Ws (Mod.trans' M N6)
            obtain ⟨f6, h6⟩ := blkc c6
            obtain ⟨r9, ra⟩ := blkc C6
            have fin : ∀ x : Int, x = cnt (k + 1) → ∃ k' : Nat, k' ≤ L.length ∧ Value.int .i64 ((k : Int) + 1) = .int .i64 k' ∧ Value.int .i64 x = .int .i64 (cnt k') ∧ Mod (fun _ => False) W5 Ws := fun x e => ⟨k + 1, by omega, by simp, by rw [e], M.trans' N6⟩
            replace fin := hid fin
            dsimp only [encS] at r9
            clear c6 C6 N6 M
            simp only [neK] at hh
            rcases hh with ⟨hb1, hh, he⟩ | ⟨hb1, hh⟩
            · first
                | (cases hb1; done)
                | cases hh
                  replace he := hid he
                  first
                    | (exfalso; omega)
                    | try subst hz1
                      try subst hz2
                      go_wp2_with fail
                      go_roundw
                      case rel => exact fin.out _ he.out.symm
                      case measure => simp [intOf]; omega
            · rcases hh with ⟨hb2, hh, he⟩ | ⟨hb2, he⟩
              · first
                  | (cases hb2; done)
                  | cases hh
                    replace he := hid he
                    rcases hb1 (by trivial) with hb1 | ⟨hz1, hb1⟩
                    all_goals
                      first
                        | (exfalso; omega)
                        | try subst hz1
                          try subst hz2
                          go_wp2_with fail
                          go_roundw
                          case rel => exact fin.out _ he.out.symm
                          case measure => simp [intOf]; omega
              · replace he := hid he
                rcases hb1 (by trivial) with hb1 | ⟨hz1, hb1⟩
                all_goals
                  clear hb2; skip
                  all_goals
                    first
                      | (exfalso; omega)
                      | try subst hz1
                        try subst hz2
                        go_wp2_with fail
                        go_roundw
                        case rel => exact fin.out _ he.out.symm
                        case measure => simp [intOf]; omega
          · obtain rfl : k = L.length := by omega
            rw [n7.out]
            simp only [if_true, if_false, Bool.false_eq_true]
            clear hlt hk HZ
            have FB := (F1.mod0 M).below
            go_wp2_with fail
            refine (alive6 _).mono ?_
            rintro e WB ⟨rfl, BB⟩
            go_wp2_with fail
            go_ret
            exact ⟨rfl, B0.trans ((FB.trans (BB.mono FB.size)).mono B0.size)⟩
      · simp only [if_true] at hob
        subst hob
        rcases e3 with e3 | ⟨_, _, e3⟩ | ⟨_, _, e3, e4⟩
        · rcases e3 with e3 | e3 <;> cases e3
        · skip
          simp only [oS, zSg, Option.getD_some, Option.getD_none, Option.isSome_some, Option.isSome_none] at r1 r3 r5 r7 HZ k5 ⊢
          dsimp only [encS] at r1 r3 r5 r7 HZ
          go_wp2_with fail
          go_loopw [20, 101] (fun n i W => ∃ k : Nat, k ≤ L.length ∧ i = .int .i64 k ∧ n = .int .i64 (cnt k) ∧ Mod (fun _ => False) W5 W) (fun _ i _ => (L.length - intOf i).toNat)
          case atStart => exact ⟨0, by omega, rfl, by rw [n4.out], Mod.refl _ _⟩
          case round =>
            clear r1 r2 r3 r4 r5 r6 r7 r8
            obtain ⟨k, hk, rfl, rfl, M⟩ := hrel
            by_cases hlt : k < L.length
            · obtain ⟨g, rfl⟩ := hA (by omega)
              obtain ⟨l0, l1, l2, l3, l4⟩ := RowV.cells (HR.out _ (F1.mod0 M)) hlt
              have hh := n6.out k hlt
              have hb := n5.out k
              have hkl : (k : Int) < L.length := by omega
              have hkb : (k : Int) < 65536 := by have := hL65.out; omega
              generalize L[k] = s at l0 l1 l2 l3 l4 hh
              obtain ⟨sl, sa, sh, sg, sv⟩ := s
              obtain ⟨us, Ws, gs, ks, c6, C6, N6⟩ := put5 wr ⟨sl, sa, sh, sg, sv⟩
              obtain ⟨⟨r1, r2⟩, ⟨r3, r4⟩, ⟨r5, r6⟩, r7, r8⟩ := HZ.out Ws (Mod.trans' M N6)
              obtain ⟨f6, h6⟩ := blkc c6
              obtain ⟨r9, ra⟩ := blkc C6
              have fin : ∀ x : Int, x = cnt (k + 1) → ∃ k' : Nat, k' ≤ L.length ∧ Value.int .i64 ((k : Int) + 1) = .int .i64 k' ∧ Value.int .i64 x = .int .i64 (cnt k') ∧ Mod (fun _ => False) W5 Ws := fun x e => ⟨k + 1, by omega, by simp, by rw [e], M.trans' N6⟩
              replace fin := hid fin
              dsimp only [encS] at r9
              clear c6 C6 N6 M
              simp only [neK] at hh
              rcases hh with ⟨hb1, hh, he⟩ | ⟨hb1, hh⟩
              · first
                  | (cases hb1; done)
                  | cases hh
                    replace he := hid he
                    first
                      | (exfalso; omega)
                      | try subst hz1
                        try subst hz2
                        go_wp2_with fail
                        go_roundw
                        case rel => exact fin.out _ he.out.symm
                        case measure => simp [intOf]; omega
              · rcases hh with ⟨hb2, hh, he⟩ | ⟨hb2, he⟩
                · first
                    | (cases hb2; done)
                    | cases hh
                      replace he := hid he
                      rcases hb1 (by trivial) with hb1 | ⟨hz1, hb1⟩
                      all_goals
                        first
                          | (exfalso; omega)
                          | try subst hz1
                            try subst hz2
                            go_wp2_with fail
                            go_roundw
                            case rel => exact fin.out _ he.out.symm
                            case measure => simp [intOf]; omega
                · replace he := hid he
                  rcases hb1 (by trivial) with hb1 | ⟨hz1, hb1⟩
                  all_goals
                    rcases hb2 (by trivial) with hb2 | ⟨hz2, hb2⟩
                    all_goals
                      first
                        | (exfalso; omega)
                        | try subst hz1
                          try subst hz2
                          go_wp2_with fail
                          go_roundw
                          case rel => exact fin.out _ he.out.symm
                          case measure => simp [intOf]; omega
            · obtain rfl : k = L.length := by omega
              rw [n7.out]
              simp only [if_true, if_false, Bool.false_eq_true]
              clear hlt hk HZ
              have FB := (F1.mod0 M).below
              go_wp2_with fail
              refine (alive6 _).mono ?_
              rintro e WB ⟨rfl, BB⟩
              go_wp2_with fail
              go_ret
              exact ⟨rfl, B0.trans ((FB.trans (BB.mono FB.size)).mono B0.size)⟩
        · skip
          subst e3
          simp only [oS, zSg, Option.getD_some, Option.getD_none, Option.isSome_some, Option.isSome_none] at r1 r3 r5 r7 HZ k5 ⊢
          dsimp only [encS] at r1 r3 r5 r7 HZ
          go_wp2_with fail
          go_loopw [20, 101] (fun n i W => ∃ k : Nat, k ≤ L.length ∧ i = .int .i64 k ∧ n = .int .i64 (cnt k) ∧ Mod (fun _ => False) W5 W) (fun _ i _ => (L.length - intOf i).toNat)
          case atStart => exact ⟨0, by omega, rfl, by rw [n4.out], Mod.refl _ _⟩
          case round =>
            clear r1 r2 r3 r4 r5 r6 r7 r8
            obtain ⟨k, hk, rfl, rfl, M⟩ := hrel
            by_cases hlt : k < L.length
            · obtain ⟨g, rfl⟩ := hA (by omega)
              obtain ⟨l0, l1, l2, l3, l4⟩ := RowV.cells (HR.out _ (F1.mod0 M)) hlt
              have hh := n6.out k hlt
              have hb := n5.out k
              have hkl : (k : Int) < L.length := by omega
              have hkb : (k : Int) < 65536 := by have := hL65.out; omega
              generalize L[k] = s at l0 l1 l2 l3 l4 hh
              obtain ⟨sl, sa, sh, sg, sv⟩ := s
              obtain ⟨us, Ws, gs, ks, c6, C6, N6⟩ := put5 wr ⟨sl, sa, sh, sg, sv⟩
              obtain ⟨⟨r1, r2⟩, ⟨r3, r4⟩, ⟨r5, r6⟩, r7, r8⟩ := HZ.out Ws (Mod.trans' M N6)
              obtain ⟨f6, h6⟩ := blkc c6
              obtain ⟨r9, ra⟩ := blkc C6
              have fin : ∀ x : Int, x = cnt (k + 1) → ∃ k' : Nat, k' ≤ L.length ∧ Value.int .i64 ((k : Int) + 1) = .int .i64 k' ∧ Value.int .i64 x = .int .i64 (cnt k') ∧ Mod (fun _ => False) W5 Ws := fun x e => ⟨k + 1, by omega, by simp, by rw [e], M.trans' N6⟩
              replace fin := hid fin
              dsimp only [encS] at r9
              clear c6 C6 N6 M
              simp only [neK] at hh
              rcases hh with ⟨hb1, hh, he⟩ | ⟨hb1, hh⟩
              · first
                  | (cases hb1; done)
                  | cases hh
                    replace he := hid he
                    first
                      | (exfalso; omega)
                      | try subst hz1
                        try subst hz2
                        go_wp2_with fail
                        go_roundw
                        case rel => exact fin.out _ he.out.symm
                        case measure => simp [intOf]; omega
              · rcases hh with ⟨hb2, hh, he⟩ | ⟨hb2, he⟩
                · first
                    | (cases hb2; done)
                    | cases hh
                      replace he := hid he
                      rcases hb1 (by trivial) with hb1 | ⟨hz1, hb1⟩
                      all_goals
                        first
                          | (exfalso; omega)
                          | try subst hz1
                            try subst hz2
                            go_wp2_with fail
                            go_roundw
                            case rel => exact fin.out _ he.out.symm
                            case measure => simp [intOf]; omega
                · replace he := hid he
                  rcases hb1 (by trivial) with hb1 | ⟨hz1, hb1⟩
                  all_goals
                    rcases hb2 (by trivial) with hb2 | ⟨hz2, hb2⟩
                    all_goals
                      first
                        | (exfalso; omega)
                        | try subst hz1
                          try subst hz2
                          go_wp2_with fail
                          go_roundw
                          case rel => exact fin.out _ he.out.symm
                          case measure => simp [intOf]; omega
            · obtain rfl : k = L.length := by omega
              rw [n7.out]
              simp only [if_true, if_false, Bool.false_eq_true]
              clear hlt hk HZ
              have FB := (F1.mod0 M).below
              go_wp2_with fail
              refine (alive6 _).mono ?_
              rintro e WB ⟨rfl, BB⟩
              go_wp2_with fail
              go_ret
              exact ⟨rfl, B0.trans ((FB.trans (BB.mono FB.size)).mono B0.size)⟩
end Go.Proofs.Bo
