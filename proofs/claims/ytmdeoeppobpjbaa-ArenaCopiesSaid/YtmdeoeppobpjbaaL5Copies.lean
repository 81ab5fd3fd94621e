import Derived.Test.YtmdeoeppobpjbaaCopyI
import Derived.Deep.RegionWith
import Derived.BigQuiet
set_option linter.unusedVariables false
namespace Go.Proofs.Bo
open Go Go.RowKit

set_option maxHeartbeats 4000000 in
theorem copies5 (room : Int) (a : Option Addr) (len cap : Nat) (zs : List Op5) (a2 : Option Addr) (len2 cap2 : Nat) (zs2 : List Op5) (w : World) (hr : RdS encOp 3 w a len zs) (hrs : RdS encOp 3 w a2 len2 zs2) (hl : len ≤ 140737488355328) (hl2 : len2 ≤ 140737488355328) :
    Calls Try.prog 9 #[.int .i64 room, .slice a len cap, .slice a2 len2 cap2] w fun e w' => e = .returned (.bool true) ∧ Below w.heap.size w w' := by
  by_cases hb : room < 0 ∨ 65536 < room
  · go_enter Try.func9, Try.ntmps9
    go_wp2_with fail
    refine (newI_no room hb _).mono ?_
    rintro e w1 ⟨rfl, hw⟩
    subst hw
    go_wp2_with fail
    refine (refNew_no hb _).mono ?_
    rintro e w2 ⟨rfl, m2⟩
    have hb2 : Below w1.heap.size w1 w2 := m2.to_below (Nat.le_refl _) fun _ h => h.elim
    go_wp2_with (go_at_call 11; refine (alive5 _).mono ?_; rintro e w3 ⟨rfl, B3⟩)
    go_ret
    exact ⟨rfl, (hb2.alloc hb2.size _).trans (B3.mono (by simp; have := hb2.size; omega))⟩
  have hr0 : 0 ≤ room := by omega
  have hr2 : room ≤ 65536 := by omega
  clear hb
  by_cases h2 : 200 < len + len2
  · have h2' : (200 : Int) < (len : Int) + len2 := by omega
    go_enter Try.func9, Try.ntmps9
    go_wp2_with fail
    refine (newB room hr0 hr2 _).mono ?_
    rintro e w1 ⟨rfl, A1, B1⟩
    go_wp2_with fail
    refine (refNew hr0 hr2 _).mono ?_
    rintro e w2 ⟨rfl, m2⟩
    have hb2 : Below w.heap.size w w2 := B1.trans (m2.to_below B1.size fun _ h => h.elim)
    go_wp2_with (go_at_call 11; refine (alive5 _).mono ?_; rintro e w3 ⟨rfl, B3⟩)
    go_ret
    exact ⟨rfl, (hb2.alloc hb2.size _).trans (B3.mono (by simp; have := hb2.size; omega))⟩
  have h2' : ¬ (200 : Int) < (len : Int) + len2 := by omega
  have h200 : len ≤ 200 := by omega
  have h201 : len2 ≤ 200 := by omega
  have B00 : Below w.heap.size w w := Below.refl _ _
  go_enter Try.func9, Try.ntmps9
  go_wp2_with fail
  refine (newB room hr0 hr2 _).mono ?_
  rintro e w1 ⟨rfl, A1, B1⟩
  go_wp2_with fail
  refine (refNew hr0 hr2 _).mono ?_
  rintro e w2 ⟨rfl, m2⟩
  have T0 := Both.start (w := w2) A1 m2 rfl
  have B0 : Below w.heap.size w (w2.alloc (.cells #[.int .i64 room, .int .i64 0, .slice none 0 0, .slice none 0 0] 48)) := (B1.trans (m2.to_below B1.size fun _ h => h.elim)).alloc (Nat.le_trans B1.size m2.size) _
  have hts : w.heap.size ≤ w2.heap.size := Nat.le_trans B1.size m2.size
  go_wp2_with fail
  obtain ⟨tb, htb⟩ : ∃ tb, w2.heap.size = tb := ⟨_, rfl⟩
  rw [htb] at T0 hts ⊢
  go_loopw [52] (fun c W => ∃ (k : Nat) (l : List (Option Int)) (F : List Int), k ≤ len ∧ c = .int .i64 k ∧ Both w.heap.size tb w.heap.size W room l F ∧ Below w.heap.size w W) (fun c _ => (len - intOf c).toNat)
  case atStart => exact ⟨0, _, _, by omega, rfl, T0, B0⟩
  case round =>
    clear A1 B1 T0 B0 m2 hts htb
    obtain ⟨k, l, F, hk, rfl, T3, B3⟩ := hrel
    have hBr : w.heap.size ≤ wr.heap.size := B3.size
    have BR : Below w.heap.size w wr := B00.trans (B3.mono B00.size)
    by_cases hlt : k < len
    · skip
      have hzl : k < zs.length := by rw [hr.1]; exact hlt
      obtain ⟨b, o, rfl, hc⟩ := hr.2.2 (by omega)
      obtain ⟨c0, c1, c2⟩ := RdS.op hc BR hzl
      generalize zs[k] = op at c0 c1 c2
      obtain ⟨q, i, u⟩ := op
      dsimp only at c0 c1 c2
      clear hc hr hzl
      obtain ⟨A, c, A', c', L, ht, R, hL, hA, hB, hT⟩ := T3
      obtain ⟨W1, hW1⟩ : ∃ W1, wr.alloc (.cells #[.int .i64 q, .int .i64 i, .int .i64 u] 35) = W1 := ⟨_, rfl⟩
      have m1 : Mod (fun _ => False) wr W1 := by rw [← hW1]; exact (Mod.refl _ _).alloc _
      have ho : W1.heap[wr.heap.size]? = some (.cells #[.int .i64 q, .int .i64 i, .int .i64 u] 35 (0, 0)) := by rw [← hW1]; exact alloc_0 _ _
      have ht1 := m1.heap ht fun h => h
      obtain ⟨d0, e0⟩ := blkc ho
      obtain ⟨d1, e1⟩ := blkc ht1
      obtain ⟨r, hdo⟩ : ∃ r, arDo room l F ⟨q, i, u⟩ = r := ⟨_, rfl⟩
      have P := refDo hA.inv hL (R.mod0 m1) ⟨q, i, u⟩ hdo
      go_wp2_with fail
      refine P.mono ?_
      rintro e w3 ⟨A2, k2, A2', k2', L2, rfl, R2, hL2, m2, hk2⟩
      clear P c0 c1 c2 d0 e0 d1 e1 hW1
      have ho2 := m2.heap ho fun h => h
      have ht2 := m2.heap ht1 fun h => h
      obtain ⟨⟨l2, F2⟩, ⟨ai, av, ais, ae⟩⟩ := r
      dsimp only [encAns] at R2 hL2 hk2 ⊢
      obtain ⟨w4, hw4⟩ : ∃ w4, (w3.alloc (.cells #[.int .i64 room, .int .i64 l2.length, .slice A2 F2.length k2, .slice A2' l2.length k2'] 48)).alloc (.cells #[.int .i64 ai, .int .i64 av, .bool ais, .int .i64 ae] 37) = w4 := ⟨_, rfl⟩
      obtain ⟨w5, hw5⟩ : ∃ w5, (((w4.setCell ⟨tb, 0, none⟩ (.int .i64 room)).setCell ⟨tb, 1, none⟩ (.int .i64 l2.length)).setCell ⟨tb, 2, none⟩ (.slice A2 F2.length k2)).setCell ⟨tb, 3, none⟩ (.slice A2' l2.length k2') = w5 := ⟨_, rfl⟩
      have m4 : Mod (fun _ => False) w3 w4 := by rw [← hw4]; exact ((Mod.refl _ _).alloc _).alloc _
      have q1 : w4.heap[w3.heap.size]? = some (.cells #[.int .i64 room, .int .i64 l2.length, .slice A2 F2.length k2, .slice A2' l2.length k2'] 48 (0, 0)) := by rw [← hw4]; exact alloc2_0 _ _ _
      have q2 : w4.heap[w3.heap.size + 1]? = some (.cells #[.int .i64 ai, .int .i64 av, .bool ais, .int .i64 ae] 37 (0, 0)) := by rw [← hw4]; exact alloc2_1 _ _ _
      have q3 := m4.heap ho2 fun h => h
      have q4 := m4.heap ht2 fun h => h
      have s1 := m1.size
      have s2 := m2.size
      have s3 := blkl ho2
      have m5 : Mod (fun j => j = tb) w4 w5 := by rw [← hw5]; exact setL_mod (S := fun j => j = tb) tb (.inl rfl) [.int .i64 room, .int .i64 l2.length, .slice A2 F2.length k2, .slice A2' l2.length k2'] w4 0 (Mod.refl _ _)
      have p2 := m5.heap q2 fun h => by omega
      have p3 := m5.heap q3 fun h => by omega
      have p4 : w5.heap[tb]? = some (.cells #[.int .i64 room, .int .i64 l2.length, .slice A2 F2.length k2, .slice A2' l2.length k2'] 48 (0, 0)) := by rw [← hw5]; exact set4 q4
      have hn2 : ¬ RF (.slice A2 F2.length k2) (.slice A2' l2.length k2') tb := R2.ne_R ht2
      obtain ⟨A5, R5⟩ := Both.mid hT hA m1 (m2.trans' m4) m5 (R2.mod0 m4) hk2 hn2
      have hsz5 : wr.heap.size ≤ w5.heap.size := Nat.le_trans (Nat.le_trans s1 s2) (Nat.le_trans m4.size m5.size)
      have B5 : Below w.heap.size wr w5 := (((m1.trans' m2).trans' m4).mono fun _ h => h.elim : Mod (fun j => j = tb) wr w4).trans' m5 |>.to_below hBr fun k h => h ▸ hB
      obtain ⟨d1, e1⟩ := blkc q4
      obtain ⟨d2, e2⟩ := blkc q1
      obtain ⟨d3, e3⟩ := blkc q2
      obtain ⟨d4, e4⟩ := blkc p4
      obtain ⟨d5, e5⟩ := blkc p2
      obtain ⟨d6, e6⟩ := blkc p3
      have hT5 := blkl p4
      have HH : Hid (∀ n w6, ArX (fun j => ((w.heap.size ≤ j ∧ j ≠ tb ∧ ¬ RF (.slice A2 F2.length k2) (.slice A2' l2.length k2') j) ∧ j < wr.heap.size) ∨ (w5.drewN n).heap.size ≤ j) w6 w.heap.size room l2 F2 →
          Mod (fun j => (w.heap.size ≤ j ∧ j ≠ tb ∧ ¬ RF (.slice A2 F2.length k2) (.slice A2' l2.length k2') j) ∧ j < wr.heap.size) (w5.drewN n) w6 →
          (Both w.heap.size tb w.heap.size w6 room l2 F2 ∧ Below w.heap.size w w6) ∧ w6.heap[w3.heap.size + 1]? = some (.cells #[.int .i64 ai, .int .i64 av, .bool ais, .int .i64 ae] 37 (0, 0)) ∧ w6.heap[wr.heap.size]? = some (.cells #[.int .i64 q, .int .i64 i, .int .i64 u] 35 (0, 0))) := by
        apply hid
        intro n w6 A6 M6
        have M6 := M6.of_drewN
        obtain ⟨T6, B6⟩ := Both.fin hB hT5 hsz5 hBr p4 R5 hL2 A6 M6
        exact ⟨⟨T6, (B3.trans B5).trans B6⟩, M6.heap p2 (by omega), M6.heap p3 (by omega)⟩
      have D := fun n => does5 (A5.drewN n) ⟨q, i, u⟩ hdo
      clear A5 R5 hn2 q1 q2 q3 q4 m4 m5 hA ht ht1 ht2 ho ho2 R R2 m1 m2 p3 hk2 hT
      go_wp2_with (go_at_call 15; refine (D 0).mono ?_; rintro e w6 ⟨rfl, A6, M6⟩; obtain ⟨T6, r2⟩ := HH.out 0 w6 A6 M6)
      go_roundw
      case rel => exact ⟨k + 1, l2, F2, by omega, by go_num, T6.1, T6.2⟩
      case measure => simp [intOf]; omega
    · obtain rfl : k = len := by omega
      clear hlt hk hr h200
      obtain ⟨wA, rfl⟩ : ∃ x, x = wr := ⟨_, rfl⟩
      have T1 := T3
      obtain ⟨A, c, A', c', L, ht, R, hL, hA, hB, hT⟩ := T3
      go_wp2_with fail
      refine (copyX hA).mono ?_
      rintro e w2 ⟨cb, rfl, AC, m2⟩
      have ht2 := m2.heap ht fun h => h
      obtain ⟨d1, e1⟩ := blkc ht2
      have Q : Calls Try.prog 20 #[.pointer (some ⟨cb, 0, none⟩), .agg #[.int .i64 room, .int .i64 l.length, .slice A F.length c, .slice A' l.length c']] w2 fun e w' => e = .returned (.bool true) ∧ Mod (fun _ => False) w2 w' := by
        obtain ⟨lvc, fvc, AC', hXc⟩ := AC
        exact stands5 AC' hL (R.mod0 m2)
      go_wp2_with fail
      refine Q.mono ?_
      rintro e w3 ⟨rfl, m3⟩
      have m23 := m2.trans' m3
      have ht3 := m23.heap ht fun h => h
      have R3 := R.mod0 m23
      have hR : ∀ j, RF (.slice A F.length c) (.slice A' l.length c') j → j < wA.heap.size := fun j hj => R.lt hj
      have AC3 := (AC.mono (Y := fun j => wA.heap.size ≤ j ∧ j < w2.heap.size) fun j h1 h2 => ⟨h1, h2⟩).mod m3 fun _ _ h => h
      have z2 := m2.size
      have z3 := m3.size
      have mA : Mod (fun _ => False) w3 (w3.alloc (.cells #[.int .i64 room, .int .i64 l.length, .slice A F.length c, .slice A' l.length c'] 48)) := (Mod.refl _ _).alloc _
      have T2 : Both wA.heap.size w3.heap.size cb (w3.alloc (.cells #[.int .i64 room, .int .i64 l.length, .slice A F.length c, .slice A' l.length c'] 48)) room l F :=
        ⟨A, c, A', c', L, alloc_0 _ _, R3.mod0 mA, hL, (AC3.mod mA fun _ _ h => h).mono fun j h _ => ⟨h.1, by omega, fun h' => by have := hR j h'; omega⟩, by omega, by simp⟩
      have B2 : Below wA.heap.size wA (w3.alloc (.cells #[.int .i64 room, .int .i64 l.length, .slice A F.length c, .slice A' l.length c'] 48)) := (m23.trans' mA).to_below (Nat.le_refl _) fun _ h => h.elim
      clear d1 e1
      obtain ⟨d1, e1⟩ := blkc ht3
      clear Q ht2 ht R R3 AC AC3 hA hB hT m2 m3 m23 z2 z3 mA hR
      go_wp2_with fail
      obtain ⟨tq, htq⟩ : ∃ tq, w3.heap.size = tq := ⟨_, rfl⟩
      rw [htq] at T2 ⊢
      clear htq d1 e1
      go_loopw [80] (fun c W => ∃ (k : Nat) (l : List (Option Int)) (F : List Int), k ≤ len2 ∧ c = .int .i64 k ∧ Both wA.heap.size tq cb W room l F ∧ Below wA.heap.size wA W) (fun c _ => (len2 - intOf c).toNat)
      case atStart => exact ⟨0, _, _, by omega, rfl, T2, B2⟩
      case round =>
        clear T2 B2 ht3 hL
        have BA := BR
        clear BR
        obtain ⟨k, l, F, hk, rfl, T3, B3⟩ := hrel
        have hBr : wA.heap.size ≤ wr.heap.size := B3.size
        have BR : Below w.heap.size w wr := BA.trans (B3.mono BA.size)
        by_cases hlt : k < len2
        · skip
          have hzl : k < zs2.length := by rw [hrs.1]; exact hlt
          obtain ⟨b, o, rfl, hc⟩ := hrs.2.2 (by omega)
          obtain ⟨c0, c1, c2⟩ := RdS.op hc BR hzl
          generalize zs2[k] = op at c0 c1 c2
          obtain ⟨q, i, u⟩ := op
          dsimp only at c0 c1 c2
          clear hc hrs hzl
          obtain ⟨A, c, A', c', L, ht, R, hL, hA, hB, hT⟩ := T3
          obtain ⟨W1, hW1⟩ : ∃ W1, wr.alloc (.cells #[.int .i64 q, .int .i64 i, .int .i64 u] 35) = W1 := ⟨_, rfl⟩
          have m1 : Mod (fun _ => False) wr W1 := by rw [← hW1]; exact (Mod.refl _ _).alloc _
          have ho : W1.heap[wr.heap.size]? = some (.cells #[.int .i64 q, .int .i64 i, .int .i64 u] 35 (0, 0)) := by rw [← hW1]; exact alloc_0 _ _
          have ht1 := m1.heap ht fun h => h
          obtain ⟨d0, e0⟩ := blkc ho
          obtain ⟨d1, e1⟩ := blkc ht1
          obtain ⟨r, hdo⟩ : ∃ r, arDo room l F ⟨q, i, u⟩ = r := ⟨_, rfl⟩
          have P := refDo hA.inv hL (R.mod0 m1) ⟨q, i, u⟩ hdo
          go_wp2_with fail
          refine P.mono ?_
          rintro e w3 ⟨A2, k2, A2', k2', L2, rfl, R2, hL2, m2, hk2⟩
          clear P c0 c1 c2 d0 e0 d1 e1 hW1
          have ho2 := m2.heap ho fun h => h
          have ht2 := m2.heap ht1 fun h => h
          obtain ⟨⟨l2, F2⟩, ⟨ai, av, ais, ae⟩⟩ := r
          dsimp only [encAns] at R2 hL2 hk2 ⊢
          obtain ⟨w4, hw4⟩ : ∃ w4, (w3.alloc (.cells #[.int .i64 room, .int .i64 l2.length, .slice A2 F2.length k2, .slice A2' l2.length k2'] 48)).alloc (.cells #[.int .i64 ai, .int .i64 av, .bool ais, .int .i64 ae] 37) = w4 := ⟨_, rfl⟩
          obtain ⟨w5, hw5⟩ : ∃ w5, (((w4.setCell ⟨tq, 0, none⟩ (.int .i64 room)).setCell ⟨tq, 1, none⟩ (.int .i64 l2.length)).setCell ⟨tq, 2, none⟩ (.slice A2 F2.length k2)).setCell ⟨tq, 3, none⟩ (.slice A2' l2.length k2') = w5 := ⟨_, rfl⟩
          have m4 : Mod (fun _ => False) w3 w4 := by rw [← hw4]; exact ((Mod.refl _ _).alloc _).alloc _
          have q1 : w4.heap[w3.heap.size]? = some (.cells #[.int .i64 room, .int .i64 l2.length, .slice A2 F2.length k2, .slice A2' l2.length k2'] 48 (0, 0)) := by rw [← hw4]; exact alloc2_0 _ _ _
          have q2 : w4.heap[w3.heap.size + 1]? = some (.cells #[.int .i64 ai, .int .i64 av, .bool ais, .int .i64 ae] 37 (0, 0)) := by rw [← hw4]; exact alloc2_1 _ _ _
          have q3 := m4.heap ho2 fun h => h
          have q4 := m4.heap ht2 fun h => h
          have s1 := m1.size
          have s2 := m2.size
          have s3 := blkl ho2
          have m5 : Mod (fun j => j = tq) w4 w5 := by rw [← hw5]; exact setL_mod (S := fun j => j = tq) tq (.inl rfl) [.int .i64 room, .int .i64 l2.length, .slice A2 F2.length k2, .slice A2' l2.length k2'] w4 0 (Mod.refl _ _)
          have p2 := m5.heap q2 fun h => by omega
          have p3 := m5.heap q3 fun h => by omega
          have p4 : w5.heap[tq]? = some (.cells #[.int .i64 room, .int .i64 l2.length, .slice A2 F2.length k2, .slice A2' l2.length k2'] 48 (0, 0)) := by rw [← hw5]; exact set4 q4
          have hn2 : ¬ RF (.slice A2 F2.length k2) (.slice A2' l2.length k2') tq := R2.ne_R ht2
          obtain ⟨A5, R5⟩ := Both.mid hT hA m1 (m2.trans' m4) m5 (R2.mod0 m4) hk2 hn2
          have hsz5 : wr.heap.size ≤ w5.heap.size := Nat.le_trans (Nat.le_trans s1 s2) (Nat.le_trans m4.size m5.size)
          have B5 : Below wA.heap.size wr w5 := (((m1.trans' m2).trans' m4).mono fun _ h => h.elim : Mod (fun j => j = tq) wr w4).trans' m5 |>.to_below hBr fun k h => h ▸ hB
          obtain ⟨d1, e1⟩ := blkc q4
          obtain ⟨d2, e2⟩ := blkc q1
          obtain ⟨d3, e3⟩ := blkc q2
          obtain ⟨d4, e4⟩ := blkc p4
          obtain ⟨d5, e5⟩ := blkc p2
          obtain ⟨d6, e6⟩ := blkc p3
          have hT5 := blkl p4
          have HH : Hid (∀ n w6, ArX (fun j => ((wA.heap.size ≤ j ∧ j ≠ tq ∧ ¬ RF (.slice A2 F2.length k2) (.slice A2' l2.length k2') j) ∧ j < wr.heap.size) ∨ (w5.drewN n).heap.size ≤ j) w6 cb room l2 F2 →
              Mod (fun j => (wA.heap.size ≤ j ∧ j ≠ tq ∧ ¬ RF (.slice A2 F2.length k2) (.slice A2' l2.length k2') j) ∧ j < wr.heap.size) (w5.drewN n) w6 →
              (Both wA.heap.size tq cb w6 room l2 F2 ∧ Below wA.heap.size wA w6) ∧ w6.heap[w3.heap.size + 1]? = some (.cells #[.int .i64 ai, .int .i64 av, .bool ais, .int .i64 ae] 37 (0, 0)) ∧ w6.heap[wr.heap.size]? = some (.cells #[.int .i64 q, .int .i64 i, .int .i64 u] 35 (0, 0))) := by
            apply hid
            intro n w6 A6 M6
            have M6 := M6.of_drewN
            obtain ⟨T6, B6⟩ := Both.fin hB hT5 hsz5 hBr p4 R5 hL2 A6 M6
            exact ⟨⟨T6, (B3.trans B5).trans B6⟩, M6.heap p2 (by omega), M6.heap p3 (by omega)⟩
          have D := fun n => does5 (A5.drewN n) ⟨q, i, u⟩ hdo
          clear A5 R5 hn2 q1 q2 q3 q4 m4 m5 hA ht ht1 ht2 ho ho2 R R2 m1 m2 p3 hk2 hT
          go_wp2_with fail
          go_region_held3 (fun w' => w'.cell? ⟨wr.heap.size, 0, none⟩ = some (.int .i64 q) ∧ w'.cell? ⟨wr.heap.size, 1, none⟩ = some (.int .i64 i) ∧ w'.cell? ⟨wr.heap.size, 2, none⟩ = some (.int .i64 u) ∧ w'.cell? ⟨w3.heap.size + 1, 0, none⟩ = some (.int .i64 ai) ∧
              w'.cell? ⟨w3.heap.size + 1, 1, none⟩ = some (.int .i64 av) ∧ w'.cell? ⟨w3.heap.size + 1, 2, none⟩ = some (.bool ais) ∧ w'.cell? ⟨w3.heap.size + 1, 3, none⟩ = some (.int .i64 ae)) (first | exact ⟨x3 0, x3 1, x3 2, x2 0, x2 1, x2 2, x2 3⟩ | exact ⟨d6 0, d6 1, d6 2, d5 0, d5 1, d5 2, d5 3⟩)
            (first
            | (go_at_call 15; refine (D 1).mono ?_; rintro e w6 ⟨rfl, A6, M6⟩; obtain ⟨T6, r2, r3⟩ := HH.out 1 w6 A6 M6; obtain ⟨x2, y2⟩ := blkc r2; obtain ⟨x3, y3⟩ := blkc r3; dsimp only [encAns]))
          go_wp2_with fail
          go_roundw
          case rel => exact ⟨k + 1, l2, F2, by omega, by go_num, T6.1, T6.2⟩
          case measure => simp [intOf]; omega
        · obtain rfl : k = len2 := by omega
          clear hlt hk hrs h201
          have T1 := T1.below (Mod.of_below (S := fun _ => False) B3)
          obtain ⟨A1, c1, A1', c1', L1, ht1, R1, hL1, ⟨lv1, fv1, AA1, hX1⟩, _, _⟩ := T1
          obtain ⟨A2, c2, A2', c2', L2, ht2, R2, hL2, ⟨lv2, fv2, AA2, hX2⟩, _, _⟩ := T3
          go_wp2_with fail
          refine (alive5 _).mono ?_
          rintro e w4 ⟨rfl, B4⟩
          have m4 := Mod.of_below (S := fun _ => False) B4
          obtain ⟨d1, e1⟩ := blkc (m4.heap ht1 fun h => h)
          have Q1 := stands5 (AA1.mod m4 fun _ _ h => h) hL1 (R1.mod0 m4)
          go_wp2_with fail
          refine Q1.mono ?_
          rintro e w5 ⟨rfl, m5⟩
          clear Q1 d1 e1
          have m45 := m4.trans' m5
          obtain ⟨d1, e1⟩ := blkc (m45.heap ht2 fun h => h)
          have Q2 := stands5 (AA2.mod m45 fun _ _ h => h) hL2 (R2.mod0 m45)
          go_wp2_with fail
          refine Q2.mono ?_
          rintro e w6 ⟨rfl, m6⟩
          go_wp2_with fail
          go_ret
          exact ⟨rfl, BR.trans ((m45.trans' m6).to_below BR.size fun _ h => h.elim)⟩

theorem copies5r (room : Int) (a : Option Addr) (len cap : Nat) (zs : List Op5) (a2 : Option Addr) (len2 cap2 : Nat) (zs2 : List Op5) (w : World) (_ : (Lit.int .i64 room).wf = true) (hr : RdS encOp 3 w a len zs) (_ : ∀ z ∈ zs, True) (hl : len * 24 ≤ 140737488351232)
    (hrs : RdS encOp 3 w a2 len2 zs2) (_ : ∀ z ∈ zs2, True) (hl2 : len2 * 24 ≤ 140737488351232) :
    Calls Try.prog 9 #[.int .i64 room, .slice a len cap, .slice a2 len2 cap2] w fun e w' => e = .returned (.bool true) ∧ Below w.heap.size w w' :=
  copies5 room a len cap zs a2 len2 cap2 zs2 w hr hrs (by omega) (by omega)
end Go.Proofs.Bo
