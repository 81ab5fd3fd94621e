import Derived.Test.YtmdeoeppobpjbaaBoth5
import Derived.Deep.RegionWith
set_option linter.unusedVariables false
namespace Go.Proofs.Bo
open Go Go.RowKit

set_option maxHeartbeats 2000000 in
theorem all5 (room : Int) (a : Option Addr) (len cap : Nat) (zs : List Op5) (w : World) (hr : RdS encOp 3 w a len zs) (hl : len ≤ 140737488355328) :
    Calls Try.prog 7 #[.int .i64 room, .slice a len cap] w fun e w' => e = .returned (.bool true) ∧ Below w.heap.size w w' := by
  by_cases h2 : 200 < len
  · have h2' : (200 : Int) < len := by omega
    go_enter Try.func7, Try.ntmps7
    go_wp2_with (go_at_call 11; refine (alive5 _).mono ?_; rintro e w2 ⟨rfl, B2⟩)
    go_ret
    exact ⟨rfl, B2⟩
  have h2' : ¬ (200 : Int) < len := by omega
  by_cases hb : room < 0 ∨ 65536 < room
  · go_enter Try.func7, Try.ntmps7
    go_wp2_with fail
    refine (newI_no room hb _).mono ?_
    rintro e w1 ⟨rfl, hw⟩
    subst hw
    go_wp2_with fail
    refine (refNew_no hb _).mono ?_
    rintro e w2 ⟨rfl, m2⟩
    have hb2 : Below w1.heap.size w1 w2 := m2.to_below (Nat.le_refl _) fun _ h => h.elim
    go_wp2_with (go_at_call 11; refine (alive5 _).mono ?_; rintro e w3 ⟨rfl, B3⟩)
    go_ret
    exact ⟨rfl, (hb2.alloc m2.size _).trans (B3.mono (by simp; have := m2.size; omega))⟩
  have hr0 : 0 ≤ room := by omega
  have hr2 : room ≤ 65536 := by omega
  clear hb
  go_enter Try.func7, Try.ntmps7
  go_wp2_with fail
  refine (newB room hr0 hr2 _).mono ?_
  rintro e w1 ⟨rfl, A1, B1⟩
  go_wp2_with fail
  refine (refNew hr0 hr2 _).mono ?_
  rintro e w2 ⟨rfl, m2⟩
  have T0 := Both.start (w := w2) A1 m2 rfl
  have B0 : Below w.heap.size w (w2.alloc (.cells #[.int .i64 room, .int .i64 0, .slice none 0 0, .slice none 0 0] 48)) := (B1.trans (m2.to_below B1.size fun _ h => h.elim)).alloc (Nat.le_trans B1.size m2.size) _
  have hts : w.heap.size ≤ w2.heap.size := Nat.le_trans B1.size m2.size
  go_wp2_with fail
  obtain ⟨tb, htb⟩ : ∃ tb, w2.heap.size = tb := ⟨_, rfl⟩
  rw [htb] at T0 hts ⊢
  go_loopw [46] (fun c W => ∃ (k : Nat) (l : List (Option Int)) (F : List Int), k ≤ len ∧ c = .int .i64 k ∧ Both w.heap.size tb w.heap.size W room l F ∧ Below w.heap.size w W) (fun c _ => (len - intOf c).toNat)
  case atStart => exact ⟨0, _, _, by omega, rfl, T0, B0⟩
  case round =>
    clear A1 B1 T0 B0 m2 hts htb
    obtain ⟨k, l, F, hk, rfl, T3, B3⟩ := hrel
    by_cases hlt : k < len
    · have hzl : k < zs.length := by rw [hr.1]; exact hlt
      obtain ⟨b, o, rfl, hc⟩ := hr.2.2 (by omega)
      obtain ⟨c0, c1, c2⟩ := RdS.op hc B3 hzl
      generalize zs[k] = op at c0 c1 c2
      obtain ⟨q, i, u⟩ := op
      dsimp only at c0 c1 c2
      clear hc hr hzl
      obtain ⟨A, c, A', c', L, ht, R, hL, hA, hB, hT⟩ := T3
      obtain ⟨W1, hW1⟩ : ∃ W1, wr.alloc (.cells #[.int .i64 q, .int .i64 i, .int .i64 u] 35) = W1 := ⟨_, rfl⟩
      have m1 : Mod (fun _ => False) wr W1 := by rw [← hW1]; exact (Mod.refl _ _).alloc _
      have ho : W1.heap[wr.heap.size]? = some (.cells #[.int .i64 q, .int .i64 i, .int .i64 u] 35 (0, 0)) := by rw [← hW1]; exact alloc_0 _ _
      have ht1 := m1.heap ht fun h => h
      obtain ⟨d0, e0⟩ := blkc ho
      obtain ⟨d1, e1⟩ := blkc ht1
      obtain ⟨r, hdo⟩ : ∃ r, arDo room l F ⟨q, i, u⟩ = r := ⟨_, rfl⟩
      have P := refDo hA.inv hL (R.mod0 m1) ⟨q, i, u⟩ hdo
      go_wp2_with fail
      refine P.mono ?_
      rintro e w3 ⟨A2, k2, A2', k2', L2, rfl, R2, hL2, m2, hk2⟩
      clear P c0 c1 c2 d0 e0 d1 e1 hW1
      have ho2 := m2.heap ho fun h => h
      have ht2 := m2.heap ht1 fun h => h
      obtain ⟨⟨l2, F2⟩, ⟨ai, av, ais, ae⟩⟩ := r
      dsimp only [encAns] at R2 hL2 hk2 ⊢
      obtain ⟨w4, hw4⟩ : ∃ w4, (w3.alloc (.cells #[.int .i64 room, .int .i64 l2.length, .slice A2 F2.length k2, .slice A2' l2.length k2'] 48)).alloc (.cells #[.int .i64 ai, .int .i64 av, .bool ais, .int .i64 ae] 37) = w4 := ⟨_, rfl⟩
      obtain ⟨w5, hw5⟩ : ∃ w5, (((w4.setCell ⟨tb, 0, none⟩ (.int .i64 room)).setCell ⟨tb, 1, none⟩ (.int .i64 l2.length)).setCell ⟨tb, 2, none⟩ (.slice A2 F2.length k2)).setCell ⟨tb, 3, none⟩ (.slice A2' l2.length k2') = w5 := ⟨_, rfl⟩
      have m4 : Mod (fun _ => False) w3 w4 := by rw [← hw4]; exact ((Mod.refl _ _).alloc _).alloc _
      have q1 : w4.heap[w3.heap.size]? = some (.cells #[.int .i64 room, .int .i64 l2.length, .slice A2 F2.length k2, .slice A2' l2.length k2'] 48 (0, 0)) := by rw [← hw4]; exact alloc2_0 _ _ _
      have q2 : w4.heap[w3.heap.size + 1]? = some (.cells #[.int .i64 ai, .int .i64 av, .bool ais, .int .i64 ae] 37 (0, 0)) := by rw [← hw4]; exact alloc2_1 _ _ _
      have q3 := m4.heap ho2 fun h => h
      have q4 := m4.heap ht2 fun h => h
      have s1 := m1.size
      have s2 := m2.size
      have s3 := blkl ho2
      have m5 : Mod (fun j => j = tb) w4 w5 := by rw [← hw5]; exact setL_mod (S := fun j => j = tb) tb (.inl rfl) [.int .i64 room, .int .i64 l2.length, .slice A2 F2.length k2, .slice A2' l2.length k2'] w4 0 (Mod.refl _ _)
      have p1 := m5.heap q1 fun h => by omega
      have p2 := m5.heap q2 fun h => by omega
      have p3 := m5.heap q3 fun h => by omega
      have p4 : w5.heap[tb]? = some (.cells #[.int .i64 room, .int .i64 l2.length, .slice A2 F2.length k2, .slice A2' l2.length k2'] 48 (0, 0)) := by rw [← hw5]; exact set4 q4
      have hn2 : ¬ RF (.slice A2 F2.length k2) (.slice A2' l2.length k2') tb := R2.ne_R ht2
      obtain ⟨A5, R5⟩ := Both.mid hT hA m1 (m2.trans' m4) m5 (R2.mod0 m4) hk2 hn2
      have D := does5 (A5.drewN 1) ⟨q, i, u⟩ hdo
      have hsz5 : wr.heap.size ≤ w5.heap.size := Nat.le_trans (Nat.le_trans s1 s2) (Nat.le_trans m4.size m5.size)
      have B5 : Below w.heap.size wr w5 := (((m1.trans' m2).trans' m4).mono fun _ h => h.elim : Mod (fun j => j = tb) wr w4).trans' m5 |>.to_below B3.size fun k h => h ▸ hB
      obtain ⟨d1, e1⟩ := blkc q4
      obtain ⟨d2, e2⟩ := blkc q1
      obtain ⟨d3, e3⟩ := blkc q2
      obtain ⟨d4, e4⟩ := blkc p4
      obtain ⟨d5, e5⟩ := blkc p2
      obtain ⟨d6, e6⟩ := blkc p3
      have hT5 := blkl p4
      have HH : Hid (∀ w6, ArX (fun j => ((w.heap.size ≤ j ∧ j ≠ tb ∧ ¬ RF (.slice A2 F2.length k2) (.slice A2' l2.length k2') j) ∧ j < wr.heap.size) ∨ (w5.drewN 1).heap.size ≤ j) w6 w.heap.size room l2 F2 →
          Mod (fun j => (w.heap.size ≤ j ∧ j ≠ tb ∧ ¬ RF (.slice A2 F2.length k2) (.slice A2' l2.length k2') j) ∧ j < wr.heap.size) (w5.drewN 1) w6 →
          (Both w.heap.size tb w.heap.size w6 room l2 F2 ∧ Below w.heap.size w w6) ∧ w6.heap[w3.heap.size + 1]? = some (.cells #[.int .i64 ai, .int .i64 av, .bool ais, .int .i64 ae] 37 (0, 0)) ∧
          w6.heap[tb]? = some (.cells #[.int .i64 room, .int .i64 l2.length, .slice A2 F2.length k2, .slice A2' l2.length k2'] 48 (0, 0)) ∧
          Calls Try.prog 20 #[.pointer (some ⟨w.heap.size, 0, none⟩), .agg #[.int .i64 room, .int .i64 l2.length, .slice A2 F2.length k2, .slice A2' l2.length k2']] w6 fun e w' => e = .returned (.bool true) ∧ Mod (fun _ => False) w6 w') := by
        apply hid
        intro w6 A6 M6
        have M6 := M6.of_drewN
        obtain ⟨T6, B6⟩ := Both.fin hB hT5 hsz5 B3.size p4 R5 hL2 A6 M6
        obtain ⟨lv6, fv6, A7, _⟩ := A6
        exact ⟨⟨T6, (B3.trans B5).trans B6⟩, M6.heap p2 (by omega), M6.heap p4 (fun h => h.1.2.1 rfl), stands5 A7 hL2 (R5.mod M6 fun j hj h => h.1.2.2 hj)⟩
      clear A5 R5 hn2 q1 q2 q3 q4 m4 m5 hA ht ht1 ht2 ho ho2 R R2 m1 m2 p1 p3 hk2 hT
      go_wp2_with fail
      go_region_with (first
        | (go_at_call 15; refine D.mono ?_; rintro e w6 ⟨rfl, A6, M6⟩; obtain ⟨T6, r2, r3, S⟩ := HH.out w6 A6 M6; obtain ⟨x2, y2⟩ := blkc r2; obtain ⟨x3, y3⟩ := blkc r3; dsimp only [encAns])
        | (go_at_call 20; refine S.mono ?_; rintro e w7 ⟨rfl, m7⟩))
      all_goals go_wp2_with fail
      all_goals go_roundw
      all_goals first
        | (case rel => exact ⟨k + 1, l2, F2, by omega, by go_num, T6.1.below m7, T6.2.trans (m7.to_below (Nat.le_trans (Nat.le_trans (Nat.le_refl _) (Nat.le_refl _)) T6.2.size) fun _ h => h.elim)⟩)
        | (case measure => simp [intOf]; omega)
    · obtain rfl : k = len := by omega
      clear hlt hk hr
      obtain ⟨A, c, A', c', L, ht, R, hL, hA, hB, hT⟩ := T3
      go_wp2_with fail
      refine (alive5 _).mono ?_
      rintro e w4 ⟨rfl, B4⟩
      have A4 := hA.mod (Mod.of_below (S := fun _ => False) B4) (fun _ _ h => h)
      have hlr := A4.inv.lr
      clear hA ht R hL
      go_wp2_with fail
      refine (atX_no A4 (-1) (fun i v e => by omega)).mono ?_
      rintro e w5 ⟨rfl, hw⟩
      subst hw
      go_wp2_with fail
      refine (atX_no A4 room (fun i v e h => by have := (List.getElem?_eq_some_iff.1 h).1; omega)).mono ?_
      rintro e w6 ⟨rfl, hw⟩
      subst hw
      go_wp2_with fail
      go_ret
      exact ⟨rfl, B3.trans (B4.mono B3.size)⟩

theorem all5r (room : Int) (a : Option Addr) (len cap : Nat) (zs : List Op5) (w : World) (hroom : (Lit.int .i64 room).wf = true) (hr : RdS encOp 3 w a len zs) (_ : ∀ z ∈ zs, True) (hl : len * 24 ≤ 140737488351232) :
    Calls Try.prog 7 #[.int .i64 room, .slice a len cap] w fun e w' => e = .returned (.bool true) ∧ Below w.heap.size w w' :=
  all5 room a len cap zs w hr (by omega)
end Go.Proofs.Bo
