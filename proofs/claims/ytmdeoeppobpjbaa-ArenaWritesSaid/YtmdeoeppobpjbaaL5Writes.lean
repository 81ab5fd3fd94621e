import Derived.Test.YtmdeoeppobpjbaaBoth5
import Derived.Deep.RegionWith
import Derived.BigQuiet
set_option linter.unusedVariables false
namespace Go.Proofs.Bo
open Go Go.RowKit

set_option maxHeartbeats 4000000 in
theorem writes5 (room : Int) (a : Option Addr) (len cap : Nat) (zs : List Op5) (wk wi wv : Int) (w : World) (hr : RdS encOp 3 w a len zs) (hl : len ≤ 140737488355328) :
    Calls Try.prog 8 #[.int .i64 room, .slice a len cap, .agg #[.int .i64 wk, .int .i64 wi, .int .i64 wv]] w fun e w' => e = .returned (.bool true) ∧ Below w.heap.size w w' := by
  obtain ⟨w0, hw0⟩ : ∃ w0 : World, w.alloc (.cells #[.int .i64 wk, .int .i64 wi, .int .i64 wv] 35) = w0 := ⟨_, rfl⟩
  have hsb : w0.heap[w.heap.size]? = some (.cells #[.int .i64 wk, .int .i64 wi, .int .i64 wv] 35 (0, 0)) := by rw [← hw0]; exact alloc_0 _ _
  have B00 : Below w.heap.size w w0 := by rw [← hw0]; exact (Below.refl _ _).alloc (Nat.le_refl _) _
  have hz0 : Hid (w0.heap.size = w.heap.size + 1) := by rw [← hw0]; show _ = _; simp
  obtain ⟨d0, e0⟩ := blkc hsb
  have BN : ∀ n, Below w.heap.size w (w0.drewN n) := fun n => pw_below_drewN' B00 n
  by_cases hb : room < 0 ∨ 65536 < room
  · go_enter Try.func8, Try.ntmps8
    go_wp2_with fail
    go_quiet (fail)
    go_wp2_with fail
    refine (newI_no room hb _).mono ?_
    rintro e w1 ⟨rfl, hw⟩
    subst hw
    go_wp2_with fail
    refine (refNew_no hb _).mono ?_
    rintro e w2 ⟨rfl, m2⟩
    have hb2 : Below w.heap.size w w2 := (BN _).trans (m2.to_below (BN _).size fun _ h => h.elim)
    go_wp2_with (go_at_call 11; refine (alive5 _).mono ?_; rintro e w3 ⟨rfl, B3⟩)
    go_ret
    exact ⟨rfl, (hb2.alloc hb2.size _).trans (B3.mono (by simp; have := hb2.size; omega))⟩
  have hr0 : 0 ≤ room := by omega
  have hr2 : room ≤ 65536 := by omega
  clear hb
  by_cases h2 : 200 < len
  · have h2' : (200 : Int) < len := by omega
    go_enter Try.func8, Try.ntmps8
    go_wp2_with fail
    go_quiet (fail)
    have BN := BN nq
    clear B00 d0 e0 hsb hw0 hz0
    generalize w0.drewN nq = w01 at BN
    go_wp2_with fail
    refine (newB room hr0 hr2 _).mono ?_
    rintro e w1 ⟨rfl, A1, B1⟩
    go_wp2_with fail
    refine (refNew hr0 hr2 _).mono ?_
    rintro e w2 ⟨rfl, m2⟩
    have hb2 : Below w.heap.size w w2 := BN.trans ((B1.trans (m2.to_below B1.size fun _ h => h.elim)).mono BN.size)
    go_wp2_with (go_at_call 11; refine (alive5 _).mono ?_; rintro e w3 ⟨rfl, B3⟩)
    go_ret
    exact ⟨rfl, (hb2.alloc hb2.size _).trans (B3.mono (by simp; have := hb2.size; omega))⟩
  have h2' : ¬ (200 : Int) < len := by omega
  go_enter Try.func8, Try.ntmps8
  go_wp2_with fail
  go_quiet (fail)
  have B00 := BN nq
  clear BN d0 e0 hsb hw0 hz0
  generalize w0.drewN nq = w01 at B00
  go_wp2_with fail
  refine (newB room hr0 hr2 _).mono ?_
  rintro e w1 ⟨rfl, A1, B1⟩
  go_wp2_with fail
  refine (refNew hr0 hr2 _).mono ?_
  rintro e w2 ⟨rfl, m2⟩
  have T0 := Both.start (w := w2) A1 m2 rfl
  have B0 : Below w01.heap.size w01 (w2.alloc (.cells #[.int .i64 room, .int .i64 0, .slice none 0 0, .slice none 0 0] 48)) := (B1.trans (m2.to_below B1.size fun _ h => h.elim)).alloc (Nat.le_trans B1.size m2.size) _
  have hts : w01.heap.size ≤ w2.heap.size := Nat.le_trans B1.size m2.size
  go_wp2_with fail
  obtain ⟨tb, htb⟩ : ∃ tb, w2.heap.size = tb := ⟨_, rfl⟩
  rw [htb] at T0 hts ⊢
  go_loopw [52] (fun c W => ∃ (k : Nat) (l : List (Option Int)) (F : List Int), k ≤ len ∧ c = .int .i64 k ∧ Both w01.heap.size tb w01.heap.size W room l F ∧ Below w01.heap.size w01 W) (fun c _ => (len - intOf c).toNat)
  case atStart => exact ⟨0, _, _, by omega, rfl, T0, B0⟩
  case round =>
    clear A1 B1 T0 B0 m2 hts htb
    obtain ⟨k, l, F, hk, rfl, T3, B3⟩ := hrel
    have hBr : w01.heap.size ≤ wr.heap.size := B3.size
    have BR : Below w.heap.size w wr := B00.trans (B3.mono B00.size)
    by_cases hlt : k < len
    · skip
      have hzl : k < zs.length := by rw [hr.1]; exact hlt
      obtain ⟨b, o, rfl, hc⟩ := hr.2.2 (by omega)
      obtain ⟨c0, c1, c2⟩ := RdS.op hc BR hzl
      generalize zs[k] = op at c0 c1 c2
      obtain ⟨q, i, u⟩ := op
      dsimp only at c0 c1 c2
      clear hc hr hzl
      obtain ⟨A, c, A', c', L, ht, R, hL, hA, hB, hT⟩ := T3
      obtain ⟨W1, hW1⟩ : ∃ W1, wr.alloc (.cells #[.int .i64 q, .int .i64 i, .int .i64 u] 35) = W1 := ⟨_, rfl⟩
      have m1 : Mod (fun _ => False) wr W1 := by rw [← hW1]; exact (Mod.refl _ _).alloc _
      have ho : W1.heap[wr.heap.size]? = some (.cells #[.int .i64 q, .int .i64 i, .int .i64 u] 35 (0, 0)) := by rw [← hW1]; exact alloc_0 _ _
      have ht1 := m1.heap ht fun h => h
      obtain ⟨d0, e0⟩ := blkc ho
      obtain ⟨d1, e1⟩ := blkc ht1
      obtain ⟨r, hdo⟩ : ∃ r, arDo room l F ⟨q, i, u⟩ = r := ⟨_, rfl⟩
      have P := refDo hA.inv hL (R.mod0 m1) ⟨q, i, u⟩ hdo
      go_wp2_with fail
      refine P.mono ?_
      rintro e w3 ⟨A2, k2, A2', k2', L2, rfl, R2, hL2, m2, hk2⟩
      clear P c0 c1 c2 d0 e0 d1 e1 hW1
      have ho2 := m2.heap ho fun h => h
      have ht2 := m2.heap ht1 fun h => h
      obtain ⟨⟨l2, F2⟩, ⟨ai, av, ais, ae⟩⟩ := r
      dsimp only [encAns] at R2 hL2 hk2 ⊢
      obtain ⟨w4, hw4⟩ : ∃ w4, (w3.alloc (.cells #[.int .i64 room, .int .i64 l2.length, .slice A2 F2.length k2, .slice A2' l2.length k2'] 48)).alloc (.cells #[.int .i64 ai, .int .i64 av, .bool ais, .int .i64 ae] 37) = w4 := ⟨_, rfl⟩
      obtain ⟨w5, hw5⟩ : ∃ w5, (((w4.setCell ⟨tb, 0, none⟩ (.int .i64 room)).setCell ⟨tb, 1, none⟩ (.int .i64 l2.length)).setCell ⟨tb, 2, none⟩ (.slice A2 F2.length k2)).setCell ⟨tb, 3, none⟩ (.slice A2' l2.length k2') = w5 := ⟨_, rfl⟩
      have m4 : Mod (fun _ => False) w3 w4 := by rw [← hw4]; exact ((Mod.refl _ _).alloc _).alloc _
      have q1 : w4.heap[w3.heap.size]? = some (.cells #[.int .i64 room, .int .i64 l2.length, .slice A2 F2.length k2, .slice A2' l2.length k2'] 48 (0, 0)) := by rw [← hw4]; exact alloc2_0 _ _ _
      have q2 : w4.heap[w3.heap.size + 1]? = some (.cells #[.int .i64 ai, .int .i64 av, .bool ais, .int .i64 ae] 37 (0, 0)) := by rw [← hw4]; exact alloc2_1 _ _ _
      have q3 := m4.heap ho2 fun h => h
      have q4 := m4.heap ht2 fun h => h
      have s1 := m1.size
      have s2 := m2.size
      have s3 := blkl ho2
      have m5 : Mod (fun j => j = tb) w4 w5 := by rw [← hw5]; exact setL_mod (S := fun j => j = tb) tb (.inl rfl) [.int .i64 room, .int .i64 l2.length, .slice A2 F2.length k2, .slice A2' l2.length k2'] w4 0 (Mod.refl _ _)
      have p2 := m5.heap q2 fun h => by omega
      have p3 := m5.heap q3 fun h => by omega
      have p4 : w5.heap[tb]? = some (.cells #[.int .i64 room, .int .i64 l2.length, .slice A2 F2.length k2, .slice A2' l2.length k2'] 48 (0, 0)) := by rw [← hw5]; exact set4 q4
      have hn2 : ¬ RF (.slice A2 F2.length k2) (.slice A2' l2.length k2') tb := R2.ne_R ht2
      obtain ⟨A5, R5⟩ := Both.mid hT hA m1 (m2.trans' m4) m5 (R2.mod0 m4) hk2 hn2
      have hsz5 : wr.heap.size ≤ w5.heap.size := Nat.le_trans (Nat.le_trans s1 s2) (Nat.le_trans m4.size m5.size)
      have B5 : Below w01.heap.size wr w5 := (((m1.trans' m2).trans' m4).mono fun _ h => h.elim : Mod (fun j => j = tb) wr w4).trans' m5 |>.to_below hBr fun k h => h ▸ hB
      obtain ⟨d1, e1⟩ := blkc q4
      obtain ⟨d2, e2⟩ := blkc q1
      obtain ⟨d3, e3⟩ := blkc q2
      obtain ⟨d4, e4⟩ := blkc p4
      obtain ⟨d5, e5⟩ := blkc p2
      obtain ⟨d6, e6⟩ := blkc p3
      have hT5 := blkl p4
      have HH : Hid (∀ n w6, ArX (fun j => ((w01.heap.size ≤ j ∧ j ≠ tb ∧ ¬ RF (.slice A2 F2.length k2) (.slice A2' l2.length k2') j) ∧ j < wr.heap.size) ∨ (w5.drewN n).heap.size ≤ j) w6 w01.heap.size room l2 F2 →
          Mod (fun j => (w01.heap.size ≤ j ∧ j ≠ tb ∧ ¬ RF (.slice A2 F2.length k2) (.slice A2' l2.length k2') j) ∧ j < wr.heap.size) (w5.drewN n) w6 →
          (Both w01.heap.size tb w01.heap.size w6 room l2 F2 ∧ Below w01.heap.size w01 w6) ∧ w6.heap[w3.heap.size + 1]? = some (.cells #[.int .i64 ai, .int .i64 av, .bool ais, .int .i64 ae] 37 (0, 0))) := by
        apply hid
        intro n w6 A6 M6
        have M6 := M6.of_drewN
        obtain ⟨T6, B6⟩ := Both.fin hB hT5 hsz5 hBr p4 R5 hL2 A6 M6
        exact ⟨⟨T6, (B3.trans B5).trans B6⟩, M6.heap p2 (by omega)⟩
      have D := fun n => does5 (A5.drewN n) ⟨q, i, u⟩ hdo
      clear A5 R5 hn2 q1 q2 q3 q4 m4 m5 hA ht ht1 ht2 ho ho2 R R2 m1 m2 p3 hk2 hT
      go_wp2_with (go_at_call 15; refine (D 0).mono ?_; rintro e w6 ⟨rfl, A6, M6⟩; obtain ⟨T6, r2⟩ := HH.out 0 w6 A6 M6)
      go_roundw
      case rel => exact ⟨k + 1, l2, F2, by omega, by go_num, T6.1, T6.2⟩
      case measure => simp [intOf]; omega
    · obtain rfl : k = len := by omega
      clear hlt hk hr
      obtain ⟨A, c, A', c', L, ht, R, hL, ⟨lv, av, A1, hX⟩, hB, hT⟩ := T3
      have hi := A1.inv
      cases hth : thing l wi with
      | none =>
        go_wp2_with fail
        refine (atI_no A1 wi (thing_none hth)).mono ?_
        rintro e w3 ⟨rfl, hw⟩
        subst hw
        go_wp2_with fail
        refine (alive5 _).mono ?_
        rintro e w4 ⟨rfl, B4⟩
        have m4 := Mod.of_below (S := fun _ => False) B4
        have P := refIs hi (R.mod0 m4) wi
        rw [hth] at P
        obtain ⟨d1, e1⟩ := blkc (m4.heap ht fun h => h)
        clear ht A1 R hX
        go_wp2_with fail
        refine P.mono ?_
        rintro e w5 ⟨rfl, m5⟩
        dsimp only [Option.isSome]
        go_wp2_with fail
        go_ret
        exact ⟨rfl, (BR.trans (B4.mono BR.size)).trans (m5.to_below (by have := BR.size; have := B4.size; omega) fun _ h => h.elim)⟩
      | some u =>
        obtain ⟨kk, rfl, hp⟩ := thing_some hth
        have hkl := (List.getElem?_eq_some_iff.1 hp).1
        obtain ⟨lb, cc, rfl, _, _⟩ := A1.place (by omega)
        obtain ⟨hc0, hf0⟩ := A1.cell (i := kk) (p := some u) hp (j := 0) (u := .int .i64 u) rfl
        simp only [zI, List.length_cons, List.length_nil, Nat.zero_add, Nat.add_zero] at hc0 hf0
        obtain ⟨A5, M5⟩ := A1.set_thing (by decide) (by decide) hp wv
        obtain ⟨W5, hW5⟩ : ∃ W5, wr.setCell ⟨lb, kk * 2, none⟩ (.int .i64 wv) = W5 := ⟨_, rfl⟩
        have hW5' : setL wr lb (kk * (zI.length + 1)) (encI wv) = W5 := hW5
        rw [hW5'] at A5 M5
        have ht5 := M5.heap ht fun h => (hX _ h).2.1 rfl
        have R5 : RV W5 (.slice A F.length c) (.slice A' l.length c') F L := R.mod M5 fun j hj h => (hX _ h).2.2 hj
        have B5 : Below w.heap.size w W5 := BR.trans (M5.to_below BR.size fun j h => Nat.le_trans B00.size (hX _ h).1)
        obtain ⟨d1, e1⟩ := blkc ht5
        have hdo : arDo room l F ⟨2, kk, wv⟩ = ((l.set kk (some wv), F), ⟨0, 0, true, 0⟩) := by
          unfold arDo; simp [hth]
        have P := refDo hi hL R5 ⟨2, kk, wv⟩ hdo
        go_wp2_with fail
        refine (atI_yes A1 hp).mono ?_
        rintro e w3 ⟨rfl, hw⟩
        subst hw
        go_wp2_with fail
        refine P.mono ?_
        rintro e w6 ⟨A2, k2, A2', k2', L2, rfl, R2, hL2, m6, hk2⟩
        dsimp only [encAns] at R2 hL2 hk2 ⊢
        clear hW5 hW5' hc0 hf0 P d1 e1
        simp only [List.length_set] at R2 hk2 ⊢
        go_wp2_with fail
        obtain ⟨w7, hw7⟩ : ∃ w7, (w6.alloc (.cells #[.int .i64 room, .int .i64 l.length, .slice A2 F.length k2, .slice A2' l.length k2'] 48)).alloc (.cells #[.int .i64 0, .int .i64 0, .bool true, .int .i64 0] 37) = w7 := ⟨_, rfl⟩
        have m7 : Mod (fun _ => False) w6 w7 := by rw [← hw7]; exact ((Mod.refl _ _).alloc _).alloc _
        have q1 : w7.heap[w6.heap.size]? = some (.cells #[.int .i64 room, .int .i64 l.length, .slice A2 F.length k2, .slice A2' l.length k2'] 48 (0, 0)) := by rw [← hw7]; exact alloc2_0 _ _ _
        have q2 := (m6.trans' m7).heap ht5 fun h => h
        have R7 := R5.mod0 (m6.trans' m7)
        have R7' := R2.mod0 m7
        have A7 := A5.mod (m6.trans' m7) fun _ _ h => h
        have B7 : Below w.heap.size w w7 := B5.trans ((m6.trans' m7).to_below B5.size fun _ h => h.elim)
        clear A5 R5 R2 ht5 m6 m7 M5 ht R A1 hk2 hX
        rw [hw7]
        clear hw7
        refine (alive5 _).mono ?_
        rintro e w8 ⟨rfl, B8⟩
        have m8 := Mod.of_below (S := fun _ => False) B8
        have P := refIs hi (R7.mod0 m8) kk
        rw [hth] at P
        have q3 := m8.heap q1 fun h => h
        obtain ⟨d1, e1⟩ := blkc (m8.heap q2 fun h => h)
        clear q1 q2 hth
        go_wp2_with fail
        refine P.mono ?_
        rintro e w9 ⟨rfl, m9⟩
        dsimp only [Option.isSome]
        clear P d1 e1
        obtain ⟨d1, e1⟩ := blkc (m9.heap q3 fun h => h)
        have Q := stands5 (A7.mod (m8.trans' m9) fun _ _ h => h) hL2 (R7'.mod0 (m8.trans' m9))
        rw [List.length_set] at Q
        go_wp2_with fail
        refine Q.mono ?_
        rintro e w10 ⟨rfl, m10⟩
        go_wp2_with fail
        go_ret
        exact ⟨rfl, B7.trans (((m8.trans' m9).trans' m10).to_below B7.size fun _ h => h.elim)⟩

theorem writes5r (room : Int) (a : Option Addr) (len cap : Nat) (zs : List Op5) (cs : Array Value) (w : World) (_ : (Lit.int .i64 room).wf = true) (hr : RdS encOp 3 w a len zs) (_ : ∀ z ∈ zs, True) (hl : len * 24 ≤ 140737488351232) (hf : Fit [.int .i64, .int .i64, .int .i64] cs.toList) :
    Calls Try.prog 8 #[.int .i64 room, .slice a len cap, .agg cs] w fun e w' => e = .returned (.bool true) ∧ Below w.heap.size w w' := by
  obtain ⟨⟨k, i, v⟩, he, _⟩ := fitOp cs.toList hf
  obtain rfl : cs = #[.int .i64 k, .int .i64 i, .int .i64 v] := by rw [← Array.toArray_toList (xs := cs), ← he]; rfl
  exact writes5 room a len cap zs k i v w hr (by omega)
end Go.Proofs.Bo
