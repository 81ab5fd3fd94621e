import Derived.Test.YtofgoehkahcajaaGreatApiG
import Derived.Test.YtofgoehkahcajaaGreatCheck7
set_option linter.unusedVariables false
set_option linter.unusedSimpArgs false
namespace Go.Proofs.Bo
open Go Go.RowKit

theorem hgt24 {k : Nat} {l : List Sg} (h : HgtOK7 2 l k) (hl : l.length = 4) : k = 2 := by
  rcases h with ⟨rfl, _⟩ | ⟨h, rfl, _, h1, h2⟩
  · cases hl
  · rw [hl] at h1 h2
    cases h with
    | zero => simp at h2
    | succ h =>
      cases h with
      | zero => rfl
      | succ h =>
        have : 2 ^ 2 ≤ 2 ^ (h + 1 + 1) := Nat.pow_le_pow_right (by omega) (by omega)
        omega
/-- The first ones. -/
def aliveL (k : Nat) : List Sg := (List.range k).map fun (i : Nat) => segN ((i : Int) + 1)
theorem alive_put : ∀ k : Nat, k < 4 → putE 9 (segN ((k : Int) + 1)) (aliveL k) = 0 ∧ putL 9 (segN ((k : Int) + 1)) (aliveL k) = aliveL (k + 1)
  | 0, _ => ⟨rfl, rfl⟩
  | 1, _ => ⟨rfl, rfl⟩
  | 2, _ => ⟨rfl, rfl⟩
  | 3, _ => ⟨rfl, rfl⟩

set_option maxHeartbeats 2000000 in
theorem alive7 (w : World) : Calls Tryz.prog 6 #[] w fun e w' => e = .returned (.bool true) ∧ Below w.heap.size w w' := by
  go_enter Tryz.func6, Tryz.ntmps6
  go_wp2_with fail
  refine (fb7_new (d := 2) (room := 9) (by omega) (by omega) w).mono ?_
  rintro e w1 ⟨tb, rfl, F1⟩
  go_wp2_with fail
  go_loopw [18] (fun c W => ∃ k : Nat, k ≤ 4 ∧ c = .int .i64 (k : Int) ∧ FB7 w W tb 2 9 (aliveL k)) (fun c _ => (4 - intOf c).toNat)
  case atStart => exact ⟨0, by omega, rfl, F1⟩
  case round =>
    clear F1
    obtain ⟨k, hk, rfl, F1⟩ := hrel
    by_cases hlt : k < 4
    · have hk4 : decide ((k : Int) < 4) = true := decide_eq_true (by omega)
      have e1 : IntKind.i64.wrap ((k : Int) + 1) = (k : Int) + 1 := by rw [IntKind.wrap_i64]; omega
      obtain ⟨p1, p2⟩ := alive_put k hlt
      replace p1 := hid p1
      replace p2 := hid p2
      go_wp2_with fail
      refine (segB ((k : Int) + 1) _).mono ?_
      rintro e w2 ⟨rfl, M2⟩
      replace F1 := F1.mod0 M2
      have PP := fb7_put F1 (segN ((k : Int) + 1)) (by unfold fit64 segN; simp only; omega)
      rw [p1.out, p2.out] at PP
      go_wp2_with fail
      refine PP.mono ?_
      rintro e w3 ⟨rfl, F3⟩
      clear F1 M2 PP
      go_wp2_with fail
      go_roundw
      case rel => exact ⟨k + 1, hlt, by simp, F3⟩
      case measure => simp [intOf]; omega
    · obtain rfl : k = 4 := by omega
      replace F1 : FB7 w wr tb 2 9 [segN 1, segN 2, segN 3, segN 4] := F1
      clear hlt hk
      go_wp2_with fail
      refine (bb_floor F1.1 0 9 (by unfold fit64; decide)).mono ?_
      rintro e w8 ⟨rfl, M8⟩
      replace F1 := F1.mod0 M8
      rw [show optS (nearS false true (kx 0 9) [segN 1, segN 2, segN 3, segN 4]) = .tuple #[.agg (encS (segN 4)).toArray, .bool true] from rfl]
      obtain ⟨u8, W8, g8, k8, b8, B8, N8⟩ := put5s w8 (segN 4)
      obtain ⟨d8, e8⟩ := blkc b8
      replace F1 := F1.mod0 N8
      simp only [encS, segN]
      simp only [segN] at k8
      go_wp2_with fail
      clear M8 d8 e8 b8 g8 k8 N8
      refine (bb_high F1.1 0 2 (by unfold fit64; decide)).mono ?_
      rintro e w9 ⟨rfl, M9⟩
      rw [show optS (nearS true false (kx 0 2) [segN 1, segN 2, segN 3, segN 4]) = .tuple #[.agg (encS (segN 3)).toArray, .bool true] from rfl]
      obtain ⟨u9, W9, g9, k9, b9, B9, N9⟩ := put5s w9 (segN 3)
      obtain ⟨d9, e9⟩ := blkc b9
      replace F1 := (F1.mod0 M9).mod0 N9
      replace B8 := N9.heap (M9.heap B8 fun h => h) fun h => h
      simp only [encS, segN]
      simp only [segN] at k9
      go_wp2_with fail
      clear d9 e9 b9 g9 k9
      refine (bb_height F1.1).mono ?_
      rintro e w10 ⟨k, hk, rfl, M10⟩
      obtain rfl := hgt24 hk rfl
      replace F1 := F1.mod0 M10
      obtain ⟨D8, E8⟩ := blkc (M10.heap B8 fun h => h)
      obtain ⟨D9, E9⟩ := blkc (M10.heap B9 fun h => h)
      simp only [encS, segN] at D8 D9 ⊢
      go_wp2_with fail
      refine (fb7_del F1 0 4 (by unfold fit64; decide)).mono ?_
      rintro e w12 ⟨rfl, F12⟩
      rw [show hasK (kx 0 4) [segN 1, segN 2, segN 3, segN 4] = true from rfl]
      rw [show delL (kx 0 4) [segN 1, segN 2, segN 3, segN 4] = [segN 1, segN 2, segN 3] from rfl] at F12
      go_wp2_with fail
      refine (fb7_del F12 0 4 (by unfold fit64; decide)).mono ?_
      rintro e w13 ⟨rfl, F13⟩
      rw [show hasK (kx 0 4) [segN 1, segN 2, segN 3] = false from rfl]
      rw [show delL (kx 0 4) [segN 1, segN 2, segN 3] = [segN 1, segN 2, segN 3] from rfl] at F13
      go_wp2_with fail
      refine (bb_len F13.1).mono ?_
      rintro e w14 ⟨rfl, M14⟩
      replace F13 := F13.mod0 M14
      go_wp2_with fail
      refine (bb_check F13.1).mono ?_
      rintro e w15 ⟨rfl, M15⟩
      replace F13 := F13.mod0 M15
      go_wp2_with fail
      refine (bb_degree F13.1).mono ?_
      rintro e w16 ⟨rfl, M16⟩
      go_wp2_with fail
      go_ret
      exact ⟨rfl, (F13.mod0 M16).below⟩
end Go.Proofs.Bo
set_option linter.unusedVariables false
set_option linter.unusedSimpArgs false
namespace Go.Proofs.Bo
open Go Go.RowKit

theorem boxSe (w : World) (deg room : Int) : ∃ w0, w.alloc (.cells #[.int .i64 deg, .int .i64 room] 23) = w0 ∧ w0.heap[w.heap.size]? = some (.cells #[.int .i64 deg, .int .i64 room] 23 (0, 0)) ∧ Mod (fun _ => False) w w0 ∧ w0.heap.size = w.heap.size + 1 :=
  ⟨_, rfl, alloc_0 _ _, (Mod.refl _ _).alloc _, by simp⟩
theorem FB7.back {w0 w1 w : World} {tb d : Nat} {room : Int} {l : List Sg} (h : FB7 w1 w tb d room l) (M : Mod (fun _ => False) w0 w1) : FB7 w0 w tb d room l := ⟨h.1.mono fun k hk _ => Nat.le_trans M.size hk, M.trans' h.2⟩

theorem seatArg {cs : Array Value} (h : Fit [.int .i64, .int .i64] cs.toList) : ∃ deg room, cs = #[.int .i64 deg, .int .i64 room] ∧ fit64 deg ∧ fit64 room := by
  obtain ⟨v, vs, e, ⟨n, rfl, hn⟩, h2⟩ := h.cons_inv
  obtain ⟨v2, vs2, rfl, ⟨n2, rfl, hn2⟩, h3⟩ := h2.cons_inv
  obtain rfl := h3.nil_inv
  exact ⟨n, n2, by cases cs; simp_all, wf64 hn, wf64 hn2⟩

/-- There is none. -/
def MadeNo7 (w : World) (e : Ending) (w' : World) : Prop := e = .returned (.tuple #[.pointer none, .slice none 0 0, .bool false]) ∧ Below w.heap.size w w'
def MadeYes7 (w : World) (d : Nat) (room : Int) (e : Ending) (w' : World) : Prop := ∃ tb v L, e = .returned (.tuple #[.pointer (some ⟨tb, 0, none⟩), v, .bool true]) ∧ BothB w w' tb d room v L L

theorem madeB_no (deg room : Int) (a : Option Addr) (len cap : Nat) (w : World) (hb : (deg < 2 ∨ 64 < deg ∨ room < 0 ∨ 4096 < room) ∨ 200 < len) :
    Calls Tryz.prog 4 #[.agg #[.int .i64 deg, .int .i64 room], .slice a len cap] w fun e w' => MadeNo7 w e w' := by
  obtain ⟨w0, hw0, b0, M0, hs0⟩ := boxSe w deg room
  obtain ⟨c0, f0⟩ := blkc b0
  by_cases hb' : deg < 2 ∨ 64 < deg ∨ room < 0 ∨ 4096 < room
  · clear hb
    have P := newBZ_no deg room hb' w0
    replace hs0 := hid hs0
    clear hb'
    go_enter Tryz.func4, Tryz.ntmps4
    go_wp2_with fail
    refine P.mono ?_
    rintro e w1 ⟨rfl, hw⟩
    rw [hw]
    clear hw
    go_wp2_with fail
    exact ret3 rfl rfl ⟨rfl, M0.to_below (Nat.le_refl _) fun _ h => h.elim⟩
  · have h2' : (200 : Int) < len := by omega
    obtain ⟨d, rfl⟩ : ∃ d : Nat, deg = d := ⟨deg.toNat, by omega⟩
    have P := fb7_new (d := d) (room := room) (by omega) (by omega) w0
    replace hs0 := hid hs0
    clear hb hb'
    go_enter Tryz.func4, Tryz.ntmps4
    go_wp2_with fail
    refine P.mono ?_
    rintro e w1 ⟨tb, rfl, F1⟩
    go_wp2_with fail
    exact ret3 rfl rfl ⟨rfl, (F1.back M0).below⟩

set_option maxHeartbeats 1000000 in
theorem madeB (d : Nat) (room : Int) (a : Option Addr) (len cap : Nat) (zs : List Op6) (w : World) (hr : RdS encO6 6 w a len zs) (hG : ∀ z ∈ zs, GOp6 z) (hd : 2 ≤ d ∧ d ≤ 64) (hr0 : 0 ≤ room ∧ room ≤ 4096) (hl : len ≤ 200) :
    Calls Tryz.prog 4 #[.agg #[.int .i64 (d : Int), .int .i64 room], .slice a len cap] w fun e w' => MadeYes7 w d room e w' := by
  have h2' : ¬ (200 : Int) < len := by omega
  obtain ⟨w0, hw0, b0, M0, hs0⟩ := boxSe w (d : Int) room
  obtain ⟨c0, f0⟩ := blkc b0
  have P := fb7_new (d := d) (room := room) hd hr0 w0
  have hd2 : (2 : Int) ≤ d := by omega
  replace hs0 := hid hs0
  go_enter Tryz.func4, Tryz.ntmps4
  go_wp2_with fail
  refine P.mono ?_
  rintro e w1 ⟨tb, rfl, F1⟩
  have b1 := F1.2.heap b0 fun h => h
  replace F1 := BothB.start F1
  clear P c0 f0
  go_wp2_with fail
  go_loopw [9, 36] (fun v c W => ∃ (k : Nat) (L : List Sg), k ≤ len ∧ c = .int .i64 k ∧ BothB w0 W tb d room v L L) (fun _ c _ => (len - intOf c).toNat)
  case atStart => exact ⟨0, _, by omega, rfl, F1⟩
  case round =>
    clear F1 b1
    obtain ⟨k, L, hk, rfl, F⟩ := hrel
    by_cases hlt : k < len
    · have hzl : k < zs.length := by rw [hr.1]; exact hlt
      obtain ⟨b, o, rfl, hc⟩ := hr.2.2 (by omega)
      obtain ⟨x0, x1, x2, x3, x4, x5⟩ := RdS.op6 hc ((M0.to_below (Nat.le_refl _) fun _ h => h.elim).trans (F.below.mono M0.size)) hzl
      have hg := hG zs[k] (by simp)
      generalize zs[k] = op at x0 x1 x2 x3 x4 x5 hg
      obtain ⟨W1, hW1, ho, m1⟩ := boxO wr op
      obtain ⟨d1, e1⟩ := blkc ho
      replace F := F.mod0 m1
      have hw1 := m1.size
      have P := bothB_do F op hg.2.2.1
      have hf := hg.2.2.1
      have bS := F.2.2.2.heap b0 fun h => h
      obtain ⟨s1, s2⟩ := blkc bS
      clear hc hr hzl hG hg
      have hob : wr.heap.size < W1.heap.size := blkl ho
      obtain ⟨q, ls, la, hs, ha, v⟩ := op
      simp only [encO6] at hW1 d1 P
      go_wp2_with fail
      refine P.mono ?_
      rintro e w2 ⟨v', rfl, F2, M2⟩
      obtain ⟨d2, e2⟩ := blkc (M2.heap ho fun h => h)
      simp only [encO6] at d2
      have P2 := bothB_does F2 ⟨q, ls, la, hs, ha, v⟩ hf
      simp only [encO6] at P2
      clear P d1 e1 x0 x1 x2 x3 x4 x5 s1 s2
      generalize do6B ⟨q, ls, la, hs, ha, v⟩ L = r1, do6E room ⟨q, ls, la, hs, ha, v⟩ L = r2, do6L room ⟨q, ls, la, hs, ha, v⟩ L = L2 at P2 F2 ⊢
      go_wp2_with fail
      refine P2.mono ?_
      rintro e w3 ⟨rfl, F3⟩
      clear P2
      go_wp2_with fail
      go_roundw
      case rel => exact ⟨k + 1, L2, by omega, by simp, F3⟩
      case measure => simp [intOf]; omega
    · obtain rfl : k = len := by omega
      clear hlt hk hr
      go_wp2_with fail
      exact ret3 rfl rfl ⟨_, _, _, rfl, F.back M0⟩
end Go.Proofs.Bo
set_option linter.unusedVariables false
set_option linter.unusedSimpArgs false
namespace Go.Proofs.Bo
open Go Go.RowKit

/-- The row behind a script. -/
def foldR (room : Int) (zs : List Op6) : List Sg := zs.foldl (fun l o => do6L room o l) []
theorem foldR_take {room : Int} {zs : List Op6} {k : Nat} (hk : k < zs.length) : foldR room (zs.take (k + 1)) = do6L room zs[k] (foldR room (zs.take k)) := by
  unfold foldR
  rw [List.take_succ_eq_append_getElem hk, List.foldl_append]
  rfl
def MadeYes8 (w : World) (d : Nat) (room : Int) (zs : List Op6) (e : Ending) (w' : World) : Prop := ∃ tb v, e = .returned (.tuple #[.pointer (some ⟨tb, 0, none⟩), v, .bool true]) ∧ BothB w w' tb d room v (foldR room zs) (foldR room zs)

set_option maxHeartbeats 1000000 in
theorem madeB2 (d : Nat) (room : Int) (a : Option Addr) (len cap : Nat) (zs : List Op6) (w : World) (hr : RdS encO6 6 w a len zs) (hG : ∀ z ∈ zs, GOp6 z) (hd : 2 ≤ d ∧ d ≤ 64) (hr0 : 0 ≤ room ∧ room ≤ 4096) (hl : len ≤ 200) :
    Calls Tryz.prog 4 #[.agg #[.int .i64 (d : Int), .int .i64 room], .slice a len cap] w fun e w' => MadeYes8 w d room zs e w' := by
  have h2' : ¬ (200 : Int) < len := by omega
  obtain ⟨w0, hw0, b0, M0, hs0⟩ := boxSe w (d : Int) room
  obtain ⟨c0, f0⟩ := blkc b0
  have P := fb7_new (d := d) (room := room) hd hr0 w0
  have hd2 : (2 : Int) ≤ d := by omega
  replace hs0 := hid hs0
  go_enter Tryz.func4, Tryz.ntmps4
  go_wp2_with fail
  refine P.mono ?_
  rintro e w1 ⟨tb, rfl, F1⟩
  have b1 := F1.2.heap b0 fun h => h
  replace F1 := BothB.start F1
  clear P c0 f0
  go_wp2_with fail
  go_loopw [9, 36] (fun v c W => ∃ (k : Nat) (L : List Sg), k ≤ len ∧ c = .int .i64 k ∧ L = foldR room (zs.take k) ∧ BothB w0 W tb d room v L L) (fun _ c _ => (len - intOf c).toNat)
  case atStart => exact ⟨0, _, by omega, rfl, by simp [foldR], F1⟩
  case round =>
    clear F1 b1
    obtain ⟨k, L, hk, rfl, hL, F⟩ := hrel
    by_cases hlt : k < len
    · have hzl : k < zs.length := by rw [hr.1]; exact hlt
      obtain ⟨b, o, rfl, hc⟩ := hr.2.2 (by omega)
      obtain ⟨x0, x1, x2, x3, x4, x5⟩ := RdS.op6 hc ((M0.to_below (Nat.le_refl _) fun _ h => h.elim).trans (F.below.mono M0.size)) hzl
      have hg := hG zs[k] (by simp)
      have hnx := foldR_take (room := room) hzl
      rw [← hL] at hnx
      clear hL
      generalize zs[k] = op at x0 x1 x2 x3 x4 x5 hg hnx
      replace hnx := hid hnx
      obtain ⟨W1, hW1, ho, m1⟩ := boxO wr op
      obtain ⟨d1, e1⟩ := blkc ho
      replace F := F.mod0 m1
      have hw1 := m1.size
      have P := bothB_do F op hg.2.2.1
      have hf := hg.2.2.1
      have bS := F.2.2.2.heap b0 fun h => h
      obtain ⟨s1, s2⟩ := blkc bS
      clear hc hr hzl hG hg
      have hob : wr.heap.size < W1.heap.size := blkl ho
      obtain ⟨q, ls, la, hs, ha, v⟩ := op
      simp only [encO6] at hW1 d1 P
      go_wp2_with fail
      refine P.mono ?_
      rintro e w2 ⟨v', rfl, F2, M2⟩
      obtain ⟨d2, e2⟩ := blkc (M2.heap ho fun h => h)
      simp only [encO6] at d2
      have P2 := bothB_does F2 ⟨q, ls, la, hs, ha, v⟩ hf
      simp only [encO6] at P2
      clear P d1 e1 x0 x1 x2 x3 x4 x5 s1 s2
      generalize do6B ⟨q, ls, la, hs, ha, v⟩ L = r1, do6E room ⟨q, ls, la, hs, ha, v⟩ L = r2, do6L room ⟨q, ls, la, hs, ha, v⟩ L = L2 at P2 F2 hnx ⊢
      go_wp2_with fail
      refine P2.mono ?_
      rintro e w3 ⟨rfl, F3⟩
      clear P2
      go_wp2_with fail
      go_roundw
      case rel => exact ⟨k + 1, L2, by omega, by simp, hnx.out.symm, F3⟩
      case measure => simp [intOf]; omega
    · obtain rfl : k = len := by omega
      have hz : zs.take k = zs := List.take_of_length_le (by rw [hr.1]; omega)
      rw [hz] at hL
      subst hL
      clear hlt hk hr hz
      go_wp2_with fail
      exact ret3 rfl rfl ⟨_, _, rfl, F.back M0⟩
end Go.Proofs.Bo
