import Derived.Test.YtniemignjlanaaaMade6
import Derived.Test.YtniemignjlanaaaAll6
import Derived.Test.YtniemignjlanaaaRSame
import Derived.Test.YtniemignjlanaaaCopyN
set_option linter.unusedVariables false
namespace Go.Proofs.Bo
open Go Go.RowKit

/-- A tree of blocks made since w0, and a row, apart; the row may be older. -/
def SideP (w0 W : World) (tb : Nat) (room : Int) (v : Value) (Lt Lv : List Sg) : Prop :=
  RB (fun k => w0.heap.size ≤ k ∧ v.ownBlock ≠ some k) W tb room Lt ∧ RowV W v Lv ∧ Mod (fun _ => False) w0 W
section
variable {w0 W W' w : World} {tb : Nat} {room : Int} {v : Value} {Lt Lv L l : List Sg} {X : Nat → Prop}
theorem SideP.mod0 (h : SideP w0 W tb room v Lt Lv) (m : Mod (fun _ => False) W W') : SideP w0 W' tb room v Lt Lv := ⟨h.1.mod0 m, h.2.1.keep m, h.2.2.trans' m⟩
theorem side_do (h : SideP w0 W tb room v L L) (o : Op6) (hf : fit64 o.s.la) : Calls Try.prog 28 #[v, .int .i64 room, .agg (encO6 o).toArray] W fun e W' => ∃ v', e = .returned (.tuple #[v', .bool (do6B o L), .int .i64 (do6E room o L)]) ∧ SideP w0 W' tb room v' L (do6L room o L) ∧ Mod (fun _ => False) W W' := by
  have hb := rb_bound h.1
  refine (doR h.2.1 (rb_row h.1) (by omega) room o hf).mono ?_
  rintro e W1 ⟨v', rfl, R, M, H⟩
  refine ⟨v', rfl, ⟨(h.1.mono fun k hk hlt => ⟨hk.1, fun e => ?_⟩).mod0 M, R, h.2.2.trans' M⟩, M⟩
  rcases H k e with e | e
  · exact hk.2 e
  · omega
theorem side_does (h : SideP w0 W tb room v Lt Lv) (o : Op6) (hf : fit64 o.s.la) : Calls Try.prog 20 #[.pointer (some ⟨tb, 0, none⟩), .agg (encO6 o).toArray] W fun e W' => e = .returned (.tuple #[.bool (do6B o Lt), .int .i64 (do6E room o Lt)]) ∧ SideP w0 W' tb room v (do6L room o Lt) Lv := by
  refine (doesZ h.1 o hf).mono ?_
  rintro e W1 ⟨rfl, R, M⟩
  refine ⟨rfl, R.mono fun k hk hlt => ?_, own_mod h.2.1 M fun k hk hX => hX.2 hk, h.2.2.trans M fun j hj => .inr hj.1⟩
  rcases hk with hk | hk
  · exact hk
  · exact ⟨Nat.le_trans h.2.2.size hk, fun e => by have := own_lt h.2.1 e; omega⟩
theorem rb_copy (h : RB X w tb room l) : Calls Try.prog 38 #[.pointer (some ⟨tb, 0, none⟩)] w fun e w' => ∃ nt, e = .returned (.pointer (some ⟨nt, 0, none⟩)) ∧ RB (fun k => w.heap.size ≤ k) w' nt room l ∧ Mod (fun _ => False) w w' := by
  obtain ⟨ab, N, lv, fv, free, t, h1, h2, h3, rfl, h5⟩ := h
  refine (copyTZ h1).mono ?_
  rintro e w' ⟨nt, nb, lv', fv', rfl, T1, T2, M⟩
  exact ⟨nt, rfl, ⟨nb, N, lv', fv', free, t, T1, h2, h3, rfl, T2⟩, M⟩
end

set_option maxHeartbeats 2000000 in
theorem copies6 (room : Int) (a : Option Addr) (len cap : Nat) (zs : List Op6) (a2 : Option Addr) (len2 cap2 : Nat) (zs2 : List Op6) (w : World) (_ : (Lit.int .i64 room).wf = true) (hr : RdS encO6 6 w a len zs) (hG : ∀ z ∈ zs, GOp6 z) (hl : len * 48 ≤ 140737488351232)
    (hr2 : RdS encO6 6 w a2 len2 zs2) (hG2 : ∀ z ∈ zs2, GOp6 z) (hl2 : len2 * 48 ≤ 140737488351232) :
    Calls Try.prog 9 #[.int .i64 room, .slice a len cap, .slice a2 len2 cap2] w fun e w' => e = .returned (.bool true) ∧ Below w.heap.size w w' := by
  by_cases hb : (room < 0 ∨ 4096 < room) ∨ 200 < len
  · go_enter Try.func9, Try.ntmps9
    go_wp2_with fail
    refine (madeZ_no room a len cap _ hb).mono ?_
    rintro e w1 ⟨rfl, B1⟩
    go_wp2_with fail
    refine (alive6 _).mono ?_
    rintro e w2 ⟨rfl, B2⟩
    go_wp2_with fail
    go_ret
    exact ⟨rfl, B1.trans (B2.mono B1.size)⟩
  have hr0 : 0 ≤ room := by omega
  have hrm : room ≤ 4096 := by omega
  have hle : len ≤ 200 := by omega
  clear hb
  by_cases hb2 : 200 < len2
  · have hb2' : (200 : Int) < len2 := by omega
    go_enter Try.func9, Try.ntmps9
    go_wp2_with fail
    refine (madeZ room a len cap zs _ hr hG hr0 hrm hle).mono ?_
    rintro e w1 ⟨tb, v, L, rfl, F1⟩
    go_wp2_with fail
    refine (alive6 _).mono ?_
    rintro e w2 ⟨rfl, B2⟩
    go_wp2_with fail
    go_ret
    exact ⟨rfl, F1.below.trans (B2.mono F1.below.size)⟩
  have hb2' : ¬ (200 : Int) < len2 := by omega
  go_enter Try.func9, Try.ntmps9
  go_wp2_with fail
  refine (madeZ room a len cap zs _ hr hG hr0 hrm hle).mono ?_
  rintro e w1 ⟨tb, v, L, rfl, F1⟩
  clear hr hG hl
  have hbL := rb_bound F1.1
  replace hbL := hid hbL
  have hv := fun k (hk : v.ownBlock = some k) => own_lt F1.2.1 hk
  go_wp2_with fail
  refine (rb_copy F1.1).mono ?_
  rintro e w2 ⟨cb, rfl, C2, M2⟩
  go_wp2_with fail
  refine (allR C2 (by have := hbL.out; omega)).mono ?_
  rintro e w3 ⟨v3, rfl, R3, H3, M3⟩
  replace C2 := C2.mod0 M3
  replace M2 := M2.trans' M3
  go_wp2_with fail
  refine (sameR R3 (F1.mod0 M2).2.1 (by have := hbL.out; omega)).mono ?_
  rintro e w4 ⟨rfl, M4⟩
  replace C2 := C2.mod0 M4
  replace M2 := M2.trans' M4
  have F2 : SideP w1 w4 cb room v L L := ⟨C2.mono fun k hk _ => ⟨hk, fun e => by have := hv k e; omega⟩, (F1.mod0 M2).2.1, M2⟩
  clear C2 R3 H3 hv
  go_wp2_with fail
  go_loopw [11, 48] (fun m c W => ∃ (k : Nat) (L2 : List Sg), k ≤ len2 ∧ c = .int .i64 k ∧ SideP w1 W cb room m L2 L2) (fun _ c _ => (len2 - intOf c).toNat)
  case atStart => exact ⟨0, _, by omega, rfl, F2⟩
  case round =>
    clear F2
    obtain ⟨k, Lm, hk, rfl, F⟩ := hrel
    by_cases hlt : k < len2
    · have hzl : k < zs2.length := by rw [hr2.1]; exact hlt
      obtain ⟨b, o, rfl, hc⟩ := hr2.2.2 (by omega)
      obtain ⟨c0, c1, c2, c3, c4, c5⟩ := RdS.op6 hc (F1.mod0 F.2.2).below hzl
      have hg := hG2 zs2[k] (by simp)
      generalize zs2[k] = op at c0 c1 c2 c3 c4 c5 hg
      obtain ⟨W1, hW1, ho, m1⟩ := boxO wr op
      obtain ⟨d1, e1⟩ := blkc ho
      replace F := F.mod0 m1
      have hw1 := m1.size
      have P := side_do F op hg.2.2.1
      have hf := hg.2.2.1
      clear hc hr2 hzl hG2 hg
      have hob : wr.heap.size < W1.heap.size := blkl ho
      obtain ⟨q, ls, la, hs, ha, sv⟩ := op
      simp only [encO6] at hW1 d1 P
      go_wp2_with fail
      refine P.mono ?_
      rintro e w2 ⟨v', rfl, F2, M2⟩
      obtain ⟨d2, e2⟩ := blkc (M2.heap ho fun h => h)
      simp only [encO6] at d2
      have P2 := side_does F2 ⟨q, ls, la, hs, ha, sv⟩ hf
      simp only [encO6] at P2
      clear P d1 e1 c0 c1 c2 c3 c4 c5
      generalize do6B ⟨q, ls, la, hs, ha, sv⟩ Lm = r1, do6E room ⟨q, ls, la, hs, ha, sv⟩ Lm = r2, do6L room ⟨q, ls, la, hs, ha, sv⟩ Lm = L2 at P2 F2 ⊢
      go_wp2_with fail
      refine P2.mono ?_
      rintro e w3 ⟨rfl, F3⟩
      clear P2
      go_wp2_with fail
      go_roundw
      case rel => exact ⟨k + 1, L2, by omega, by simp, F3⟩
      case measure => simp [intOf]; omega
    · obtain rfl : k = len2 := by omega
      clear hlt hk hr2
      go_wp2_with fail
      refine (alive6 _).mono ?_
      rintro e w5 ⟨rfl, B5⟩
      replace F := F.mod0 (Mod.of_below B5)
      have hbm := rb_bound F.1
      replace hbm := hid hbm
      go_wp2_with fail
      refine (allR (F1.mod0 F.2.2).1 (by have := hbL.out; omega)).mono ?_
      rintro e w6 ⟨v6, rfl, R6, H6, M6⟩
      replace F := F.mod0 M6
      go_wp2_with fail
      refine (sameR R6 (F1.mod0 F.2.2).2.1 (by have := hbL.out; omega)).mono ?_
      rintro e w7 ⟨rfl, M7⟩
      replace F := F.mod0 M7
      clear R6 H6 M6 M7
      go_wp2_with fail
      refine (allR F.1 (by have := hbm.out; omega)).mono ?_
      rintro e w8 ⟨v8, rfl, R8, H8, M8⟩
      replace F := F.mod0 M8
      go_wp2_with fail
      refine (sameR R8 F.2.1 (by have := hbm.out; omega)).mono ?_
      rintro e w9 ⟨rfl, M9⟩
      replace F := F.mod0 M9
      clear R8 H8 M8 M9
      go_wp2_with fail
      refine (rb_check (F1.mod0 F.2.2).1).mono ?_
      rintro e wa ⟨rfl, Ma⟩
      replace F := F.mod0 Ma
      go_wp2_with fail
      refine (rb_check F.1).mono ?_
      rintro e wb ⟨rfl, Mb⟩
      replace F := F.mod0 Mb
      go_wp2_with fail
      go_ret
      exact ⟨rfl, (F1.mod0 F.2.2).below⟩
end Go.Proofs.Bo
