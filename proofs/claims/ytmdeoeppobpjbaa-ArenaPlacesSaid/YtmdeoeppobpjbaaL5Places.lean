import Derived.Test.YtmdeoeppobpjbaaDo5
import Derived.Test.YtmdeoeppobpjbaaL5Last
import Derived.Deep.LoopGhost
set_option linter.unusedVariables false
namespace Go.Proofs.Bo
open Go Go.RowKit

theorem arPut_room {room : Int} {l : List (Option Int)} {free : List Int} (h : ArInv room l free) {u : Int} (hr : (l.length : Int) - free.length < room) {r : List (Option Int) × List Int × Int × Int} (hp : arPut room l free u = r) :
    r.2.2.2 = 0 ∧ 0 ≤ r.2.2.1 ∧ r.2.2.1 < room ∧ (r.1.length : Int) - r.2.1.length = (l.length : Int) - free.length + 1 := by
  unfold arPut at hp
  rw [if_neg (by omega)] at hp
  split at hp
  · subst hp
    rename_i hf
    have : free = [] := by simpa using hf
    subst this
    simp at hr ⊢
    omega
  · rename_i i hi
    subst hp
    have hm : i ∈ free := List.mem_of_getLast? hi
    obtain ⟨k, rfl, hk⟩ := (h.mem i).1 hm
    have hkl := (List.getElem?_eq_some_iff.1 hk).1
    have hlr := h.lr
    have hne : free ≠ [] := by rintro rfl; simp at hm
    have := List.length_pos_iff.2 hne
    refine ⟨rfl, by simp, by simp; omega, ?_⟩
    simp
    omega

set_option maxHeartbeats 2000000 in
theorem places5 (room : Int) (a : Option Addr) (len cap : Nat) (zs : List Op5) (w : World) (hr : RdS encOp 3 w a len zs) (hl : len ≤ 140737488355328) :
    Calls Try.prog 5 #[.int .i64 room, .slice a len cap] w fun e w' => e = .returned (.bool true) ∧ Below w.heap.size w w' := by
  by_cases hb : room < 0 ∨ 65536 < room
  · go_enter Try.func5, Try.ntmps5
    go_wp2_with fail
    refine (newI_no room hb _).mono ?_
    rintro e w1 ⟨rfl, rfl⟩
    go_wp2_with (go_at_call 11; refine (alive5 _).mono ?_; rintro e w1 ⟨rfl, B1⟩)
    go_ret
    exact ⟨rfl, B1⟩
  have hr0 : 0 ≤ room := by omega
  have hr2 : room ≤ 65536 := by omega
  clear hb
  by_cases h3 : 300 < room
  · go_enter Try.func5, Try.ntmps5
    go_wp2_with fail
    refine (newB room hr0 hr2 _).mono ?_
    rintro e w1 ⟨rfl, A1, B1⟩
    go_wp2_with (go_at_call 11; refine (alive5 _).mono ?_; rintro e w2 ⟨rfl, B2⟩)
    go_ret
    exact ⟨rfl, B1.trans (B2.mono B1.size)⟩
  by_cases h2 : 200 < len
  · have h2' : (200 : Int) < len := by omega
    go_enter Try.func5, Try.ntmps5
    go_wp2_with fail
    refine (newB room hr0 hr2 _).mono ?_
    rintro e w1 ⟨rfl, A1, B1⟩
    go_wp2_with (go_at_call 11; refine (alive5 _).mono ?_; rintro e w2 ⟨rfl, B2⟩)
    go_ret
    exact ⟨rfl, B1.trans (B2.mono B1.size)⟩
  have h2' : ¬ (200 : Int) < len := by omega
  go_enter Try.func5, Try.ntmps5
  go_wp2_with fail
  refine (newB room hr0 hr2 _).mono ?_
  rintro e w1 ⟨rfl, A1, B1⟩
  go_wp2_with fail
  go_loopw [37] (fun c W => ∃ (k : Nat) (l : List (Option Int)) (F : List Int), k ≤ len ∧ c = .int .i64 k ∧ ArB w.heap.size W w.heap.size room l F ∧ Below w.heap.size w W) (fun c _ => (len - intOf c).toNat)
  case atStart => exact ⟨0, _, _, by omega, rfl, A1, B1⟩
  case round =>
    clear A1 B1
    obtain ⟨k, l, F, hk, rfl, A3, B3⟩ := hrel
    by_cases hlt : k < len
    · have hzl : k < zs.length := by rw [hr.1]; exact hlt
      obtain ⟨b, o, rfl, hc⟩ := hr.2.2 (by omega)
      obtain ⟨c0, c1, c2⟩ := RdS.op hc B3 hzl
      generalize zs[k] = op at c0 c1 c2
      obtain ⟨q, i, u⟩ := op
      dsimp only at c0 c1 c2
      clear hc hr hzl
      have A5 := box_in A3 (.cells #[.int .i64 q, .int .i64 i, .int .i64 u] 35)
      obtain ⟨r, hdo⟩ : ∃ r, arDo room l F ⟨q, i, u⟩ = r := ⟨_, rfl⟩
      have P := does5 A5 ⟨q, i, u⟩ hdo
      clear hdo A5 A3
      go_wp2_with fail
      refine P.mono ?_
      rintro e w3 ⟨rfl, A6, M6⟩
      have F0 := box_out B3.size ((Mod.refl _ _).alloc _) A6 M6 (Mod.refl _ _)
      clear P c0 c1 c2 A6 M6
      go_wp2_with fail
      go_roundw
      case rel => exact ⟨k + 1, _, _, by omega, by go_num, F0.1, B3.trans F0.2⟩
      case measure => simp [intOf]; omega
    · obtain rfl : k = len := by omega
      clear hlt hk
      go_wp2_with fail
      go_loopg [9] (room - ((l.length : Int) - F.length)).toNat (fun g _ W => ∃ (l : List (Option Int)) (F : List Int), g = (room - ((l.length : Int) - F.length)).toNat ∧ ArB w.heap.size W w.heap.size room l F ∧ Below w.heap.size w W)
      case atStart => exact ⟨_, _, rfl, A3, B3⟩
      case round =>
        clear A3 B3
        obtain ⟨l, F, hg, A3, B3⟩ := hrel
        have hgg := hid hg
        clear hg
        have h30 := A3.inv.lr
        have h31 := A3.inv.fl
        by_cases hlt : (l.length : Int) - F.length < room
        · have hltt := hid hlt
          clear hlt
          have hd : decide ((l.length : Int) - F.length < room) = true := by simpa using hltt.out
          go_wp2_with fail
          refine (lenB A3).mono ?_
          rintro e w3 ⟨rfl, A4, B4⟩
          have B4 := B3.trans B4
          clear A3 B3
          go_wp2_with fail
          refine (lenB A4).mono ?_
          rintro e w4 ⟨rfl, A5, B5⟩
          have B5 := B4.trans B5
          clear A4 B4
          obtain ⟨r, hput⟩ : ∃ r, arPut room l F 1 = r := ⟨_, rfl⟩
          obtain ⟨g0, g1, g2, g3⟩ := arPut_room A5.inv hltt.out hput
          have P := putB A5 1 hput
          clear hput A5
          obtain ⟨l', F', ri, re⟩ := r
          dsimp only at g0 g1 g2 g3 P
          subst g0
          go_wp2_with fail
          refine P.mono ?_
          rintro e w5 ⟨rfl, A6, B6⟩
          have B7 := B5.trans B6
          clear P B5 B6
          have L6 := lenB A6
          rw [g3] at L6
          have g3' := hid g3
          clear g3
          have A60 := A6.inv.fl
          go_wp2_with fail
          refine L6.mono ?_
          rintro e w6 ⟨rfl, A8, B8⟩
          have B9 := B7.trans B8
          clear L6 A6 B7 B8 A60
          go_wp2_with fail
          go_roundg ((room - ((l'.length : Int) - F'.length)).toNat)
          case measure => have := hgg.out; have := g3'.out; have := hltt.out; omega
          case rel => exact ⟨l', F', rfl, A8, B9⟩
        · have hltt := hid hlt
          clear hlt
          have hd : decide ((l.length : Int) - F.length < room) = false := by simpa using hltt.out
          go_wp2_with fail
          refine (lenB A3).mono ?_
          rintro e w3 ⟨rfl, A4, B4⟩
          have B4 := B3.trans B4
          clear A3 B3
          have hput : arPut room l F 1 = (l, F, 0, 50) := by unfold arPut; rw [if_pos (by have := hltt.out; omega)]
          have P := putB A4 1 hput
          clear hput
          go_wp2_with fail
          refine P.mono ?_
          rintro e w5 ⟨rfl, A6, B6⟩
          have B7 := B4.trans B6
          clear P B4 B6 A4
          go_wp2_with fail
          refine (alive5B _ A6).mono ?_
          rintro e w6 ⟨rfl, A7, B8⟩
          have B9 := B7.trans B8
          clear A6 B7 B8
          have L7 := lenB A7
          have heq : (l.length : Int) - F.length = room := by have := hltt.out; omega
          rw [heq] at L7
          clear heq hd
          go_wp2_with fail
          refine L7.mono ?_
          rintro e w7 ⟨rfl, A8, B10⟩
          clear L7
          go_wp2_with fail
          go_ret
          exact ⟨by simp, B9.trans B10⟩

theorem places5r (room : Int) (a : Option Addr) (len cap : Nat) (zs : List Op5) (w : World) (_ : (Lit.int .i64 room).wf = true) (hr : RdS encOp 3 w a len zs) (_ : ∀ z ∈ zs, True) (hl : len * 24 ≤ 140737488351232) :
    Calls Try.prog 5 #[.int .i64 room, .slice a len cap] w fun e w' => e = .returned (.bool true) ∧ Below w.heap.size w w' :=
  places5 room a len cap zs w hr (by omega)
end Go.Proofs.Bo
