import Derived.Test.YtmdeoeppobpjbaaDo5
import Derived.Test.YtmdeoeppobpjbaaL5Last
set_option linter.unusedVariables false
namespace Go.Proofs.Bo
open Go Go.RowKit

theorem arPut_keeps {room : Int} {l : List (Option Int)} {free : List Int} (h : ArInv room l free) {v u : Int} (h0 : l[0]? = some (some v)) :
    (arPut room l free u).1[0]? = some (some v) ∧ ((arPut room l free u).2.2.2 = 0 → (arPut room l free u).2.2.1 ≠ 0) ∧ ((arPut room l free u).2.2.2 = 0 ∨ (arPut room l free u).2.2.2 = 50) := by
  have hl := (List.getElem?_eq_some_iff.1 h0).1
  unfold arPut
  split
  · exact ⟨h0, fun h => by simp at h, .inr rfl⟩
  · split
    · refine ⟨by rw [List.getElem?_append_left hl]; exact h0, fun _ => by simp; intro e; subst e; simp at hl, .inl rfl⟩
    · rename_i i hi
      have hm : i ∈ free := List.mem_of_getLast? hi
      obtain ⟨k, rfl, hk⟩ := (h.mem i).1 hm
      have hk0 : k ≠ 0 := by rintro rfl; rw [h0] at hk; simp at hk
      refine ⟨by simp only [Int.toNat_natCast]; rw [List.getElem?_set_ne hk0]; exact h0, fun _ => by simp; exact hk0, .inl rfl⟩

theorem arDo_keeps {room : Int} {l : List (Option Int)} {free : List Int} {v : Int} (h0 : l[0]? = some (some v)) (o : Op5) (hq : o.kind ≠ 0) (h4 : o.kind ≠ 4) (hi : o.i ≠ 0) : (arDo room l free o).1.1[0]? = some (some v) := by
  unfold arDo
  simp only [hq, h4, if_false]
  split
  · exact h0
  · rename_i u ht
    obtain ⟨k, hk, _⟩ := thing_some ht
    have hk0 : k ≠ 0 := by rintro rfl; exact hi hk
    repeat' split
    all_goals first | exact h0 | (rw [hk]; simp only [Int.toNat_natCast]; rw [List.getElem?_set_ne hk0]; exact h0)

theorem fitOp (cs : List Value) (h : Fit [.int .i64, .int .i64, .int .i64] cs) : ∃ b, encOp b = cs ∧ True := by
  obtain ⟨v, vs, rfl, ⟨n, rfl, hn⟩, h2⟩ := h.cons_inv
  obtain ⟨v2, vs2, rfl, ⟨n2, rfl, hn2⟩, h3⟩ := h2.cons_inv
  obtain ⟨v3, vs3, rfl, ⟨n3, rfl, hn3⟩, h4⟩ := h3.cons_inv
  obtain rfl := h4.nil_inv
  exact ⟨⟨n, n2, n3⟩, rfl, trivial⟩

/-- A script's call, where it stands, in a later world. -/
theorem RdS.op {w W : World} {b o : Nat} {zs : List Op5} {k : Nat} (hc : ∀ i z, zs[i]? = some z → ∀ j u, (encOp z)[j]? = some u → w.cell? ⟨b, o + i * 3 + j, none⟩ = some u) (B : Below w.heap.size w W) (hk : k < zs.length) :
    W.cell? ⟨b, o + k * 3, none⟩ = some (.int .i64 zs[k].kind) ∧ W.cell? ⟨b, o + k * 3 + 1, none⟩ = some (.int .i64 zs[k].i) ∧ W.cell? ⟨b, o + k * 3 + 2, none⟩ = some (.int .i64 zs[k].v) := by
  have h : ∀ j u, (encOp zs[k])[j]? = some u → w.cell? ⟨b, o + k * 3 + j, none⟩ = some u := fun j u hu => hc k zs[k] (by simp [hk]) j u hu
  have g : ∀ j u, (encOp zs[k])[j]? = some u → W.cell? ⟨b, o + k * 3 + j, none⟩ = some u := fun j u hu =>
    (B.cell (p := ⟨b, o + k * 3 + j, none⟩) (World.block_lt_of_cell? w _ (h j u hu))).trans (h j u hu)
  exact ⟨g 0 _ rfl, g 1 _ rfl, g 2 _ rfl⟩

set_option maxHeartbeats 2000000 in
theorem keeps5 (room v : Int) (a : Option Addr) (len cap : Nat) (zs : List Op5) (w : World) (hr : RdS encOp 3 w a len zs) (hl : len ≤ 140737488355328) :
    Calls Try.prog 4 #[.int .i64 room, .int .i64 v, .slice a len cap] w fun e w' => e = .returned (.bool true) ∧ Below w.heap.size w w' := by
  by_cases hb : room < 0 ∨ 65536 < room
  · go_enter Try.func4, Try.ntmps4
    go_wp2_with fail
    refine (newI_no room hb _).mono ?_
    rintro e w1 ⟨rfl, rfl⟩
    go_wp2_with (go_at_call 11; refine (alive5 _).mono ?_; rintro e w1 ⟨rfl, B1⟩)
    go_ret
    exact ⟨rfl, B1⟩
  have hr0 : 0 ≤ room := by omega
  have hr2 : room ≤ 65536 := by omega
  clear hb
  by_cases h2 : 200 < len
  · have h2' : (200 : Int) < len := by omega
    go_enter Try.func4, Try.ntmps4
    go_wp2_with fail
    refine (newB room hr0 hr2 _).mono ?_
    rintro e w1 ⟨rfl, A1, B1⟩
    go_wp2_with (go_at_call 11; refine (alive5 _).mono ?_; rintro e w2 ⟨rfl, B2⟩)
    go_ret
    exact ⟨rfl, B1.trans (B2.mono B1.size)⟩
  have h2' : ¬ (200 : Int) < len := by omega
  by_cases hz : room = 0
  · subst hz
    go_enter Try.func4, Try.ntmps4
    go_wp2_with fail
    refine (newB 0 (by omega) (by omega) _).mono ?_
    rintro e w1 ⟨rfl, A1, B1⟩
    go_wp2_with fail
    refine (putB A1 v (r := ([], [], 0, 50)) rfl).mono ?_
    rintro e w2 ⟨rfl, A2, B2⟩
    go_wp2_with (go_at_call 11; refine (alive5 _).mono ?_; rintro e w3 ⟨rfl, B3⟩)
    go_ret
    exact ⟨rfl, (B1.trans B2).trans (B3.mono (B1.trans B2).size)⟩
  have hrp : 0 < room := by omega
  go_enter Try.func4, Try.ntmps4
  go_wp2_with fail
  refine (newB room hr0 hr2 _).mono ?_
  rintro e w1 ⟨rfl, A1, B1⟩
  go_wp2_with fail
  refine (putB A1 v (r := ([some v], [], 0, 0)) (by unfold arPut; rw [if_neg (by simp; omega)]; rfl)).mono ?_
  rintro e w2 ⟨rfl, A2, B2⟩
  have B12 := B1.trans B2
  clear B1 B2 A1
  go_wp2_with fail
  go_loopw [48] (fun c W => ∃ (k : Nat) (l : List (Option Int)) (F : List Int), k ≤ len ∧ c = .int .i64 k ∧ l[0]? = some (some v) ∧ ArB w.heap.size W w.heap.size room l F ∧ Below w.heap.size w W) (fun c _ => (len - intOf c).toNat)
  case atStart => exact ⟨0, _, _, by omega, rfl, rfl, A2, B12⟩
  case round =>
    clear A2 B12
    obtain ⟨k, l, F, hk, rfl, hv, A3, B3⟩ := hrel
    by_cases hlt : k < len
    · have hzl : k < zs.length := by rw [hr.1]; exact hlt
      obtain ⟨b, o, rfl, hc⟩ := hr.2.2 (by omega)
      obtain ⟨c0, c1, c2⟩ := RdS.op hc B3 hzl
      generalize zs[k] = op at c0 c1 c2
      obtain ⟨q, i, u⟩ := op
      dsimp only at c0 c1 c2
      clear hc hr hzl
      have A4 := A3.2.mono (Y := fun j => w.heap.size ≤ j ∧ j < wr.heap.size) fun j h1 h2 => ⟨h1, h2⟩
      have Mb : Mod (fun _ => False) wr (wr.alloc (.cells #[.int .i64 q, .int .i64 i, .int .i64 u] 35)) := (Mod.refl _ _).alloc _
      have A5 := A4.mod Mb fun _ _ h => h
      have hBw := B3.size
      have fin : ∀ (w3 w4 : World) (l' : List (Option Int)) (F' : List Int), ArX (fun j => (w.heap.size ≤ j ∧ j < wr.heap.size) ∨ (wr.alloc (.cells #[.int .i64 q, .int .i64 i, .int .i64 u] 35)).heap.size ≤ j) w3 w.heap.size room l' F' →
          Mod (fun j => w.heap.size ≤ j ∧ j < wr.heap.size) (wr.alloc (.cells #[.int .i64 q, .int .i64 i, .int .i64 u] 35)) w3 → Mod (fun _ => False) w3 w4 → ArB w.heap.size w4 w.heap.size room l' F' ∧ Below w.heap.size w w4 := by
        intro w3 w4 l' F' A M M'
        have hM : Mod (fun j => w.heap.size ≤ j) wr w4 := ((Mb.mono fun _ h => h.elim).trans M fun j h => .inl h.1).trans M' fun j h => h.elim
        refine ⟨⟨Nat.le_trans hBw hM.size, (A.mod M' fun _ _ h => h).mono fun j h _ => ?_⟩, B3.trans (hM.to_below hBw fun _ h => h)⟩
        rcases h with h | h
        · exact h.1
        · simp at h; omega
      clear A3 A4
      by_cases hq : q = 0
      · subst hq
        have hk5 := arPut_keeps A5.inv (u := u) hv
        obtain ⟨r, hput⟩ : ∃ r, arPut room l F u = r := ⟨_, rfl⟩
        rw [hput] at hk5
        have P := does_put A5 i u hput
        clear hput
        obtain ⟨l', F', ri, re⟩ := r
        obtain ⟨g0, g1, g2⟩ := hk5
        dsimp only at g0 g1 g2 P
        have g2' := hid g2
        have g1' := hid g1
        clear g1 g2 hv
        go_wp2_with fail
        refine P.mono ?_
        rintro e w3 ⟨rfl, A6, M6⟩
        clear P
        have hb0 := M6.heap (alloc_0 wr _) (fun h => by omega)
        have hb1 := blkl hb0
        obtain ⟨d0, e0⟩ := blkc hb0
        clear hb0
        clear c0 c1 c2
        have M7 : Mod (fun _ => False) w3 (w3.alloc (.cells #[.int .i64 ri, .int .i64 0, .bool false, .int .i64 re] 37)) := (Mod.refl _ _).alloc _
        have A7 := A6.mod M7 fun _ _ h => h
        by_cases hre : re = 0
        · subst hre
          have hri : (ri == 0) = false := by simpa using g1'.out rfl
          go_wp2_with (go_at_call 16; refine (getX_yes (k := 0) A7 g0).mono ?_; rintro e w4 ⟨rfl, hw⟩; subst hw)
          go_roundw
          case rel => exact ⟨k + 1, l', F', by omega, by go_num, g0, (fin _ _ _ _ A6 M6 M7).1, (fin _ _ _ _ A6 M6 M7).2⟩
          case measure => simp [intOf]; omega
        · have hre' : (re == 0) = false := by simpa using hre
          clear hre
          go_wp2_with (go_at_call 16; refine (getX_yes (k := 0) A7 g0).mono ?_; rintro e w4 ⟨rfl, hw⟩; subst hw)
          go_roundw
          case rel => exact ⟨k + 1, l', F', by omega, by go_num, g0, (fin _ _ _ _ A6 M6 M7).1, (fin _ _ _ _ A6 M6 M7).2⟩
          case measure => simp [intOf]; omega
      · have hq' : (q == 0) = false := by simpa using hq
        by_cases hc : i ≠ 0 ∧ q ≠ 4
        · have hi1 : (i == 0) = false := by simpa using hc.1
          have hi2 : (i != 0) = true := by simpa using hc.1
          have hq4 : (q == 4) = false := by simpa using hc.2
          have hq5 : (q != 4) = true := by simpa using hc.2
          have g0 := arDo_keeps (room := room) (free := F) hv ⟨q, i, u⟩ hq hc.2 hc.1
          obtain ⟨r, hdo⟩ : ∃ r, arDo room l F ⟨q, i, u⟩ = r := ⟨_, rfl⟩
          rw [hdo] at g0
          have P := does5 A5 ⟨q, i, u⟩ hdo
          obtain ⟨⟨l', F'⟩, ⟨ai, av, ais, ae⟩⟩ := r
          dsimp only at g0 P
          clear hdo hq hc hv
          go_wp2_with fail
          refine P.mono ?_
          rintro e w3 ⟨rfl, A6, M6⟩
          clear P
          have hb0 := M6.heap (alloc_0 wr _) (fun h => by omega)
          have hb1 := blkl hb0
          obtain ⟨d0, e0⟩ := blkc hb0
          clear hb0
          clear c0 c1 c2
          have M7 : Mod (fun _ => False) w3 (w3.alloc (.cells #[.int .i64 ai, .int .i64 av, .bool ais, .int .i64 ae] 37)) := (Mod.refl _ _).alloc _
          have A7 := A6.mod M7 fun _ _ h => h
          simp only [encAns]
          go_wp2_with (go_at_call 16; refine (getX_yes (k := 0) A7 g0).mono ?_; rintro e w4 ⟨rfl, hw⟩; subst hw)
          go_roundw
          case rel => exact ⟨k + 1, l', F', by omega, by go_num, g0, (fin _ _ _ _ A6 M6 M7).1, (fin _ _ _ _ A6 M6 M7).2⟩
          case measure => simp [intOf]; omega
        · have hc2 : i = 0 ∨ q = 4 := by omega
          have rest : ∀ (hx : Hid (i = 0 ∨ (¬ i = 0 ∧ q = 4))), True := fun _ => trivial
          have M7 : Mod (fun _ => False) (wr.alloc (.cells #[.int .i64 q, .int .i64 i, .int .i64 u] 35)) (wr.alloc (.cells #[.int .i64 q, .int .i64 i, .int .i64 u] 35)) := Mod.refl _ _
          have M6 : Mod (fun j => w.heap.size ≤ j ∧ j < wr.heap.size) (wr.alloc (.cells #[.int .i64 q, .int .i64 i, .int .i64 u] 35)) (wr.alloc (.cells #[.int .i64 q, .int .i64 i, .int .i64 u] 35)) := Mod.refl _ _
          have F0 := fin _ _ _ _ (A5.mono fun _ h _ => .inl h) M6 M7
          clear fin M7 M6 hc
          by_cases hi : i = 0
          · subst hi
            clear hc2
            go_wp2_with (go_at_call 16; refine (getX_yes (k := 0) A5 hv).mono ?_; rintro e w4 ⟨rfl, hw⟩; subst hw)
            go_roundw
            case rel => exact ⟨k + 1, l, F, by omega, by go_num, hv, F0.1, F0.2⟩
            case measure => simp [intOf]; omega
          · have hi1 : (i == 0) = false := by simpa using hi
            have hi2 : (i != 0) = true := by simpa using hi
            obtain rfl : q = 4 := by omega
            clear hc2 hi
            go_wp2_with (go_at_call 16; refine (getX_yes (k := 0) A5 hv).mono ?_; rintro e w4 ⟨rfl, hw⟩; subst hw)
            go_roundw
            case rel => exact ⟨k + 1, l, F, by omega, by go_num, hv, F0.1, F0.2⟩
            case measure => simp [intOf]; omega
    · go_wp2_with (go_at_call 11; refine (alive5 _).mono ?_; rintro e w2 ⟨rfl, B2⟩)
      go_ret
      exact ⟨rfl, B3.trans (B2.mono B3.size)⟩

theorem keeps5r (room v : Int) (a : Option Addr) (len cap : Nat) (zs : List Op5) (w : World) (_ : (Lit.int .i64 room).wf = true) (_ : (Lit.int .i64 v).wf = true) (hr : RdS encOp 3 w a len zs) (_ : ∀ z ∈ zs, True) (hl : len * 24 ≤ 140737488351232) :
    Calls Try.prog 4 #[.int .i64 room, .int .i64 v, .slice a len cap] w fun e w' => e = .returned (.bool true) ∧ Below w.heap.size w w' :=
  keeps5 room v a len cap zs w hr (by omega)
end Go.Proofs.Bo
