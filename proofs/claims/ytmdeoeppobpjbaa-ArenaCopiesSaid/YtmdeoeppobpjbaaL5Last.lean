import Derived.Test.YtmdeoeppobpjbaaAl5
import Derived.Test.YtmdeoeppobpjbaaFlat
set_option linter.unusedVariables false
namespace Go.Proofs.Bo
open Go Go.RowKit
def encN (v : Int) : List Value := [.int .i64 v]

theorem arPut_old {α : Type} (room : Int) (l : List (Option α)) (f : List Int) (i : Int) (v : α) (h : (l.length : Int) - (f.length + 1) < room) : arPut room l (f ++ [i]) v = (l.set i.toNat (some v), f, i, 0) := by
  unfold arPut
  rw [if_neg (by simp; omega)]
  simp
theorem arPut_rep (room : Int) (n : Nat) (h : (n : Int) < room) : arPut room (List.replicate n (some 1)) [] (1 : Int) = (List.replicate (n + 1) (some 1), [], (n : Int), 0) := by
  unfold arPut
  rw [if_neg (by simp; omega)]
  simp [List.replicate_succ']

set_option maxHeartbeats 2000000 in
theorem last5 (room : Int) (a : Option Addr) (len cap : Nat) (zs : List Int) (w : World) (hr : RdS encN 1 w a len zs) (hl : len ≤ 140737488355328) (hroom : -9223372036854775808 ≤ room ∧ room ≤ 9223372036854775807) :
    Calls Try.prog 3 #[.int .i64 room, .slice a len cap] w fun e w' => e = .returned (.bool true) ∧ Below w.heap.size w w' := by
  by_cases hb : room < 0 ∨ 65536 < room
  · go_enter Try.func3, Try.ntmps3
    go_wp2_with fail
    refine (newI_no room hb _).mono ?_
    rintro e w1 ⟨rfl, rfl⟩
    go_wp2_with (go_at_call 11; refine (alive5 _).mono ?_; rintro e w1 ⟨rfl, B1⟩)
    go_ret
    exact ⟨rfl, B1⟩
  by_cases h1 : 100 < room
  · have hr0 : 0 ≤ room := by omega
    have hr2 : room ≤ 65536 := by omega
    clear hb
    go_enter Try.func3, Try.ntmps3
    go_wp2_with fail
    refine (newB room (by omega) (by omega) _).mono ?_
    rintro e w1 ⟨rfl, A1, B1⟩
    go_wp2_with (go_at_call 11; refine (alive5 _).mono ?_; rintro e w2 ⟨rfl, B2⟩)
    go_ret
    exact ⟨rfl, B1.trans (B2.mono B1.size)⟩
  by_cases h2 : 100 < len
  · have hr0 : 0 ≤ room := by omega
    clear hb
    have h2' : (100 : Int) < len := by omega
    go_enter Try.func3, Try.ntmps3
    go_wp2_with fail
    refine (newB room (by omega) (by omega) _).mono ?_
    rintro e w1 ⟨rfl, A1, B1⟩
    go_wp2_with (go_at_call 11; refine (alive5 _).mono ?_; rintro e w2 ⟨rfl, B2⟩)
    go_ret
    exact ⟨rfl, B1.trans (B2.mono B1.size)⟩
  have h2' : ¬ (100 : Int) < len := by omega
  have hr0 : 0 ≤ room := by omega
  clear hb
  go_enter Try.func3, Try.ntmps3
  go_wp2_with fail
  refine (newB room (by omega) (by omega) _).mono ?_
  rintro e w1 ⟨rfl, A1, B1⟩
  go_wp2_with fail
  go_loopw [35] (fun c W => ∃ n : Nat, (n : Int) ≤ room ∧ c = .int .i64 n ∧ ArB w.heap.size W w.heap.size room (List.replicate n (some 1)) [] ∧ Below w.heap.size w W) (fun c _ => (room - intOf c).toNat)
  case atStart => exact ⟨0, by omega, rfl, A1, B1⟩
  case round =>
    obtain ⟨n, hn, rfl, A2, B2⟩ := hrel
    by_cases hlt : (n : Int) < room
    · go_wp2_with (go_at_call 12; refine (putB A2 1 (arPut_rep room n hlt)).mono ?_; rintro e w2 ⟨rfl, A3, B3⟩)
      go_roundw
      case rel => exact ⟨n + 1, by omega, by go_num, A3, B2.trans B3⟩
      case measure => simp [intOf]; omega
    · obtain rfl : room = n := by omega
      clear hlt hn hr0 A1 B1
      go_wp2_with fail
      have hl0 : len ≤ 100 := by omega
      go_loopw [7, 42] (fun fv c W => ∃ (k : Nat) (l : List (Option Int)) (F : List Int), k ≤ len ∧ F.length ≤ k ∧ c = .int .i64 k ∧ l.length = n ∧ W.ownsRow 0 3 1 fv F.length (F.map (.int .i64)) ∧ (∀ j, fv.ownBlock = some j → w.heap.size ≤ j) ∧
          ArX (fun j => w.heap.size ≤ j ∧ fv.ownBlock ≠ some j) W w.heap.size n l F ∧ Below w.heap.size w W) (fun _ c _ => (len - intOf c).toNat)
      case atStart =>
        exact ⟨0, _, [], by omega, by simp, rfl, by simp, World.ownsRow_nil _ _ _ _, by simp [Value.ownBlock], A2.2.mono (fun j hj _ => ⟨hj, by simp [Value.ownBlock]⟩), B2⟩
      case round =>
        obtain ⟨k, l, F, hk, hF, rfl, hll, hown, hge, A3, B3⟩ := hrel
        by_cases hlt : k < len
        · have hz : k < zs.length := by rw [hr.1]; exact hlt
          obtain ⟨b, o, rfl, hc⟩ := hr.2.2 (by omega)
          have hcell := hc k zs[k] (by simp [hz]) 0 (.int .i64 zs[k]) rfl
          rw [Nat.mul_one, Nat.add_zero] at hcell
          have hcell2 := (B3.cell (p := ⟨b, o + k, none⟩) (World.block_lt_of_cell? w _ hcell)).trans hcell
          generalize zs[k] = zk at hcell2
          clear hcell hc hr
          by_cases hy : ∃ (i : Nat) (v : Int), zk = i ∧ l[i]? = some (some v)
          · obtain ⟨i, v, rfl, hi⟩ := hy
            have hsz := fun j (e : u7.ownBlock = some j) => own_lt hown e
            have hFl : F.length ≤ 100 := by omega
            have HH : Hid (∀ w2, Mod (fun j => w.heap.size ≤ j ∧ u7.ownBlock ≠ some j) wr w2 → w2.ownsRow 0 3 1 u7 F.length (F.map (.int .i64))) := fun w2 hm => own_mod hown hm fun _ e hx => hx.2 e
            go_wp2_with (first | (go_at_call 13; refine (freeX_yes A3 hi).mono ?_; rintro e w2 ⟨rfl, A4, M4⟩) | (at_builtin; refine app_one [.int .i64 (i : Int)] u7 F.length (F.map (.int .i64)) (.tmp 49) (.tmp 51) 22 3 (.int .i64 0) 1 8 rfl rfl Try.underlying22 infoI rfl (by omega) (by omega) rfl (by simp [Act.eval]) (HH.out _ (by assumption)) rfl (by simp [Value.oneCell']) (by omega) ?_))
            intro v1 w3 hown' hg hblk
            rename_i M4
            have A5 := (A4.mod (Mod.of_grown hg) (fun j hj e => by rcases hj with h | h; exact h.2 e; have := hsz j e; omega))
            have M5 := Mod.of_grown hg
            obtain ⟨AA, cc, hv1, hcc⟩ := own_slice hown'
            subst hv1
            go_wp2_with fail
            go_roundw
            case rel =>
              refine ⟨k + 1, l.set i none, F ++ [(i : Int)], by omega, by simp; omega, by go_num, by simpa using hll, by simpa using hown', ?_, ?_, ?_⟩
              · intro j e
                rcases hblk j e with h | h
                · exact hge j h
                · have := M4.size; have := B3.size; omega
              · refine (A4.mono (Y := fun j => w.heap.size ≤ j ∧ u7.ownBlock ≠ some j ∧ j < w2.heap.size) ?_).mod M5 (fun j hj e => hj.2.1 e) |>.mono ?_
                · intro j hj hlt
                  refine ⟨?_, ?_, hlt⟩
                  · rcases hj with h | h
                    · exact h.1
                    · have := B3.size; omega
                  · rcases hj with h | h
                    · exact h.2
                    · intro e; have := hsz j e; omega
                · intro j hj _
                  refine ⟨hj.1, fun e => ?_⟩
                  rcases hblk j e with h | h
                  · exact hj.2.1 h
                  · omega
              · exact (B3.trans (M4.to_below B3.size (fun _ h => h.1))).trans (M5.to_below (by have := M4.size; have := B3.size; omega) (fun j e => hge j e))
            case measure => simp [intOf]; omega
          · go_wp2_with (go_at_call 13; refine (freeX_no A3 zk (fun i v e hi => hy ⟨i, v, e, hi⟩)).mono ?_; rintro e w2 ⟨rfl, hw⟩; subst hw)
            go_roundw
            case rel => exact ⟨k + 1, l, F, by omega, by omega, by go_num, hll, hown, hge, A3, B3⟩
            case measure => simp [intOf]; omega
        · obtain rfl : k = len := by omega
          clear hlt hk hr
          obtain ⟨AA, cc, rfl, hcc⟩ := own_slice hown
          clear A2 B2
          have hFl : F.length ≤ 100 := by omega
          go_wp2_with fail
          go_loopw [10] (fun c W => ∃ (j : Nat) (l : List (Option Int)), j ≤ F.length ∧ c = .int .i64 ((j : Int) - 1) ∧ l.length = n ∧ ArX (fun i => w.heap.size ≤ i ∧ (Value.slice AA F.length cc).ownBlock ≠ some i) W w.heap.size n l (F.take j) ∧
              W.ownsRow 0 3 1 (.slice AA F.length cc) F.length (F.map (.int .i64)) ∧ Below w.heap.size w W) (fun c _ => (1 + intOf c).toNat)
          case atStart => exact ⟨F.length, l, by omega, rfl, hll, by rw [List.take_length]; exact A3, hown, B3⟩
          case round =>
            clear A3 hown B3 hll
            obtain ⟨j, l, hj, rfl, hll, A3, hown, B3⟩ := hrel
            by_cases hlt : 0 < j
            · obtain ⟨j, rfl⟩ : ∃ m, j = m + 1 := ⟨j - 1, by omega⟩
              have hjF : j < F.length := by omega
              have ht : F.take (j + 1) = F.take j ++ [F[j]] := by rw [List.take_succ_eq_append_getElem hjF]
              rw [ht] at A3
              obtain ⟨g, rfl⟩ := hcc.2.2 (by omega)
              have hsz := fun i (e : (Value.slice (some ⟨g, 0, none⟩) F.length cc).ownBlock = some i) => own_lt hown e
              have HH : Hid (∀ w2, Mod (fun j => w.heap.size ≤ j ∧ (Value.slice (some ⟨g, 0, none⟩) F.length cc).ownBlock ≠ some j) wr w2 → w2.ownsRow 0 3 1 (.slice (some ⟨g, 0, none⟩) F.length cc) F.length (F.map (.int .i64))) := fun w2 hm => own_mod hown hm fun _ e hx => hx.2 e
              have hput := arPut_old n l (F.take j) F[j] (2 : Int) (by rw [hll]; simp; omega)
              have hcell : ∀ w2, Mod (fun j => w.heap.size ≤ j ∧ (Value.slice (some ⟨g, 0, none⟩) F.length cc).ownBlock ≠ some j) wr w2 → w2.cell? ⟨g, j, none⟩ = some (.int .i64 F[j]) := fun w2 hm => (own_cell (HH.out w2 hm) (by simp [hjF])).1
              have P := putX A3 2 hput
              clear hput A3 ht hown
              generalize F[j] = fj at P hcell
              go_wp2_with fail
              refine P.mono ?_
              rintro e w2 ⟨rfl, A4, M4⟩
              have hc2 := hcell w2 M4
              clear P hcell
              go_wp2_with fail
              go_roundw
              case rel =>
                refine ⟨j, l.set fj.toNat (some 2), by omega, rfl, by simpa using hll, A4.mono ?_, HH.out _ M4, B3.trans (M4.to_below B3.size (fun _ h => h.1))⟩
                intro i hi _
                rcases hi with h | h
                · exact h
                · exact ⟨by have := B3.size; omega, fun e => by have := hsz _ e; omega⟩
              case measure => simp [intOf]; omega
            · obtain rfl : j = 0 := by omega
              have A4 : ArX (fun i => w.heap.size ≤ i ∧ (Value.slice AA F.length cc).ownBlock ≠ some i) wr w.heap.size n l [] := A3
              clear A3 hown hge
              go_wp2_with fail
              refine (alive5 _).mono ?_
              rintro e w4 ⟨rfl, B4⟩
              have A5 := A4.mod (Mod.of_below (S := fun _ => False) B4) (fun _ _ h => h)
              go_wp2_with fail
              refine (lenX A5).mono ?_
              rintro e w5 ⟨rfl, m, rfl⟩
              rw [hll]
              go_wp2_with fail
              go_ret
              exact ⟨by simp, pw_below_drewN' (B3.trans (B4.mono B3.size)) _⟩

theorem fitN (cs : List Value) (h : Fit [.int .i64] cs) : ∃ b, encN b = cs ∧ (Lit.int .i64 b).wf = true := by
  obtain ⟨v, vs, rfl, ⟨n, rfl, hn⟩, h2⟩ := h.cons_inv
  obtain rfl := h2.nil_inv
  exact ⟨n, rfl, hn⟩

theorem wf_i64 {a : Int} (h : (Lit.int .i64 a).wf = true) : -9223372036854775808 ≤ a ∧ a ≤ 9223372036854775807 := by
  simp [Lit.wf, IntKind.min, IntKind.max, IntKind.bits, IntKind.signed] at h
  omega

theorem last5r (room : Int) (a : Option Addr) (len cap : Nat) (zs : List Int) (w : World) (hroom : (Lit.int .i64 room).wf = true) (hr : RdS encN 1 w a len zs) (_ : ∀ z ∈ zs, (Lit.int .i64 z).wf = true) (hl : len * 8 ≤ 140737488351232) :
    Calls Try.prog 3 #[.int .i64 room, .slice a len cap] w fun e w' => e = .returned (.bool true) ∧ Below w.heap.size w w' :=
  last5 room a len cap zs w hr (by omega) (wf_i64 hroom)
end Go.Proofs.Bo
