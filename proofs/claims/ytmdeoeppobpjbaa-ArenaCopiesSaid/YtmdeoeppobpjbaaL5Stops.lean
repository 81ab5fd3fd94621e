import Derived.Test.YtmdeoeppobpjbaaDo5
import Derived.Test.YtmdeoeppobpjbaaL5Last
import Derived.Test.YtmdeoeppobpjbaaEachI
import Derived.Test.YtmdeoeppobpjbaaRq
import Derived.Deep.QuietTactic
import Derived.BigQuiet
set_option linter.unusedVariables false
namespace Go.Proofs.Bo
open Go Go.RowKit

theorem items_length {α : Type} (l : List (Option α)) : ∀ k, (items k l).length = (l.filter (·.isSome)).length := by
  induction l with
  | nil => intro k; rfl
  | cons p l ih => intro k; cases p <;> simp [items, ih]

/-- As many things as there are places that are not free. -/
theorem ArInv.count {α : Type} {room : Int} {l : List (Option α)} {free : List Int} (h : ArInv room l free) : ((items 0 l).length : Int) = l.length - free.length := by
  rw [items_length]
  have h1 : (l.filter (·.isNone)).length = free.length := by
    have key : ∀ (l : List (Option α)) (b : Nat) (fr : List Int), fr.Nodup → (∀ i : Int, i ∈ fr ↔ ∃ k : Nat, i = b + k ∧ l[k]? = some none) → (l.filter (·.isNone)).length = fr.length := by
      intro l
      induction l with
      | nil =>
        intro b fr _ hm
        cases fr with
        | nil => rfl
        | cons i fr => obtain ⟨k, _, hk⟩ := (hm i).1 (by simp); simp at hk
      | cons p l ih =>
        intro b fr hd hm
        cases p with
        | some v =>
          have := ih (b + 1) fr hd (fun i => by
            rw [hm i]
            constructor
            · rintro ⟨k, rfl, hk⟩
              cases k with
              | zero => simp at hk
              | succ k => exact ⟨k, by omega, by simpa using hk⟩
            · rintro ⟨k, rfl, hk⟩; exact ⟨k + 1, by omega, by simpa using hk⟩)
          simpa using this
        | none =>
          have hb : (b : Int) ∈ fr := (hm b).2 ⟨0, by omega, by simp⟩
          have := ih (b + 1) (fr.erase (b : Int)) (hd.erase _) (fun i => by
            rw [hd.mem_erase_iff, hm i]
            constructor
            · rintro ⟨hne, k, rfl, hk⟩
              cases k with
              | zero => exact absurd (by omega) hne
              | succ k => exact ⟨k, by omega, by simpa using hk⟩
            · rintro ⟨k, rfl, hk⟩; exact ⟨by omega, k + 1, by omega, by simpa using hk⟩)
          rw [List.length_erase_of_mem hb] at this
          have hp := List.length_pos_of_mem hb
          simp [this]; omega
    exact key l 0 free h.nodup (fun i => by rw [h.mem i]; simp)
  have h2 : (l.filter (·.isSome)).length + (l.filter (·.isNone)).length = l.length := by
    clear h h1
    induction l with
    | nil => rfl
    | cons p l ih => cases p <;> simp <;> omega
  omega

/-- Between two rounds: n's block holds how many have come; all else is as it was when the loop began. -/
def CntI {α : Type} (t : TypeId) (nb : Nat) (W1 : World) (R : Nat → Prop) : List α → (Nat → Prop) → World → Prop := fun pre G W =>
  (∀ j, G j ↔ j = nb) ∧ W.heap[nb]? = some (.cells #[.int .i64 pre.length] t (0, 0)) ∧ (∀ j, j < W1.heap.size → j ≠ nb → W.heap[j]? = W1.heap[j]?) ∧ Mod (fun j => j = nb) W1 W ∧ R pre.length
theorem CntI.stab {α : Type} (t : TypeId) {nb : Nat} {W1 : World} (R : Nat → Prop) : Stab W1.heap.size (CntI (α := α) t nb W1 R) := by
  rintro s G W W' T ⟨g1, g2, g3, g4, g5⟩ m t
  exact ⟨g1, m.heap g2 (fun h => (t _ h).2 ((g1 _).2 rfl)), fun j hj hn => (m.block j (Nat.lt_of_lt_of_le hj g4.size) (fun h => by have := (t _ h).1; omega)).trans (g3 j hj hn), g4.trans m fun j h => .inr (t _ h).1, g5⟩
/-- A round counts one more. -/
theorem CntI.step {α : Type} {t : TypeId} {nb : Nat} {W1 W : World} {R R' : Nat → Prop} {pre : List α} {G : Nat → Prop} {x : α} (h : CntI t nb W1 R pre G W) (hR : R' (pre.length + 1)) :
    (∀ k, (fun j => j = nb) k → (G k ∨ W.heap.size ≤ k) ∧ k < (W.setCell ⟨nb, 0, none⟩ (.int .i64 ((pre.length : Int) + 1))).heap.size) ∧ Mod G W (W.setCell ⟨nb, 0, none⟩ (.int .i64 ((pre.length : Int) + 1))) ∧
      CntI t nb W1 R' (pre ++ [x]) (fun j => j = nb) (W.setCell ⟨nb, 0, none⟩ (.int .i64 ((pre.length : Int) + 1))) := by
  obtain ⟨g1, g2, g3, g4, g5⟩ := h
  have hlt := blkl g2
  refine ⟨fun j hj => ⟨.inl ((g1 j).2 hj), by dsimp only at hj; subst hj; simpa using hlt⟩, (Mod.refl _ _).setCell (.inl ((g1 _).2 rfl)) _, fun _ => Iff.rfl, ?_, fun j hj hn => (heap_set_ne hn).trans (g3 j hj hn), g4.setCell (.inl rfl) _, by simpa using hR⟩
  rw [one_setCell g2]; simp

attribute [local go_sem] Oper.semAt_some

set_option maxHeartbeats 2000000 in
theorem stops5 (room stop : Int) (a : Option Addr) (len cap : Nat) (zs : List Op5) (w : World) (hr : RdS encOp 3 w a len zs) (hl : len ≤ 140737488355328) (hs1 : -9223372036854775808 ≤ stop ∧ stop ≤ 9223372036854775807) :
    Calls Try.prog 6 #[.int .i64 room, .slice a len cap, .int .i64 stop] w fun e w' => e = .returned (.bool true) ∧ Below w.heap.size w w' := by
  obtain ⟨w0, hw0⟩ : ∃ w0 : World, w.alloc (.cells #[.int .i64 stop] 3) = w0 := ⟨_, rfl⟩
  have hsb : w0.heap[w.heap.size]? = some (.cells #[.int .i64 stop] 3 (0, 0)) := by rw [← hw0]; exact alloc_0 _ _
  have B0 : Below w.heap.size w w0 := by rw [← hw0]; exact (Below.refl _ _).alloc (Nat.le_refl _) _
  have hz0 : Hid (w0.heap.size = w.heap.size + 1) := by rw [← hw0]; show _ = _; simp
  have hr' := hr.below (by omega) B0
  by_cases hb : room < 0 ∨ 65536 < room
  · refine calls_of_wp_marks Try.func6 rfl ?_
    simp only [Try.ntmps6, List.size_toArray, List.length_cons, List.length_nil, Nat.reduceAdd, Nat.reduceSub, Array.replicate_succ, Array.replicate_zero, List.push_toArray, List.append_toArray, List.nil_append, List.cons_append]
    go_wp2_with fail
    clear hw0
    refine (newI_no room hb _).mono ?_
    rintro e w1 ⟨rfl, hw⟩
    subst hw
    go_wp2_with (go_at_call 11; refine (alive5 _).mono ?_; rintro e w1 ⟨rfl, B1⟩)
    exact retM0 (results_tmp rfl _ _ _) rfl ⟨rfl, B0.trans (B1.mono B0.size)⟩
  have hr0 : 0 ≤ room := by omega
  have hr2 : room ≤ 65536 := by omega
  clear hb
  by_cases h2 : 200 < len
  · have h2' : (200 : Int) < len := by omega
    refine calls_of_wp_marks Try.func6 rfl ?_
    simp only [Try.ntmps6, List.size_toArray, List.length_cons, List.length_nil, Nat.reduceAdd, Nat.reduceSub, Array.replicate_succ, Array.replicate_zero, List.push_toArray, List.append_toArray, List.nil_append, List.cons_append]
    go_wp2_with fail
    clear hw0
    refine (newB room hr0 hr2 _).mono ?_
    rintro e w1 ⟨rfl, A1, B1⟩
    go_wp2_with (go_at_call 11; refine (alive5 _).mono ?_; rintro e w2 ⟨rfl, B2⟩)
    exact retM0 (results_tmp rfl _ _ _) rfl ⟨rfl, B0.trans ((B1.trans (B2.mono B1.size)).mono B0.size)⟩
  have h2' : ¬ (200 : Int) < len := by omega
  refine calls_of_wp_marks Try.func6 rfl ?_
  simp only [Try.ntmps6, List.size_toArray, List.length_cons, List.length_nil, Nat.reduceAdd, Nat.reduceSub, Array.replicate_succ, Array.replicate_zero, List.push_toArray, List.append_toArray, List.nil_append, List.cons_append]
  go_wp2_with fail
  clear hw0
  refine (newB room hr0 hr2 _).mono ?_
  rintro e w1 ⟨rfl, A1, B1⟩
  go_wp2_with fail
  go_loopw [31] (fun c W => ∃ (k : Nat) (l : List (Option Int)) (F : List Int), k ≤ len ∧ c = .int .i64 k ∧ ArB w0.heap.size W w0.heap.size room l F ∧ Below w0.heap.size w0 W) (fun c _ => (len - intOf c).toNat)
  case atStart => exact ⟨0, _, _, by omega, rfl, A1, B1⟩
  case round =>
    clear A1 B1
    obtain ⟨k, l, F, hk, rfl, A3, B3⟩ := hrel
    by_cases hlt : k < len
    · have hzl : k < zs.length := by rw [hr'.1]; exact hlt
      obtain ⟨b, o, rfl, hc⟩ := hr'.2.2 (by omega)
      obtain ⟨c0, c1, c2⟩ := RdS.op hc B3 hzl
      generalize zs[k] = op at c0 c1 c2
      obtain ⟨q, i, u⟩ := op
      dsimp only at c0 c1 c2
      clear hc hr hr' hzl
      have A5 := box_in A3 (.cells #[.int .i64 q, .int .i64 i, .int .i64 u] 35)
      obtain ⟨r, hdo⟩ : ∃ r, arDo room l F ⟨q, i, u⟩ = r := ⟨_, rfl⟩
      have P := does5 A5 ⟨q, i, u⟩ hdo
      clear hdo A5 A3
      go_wp2_with fail
      refine P.mono ?_
      rintro e w3 ⟨rfl, A6, M6⟩
      have F0 := box_out B3.size ((Mod.refl _ _).alloc _) A6 M6 (Mod.refl _ _)
      clear P c0 c1 c2 A6 M6
      go_wp2_with fail
      go_roundw
      case rel => exact ⟨k + 1, _, _, by omega, by go_num, F0.1, B3.trans F0.2⟩
      case measure => simp [intOf]; omega
    · obtain rfl : k = len := by omega
      clear hlt hk hr hr'
      go_wp2_with fail
      refine (eachI _ _).mono ?_
      rintro e W1 ⟨rfl, hW1⟩
      obtain ⟨_, lv, fv, A4, hX⟩ := A3
      -- the world in which the loop begins: n's block, the closure's block
      have hn1 : W1.heap[wr.heap.size]? = some (.cells #[.int .i64 0] 3 (0, 0)) := by rw [hW1]; exact (Below.heap_alloc _ _ _ (by simp)).trans (alloc_0 _ _)
      have hcl : W1.heap[wr.heap.size + 1]? = some (.cells #[.pointer (some ⟨w0.heap.size, 0, none⟩)] 23 (0, 0)) := by rw [hW1]; exact alloc2_1 _ _ _
      have hsz1 : W1.heap.size = wr.heap.size + 2 := by rw [hW1]; simp
      have M1 : Mod (fun _ => False) wr W1 := by rw [hW1]; exact ((Mod.refl _ _).alloc _).alloc _
      have A5 : ArI W1 w0.heap.size lv fv room l F := A4.mod M1 fun _ _ h => h
      have B5 : Below w0.heap.size w0 W1 := B3.trans (M1.to_below B3.size fun _ h => h.elim)
      have hF : ∀ j, Foot w0.heap.size lv fv j → j < wr.heap.size := fun j hj => A4.lt hj
      have hsb1 : W1.heap[w.heap.size]? = some (.cells #[.int .i64 stop] 3 (0, 0)) := (B5.block _ (by have := hz0.out; omega)).trans hsb
      have hBs := B3.size
      clear A4 hW1 B3 hsb
      go_wp2_with fail
      have hxs : (items 0 l).length ≤ 65536 := by have := A5.inv.count; have := A5.flen; omega
      refine wp_range' (gf := 26) (lb := #[.pointer (some ⟨wr.heap.size + 1, 0, none⟩)]) rfl (enters_of Try.func26 (by kernel_rfl) rfl) (eachI_iter A5 hcl) (Mod.refl _ _) (fun _ => rfl)
        (fun j => j = wr.heap.size) (fun j hj => by omega) (fun j hj h => by rcases hj with hj | hj; omega; have := hF j hj; omega) (fun j hj => by rcases hj with rfl | hj; omega; have := hF j hj; omega)
        (CntI 3 wr.heap.size W1 (fun n => 0 < n → (n : Int) ≠ stop)) (fun c pre G W => c = .exit 2 ∧ CntI 3 wr.heap.size W1 (fun n => (n : Int) = stop) pre G W)
        (CntI.stab _ _) (fun c s G W W' T h m t => ⟨h.1, CntI.stab _ _ _ _ _ _ _ h.2 m t⟩) ⟨fun _ => Iff.rfl, hn1, fun _ _ _ => rfl, Mod.refl _ _, by simp⟩ ?body ?done ?stop
      case body =>
        apply Exists.intro
        constructor
        · intro yl x W K hK
          gi_wp2_with fail
          simp [encIV]
          exact hK
        · intro yl pre x rest G W hx hI hg
          obtain ⟨d1, e1⟩ := blkc hI.2.1
          obtain ⟨d2, e2⟩ := blkc ((hI.2.2.1 w.heap.size (by have := hz0.out; omega) (by have := hz0.out; omega)).trans hsb1)
          have hpl : pre.length < 65536 := by have := congrArg List.length hx; simp at this; omega
          have hne1 : wr.heap.size ≠ w.heap.size := by have := hz0.out; omega
          have hne2 : w.heap.size ≠ wr.heap.size := by have := hz0.out; omega
          by_cases hst : (pre.length : Int) + 1 = stop
          · have hb : ((pre.length : Int) + 1 == stop) = true := by simpa using hst
            have hst' := hid hst
            clear hst
            gi_wp2_with fail
            obtain ⟨q1, q2, q3⟩ := hI.step (x := x) (R' := fun n => (n : Int) = stop) (by have := hst'.out; omega)
            exact ⟨_, q1, q2, rfl, q3⟩
          · have hb : ((pre.length : Int) + 1 == stop) = false := by simpa using hst
            have hst' := hid hst
            clear hst
            gi_wp2_with fail
            obtain ⟨q1, q2, q3⟩ := hI.step (x := x) (R' := fun n => 0 < n → (n : Int) ≠ stop) (by have := hst'.out; intro _; omega)
            exact ⟨_, q1, q2, q3⟩
      case done =>
        intro G W hI hg hk
        have hBW : Below w0.heap.size w0 W := B5.trans (hI.2.2.2.1.to_below (by have := B5.size; omega) (fun j h => by omega))
        have A6 : ArI W w0.heap.size lv fv room l F := A5.keep fun j hj => hI.2.2.1 j (by have := hF j hj; omega) (by have := hF j hj; omega)
        have hnb := hI.2.1
        have hsW := (hI.2.2.1 w.heap.size (by have := hz0.out; omega) (by have := hz0.out; omega)).trans hsb1
        have hle : ((items 0 l).length : Int) ≤ l.length - F.length ∧ (((items 0 l).length : Int) = stop ∨ ((items 0 l).length : Int) = l.length - F.length) := ⟨by have := A5.inv.count; omega, .inr (by have := A5.inv.count; omega)⟩
        have hDW : w0.heap.size ≤ W1.heap.size := by omega
        have hs1 := hid hsz1
        clear hsz1
        clear A5 hg hxs hn1 hcl M1 B5 hsb1
        go_wp2_with fail
        refine wp_region_head_quiet (by kernel_rfl) rfl (by kernel_rfl) (by kernel_rfl) (fun K hK => ?_)
        go_simp
        refine (alive5 _).mono ?_
        rintro e W5 ⟨rfl, B6⟩
        have B7 : Below W.heap.size W W5 := ⟨B6.os, B6.tape, B6.output, B6.size, B6.block⟩
        have A7 : ArI W5 w0.heap.size lv fv room l F := A6.keep fun j hj => B7.block j (A6.lt hj)
        obtain ⟨d1, e1⟩ := blkc ((B7.block _ (blkl hnb)).trans hnb)
        obtain ⟨d2, e2⟩ := blkc ((B7.block _ (blkl hsW)).trans hsW)
        have hk5 := (B7.block _ (blkl hk)).trans hk
        have hlt5 : w.heap.size ≤ W1.heap.size := by have := hz0.out; omega
        have BB : Below w.heap.size w W5 := B0.trans ((hBW.trans (B7.mono hBW.size)).mono B0.size)
        have LN := fun n => lenI (A7.drewN n)
        refine hK _ _ ?_
        clear hK K
        have hle' := hid hle
        have hdc : decide (((items 0 l).length : Int) ≤ (l.length : Int) - F.length) = true := by simpa using hle.1
        clear hle B6 A6 hnb hsW hk
        by_cases hst : ((items 0 l).length : Int) = stop
        · have hst' := hid hst
          have hb : (((items 0 l).length : Int) == stop) = true := by simpa using hst
          clear hst
          repeat (any_goals (first | go_big_quiet_step ((go_at_call 14; exact Calls.quiet_of (LN _))) | quiet_step ((go_at_call 14; exact Calls.quiet_of (LN _)))))
          refine wpQuiet_nil ?_
          rintro W6 ⟨nq, rfl⟩
          go_wp2_with fail
          refine retM1 (D := W1.heap.size) hk5 rfl (results_tmp rfl _ _ _) ⟨by simp, ?_⟩
          exact below_put (pw_below_drewN' BB nq) hlt5 _
        · have hst' := hid hst
          have hb : (((items 0 l).length : Int) == stop) = false := by simpa using hst
          have hb2 : (((items 0 l).length : Int) == (l.length : Int) - F.length) = true := by have := hle'.out; simp; omega
          clear hst
          repeat (any_goals (first | go_big_quiet_step ((go_at_call 14; exact Calls.quiet_of (LN _))) | quiet_step ((go_at_call 14; exact Calls.quiet_of (LN _)))))
          refine wpQuiet_nil ?_
          rintro W6 ⟨nq, rfl⟩
          go_wp2_with fail
          refine retM1 (D := W1.heap.size) hk5 rfl (results_tmp rfl _ _ _) ⟨by simp, ?_⟩
          exact below_put (pw_below_drewN' BB nq) hlt5 _
      case stop =>
        rintro c pre G W hpre ⟨rfl, hI⟩ hg hk
        have hBW : Below w0.heap.size w0 W := B5.trans (hI.2.2.2.1.to_below (by have := B5.size; omega) (fun j h => by omega))
        have A6 : ArI W w0.heap.size lv fv room l F := A5.keep fun j hj => hI.2.2.1 j (by have := hF j hj; omega) (by have := hF j hj; omega)
        have hnb := hI.2.1
        have hsW := (hI.2.2.1 w.heap.size (by have := hz0.out; omega) (by have := hz0.out; omega)).trans hsb1
        have hle : (pre.length : Int) ≤ l.length - F.length ∧ ((pre.length : Int) = stop ∨ (pre.length : Int) = l.length - F.length) := ⟨by have := A5.inv.count; have := hpre.length_le; omega, .inl hI.2.2.2.2⟩
        have hDW : w0.heap.size ≤ W1.heap.size := by omega
        have hs1 := hid hsz1
        clear hsz1
        clear A5 hg hxs hn1 hcl M1 B5 hsb1
        go_wp2_with fail
        refine wp_region_head_quiet (by kernel_rfl) rfl (by kernel_rfl) (by kernel_rfl) (fun K hK => ?_)
        go_simp
        refine (alive5 _).mono ?_
        rintro e W5 ⟨rfl, B6⟩
        have B7 : Below W.heap.size W W5 := ⟨B6.os, B6.tape, B6.output, B6.size, B6.block⟩
        have A7 : ArI W5 w0.heap.size lv fv room l F := A6.keep fun j hj => B7.block j (A6.lt hj)
        obtain ⟨d1, e1⟩ := blkc ((B7.block _ (blkl hnb)).trans hnb)
        obtain ⟨d2, e2⟩ := blkc ((B7.block _ (blkl hsW)).trans hsW)
        have hk5 := (B7.block _ (blkl hk)).trans hk
        have hlt5 : w.heap.size ≤ W1.heap.size := by have := hz0.out; omega
        have BB : Below w.heap.size w W5 := B0.trans ((hBW.trans (B7.mono hBW.size)).mono B0.size)
        have LN := fun n => lenI (A7.drewN n)
        refine hK _ _ ?_
        clear hK K
        have hle' := hid hle
        have hdc : decide ((pre.length : Int) ≤ (l.length : Int) - F.length) = true := by simpa using hle.1
        clear hle B6 A6 hnb hsW hk
        by_cases hst : (pre.length : Int) = stop
        · have hst' := hid hst
          have hb : ((pre.length : Int) == stop) = true := by simpa using hst
          clear hst
          repeat (any_goals (first | go_big_quiet_step ((go_at_call 14; exact Calls.quiet_of (LN _))) | quiet_step ((go_at_call 14; exact Calls.quiet_of (LN _)))))
          refine wpQuiet_nil ?_
          rintro W6 ⟨nq, rfl⟩
          go_wp2_with fail
          refine retM1 (D := W1.heap.size) hk5 rfl (results_tmp rfl _ _ _) ⟨by simp, ?_⟩
          exact below_put (pw_below_drewN' BB nq) hlt5 _
        · have hst' := hid hst
          have hb : ((pre.length : Int) == stop) = false := by simpa using hst
          have hb2 : ((pre.length : Int) == (l.length : Int) - F.length) = true := by have := hle'.out; simp; omega
          clear hst
          repeat (any_goals (first | go_big_quiet_step ((go_at_call 14; exact Calls.quiet_of (LN _))) | quiet_step ((go_at_call 14; exact Calls.quiet_of (LN _)))))
          refine wpQuiet_nil ?_
          rintro W6 ⟨nq, rfl⟩
          go_wp2_with fail
          refine retM1 (D := W1.heap.size) hk5 rfl (results_tmp rfl _ _ _) ⟨by simp, ?_⟩
          exact below_put (pw_below_drewN' BB nq) hlt5 _

theorem stops5r (room : Int) (a : Option Addr) (len cap : Nat) (zs : List Op5) (stop : Int) (w : World) (_ : (Lit.int .i64 room).wf = true) (hr : RdS encOp 3 w a len zs) (_ : ∀ z ∈ zs, True) (hl : len * 24 ≤ 140737488351232) (hs : (Lit.int .i64 stop).wf = true) :
    Calls Try.prog 6 #[.int .i64 room, .slice a len cap, .int .i64 stop] w fun e w' => e = .returned (.bool true) ∧ Below w.heap.size w w' :=
  stops5 room stop a len cap zs w hr (by omega) (wf_i64 hs)
end Go.Proofs.Bo
