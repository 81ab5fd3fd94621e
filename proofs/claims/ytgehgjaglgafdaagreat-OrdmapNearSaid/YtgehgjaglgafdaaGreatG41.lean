import Derived.Test.YtgehgjaglgafdaaGreatG38
import Derived.Test.YtgehgjaglgafdaaGreatG13
import Derived.Test.YtgehgjaglgafdaaGreatG40
import Derived.Test.YtgehgjaglgafdaaGreatG02
set_option linter.unusedVariables false
set_option linter.unusedSimpArgs false
namespace Go.Proofs.Bo
open Go Go.RowKit
section
variable {w w' : World} {v : Value} {mb tb d : Nat} {room : Int} {l : List Sg} {X Y R : Nat → Prop}
theorem tt_all (h : TT X w v d room l) : IMe w v "All" #[] fun e w' => ∃ gf lb H, e = .returned (.func (.func gf) #[] lb) ∧ (∀ args w, (callFunc gf args).run Tryz.prog w = .ok (.enter gf args) w) ∧ Iter Tryz.prog gf lb encSB l H w' ∧
  (∀ k, H k → (X k ∨ w.heap.size ≤ k) ∧ k < w'.heap.size) ∧ Mod (fun _ => False) w w' := by
 obtain ⟨tb, ⟨rfl, rfl, h3, h4⟩ | ⟨rfl, h2⟩⟩ := h
 ·obtain ⟨ab, N, lv, fv, free, t, hT, hr, hF, rfl, h5⟩ := h4
  refine ⟨_, tb, 149, rfl, enters_of Tryz.func149 (by kernel_rfl) rfl, fun _ => by kernel_rfl, (allTZ w tb).mono ?_⟩
  rintro e w' ⟨rfl, hw⟩
  have M : Mod (fun _ => False) w w' := by rw [hw]; exact ((Mod.refl _ _).alloc _).alloc _
  have k1 : w'.heap[w.heap.size]? = some (.cells #[.pointer (some ⟨tb, 0, none⟩)] 93 (0, 0)) := by rw [hw]; exact alloc2_0 _ _ _
  have k2 : w'.heap[w.heap.size + 1]? = some (.cells #[.int .i64 (di false)] 3 (0, 0)) := by rw [hw]; exact alloc2_1 _ _ _
  have hz : w'.heap.size = w.heap.size + 2 := by rw [hw]; simp [WalkW]
  refine ⟨_, _, _, rfl, enters_of Tryz.func181 (by kernel_rfl) rfl, walk_iter false (hT.mod0 M) k1 k2, fun k hk => ?_, M⟩
  rcases hk with rfl | rfl | hk
  ·exact ⟨.inr (Nat.le_refl _), by omega⟩
  ·exact ⟨.inr (by omega), by omega⟩
  ·have := hT.lt hk
   exact ⟨.inl (h5 k hk), by omega⟩
 ·obtain ⟨ab, lv, fv, σ, free, root, S, h1, h2, h3, h4, h5, h6, h7⟩ := h2
  refine ⟨_, tb, 98, rfl, enters_of Tryz.func98 (by kernel_rfl) rfl, fun _ => by kernel_rfl, (allBZ w tb).mono ?_⟩
  rintro e w' ⟨rfl, hw⟩
  have M : Mod (fun _ => False) w w' := by rw [hw]; exact (Mod.refl _ _).alloc _
  have k1 : w'.heap[w.heap.size]? = some (.cells #[.pointer (some ⟨tb, 0, none⟩)] 91 (0, 0)) := by rw [hw]; exact alloc_0 _ _
  have hz : w'.heap.size = w.heap.size + 1 := by rw [hw]; simp
  refine ⟨_, _, _, rfl, enters_of Tryz.func112 (by kernel_rfl) rfl, all_iter (h1.mod0 M) h2 h4 (by omega) k1, fun k hk => ?_, M⟩
  rcases hk with rfl | hk
  ·exact ⟨.inr (Nat.le_refl _), by omega⟩
  ·have := h1.lt hk
   exact ⟨.inl (h7 k hk), by omega⟩
theorem TT.iface (h : TT X w v d room l) : ∃ T p, v = .iface T p := by
 obtain ⟨tb, ⟨h1, h2, h3, h4⟩ | ⟨h1, h2⟩⟩ := h
 ·exact ⟨_, _, h1⟩
 ·exact ⟨_, _, h1⟩
theorem TT.boxed {w0 : World} (h : TT (fun k => w0.heap.size ≤ k) w v d room l) (M : Mod (fun _ => False) w0 w) : OM (fun k => w0.heap.size ≤ k) (w.alloc (.cells #[v] 82)) w.heap.size d room l ∧ Mod (fun _ => False) w0 (w.alloc (.cells #[v] 82)) :=
 ⟨⟨_, alloc_0 _ _, M.size, (h.mono (Y := fun k => w0.heap.size ≤ k ∧ k ≠ w.heap.size) fun k hk hl => ⟨hk, by omega⟩).mod0 ((Mod.refl _ _).alloc (.cells #[v] 82))⟩, M.alloc _⟩
theorem ommade (deg room : Int) (hd : rightD deg = true) (h0 : 0 ≤ room ∧ room ≤ 4096) (w : World) : Calls Tryz.prog 51 #[.int .i64 deg, .int .i64 room] w fun e w' => ∃ v, e = .returned (.tuple #[v, .int .i64 0]) ∧ TT (fun k => w.heap.size ≤ k) w' v deg.toNat room [] ∧ Mod (fun _ => False) w w' := by
 by_cases hz : deg = 0
 ·subst hz
  have P := rb_new h0.1 h0.2 w
  go_enter Tryz.func51, Tryz.ntmps51
  go_wp2_with fail
  refine P.mono ?_
  rintro e w1 ⟨tb, rfl, R1, z1, M1⟩
  go_wp2_with fail
  go_ret2
  exact ⟨_, rfl, ⟨tb, .inl ⟨rfl, rfl, h0.2, R1⟩⟩, M1⟩
 ·have hd' : 2 ≤ deg ∧ deg ≤ 64 := by unfold rightD at hd; simp [hz] at hd; exact hd
  obtain ⟨d, rfl⟩ : ∃ d : Nat, deg = d := ⟨deg.toNat, by omega⟩
  have P := bb_new (d := d) (room := room) (by omega) h0 w
  have e0 : ((d : Int) == 0) = false := by simpa using hz
  clear hd hd' hz
  go_enter Tryz.func51, Tryz.ntmps51
  go_wp2_with fail
  refine P.mono ?_
  rintro e w1 ⟨tb, rfl, R1, z1, M1⟩
  go_wp2_with fail
  go_ret2
  exact ⟨_, rfl, ⟨tb, .inr ⟨rfl, by simpa using R1⟩⟩, M1⟩
theorem ommade_no (deg room : Int) (hd : ¬ (rightD deg = true ∧ 0 ≤ room ∧ room ≤ 4096)) (w : World) : Calls Tryz.prog 51 #[.int .i64 deg, .int .i64 room] w fun e w' => ∃ T p, e = .returned (.tuple #[.iface T p, .int .i64 1]) ∧ w' = w := by
 by_cases hz : deg = 0
 ·subst hz
  have P := newTZ_no room (by simp [rightD] at hd; omega) w
  clear hd
  go_enter Tryz.func51, Tryz.ntmps51
  go_wp2_with fail
  refine P.mono ?_
  rintro e w1 ⟨rfl, rfl⟩
  go_wp2_with fail
  go_ret2
  exact ⟨_, _, rfl, rfl⟩
 ·have P := newBZ_no deg room (by unfold rightD at hd; simp [hz] at hd; omega) w
  have e0 : (deg == 0) = false := by simpa using hz
  clear hd hz
  go_enter Tryz.func51, Tryz.ntmps51
  go_wp2_with fail
  refine P.mono ?_
  rintro e w1 ⟨rfl, rfl⟩
  go_wp2_with fail
  go_ret2
  exact ⟨_, _, rfl, rfl⟩
theorem ta_RB (p : Value) (w : World) : (Instr.typeAssert (.iface 93 p) 80 91 true).run Tryz.prog w = .ok (.tuple #[.pointer none, .bool false]) w := by kernel_rfl
theorem ta_BB (p : Value) (w : World) : (Instr.typeAssert (.iface 91 p) 80 91 true).run Tryz.prog w = .ok (.tuple #[p, .bool true]) w := by kernel_rfl
theorem ta_RR (p : Value) (w : World) : (Instr.typeAssert (.iface 93 p) 80 93 true).run Tryz.prog w = .ok (.tuple #[p, .bool true]) w := by kernel_rfl
theorem om_new (deg room : Int) (hd : rightD deg = true) (h0 : 0 ≤ room ∧ room ≤ 4096) (w : World) : Calls Tryz.prog 29 #[.int .i64 deg, .int .i64 room] w fun e w' => ∃ mb, e = .returned (.tuple #[.pointer (some ⟨mb, 0, none⟩), .int .i64 0]) ∧ OM (fun k => w.heap.size ≤ k) w' mb deg.toNat room [] ∧ Mod (fun _ => False) w w' := by
 have P := ommade deg room hd h0 w
 clear hd h0
 go_enter Tryz.func29, Tryz.ntmps29
 go_wp2_with fail
 refine P.mono ?_
 rintro e w1 ⟨v, rfl, T1, M1⟩
 obtain ⟨T, p, rfl⟩ := T1.iface
 go_wp2_with fail
 go_ret2
 exact ⟨_, rfl, T1.boxed M1⟩
theorem om_new_no (deg room : Int) (hd : ¬ (rightD deg = true ∧ 0 ≤ room ∧ room ≤ 4096)) (w : World) : Calls Tryz.prog 29 #[.int .i64 deg, .int .i64 room] w fun e w' => e = .returned (.tuple #[.pointer none, .int .i64 1]) ∧ w' = w := by
 have P := ommade_no deg room hd w
 clear hd
 go_enter Tryz.func29, Tryz.ntmps29
 go_wp2_with fail
 refine P.mono ?_
 rintro e w1 ⟨T, p, rfl, rfl⟩
 go_wp2_with fail
 go_ret2
 exact ⟨rfl, rfl⟩
set_option maxRecDepth 100000 in
theorem om_degree (h : OM X w mb d room l) : Calls Tryz.prog 34 #[.pointer (some ⟨mb, 0, none⟩)] w fun e w' => e = .returned (.int .i64 (d : Int)) ∧ Mod (fun _ => False) w w' := by
 obtain ⟨v, hb, hX, tb, ⟨rfl, rfl, h3, h4⟩ | ⟨rfl, h2⟩⟩ := h
 ·obtain ⟨c0, f0⟩ := blkc hb
  clear h4
  have ta1 := ta_RB
  have ta2 := ta_BB
  have ta3 := ta_RR
  go_enter Tryz.func34, Tryz.ntmps34
  go_wp2_with fail
  go_ret
  exact ⟨rfl, Mod.refl _ _⟩
 ·obtain ⟨c0, f0⟩ := blkc hb
  have P := bb_degree h2
  clear h2
  have ta1 := ta_RB
  have ta2 := ta_BB
  have ta3 := ta_RR
  go_enter Tryz.func34, Tryz.ntmps34
  go_wp2_with fail
  refine P.mono ?_
  rintro e w1 ⟨rfl, M1⟩
  go_wp2_with fail
  go_ret
  exact ⟨rfl, M1⟩
end
open Go Go.RowKit
theorem near_high {P R : List Sg} {k : Int} (hP : ∀ y ∈ P, ky y ≤ k) (hR : ∀ y ∈ R, k < ky y) : nearS true false k (P ++ R) = R.head? := by
 unfold nearS
 simp only [if_true]
 rw [List.filter_append, List.filter_eq_nil_iff.2 (fun y hy => by have := hP y hy; simp [fitB]; omega), List.filter_eq_self.2 (fun y hy => by have := hR y hy; simp [fitB]; omega), List.nil_append]
theorem near_ceil {P R : List Sg} {k : Int} (hP : ∀ y ∈ P, ky y < k) (hR : ∀ y ∈ R, k ≤ ky y) : nearS true true k (P ++ R) = R.head? := by
 unfold nearS
 simp only [if_true]
 rw [List.filter_append, List.filter_eq_nil_iff.2 (fun y hy => by have := hP y hy; simp [fitB]; omega), List.filter_eq_self.2 (fun y hy => by have := hR y hy; simp [fitB]; omega), List.nil_append]
theorem near_low {P R : List Sg} {k : Int} (hP : ∀ y ∈ P, ky y < k) (hR : ∀ y ∈ R, k ≤ ky y) : nearS false false k (P ++ R) = P.getLast? := by
 unfold nearS
 simp only [Bool.false_eq_true, if_false]
 rw [List.filter_append, List.filter_eq_self.2 (fun y hy => by have := hP y hy; simp [fitB]; omega), List.filter_eq_nil_iff.2 (fun y hy => by have := hR y hy; simp [fitB]; omega), List.append_nil]
theorem get_mid {P R : List Sg} {x : Sg} {k : Int} (hP : ∀ y ∈ P, ky y ≠ k) (hx : ky x = k) : getS k (P ++ x :: R) = some x := by
 unfold getS
 rw [List.find?_append, List.find?_eq_none.2 (fun y hy => by simpa using hP y hy)]
 simp [hx]
theorem srt_cut (k : Int) : ∀ {l : List Sg}, Srt l → l = l.filter (fun x => decide (ky x < k)) ++ l.filter (fun x => decide (k ≤ ky x))
 | [], _ => rfl
 | x :: l, h => by
  obtain ⟨h1, h2⟩ := List.pairwise_cons.1 h
  by_cases hx : ky x < k
  ·have e := srt_cut k h2
   rw [List.filter_cons, if_pos (by simpa using hx), List.filter_cons, if_neg (by simp; omega), List.cons_append, ← e]
  ·rw [List.filter_eq_nil_iff.2, List.filter_eq_self.2, List.nil_append]
   ·intro y hy
    rcases List.mem_cons.1 hy with rfl | hy
    ·simp; omega
    ·have := h1 y hy; simp; omega
   ·intro y hy
    rcases List.mem_cons.1 hy with rfl | hy
    ·simp; omega
    ·have := h1 y hy; simp; omega
def rangeL (lo hi : Int) (l : List Sg) : List Sg := l.filter (fun x => decide (lo ≤ ky x) && decide (ky x < hi))
theorem range_cut (lo hi : Int) {l : List Sg} (h : Srt l) : ∃ A C, l = A ++ (rangeL lo hi l ++ C) ∧ (∀ y ∈ A, ky y < lo) ∧ (∀ y ∈ rangeL lo hi l, lo ≤ ky y ∧ ky y < hi) ∧ ∀ y ∈ C, lo ≤ ky y ∧ hi ≤ ky y := by
 have e1 := srt_cut lo h
 have h2 : Srt (l.filter (fun x => decide (lo ≤ ky x))) := h.sublist List.filter_sublist
 have e2 := srt_cut hi h2
 have e3 : (l.filter (fun x => decide (lo ≤ ky x))).filter (fun x => decide (ky x < hi)) = rangeL lo hi l := by
  unfold rangeL
  rw [List.filter_filter]
  congr 1
  funext x
  exact Bool.and_comm _ _
 rw [e3] at e2
 refine ⟨l.filter (fun x => decide (ky x < lo)), (l.filter (fun x => decide (lo ≤ ky x))).filter (fun x => decide (hi ≤ ky x)), ?_, fun y hy => ?_, fun y hy => ?_, fun y hy => ?_⟩
 ·rw [← e2]; exact e1
 ·simpa using (List.mem_filter.1 hy).2
 ·simpa using (List.mem_filter.1 hy).2
 ·obtain ⟨g1, g2⟩ := List.mem_filter.1 hy
  exact ⟨by simpa using (List.mem_filter.1 g1).2, by simpa using g2⟩
theorem range_snoc {lo hi : Int} {l : List Sg} {x : Sg} : rangeL lo hi (l ++ [x]) = rangeL lo hi l ++ (if lo ≤ ky x ∧ ky x < hi then [x] else []) := by
 unfold rangeL
 rw [List.filter_append]
 congr 1
 by_cases h : lo ≤ ky x ∧ ky x < hi
 ·simp [h]
 ·rw [if_neg h]
  rw [List.filter_eq_nil_iff]
  intro y hy
  obtain rfl := List.mem_singleton.1 hy
  simp; omega
theorem key_bd {s : Sg} (h : KeyOK s) : -18446744073709551616 ≤ ky s ∧ ky s < 18446744073709551616 := by
 have h1 := okKey_lt h.1 h.2
 have h2 := h.2
 unfold fit64 at h2
 unfold ky
 refine ⟨?_, h1.1⟩
 rcases h1.2 with ⟨e1, e2⟩ | ⟨e1, _, e2⟩
 ·rw [e1, e2]; decide
 ·rw [e2]; omega
theorem range_all {l : List Sg} (h : Row l) : rangeL (kx (-1) 0) (kx 1 0) l = l := by
 unfold rangeL
 rw [List.filter_eq_self]
 intro y hy
 have := key_bd (h.2 y hy)
 rw [show kx (-1) 0 = -18446744073709551616 by decide, show kx 1 0 = 18446744073709551616 by decide]
 simp; omega
theorem first_ceil {l : List Sg} (h : Row l) : nearS true true (kx (-1) 0) l = l.head? := by
 have := near_ceil (P := []) (R := l) (k := kx (-1) 0) (fun y hy => by simp at hy) (fun y hy => by
  have := key_bd (h.2 y hy)
  rw [show kx (-1) 0 = -18446744073709551616 by decide]; exact this.1)
 simpa using this
theorem put_last {room : Int} {l : List Sg} {s : Sg} (hk : KeyOK s) (hl : ∀ y ∈ l, ky y < ky s) (hr : (l.length : Int) < room) : putL room s l = l ++ [s] ∧ putE room s l = 0 := by
 have h1 : okB s = true := decide_eq_true hk.1
 have h2 : hasK (ky s) l = false := by
  unfold hasK
  rw [List.any_eq_false]
  intro y hy
  have := hl y hy
  simp; omega
 unfold putL putE
 have h4 : ¬ room ≤ (l.length : Int) := by omega
 have h3 := ins_new (a := l) (b := []) (s := s) hl (fun y hy => by simp at hy)
 simp only [List.append_nil] at h3
 simp [h1, h2, h3, h4]
theorem row_pre {a b : List Sg} (h : Row (a ++ b)) : Row a := ⟨h.1.sublist (List.sublist_append_left a b), fun s hs => h.2 s (by simp [hs])⟩
open Go Go.RowKit Go.Shelf
theorem TT.ifp {X : Nat → Prop} {w : World} {v : Value} {d : Nat} {room : Int} {l : List Sg} (h : TT X w v d room l) : ∃ T tb, v = .iface T (.pointer (some ⟨tb, 0, none⟩)) := by
 obtain ⟨tb, ⟨h1, h2, h3, h4⟩ | ⟨h1, h2⟩⟩ := h
 ·exact ⟨_, _, h1⟩
 ·exact ⟨_, _, h1⟩
def TurnJ (n0 : Nat) (v : Value) (d : Nat) (room : Int) (tb : Nat) (W0 : World) (pre : List Sg) (G : Nat → Prop) (W : World) : Prop :=
 TT G W v d room pre ∧ (∀ k, G k → (n0 ≤ k ∧ k ≠ tb) ∧ k < W.heap.size) ∧ Mod (fun k => n0 ≤ k ∧ k ≠ tb) W0 W
theorem TurnJ.stab {n0 : Nat} {v : Value} {d : Nat} {room : Int} {tb : Nat} {W0 : World} (h0 : n0 ≤ tb) (h1 : tb < W0.heap.size) : Stab W0.heap.size (TurnJ n0 v d room tb W0) := by
 rintro s G W W' T ⟨g1, g2, g3⟩ m t
 exact ⟨g1.mod m fun k hk _ h => (t k h).2 hk, fun k hk => ⟨(g2 k hk).1, m.lt (g2 k hk).2⟩, g3.trans m fun j h => .inr (t j h).1⟩
section
variable {w w' : World} {mb d : Nat} {room : Int} {l : List Sg} {X : Nat → Prop}
attribute [local go_sem] Oper.semAt_some
theorem om_turn_no (h : OM X w mb d room l) (deg : Int) (hd : rightD deg = false) : Calls Tryz.prog 43 #[.pointer (some ⟨mb, 0, none⟩), .int .i64 deg] w fun e w' => e = .returned (.int .i64 1) ∧ Mod (fun _ => False) w w' := by
 have P1 := om_room h
 have P2 := ommade_no deg room (by rw [hd]; simp)
 clear h hd
 refine calls_of_wp_marks Tryz.func43 rfl ?_
 simp only [Tryz.ntmps43, List.size_toArray, List.length_cons, List.length_nil, Nat.reduceAdd, Nat.reduceSub, Array.replicate_succ, Array.replicate_zero, List.push_toArray, List.append_toArray, List.nil_append, List.cons_append]
 go_wp2_with fail
 refine P1.mono ?_
 rintro e w1 ⟨rfl, M1⟩
 go_wp2_with fail
 refine (P2 w1).mono ?_
 rintro e w2 ⟨T, p, rfl, hw⟩
 rw [hw]; clear hw P1 P2
 go_wp2_with fail
 exact retM0 (results_tmp rfl _ _ _) rfl ⟨rfl, M1.alloc _⟩
set_option maxHeartbeats 2000000 in
set_option maxRecDepth 100000 in
theorem om_turn (h : OM X w mb d room l) (deg : Int) (hd : rightD deg = true) : Calls Tryz.prog 43 #[.pointer (some ⟨mb, 0, none⟩), .int .i64 deg] w fun e w' => e = .returned (.int .i64 0) ∧ OM (fun k => X k ∨ w.heap.size ≤ k) w' mb deg.toNat room l ∧ Mod X w w' := by
 have hbnd := om_bound h
 have hrow := om_row h
 have P1 := om_room h
 have P2 := ommade deg room hd (by omega)
 obtain ⟨v0, hb, hX, hT0⟩ := h
 have hT : TT (fun k => k < w.heap.size) w v0 d room l := hT0.mono fun k _ hl => hl
 have hmb := blkl hb
 clear hT0 hd
 obtain ⟨nd, hnd⟩ : ∃ nd, deg.toNat = nd := ⟨_, rfl⟩
 simp only [hnd] at P2 ⊢
 clear hnd
 refine calls_of_wp_marks Tryz.func43 rfl ?_
 simp only [Tryz.ntmps43, List.size_toArray, List.length_cons, List.length_nil, Nat.reduceAdd, Nat.reduceSub, Array.replicate_succ, Array.replicate_zero, List.push_toArray, List.append_toArray, List.nil_append, List.cons_append]
 go_wp2_with fail
 refine P1.mono ?_
 rintro e w1 ⟨rfl, M1⟩
 go_wp2_with fail
 refine (P2 w1).mono ?_
 rintro e w2 ⟨v, rfl, T2, M2⟩
 clear P1 P2
 obtain ⟨T, p, hv⟩ := T2.ifp
 subst hv
 have M12 := M1.trans' M2
 obtain ⟨w3, hw3, b3, M3⟩ : ∃ w3, w2.alloc (.cells #[.iface T (.pointer (some ⟨p, 0, none⟩))] 80) = w3 ∧ w3.heap[w2.heap.size]? = some (.cells #[.iface T (.pointer (some ⟨p, 0, none⟩))] 80 (0, 0)) ∧ Mod (fun _ => False) w2 w3 := ⟨_, rfl, alloc_0 _ _, (Mod.refl _ _).alloc _⟩
 have M13 := M12.trans' M3
 have hb3 := M13.heap hb fun h => h
 obtain ⟨T0, q, K, rfl, hn, hm, HA⟩ := tt_all (hT.mod0 M13)
 obtain ⟨c0, f0⟩ := blkc hb3
 simp only [List.append_toArray, List.append_nil] at HA
 have T3 : TT (fun k => w.heap.size ≤ k ∧ k ≠ w2.heap.size) w3 (.iface T (.pointer (some ⟨p, 0, none⟩))) nd room [] := (T2.mono fun k hk hl => ⟨Nat.le_trans M1.size hk, by omega⟩).mod0 M3
 have hsz3 : w2.heap.size < w3.heap.size := blkl b3
 have hsz2 : w.heap.size ≤ w2.heap.size := M12.size
 clear T2 M12 M3 M1 M2 hT hb3
 replace hrow := hid hrow
 replace hbnd := hid hbnd
 replace hsz3 := hid hsz3
 replace hsz2 := hid hsz2
 go_wp2_with fail
 refine HA.mono ?_; rintro e w4 ⟨gf, lb, H, rfl, eg, hit, hH, M4⟩
 clear HA hn hm c0 f0
 replace hsz2 := hsz2.out
 replace hsz3 := hsz3.out
 have hz4 := M4.size
 replace b3 := M4.heap b3 fun h => h
 replace M13 := M13.trans' M4
 have T4 : TT (fun k => (w.heap.size ≤ k ∧ k ≠ w2.heap.size) ∧ k < w3.heap.size) w4 (.iface T (.pointer (some ⟨p, 0, none⟩))) nd room [] := (T3.mono fun k hk hl => ⟨hk, hl⟩).mod0 M4
 clear T3 M4 hw3
 go_wp2_with fail
 refine wp_range1G (gf := gf) (lb := lb) rfl eg hit (fun _ => rfl)
  (fun k => (w.heap.size ≤ k ∧ k ≠ w2.heap.size) ∧ k < w3.heap.size) (fun j hj => by have := hj.2; omega) (fun j hj h => by have := (hH j hj).1; have := h.1.1; have := h.2; omega) (fun j hj => (hH j hj).2)
  (TurnJ w.heap.size (.iface T (.pointer (some ⟨p, 0, none⟩))) nd room w2.heap.size w4) (fun c pre G W => False) (TurnJ.stab hsz2 (by omega)) (fun c s G W W' T h m t => h.elim)
  (fun pre G W ⟨g1, g2, g3⟩ => ⟨g3.size, fun k hk => (g2 k hk).2⟩)
  ⟨T4, fun k hk => ⟨hk.1, by have := hk.2; omega⟩, Mod.refl _ _⟩
  (fun x => #[.int .i64 x.ls, .int .i64 x.la, .int .i64 x.hs, .int .i64 x.ha, .int .i64 x.v]) 38 ?body ?done ?stop
 case stop => exact fun c pre G W _ h => h.elim
 case body =>
  apply Exists.intro
  constructor
  ·intro yl x W KK hKK
   simp [encSB]
   gi_wp2_with fail
   generalize W.heap.size = b at hKK ⊢
   exact hKK
  ·intro yl pre x rest b G W hx hb' hGb hbz hI hne
   obtain ⟨g1, g2, g3⟩ := hI
   have hx' : l = pre ++ x :: rest := hx
   have hr := hrow.out
   rw [hx'] at hr
   have hkx : KeyOK x := hr.2 x (by simp)
   have hlt : ∀ y ∈ pre, ky y < ky x := fun y hy => (List.pairwise_append.1 hr.1).2.2 y hy x (by simp)
   have hlr : (pre.length : Int) < room := by have := hbnd.out; rw [hx'] at this; simp at this; omega
   obtain ⟨e1, e2⟩ := put_last hkx hlt hlr
   have hfx := hkx.2
   clear hx hx' hr hkx hlt hlr
   have k3 := g3.heap b3 fun h => h.2 rfl
   obtain ⟨q1, q2⟩ := blkc k3
   obtain ⟨p1, p2⟩ := blkc hb'
   obtain ⟨T', p', K', e, hn, hm, HC⟩ := tt_put g1 x hfx
   cases e
   rw [e1, e2] at HC
   obtain ⟨xl, xa, xh, xg, xv⟩ := x
   simp only [encS, List.append_toArray, List.cons_append, List.nil_append] at HC
   replace e1 := hid e1
   replace e2 := hid e2
   gi_wp2_with fail
   refine ⟨trivial, rfl, (callsIn_wide.2 (HC.mono ?_)).inRound yl⟩
   rintro e W6 ⟨rfl, R6, M6⟩
   have fin : roundEnd (TurnJ w.heap.size (.iface T (.pointer (some ⟨p, 0, none⟩))) nd room w2.heap.size w4) (fun c pre G W => False) (pre ++ [⟨xl, xa, xh, xg, xv⟩]) G W .normal { tmps := #[], defers := [] } W6 := by
    refine ⟨fun k => (G k ∨ W.heap.size ≤ k) ∧ k < W6.heap.size, fun k hk => hk, M6, R6.mono fun k hk hl => ⟨hk, hl⟩, fun k hk => ⟨?_, hk.2⟩, g3.trans M6 fun j hj => .inl (g2 j hj).1⟩
    rcases hk.1 with h | h
    ·exact (g2 k h).1
    ·have := g3.size; omega
   clear HC q1 q2 p1 p2 R6 M6
   replace fin := hid fin
   gi_wp2_with fail
   exact fin.out
 case done =>
  rintro G W ⟨g1, g2, g3⟩ hne hk
  have k3 := g3.heap b3 fun h => h.2 rfl
  obtain ⟨q1, q2⟩ := blkc k3
  have hbW := g3.heap (M13.heap hb fun h => h) fun h => by have := h.1; omega
  obtain ⟨u1, u2⟩ := blkc hbW
  have MW : Mod (fun _ => False) w W := M13.trans g3 fun j hj => .inr hj.1
  have MF : Mod X w ((W.setCell ⟨mb, 0, none⟩ (.iface T (.pointer (some ⟨p, 0, none⟩)))).putObj w4.heap.size (.deferred none)) :=
   mod_putObj (Mod.setCell (p := ⟨mb, 0, none⟩) (MW.mono fun _ h => h.elim) (.inl hX) _) (.inr (by omega)) _
  have MF2 : Mod (fun k => k = mb ∨ k = w4.heap.size) W ((W.setCell ⟨mb, 0, none⟩ (.iface T (.pointer (some ⟨p, 0, none⟩)))).putObj w4.heap.size (.deferred none)) :=
   mod_putObj (Mod.setCell (p := ⟨mb, 0, none⟩) (Mod.refl _ _) (.inl (.inl rfl)) _) (.inl (.inr rfl)) _
  have bF : ((W.setCell ⟨mb, 0, none⟩ (.iface T (.pointer (some ⟨p, 0, none⟩)))).putObj w4.heap.size (.deferred none)).heap[mb]? = some (.cells #[.iface T (.pointer (some ⟨p, 0, none⟩))] 82 (0, 0)) :=
   (World.putObj_heap_other (by omega)).trans (setL_whole (us := [.iface T (.pointer (some ⟨p, 0, none⟩))]) hbW rfl)
  have OF : OM (fun k => X k ∨ w.heap.size ≤ k) ((W.setCell ⟨mb, 0, none⟩ (.iface T (.pointer (some ⟨p, 0, none⟩)))).putObj w4.heap.size (.deferred none)) mb nd room l :=
   ⟨_, bF, .inl hX, (g1.mod MF2 fun k hk _ h => by rcases h with h | h; (have := (g2 k hk).1.1; omega); exact (hne k hk).1 h).mono fun k hk _ => ⟨.inr (g2 k hk).1.1, by have := (g2 k hk).1.1; omega⟩⟩
  replace MF := hid MF
  replace OF := hid OF
  have MK : Mod (fun k => k = mb) W (W.setCell ⟨mb, 0, none⟩ (.iface T (.pointer (some ⟨p, 0, none⟩)))) := Mod.setCell (S := fun k => k = mb) (p := ⟨mb, 0, none⟩) (Mod.refl _ _) (.inl rfl) _
  have HK := hid (MK.heap hk (by omega))
  clear MK
  clear g1 g2 g3 MF2 bF MW
  go_wp2_with fail
  exact retM1 (D := w4.heap.size) HK.out rfl (results_tmp rfl _ _ _) ⟨rfl, OF.out, MF.out⟩
end
end Go.Proofs.Bo
