import Derived.Test.YtgehgjaglgafdaaGreatG48
import Derived.Test.YtgehgjaglgafdaaGreatG37
import Derived.Test.YtgehgjaglgafdaaGreatG40
import Derived.Test.YtgehgjaglgafdaaGreatG41
set_option linter.unusedVariables false
set_option linter.unusedSimpArgs false
namespace Go.Proofs.Bo
open Go Go.RowKit Go.Shelf
theorem Sub.bound {d : Nat} (hd : 1 ≤ d) {S : StB'} : ∀ {h lo i : Nat} {L : List Sg} {F : List Nat}, Sub d S h lo i L F → ∀ x ∈ F, ∀ l ks, S x = some (l, ks) → l.length ≤ 2 * d - 1 ∧ ks.length ≤ 2 * d
 | 0, lo, i, L, F, ⟨h1, h2, h3, h4⟩, x, hx, l, ks, hS => by
  rw [h2] at hx
  simp at hx
  subst hx
  rw [h1] at hS; cases hS
  exact ⟨h4, by simp⟩
 | h + 1, lo, i, L, F, ⟨l', cs, h1, h2, h3, h4, h5, h6, h7⟩, x, hx, l, ks, hS => by
  rw [h7] at hx
  rcases List.mem_cons.1 hx with rfl | hx
  ·rw [h1] at hS; cases hS
   exact ⟨h3, by simp; omega⟩
  ·obtain ⟨f, hf, hxf⟩ := List.mem_flatten.1 hx
   obtain ⟨c, hc, rfl⟩ := List.mem_map.1 hf
   exact Sub.bound hd (h5 c hc) x hxf l ks hS
theorem one_seg' {l : List Sg} : ∀ u ∈ l.flatMap encS, u.oneCell' = true := one_seg l
section
variable {w w' : World} {tb ab : Nat} {lv fv : Value} {σ : List (Option Bn)} {free : List Int} {root deg room many : Int} {S : StB} {d : Nat} {L : List Sg}
set_option maxHeartbeats 400000 in
theorem cloneSB {v : Value} {n : Nat} {xs : List Value} (h : w.ownsRow 0 38 5 v n xs) (h1 : ∀ u ∈ xs, u.oneCell' = true) (hn : n ≤ 65536) : Calls Tryz.prog 67 #[v] w (CloneQ 38 5 w n xs) := by
 rcases h.2 with ⟨rfl, rfl⟩ | ⟨g, cap, cur, rfl, _, _, _⟩
 ·have hx : xs = [] := List.eq_nil_of_length_eq_zero (by simpa using h.1)
  subst hx
  have E : (binOp .eql 28 (.slice none 0 0) (.slice none 0 0)).run Tryz.prog w = .ok (.bool true) w := run_eql_slice_nil w _ _ _ _ _ Tryz.underlying28
  go_enter Tryz.func67, Tryz.ntmps67
  go_wp2
  go_ret
  exact ⟨none, 0, rfl, World.ownsRow_nil _ _ _ _, Mod.refl _ _, by intro k e; cases e⟩
 ·have E : (binOp .eql 28 (.slice (some ⟨g, 0, none⟩) n cap) (.slice none 0 0)).run Tryz.prog w = .ok (.bool false) w := run_eql_slice_nil w _ _ _ _ _ Tryz.underlying28
  go_enter Tryz.func67, Tryz.ntmps67
  go_wp2_with (at_builtin; refine app_copy (.slice (some ⟨g, 0, none⟩) n cap) n xs (.tmp 5) (.tmp 6) 28 38 (.agg #[.int .i64 0, .int .i64 0, .int .i64 0, .int .i64 0, .int .i64 0]) 5 40 rfl rfl Tryz.underlying28 infoSg rfl (by omega) (by omega) (by simp [Act.eval]) (by simp [Act.eval]) h h1 (by omega) ?_)
  intro v1 w1 hown m1 hb1
  obtain ⟨A1, cc1, rfl, hA1⟩ := own_slice hown
  go_wp2_with fail
  go_ret
  exact ⟨_, _, rfl, hown, m1, hb1⟩
structure CpI (w2 : World) (nt nb : Nat) (lv' fv' : Value) (σ : List (Option Bn)) (free : List Int) (room : Int) (S : StB) (pre : List (Nat × Bn)) (G : Nat → Prop) (W : World) (σ' : List (Option Bn)) : Prop where
 a : ArB W nb lv' fv' (2 * room + 4) σ' free
 len : σ'.length = σ.length
 gone : ∀ (i : Nat), σ[i]? = some none → σ'[i]? = some none
 old : ∀ (i : Nat) (b : Bn), σ[i]? = some (some b) → (∀ x, (i, x) ∉ pre) → σ'[i]? = some (some b)
 new : ∀ (i : Nat) (b : Bn), (i, b) ∈ pre → ∃ b' l ks, σ'[i]? = some (some b') ∧ S i = some (l, ks) ∧ NodeB W b' l ks ∧ ∀ x k, (b'.v x).ownBlock = some k → G k ∧ ¬ Foot nb lv' fv' k ∧ w2.heap.size ≤ k
 apart : ∀ (i j : Nat) (c c' b b' : Bn) (x y : Bool) (k : Nat), (i, c) ∈ pre → (j, c') ∈ pre → σ'[i]? = some (some b) → σ'[j]? = some (some b') → (b.v x).ownBlock = some k → (b'.v y).ownBlock = some k → i = j ∧ x = y
 foot : ∀ k, Foot nb lv' fv' k → G k
 mod : Mod (Foot nb lv' fv') w2 W
 g : ∀ k, G k → (Foot nb lv' fv' k ∨ w2.heap.size ≤ k) ∧ k < W.heap.size
def CpJ (w2 : World) (nt nb : Nat) (lv' fv' : Value) (σ : List (Option Bn)) (free : List Int) (room : Int) (S : StB) (pre : List (Nat × Bn)) (G : Nat → Prop) (W : World) : Prop := ∃ σ', CpI w2 nt nb lv' fv' σ free room S pre G W σ'
theorem CpJ.stab (w2 : World) (nt nb : Nat) (lv' fv' : Value) (σ : List (Option Bn)) (free : List Int) (room : Int) (S : StB) : Stab w2.heap.size (CpJ w2 nt nb lv' fv' σ free room S) := by
 rintro s G W W' T ⟨σ', I⟩ m t
 have hk : ∀ k, G k → W'.heap[k]? = W.heap[k]? := fun k hk => m.block k (I.g k hk).2 fun h => (t k h).2 hk
 exact ⟨σ', I.a.keep fun k hf => hk k (I.foot k hf), I.len, I.gone, I.old, fun i b hp => by
  obtain ⟨b', l, ks, h1, h2, h3, h4⟩ := I.new i b hp
  exact ⟨b', l, ks, h1, h2, h3.keep fun x k e => hk k (h4 x k e).1, h4⟩, I.apart, I.foot, I.mod.trans m fun k hk => .inr (t k hk).1, fun k hk => ⟨(I.g k hk).1, Nat.lt_of_lt_of_le (I.g k hk).2 m.size⟩⟩
theorem CpI.step {w2 : World} {nt nb : Nat} {lv' fv' : Value} {pre : List (Nat × Bn)} {G : Nat → Prop} {W W3 : World} {σ' : List (Option Bn)} (I : CpI w2 nt nb lv' fv' σ free room S pre G W σ') {i : Nat} {b u : Bn} {l : List Sg} {ks : List Nat} (hb : σ[i]? = some (some b)) (hi : ∀ x, (i, x) ∉ pre) (hS : S i = some (l, ks))
  (hA : ArB W3 nb lv' fv' (2 * room + 4) (σ'.set i (some u)) free) (hn : NodeB W3 u l ks) (hu : ∀ x k, (u.v x).ownBlock = some k → W.heap.size ≤ k) (hM : Mod (Foot nb lv' fv') W W3) :
  ∃ G', (∀ k, G' k → (G k ∨ W.heap.size ≤ k) ∧ k < W3.heap.size) ∧ Mod G W W3 ∧ CpJ w2 nt nb lv' fv' σ free room S (pre ++ [(i, b)]) G' W3 := by
 have hil : i < σ'.length := by rw [I.len]; exact (List.getElem?_eq_some_iff.1 hb).1
 have hF : ∀ k, Foot nb lv' fv' k → k < W.heap.size := fun k hk => I.a.lt hk
 have hself : (σ'.set i (some u))[i]? = some (some u) := by rw [List.getElem?_set_self hil]
 have hother : ∀ j, j ≠ i → (σ'.set i (some u))[j]? = σ'[j]? := fun j hj => List.getElem?_set_ne (Ne.symm hj)
 refine ⟨fun k => G k ∨ ∃ x, (u.v x).ownBlock = some k, fun k hk => ?_, hM.mono fun k hk => .inl (I.foot k hk), σ'.set i (some u), hA, by simpa using I.len, fun j hj => ?_, fun j c hj hx => ?_, fun j c hj => ?_, ?_, fun k hk => .inl (I.foot k hk), I.mod.trans hM fun k hk => .inl hk, fun k hk => ?_⟩
 ·rcases hk with hk | ⟨x, hk⟩
  ·exact ⟨.inl hk, Nat.lt_of_lt_of_le (I.g k hk).2 hM.size⟩
  ·exact ⟨.inr (hu x k hk), hn.lt hk⟩
 ·rw [hother j (fun e => by subst e; rw [hb] at hj; cases hj)]
  exact I.gone j hj
 ·rw [hother j (fun e => hx b (by subst e; simp))]
  exact I.old j c hj fun x hx2 => hx x (by simp [hx2])
 ·rcases List.mem_append.1 hj with hj | hj
  ·have hji : j ≠ i := fun e => hi c (by rw [← e]; exact hj)
   obtain ⟨b', l', ks', h1, h2, h3, h4⟩ := I.new j c hj
   refine ⟨b', l', ks', by rw [hother j hji]; exact h1, h2, h3.keep fun x k e => hM.block k (h3.lt e) (h4 x k e).2.1, fun x k e => ⟨.inl (h4 x k e).1, (h4 x k e).2⟩⟩
  ·simp at hj
   obtain ⟨rfl, rfl⟩ := hj
   refine ⟨u, l, ks, hself, hS, hn, fun x k e => ⟨.inr ⟨x, e⟩, fun h => ?_, Nat.le_trans I.mod.size (hu x k e)⟩⟩
   have := hF k h
   have := hu x k e
   omega
 ·intro p q c c' b1 b2 x y k hp hq h1 h2 h3 h4
  have hold : ∀ j c, (j, c) ∈ pre → ∀ b1, (σ'.set i (some u))[j]? = some (some b1) → ∀ x k, (b1.v x).ownBlock = some k → j ≠ i ∧ σ'[j]? = some (some b1) ∧ k < W.heap.size := fun j c hj b1 h1 x k e => by
   have hji : j ≠ i := fun e => hi c (by rw [← e]; exact hj)
   rw [hother j hji] at h1
   obtain ⟨b', l', ks', g1, g2, g3, g4⟩ := I.new j c hj
   rw [h1] at g1; cases g1
   exact ⟨hji, h1, g3.lt e⟩
  rcases List.mem_append.1 hp with hp1 | hp1 <;> rcases List.mem_append.1 hq with hq1 | hq1
  ·obtain ⟨a1, a2, a3⟩ := hold p c hp1 b1 h1 x k h3
   obtain ⟨c1, c2, c3⟩ := hold q c' hq1 b2 h2 y k h4
   exact I.apart p q c c' b1 b2 x y k hp1 hq1 a2 c2 h3 h4
  ·simp at hq1
   obtain ⟨rfl, rfl⟩ := hq1
   rw [hself] at h2; cases h2
   obtain ⟨a1, a2, a3⟩ := hold p c hp1 b1 h1 x k h3
   have := hu y k h4
   omega
  ·simp at hp1
   obtain ⟨rfl, rfl⟩ := hp1
   rw [hself] at h1; cases h1
   obtain ⟨a1, a2, a3⟩ := hold q c' hq1 b2 h2 y k h4
   have := hu x k h3
   omega
  ·simp at hp1 hq1
   obtain ⟨rfl, rfl⟩ := hp1
   obtain ⟨rfl, rfl⟩ := hq1
   rw [hself] at h1 h2; cases h1; cases h2
   exact ⟨rfl, hn.ne h3 h4⟩
 ·rcases hk with hk | ⟨x, hk⟩
  ·exact ⟨(I.g k hk).1, Nat.lt_of_lt_of_le (I.g k hk).2 hM.size⟩
  ·exact ⟨.inr (Nat.le_trans I.mod.size (hu x k hk)), hn.lt hk⟩
theorem itemsB_mem {α : Type} : ∀ (l : List (Option α)) (b i : Nat) (v : α), (i, v) ∈ itemsB b l → b ≤ i ∧ l[i - b]? = some (some v)
 | [], b, i, v, h => by simp [itemsB] at h
 | Option.none :: l, b, i, v, h => by
  obtain ⟨h1, h2⟩ := itemsB_mem l (b + 1) i v h
  exact ⟨by omega, by rw [show i - b = (i - (b + 1)) + 1 by omega]; simpa using h2⟩
 | Option.some x :: l, b, i, v, h => by
  rcases List.mem_cons.1 h with h | h
  ·cases h; exact ⟨Nat.le_refl _, by simp⟩
  ·obtain ⟨h1, h2⟩ := itemsB_mem l (b + 1) i v h
   exact ⟨by omega, by rw [show i - b = (i - (b + 1)) + 1 by omega]; simpa using h2⟩
theorem itemsB_all {α : Type} : ∀ (l : List (Option α)) (b i : Nat) (v : α), l[i]? = some (some v) → (b + i, v) ∈ itemsB b l
 | [], b, i, v, h => by simp at h
 | Option.none :: l, b, 0, v, h => by simp at h
 | Option.none :: l, b, i + 1, v, h => by
  have := itemsB_all l (b + 1) i v (by simpa using h)
  rw [show b + (i + 1) = b + 1 + i by omega]; exact this
 | Option.some x :: l, b, 0, v, h => by
  simp at h; subst h; simp [itemsB]
 | Option.some x :: l, b, i + 1, v, h => by
  have := itemsB_all l (b + 1) i v (by simpa using h)
  rw [show b + (i + 1) = b + 1 + i by omega]
  exact List.mem_cons_of_mem _ this
theorem itemsB_sorted {α : Type} : ∀ (l : List (Option α)) (b : Nat), (itemsB b l).Pairwise (fun x y => x.1 < y.1)
 | [], b => by simp [itemsB]
 | Option.none :: l, b => itemsB_sorted l (b + 1)
 | Option.some x :: l, b => by
  refine List.pairwise_cons.2 ⟨fun y hy => ?_, itemsB_sorted l (b + 1)⟩
  have := (itemsB_mem l (b + 1) y.1 y.2 hy).1
  show b < y.1
  omega
attribute [local go_sem] Oper.semAt_some
set_option maxHeartbeats 4000000 in
set_option maxRecDepth 100000 in
theorem copyBZ (h : MemB w tb ab lv fv σ free root deg room many S) (hS : ∀ i l ks, S i = some (l, ks) → l.length ≤ 65536 ∧ ks.length ≤ 65536) : Calls Tryz.prog 52 #[.pointer (some ⟨tb, 0, none⟩)] w fun e w' => ∃ nt nb lv' fv' σ', e = .returned (.pointer (some ⟨nt, 0, none⟩)) ∧
  MemB w' nt nb lv' fv' σ' free root deg room many S ∧ (∀ k, FootB nt nb lv' fv' σ' k → w.heap.size ≤ k) ∧ Mod (fun _ => False) w w' := by
 obtain ⟨c0, f0⟩ := blkc h.t
 obtain ⟨w0, W0, g0, k0, x0, X0, M0⟩ : ∃ w0 W, w.alloc (.cells #[.pointer none, .int .i64 0, .int .i64 0, .int .i64 0, .int .i64 0] 111) = w0 ∧
   ((((w0.setCell ⟨w.heap.size, 0, none⟩ (.pointer (some ⟨ab, 0, none⟩))).setCell ⟨w.heap.size, 1, none⟩ (.int .i64 root)).setCell ⟨w.heap.size, 2, none⟩ (.int .i64 deg)).setCell ⟨w.heap.size, 3, none⟩ (.int .i64 room)).setCell ⟨w.heap.size, 4, none⟩ (.int .i64 many) = W ∧
   w0.heap[w.heap.size]? = some (.cells #[.pointer none, .int .i64 0, .int .i64 0, .int .i64 0, .int .i64 0] 111 (0, 0)) ∧
   W.heap[w.heap.size]? = some (.cells #[.pointer (some ⟨ab, 0, none⟩), .int .i64 root, .int .i64 deg, .int .i64 room, .int .i64 many] 111 (0, 0)) ∧ Mod (fun _ => False) w W :=
  ⟨_, _, rfl, rfl, alloc_0 _ _, setL_whole (cs := [.pointer none, .int .i64 0, .int .i64 0, .int .i64 0, .int .i64 0]) (us := [.pointer (some ⟨ab, 0, none⟩), .int .i64 root, .int .i64 deg, .int .i64 room, .int .i64 many]) (alloc_0 _ _) rfl,
   (((((((Mod.refl _ _).alloc _).setCell (.inr (Nat.le_refl _)) _).setCell (.inr (Nat.le_refl _)) _).setCell (.inr (Nat.le_refl _)) _).setCell (.inr (Nat.le_refl _)) _).setCell (.inr (Nat.le_refl _)) _)⟩
 obtain ⟨d0, e0⟩ := blkc x0
 have h1 := h.mod0 M0
 obtain ⟨c1, f1⟩ := blkc h1.t
 obtain ⟨c2, f2⟩ := blkc X0
 have PC := copyB h1.a
 have hFW : ∀ j, FootB tb ab lv fv σ j → j < w.heap.size := fun k hk => h.lt hk
 have hsz0 := M0.size
 have hlt0 := blkl X0
 refine calls_of_wp_marks Tryz.func52 rfl ?_
 simp only [Tryz.ntmps52, List.size_toArray, List.length_cons, List.length_nil, Nat.reduceAdd, Nat.reduceSub, Array.replicate_succ, Array.replicate_zero, List.push_toArray, List.append_toArray, List.nil_append, List.cons_append]
 replace hsz0 := hid hsz0
 go_wp2_with fail
 refine PC.mono ?_
 rintro e w2 ⟨nb, lv', fv', rfl, A2, hN2, M2⟩
 clear PC d0 e0 g0 k0 c0 f0
 replace X0 := M2.heap X0 fun h => h
 obtain ⟨c3, f3⟩ := blkc X0
 obtain ⟨nt, hnt⟩ : ∃ nt, w.heap.size = nt := ⟨_, rfl⟩
 rw [hnt] at X0 c3 f3 c2 f2 hlt0 hFW ⊢
 have hntb : tb < nt := hFW tb (.inl rfl)
 have hN2' : ∀ k, Foot nb lv' fv' k → nt < k := fun k hk => by have := hN2 k hk; omega
 have hzz := hsz0.out
 rw [hnt] at hzz
 obtain ⟨W3, hW3, X3, M3⟩ : ∃ W3, w2.setCell ⟨nt, 0, none⟩ (.pointer (some ⟨nb, 0, none⟩)) = W3 ∧ W3.heap[nt]? = some (.cells #[.pointer (some ⟨nb, 0, none⟩), .int .i64 root, .int .i64 deg, .int .i64 room, .int .i64 many] 111 (0, 0)) ∧ Mod (fun j => j = nt) w2 W3 :=
  ⟨_, rfl, by simpa using heap_setCell_same w2 nt 0 _ 111 (.pointer (some ⟨nb, 0, none⟩)) X0, Mod.setCell (S := fun j => j = nt) (p := ⟨nt, 0, none⟩) (Mod.refl _ _) (.inl rfl) _⟩
 have h3 : MemB W3 tb ab lv fv σ free root deg room many S := (h1.mod0 M2).mod M3 fun k hk e => by have := hFW k hk; have e : k = nt := e; omega
 have A3 := A2.mod M3 fun k hk e => by have := hN2' k hk; have e : k = nt := e; omega
 obtain ⟨c4, f4⟩ := blkc h3.t
 have HE := eachB W3 ab
 have hs2 := blkl X0
 have hs3 : w2.heap.size ≤ W3.heap.size := M3.size
 replace hs3 := hid hs3
 replace hzz := hid hzz
 replace hN2 := hid hN2
 replace hN2' := hid hN2'
 replace hFW := hid hFW
 go_wp2_with fail
 refine HE.mono ?_
 rintro e w4 ⟨rfl, hw4⟩
 have k4 : w4.heap[W3.heap.size]? = some (.cells #[.pointer (some ⟨ab, 0, none⟩)] 109 (0, 0)) := by rw [hw4]; exact alloc_0 _ _
 have M4 : Mod (fun _ => False) W3 w4 := by rw [hw4]; exact (Mod.refl _ _).alloc _
 have hz4 : w4.heap.size = W3.heap.size + 1 := by rw [hw4]; simp
 clear hw4 HE c1 f1 c2 f2 c3 f3 c4 f4 hW3
 have h4 := h3.mod0 M4
 have A4 := A3.mod M4 fun _ _ h => h
 have X4 := M4.heap X3 fun h => h
 have hNlt : ∀ k, Foot nb lv' fv' k → k < W3.heap.size := fun k hk => A3.lt hk
 have hFW2 : ∀ k, FootB tb ab lv fv σ k → k < W3.heap.size := fun k hk => h3.lt hk
 have hFN : ∀ k, FootB tb ab lv fv σ k → ¬ Foot nb lv' fv' k := fun k hk hf => by have := hFW.out k hk; have := hN2'.out k hf; omega
 have h00 : CpJ w4 nt nb lv' fv' σ free room S [] (Foot nb lv' fv') w4 := ⟨σ, A4, rfl, fun i hi => hi, fun i b hb _ => hb, fun i b hp => by simp at hp, fun i j c c' b b' x y k hp => by simp at hp, fun k hk => hk, Mod.refl _ _, fun k hk => ⟨.inl hk, A4.lt hk⟩⟩
 go_wp2_with fail
 refine wp_range1G (gf := 79) (lb := #[.pointer (some ⟨W3.heap.size, 0, none⟩)]) rfl (enters_of Tryz.func79 (by kernel_rfl) rfl) (eachB_iter h4.a k4) (fun _ => rfl)
  (Foot nb lv' fv') (fun j hj => by have := hNlt j hj; omega) (fun j hj hf => by rcases hj with hj | hj; (have := hNlt j hf; omega); exact hFN j (.inr (.inl hj)) hf) (fun j hj => by rcases hj with hj | hj; omega; have := hFW2 j (.inr (.inl hj)); omega)
  (CpJ w4 nt nb lv' fv' σ free room S) (fun c pre G W => False) (CpJ.stab _ _ _ _ _ _ _ _ _) (fun c s G W W' T h m t => h.elim)
  (fun pre G W ⟨σ', I⟩ => ⟨I.mod.size, fun k hk => (I.g k hk).2⟩) h00
  (fun x => #[.slice x.2.la x.2.ln x.2.lc, .slice x.2.ka x.2.kn x.2.kc]) 115 ?body ?done ?stop
 case stop => exact fun c pre G W _ h => h.elim
 case done =>
  rintro G W ⟨σ', I⟩ hne hk
  have hmem : ∀ (i : Nat) (b : Bn), σ[i]? = some (some b) → (i, b) ∈ itemsB 0 σ := fun i b hb => by
   have := itemsB_all σ 0 i b hb
   simpa using this
  have hold : ∀ (i : Nat) (b' : Bn), σ'[i]? = some (some b') → ∃ b, (i, b) ∈ itemsB 0 σ := fun i b' hb' => by
   have hl : i < σ.length := by rw [← I.len]; exact (List.getElem?_eq_some_iff.1 hb').1
   cases hc : σ[i] with
   | none =>
    have := I.gone i (by rw [List.getElem?_eq_getElem hl, hc])
    rw [this] at hb'; cases hb'
   | some b => exact ⟨b, hmem i b (by rw [List.getElem?_eq_getElem hl, hc])⟩
  have XW := I.mod.heap X4 fun hf => by have := hN2'.out nt hf; omega
  have hnew : ∀ (i : Nat) (b' : Bn), σ'[i]? = some (some b') → ∃ l ks, S i = some (l, ks) ∧ NodeB W b' l ks ∧ ∀ x k, (b'.v x).ownBlock = some k → G k ∧ ¬ Foot nb lv' fv' k ∧ w4.heap.size ≤ k := fun i b' hb' => by
   obtain ⟨b, hb⟩ := hold i b' hb'
   obtain ⟨b2, l, ks, g1, g2, g3, g4⟩ := I.new i b hb
   rw [hb'] at g1; cases g1
   exact ⟨l, ks, g2, g3, g4⟩
  have hMW : MemB W nt nb lv' fv' σ' free root deg room many S := by
   refine ⟨XW, I.a, fun i hi => h4.gone i fun b hb => ?_, fun i b' hb' => ?_, fun i j b b' x y k hi hj e1 e2 => ?_, fun i b' x k hb' e => ?_, fun hf => ?_⟩
   ·obtain ⟨b', l, ks, g1, _⟩ := I.new i b (hmem i b hb)
    exact hi b' g1
   ·obtain ⟨l, ks, g1, g2, _⟩ := hnew i b' hb'
    exact ⟨l, ks, g1, g2⟩
   ·obtain ⟨c, hc⟩ := hold i b hi
    obtain ⟨c', hc'⟩ := hold j b' hj
    exact I.apart i j c c' b b' x y k hc hc' hi hj e1 e2
   ·obtain ⟨l, ks, _, _, g3⟩ := hnew i b' hb'
    obtain ⟨_, g4, g5⟩ := g3 x k e
    have := hs3.out
    exact ⟨by omega, g4⟩
   ·have := hN2'.out nt hf; omega
  have hFB : ∀ k, FootB nt nb lv' fv' σ' k → nt ≤ k ∧ k ≠ w4.heap.size := fun k hkf => by
   have := hs3.out
   rcases hkf with rfl | hkf | ⟨i, b', x, h1, h2⟩
   ·exact ⟨Nat.le_refl _, by omega⟩
   ·exact ⟨by have := hN2'.out k hkf; omega, (hne k (I.foot k hkf)).1⟩
   ·obtain ⟨l, ks, _, _, g3⟩ := hnew i b' h1
    obtain ⟨g4, _, g5⟩ := g3 x k h2
    exact ⟨by omega, (hne k g4).1⟩
  have hMod : Mod (fun _ => False) w W := (((((M0.trans' M2).trans M3 fun k hk => .inr (by have e : k = nt := hk; omega)).trans' M4).trans I.mod fun k hk => .inr (by have := hN2'.out k hk; omega)))
  have hs3' := hs3.out
  clear I hnew hold hmem XW hne
  replace hFB := hid hFB
  go_wp2_with fail
  refine retM1 (D := w4.heap.size) hk rfl (results_tmp rfl _ _ _) ⟨nt, nb, lv', fv', σ', rfl, hMW.mod (mod_put1 _ _ _) fun k hkf e => (hFB.out k hkf).2 e, fun k hkf => by have := (hFB.out k hkf).1; omega, mod_putObj hMod (.inr (by omega)) _⟩
 case body =>
  apply Exists.intro
  constructor
  ·intro yl x W KK hKK
   simp [encBV]
   gi_wp2_with fail
   generalize W.heap.size = b at hKK ⊢
   exact hKK
  ·intro yl pre x rest bb G W hx hbb hGb hbz hI hne
   obtain ⟨i, b⟩ := x
   obtain ⟨σ', I⟩ := hI
   have hbσ : σ[i]? = some (some b) := by
    have := (itemsB_mem σ 0 i b (by rw [hx]; simp)).2
    simpa using this
   have hinew : ∀ x, (i, x) ∉ pre := fun x hxp => by
    have hs := itemsB_sorted σ 0
    rw [hx] at hs
    have := (List.pairwise_append.1 hs).2.2 (i, x) hxp (i, b) (by simp)
    simp at this
   have MW : MemB W tb ab lv fv σ free root deg room many S := h4.mod I.mod fun k hk => hFN k hk
   obtain ⟨l, ks, hSi, hn⟩ := MW.node i b hbσ
   have hbd := hS i l ks hSi
   have XW := I.mod.heap X4 fun hf => by have := hN2'.out nt hf; omega
   have hp := I.old i b hbσ hinew
   have fin : ∀ u W3, ArB W3 nb lv' fv' (2 * room + 4) (σ'.set i (some u)) free → NodeB W3 u l ks → (∀ x k, (u.v x).ownBlock = some k → W.heap.size ≤ k) → Mod (Foot nb lv' fv') W W3 → roundEnd (CpJ w4 nt nb lv' fv' σ free room S) (fun c pre G W => False) (pre ++ [(i, b)]) G W .normal { tmps := #[], defers := [] } W3 := fun u W3 a1 a2 a3 a4 => I.step hbσ hinew hSi a1 a2 a3 a4
   replace fin := hid fin
   have IA := I.a
   have hIF : ∀ k, Foot nb lv' fv' k → k < W.heap.size := fun k hk => I.a.lt hk
   clear I hx hne
   gi_wp2_with fail
   refine as_region 10 33 (fun j v W' => match j with
    | 0 => v = .pointer (some ⟨nt, 0, none⟩)
    | 1 => v = .pointer (some ⟨nb, 0, none⟩)
    | 2 => v = .int .i64 (i : Int)
    | 3 => v = .pointer (some ⟨bb, 0, none⟩)
    | 4 => v = .slice b.la b.ln b.lc
    | 5 => ∃ A c, v = .slice A l.length c ∧ W'.ownsRow 0 38 5 v l.length (l.flatMap encS) ∧ ∀ k, v.ownBlock = some k → W.heap.size ≤ k
    | 6 => v = .pointer (some ⟨bb, 1, none⟩)
    | 7 => v = .slice b.ka b.kn b.kc
    | 8 => ∃ A c, v = .slice A ks.length c ∧ W'.ownsRow 0 3 1 v ks.length (numsV ks) ∧ ∀ k, v.ownBlock = some k → W.heap.size ≤ k
    | 9 => ∃ u : Bn, v = .agg (encBn u).toArray ∧ NodeB W' u l ks ∧ ∀ x k, (u.v x).ownBlock = some k → W.heap.size ≤ k
    | _ => True) _ (by kernel_rfl) (by kernel_rfl) rfl rfl rfl ?_ ?_ ?_
   ·intro j v W1 W2 hv M
    match j, hv with
    | 0, hv => exact hv
    | 1, hv => exact hv
    | 2, hv => exact hv
    | 3, hv => exact hv
    | 4, hv => exact hv
    | 5, ⟨A, c, h1, h2, h3⟩ => exact ⟨A, c, h1, own_mod h2 M fun _ _ h => h, h3⟩
    | 6, hv => exact hv
    | 7, hv => exact hv
    | 8, ⟨A, c, h1, h2, h3⟩ => exact ⟨A, c, h1, own_mod h2 M fun _ _ h => h, h3⟩
    | 9, ⟨u, h1, h2, h3⟩ => exact ⟨u, h1, h2.keep fun x k e => M.block k (h2.lt e) fun h => h, h3⟩
    | (_ + 10), hv => exact trivial
   ·intro j o hj ho a' W1 hC hout hdep K hK
    have e3 : a'.eval (.tmp 3) = .pointer (some ⟨nt, 0, none⟩) := hout 3 (by kernel_rfl)
    have e4 : a'.eval (.tmp 4) = .int .i64 (i : Int) := hout 4 (by kernel_rfl)
    have e5 : a'.eval (.tmp 5) = .pointer (some ⟨bb, 0, none⟩) := hout 5 (by kernel_rfl)
    clear hout
    obtain ⟨q1, q2⟩ := blkc (hC.heap XW fun h => h)
    obtain ⟨q3, q4⟩ := blkc (hC.heap hbb fun h => h)
    rcases (by omega : j = 0 ∨ j = 1 ∨ j = 2 ∨ j = 3 ∨ j = 4 ∨ j = 5 ∨ j = 6 ∨ j = 7 ∨ j = 8 ∨ j = 9) with rfl | rfl | rfl | rfl | rfl | rfl | rfl | rfl | rfl | rfl
    ·simp at ho; subst ho
     refine as_val (.pointer (some ⟨nt, 0, none⟩)) (fun c e => by cases e) ?_ (hK _ _ (Mod.refl _ _) rfl)
     simp only [execOp, e3]
     go_simp
    ·simp at ho; subst ho
     have d0 : a'.eval (.tmp 22) = .pointer (some ⟨nt, 0, none⟩) := hdep 0 22 (by decide) (by kernel_rfl) (by kernel_rfl)
     refine as_val (.pointer (some ⟨nb, 0, none⟩)) (fun c e => by cases e) ?_ (hK _ _ (Mod.refl _ _) rfl)
     simp only [execOp, d0]
     go_simp
    ·simp at ho; subst ho
     refine as_val (.int .i64 (i : Int)) (fun c e => by cases e) ?_ (hK _ _ (Mod.refl _ _) rfl)
     simp only [execOp, e4]
     go_simp
    ·simp at ho; subst ho
     refine as_val (.pointer (some ⟨bb, 0, none⟩)) (fun c e => by cases e) ?_ (hK _ _ (Mod.refl _ _) rfl)
     simp only [execOp, e5]
     go_simp
    ·simp at ho; subst ho
     have d0 : a'.eval (.tmp 25) = .pointer (some ⟨bb, 0, none⟩) := hdep 3 25 (by decide) (by kernel_rfl) (by kernel_rfl)
     refine as_val (.slice b.la b.ln b.lc) (fun c e => by cases e) ?_ (hK _ _ (Mod.refl _ _) rfl)
     simp only [execOp, d0]
     go_simp
    ·simp at ho; subst ho
     have d0 : a'.eval (.tmp 26) = .slice b.la b.ln b.lc := hdep 4 26 (by decide) (by kernel_rfl) (by kernel_rfl)
     have n0 : a'.tmps[26]?.getD undef = .slice b.la b.ln b.lc := by have := d0; unfold Act.eval at this; simpa using this
     refine as_call 67 #[.slice b.la b.ln b.lc] (fun c e => by cases e) ?_ ((cloneSB (own_mod hn.1 hC fun _ _ h => h) one_seg' hbd.1).mono ?_)
     ·simp only [execOp]
      go_simp
     ·rintro e W2 ⟨A, c, rfl, hown, hm, hfr⟩
      exact ⟨_, rfl, hK _ _ hm ⟨A, c, rfl, hown, fun k hk => Nat.le_trans hC.size (hfr k hk)⟩⟩
    ·simp at ho; subst ho
     refine as_val (.pointer (some ⟨bb, 1, none⟩)) (fun c e => by cases e) ?_ (hK _ _ (Mod.refl _ _) rfl)
     simp only [execOp, e5]
     go_simp
    ·simp at ho; subst ho
     have d0 : a'.eval (.tmp 28) = .pointer (some ⟨bb, 1, none⟩) := hdep 6 28 (by decide) (by kernel_rfl) (by kernel_rfl)
     refine as_val (.slice b.ka b.kn b.kc) (fun c e => by cases e) ?_ (hK _ _ (Mod.refl _ _) rfl)
     simp only [execOp, d0]
     go_simp
    ·simp at ho; subst ho
     have d0 : a'.eval (.tmp 29) = .slice b.ka b.kn b.kc := hdep 7 29 (by decide) (by kernel_rfl) (by kernel_rfl)
     have n0 : a'.tmps[29]?.getD undef = .slice b.ka b.kn b.kc := by have := d0; unfold Act.eval at this; simpa using this
     refine as_call 68 #[.slice b.ka b.kn b.kc] (fun c e => by cases e) ?_ ((cloneIB (own_mod hn.2 hC fun _ _ h => h) (fun u hu => by obtain ⟨p, _, rfl⟩ := List.mem_map.1 hu; rfl) hbd.2).mono ?_)
     ·simp only [execOp]
      go_simp
     ·rintro e W2 ⟨A, c, rfl, hown, hm, hfr⟩
      exact ⟨_, rfl, hK _ _ hm ⟨A, c, rfl, hown, fun k hk => Nat.le_trans hC.size (hfr k hk)⟩⟩
    ·simp at ho; subst ho
     obtain ⟨A, c, d0, hown, hfr⟩ := hdep 5 27 (by decide) (by kernel_rfl) (by kernel_rfl)
     obtain ⟨A', c', d1, hown', hfr'⟩ := hdep 8 30 (by decide) (by kernel_rfl) (by kernel_rfl)
     replace d0 : a'.eval (.tmp 27) = .slice A l.length c := d0
     replace d1 : a'.eval (.tmp 30) = .slice A' ks.length c' := d1
     have d0' : a'.tmps.getD 27 undef = .slice A l.length c := d0
     have d1' : a'.tmps.getD 30 undef = .slice A' ks.length c' := d1
     rw [d0'] at hown hfr
     rw [d1'] at hown' hfr'
     refine as_val (.agg (encBn { la := A, ln := l.length, lc := c, ka := A', kn := ks.length, kc := c' }).toArray) (fun c e => by cases e) ?_ (hK _ _ (Mod.refl _ _) ⟨{ la := A, ln := l.length, lc := c, ka := A', kn := ks.length, kc := c' }, rfl, ⟨hown, hown'⟩, fun x k e => by cases x; exact hfr k e; exact hfr' k e⟩)
     have n0 : a'.tmps[27]?.getD undef = .slice A l.length c := by simpa using d0'
     have n1 : a'.tmps[30]?.getD undef = .slice A' ks.length c' := by simpa using d1'
     simp only [execOp, encBn]
     go_simp
   ·intro a' W1 hC hout hval
    have d1 : a'.eval (.tmp 23) = .pointer (some ⟨nb, 0, none⟩) := hval 1 23 (by decide) (by kernel_rfl)
    have d2 : a'.eval (.tmp 24) = .int .i64 (i : Int) := hval 2 24 (by decide) (by kernel_rfl)
    obtain ⟨u, d3, hu, hfr⟩ := hval 9 31 (by decide) (by kernel_rfl)
    replace d3 : a'.eval (.tmp 31) = .agg (encBn u).toArray := d3
    refine as_call 66 #[.pointer (some ⟨nb, 0, none⟩), .int .i64 (i : Int), .agg (encBn u).toArray] (fun c e => by cases e) ?_ ((setA (IA.mod hC fun _ _ h => h) hp u).mono ?_)
    ·have n1 : a'.tmps[23]?.getD undef = .pointer (some ⟨nb, 0, none⟩) := by have := d1; unfold Act.eval at this; simpa using this
     have n2 : a'.tmps[24]?.getD undef = .int .i64 (i : Int) := by have := d2; unfold Act.eval at this; simpa using this
     have n3 : a'.tmps[31]?.getD undef = .agg (encBn u).toArray := by have := d3; unfold Act.eval at this; simpa using this
     simp only [execOp]
     go_simp
    ·rintro e W2 ⟨rfl, hA2, hM2⟩
     exact ⟨_, rfl, fin.out u W2 hA2 (hu.keep fun x k e => hM2.block k (hu.lt e) fun hf => by have := hIF k hf; have := hfr x k e; omega) hfr ((hC.mono fun _ h => h.elim).trans' hM2)⟩
end
open Go Go.RowKit
section
variable {w w' : World} {v : Value} {mb tb d : Nat} {room : Int} {l : List Sg} {X Y R : Nat → Prop}
theorem rb_copy' (h : RB X w tb room l) : Calls Tryz.prog 53 #[.pointer (some ⟨tb, 0, none⟩)] w fun e w' => ∃ nt, e = .returned (.pointer (some ⟨nt, 0, none⟩)) ∧ RB (fun k => w.heap.size ≤ k) w' nt room l ∧ Mod (fun _ => False) w w' := by
 obtain ⟨ab, N, lv, fv, free, t, h1, h2, h3, rfl, h5⟩ := h
 refine (copyTZ h1).mono ?_
 rintro e w' ⟨nt, nb, lv', fv', rfl, T1, T2, M⟩
 exact ⟨nt, rfl, ⟨nb, N, lv', fv', free, t, T1, h2, h3, rfl, T2⟩, M⟩
theorem bb_copy' (h : BB X w tb d room l) : Calls Tryz.prog 52 #[.pointer (some ⟨tb, 0, none⟩)] w fun e w' => ∃ nt, e = .returned (.pointer (some ⟨nt, 0, none⟩)) ∧ BB (fun k => w.heap.size ≤ k) w' nt d room l ∧ Mod (fun _ => False) w w' := by
 obtain ⟨ab, lv, fv, σ, free, root, S, h1, h2, h3, h4, h5, h6, h7⟩ := h
 have hS : ∀ i l ks, S i = some (l, ks) → l.length ≤ 65536 ∧ ks.length ≤ 65536 := fun i l ks hi => by
  rcases h2 with ⟨_, _, hn⟩ | ⟨r, hh, F, _, hs, _, hF⟩
  ·rw [hn i] at hi; cases hi
  ·have := hs.bound (by omega) i ((hF i).2 (by rw [hi]; simp)) l ks hi
   omega
 refine (copyBZ h1 hS).mono ?_
 rintro e w' ⟨nt, nb, lv', fv', σ', rfl, m1, m2, m3⟩
 exact ⟨nt, rfl, ⟨nb, lv', fv', σ', free, root, S, m1, h2, h3, h4, h5, h6, m2⟩, m3⟩
set_option maxRecDepth 100000 in
theorem om_copy (h : OM X w mb d room l) : Calls Tryz.prog 33 #[.pointer (some ⟨mb, 0, none⟩)] w fun e w' => ∃ nb, e = .returned (.pointer (some ⟨nb, 0, none⟩)) ∧ OM (fun k => w.heap.size ≤ k) w' nb d room l ∧ Mod (fun _ => False) w w' := by
 obtain ⟨v, hb, hX, tb, ⟨rfl, rfl, h3, h4⟩ | ⟨rfl, h2⟩⟩ := h
 ·obtain ⟨c0, f0⟩ := blkc hb
  have P := rb_copy' h4
  clear h4
  have ta1 := ta_RB
  have ta2 := ta_BB
  have ta3 := ta_RR
  go_enter Tryz.func33, Tryz.ntmps33
  go_wp2_with fail
  refine P.mono ?_
  rintro e w1 ⟨nt, rfl, R1, M1⟩
  have T1 : TT (fun k => w.heap.size ≤ k) w1 (.iface 93 (.pointer (some ⟨nt, 0, none⟩))) 0 room l := ⟨nt, .inl ⟨rfl, rfl, h3, R1⟩⟩
  go_wp2_with fail
  go_ret
  exact ⟨_, rfl, T1.boxed M1⟩
 ·obtain ⟨c0, f0⟩ := blkc hb
  have P := bb_copy' h2
  clear h2
  have ta1 := ta_RB
  have ta2 := ta_BB
  have ta3 := ta_RR
  go_enter Tryz.func33, Tryz.ntmps33
  go_wp2_with fail
  refine P.mono ?_
  rintro e w1 ⟨nt, rfl, R1, M1⟩
  have T1 : TT (fun k => w.heap.size ≤ k) w1 (.iface 91 (.pointer (some ⟨nt, 0, none⟩))) d room l := ⟨nt, .inr ⟨rfl, R1⟩⟩
  go_wp2_with fail
  go_ret
  exact ⟨_, rfl, T1.boxed M1⟩
end
end Go.Proofs.Bo
