import Derived.Test.YtgehgjaglgafdaaGreatG18
import Derived.Test.YtgehgjaglgafdaaGreatG01
import Derived.Deep.RegionLaw
import Derived.Test.YtgehgjaglgafdaaGreatProg
import Derived.Test.YtgehgjaglgafdaaGreatG04
import Derived.Test.YtgehgjaglgafdaaGreatG16
set_option linter.unusedVariables false
set_option linter.unusedSimpArgs false
namespace Go.Proofs.Bo
open Go Go.RowKit
abbrev ArB (w : World) (ab : Nat) (lv fv : Value) (room : Int) (l : List (Option Bn)) (free : List Int) : Prop := Ar encBn zBn 141 144 3 w ab lv fv room l free
theorem infoPB : (Tryz.prog.info? 144).map (fun i => (i.zero, i.size, i.bytes)) = some (some (.agg #[.slice none 0 0, .slice none 0 0, .bool false]), 3, 56) := by kernel_rfl
theorem infoIB : (Tryz.prog.info? 3).map (fun i => (i.zero, i.size, i.bytes)) = some (some (.int .i64 0), 1, 8) := by kernel_rfl
section
variable {w : World} {ab : Nat} {lv fv : Value} {room : Int} {l : List (Option Bn)} {free : List Int}
set_option maxHeartbeats 400000 in
theorem lenB (h : ArB w ab lv fv room l free) :
  Calls Tryz.prog 117 #[.pointer (some ⟨ab, 0, none⟩)] w fun e w' => e = .returned (.int .i64 ((l.length : Int) - free.length)) ∧ ∃ n, w' = w.drewN n := by
 obtain ⟨A, c, rfl, _, _, _⟩ := own_slice h.row
 obtain ⟨A', c', rfl, _, _, _⟩ := own_slice h.fre
 have h1 := h.c1
 have h2 := h.c2
 obtain ⟨b1, b2⟩ := h.flen
 clear h
 go_enter Tryz.func117, Tryz.ntmps117
 go_wp2
 go_quiet (fail)
 go_wp2
 go_ret
 exact ⟨rfl, _, rfl⟩
set_option maxHeartbeats 400000 in
theorem atB_in {lb n c k : Nat} (h : ArB w ab (.slice (some ⟨lb, 0, none⟩) n c) fv room l free) (p : Option Bn) (hp : l[k]? = some p) :
  Calls Tryz.prog 80 #[.pointer (some ⟨ab, 0, none⟩), .int .i64 k] w fun e w' => e = .returned (.pointer (if p.isSome then some ⟨lb, k * 3, none⟩ else none)) ∧ w' = w := by
 have h1 := h.c1
 obtain ⟨b1, b2⟩ := h.flen
 have hk := (List.getElem?_eq_some_iff.1 hp).1
 have hn : n = l.length := by obtain ⟨_, _, e, _⟩ := own_slice h.row; cases e; rfl
 subst hn
 have hc := (h.cell (i := k) (p := p) hp (j := 2) (u := .bool p.isSome) (by cases p <;> rfl)).1
 simp only [zBn, List.length_cons, List.length_nil, Nat.zero_add, Nat.reduceAdd] at hc
 cases p <;> (
 clear h
 go_enter Tryz.func80, Tryz.ntmps80
 go_wp2
 go_ret
 exact ⟨rfl, rfl⟩)
theorem boxB (w : World) (v : Bn) : ∃ w0, w.alloc (.cells #[.slice v.la v.ln v.lc, .slice v.ka v.kn v.kc] 115) = w0 ∧
  w0.heap[w.heap.size]? = some (.cells #[.slice v.la v.ln v.lc, .slice v.ka v.kn v.kc] 115 (0, 0)) ∧ Mod (fun _ => False) w w0 ∧ w0.heap.size = w.heap.size + 1 :=
 ⟨_, rfl, alloc_0 _ _, (Mod.refl _ _).alloc _, by simp⟩
set_option maxHeartbeats 1000000 in
theorem putB_new (h : ArB w ab lv fv room l []) (v : Bn) (hr : (l.length : Int) < room) :
  Calls Tryz.prog 134 #[.pointer (some ⟨ab, 0, none⟩), .agg (encBn v).toArray] w fun e w' => e = .returned (.tuple #[.int .i64 l.length, .int .i64 0]) ∧
   ∃ lv', ArB w' ab lv' fv room (l ++ [some v]) [] ∧ Mod (Foot ab lv fv) w w' ∧ (∀ k, Foot ab lv' fv k → Foot ab lv fv k ∨ w.heap.size ≤ k) := by
 obtain ⟨w0, hw0, b0, M0, hs0⟩ := boxB w v
 have h := h.mod M0 fun _ _ h => h
 have h0 := h.c0
 have h1 := h.c1
 have h2 := h.c2
 have hab := h.lt (.inl rfl)
 have f1 := h.fr 1
 obtain ⟨d0, e0⟩ := blkc b0
 obtain ⟨A', c', rfl, _, _, _⟩ := own_slice h.fre
 obtain ⟨b1, b2⟩ := h.flen
 have hr' : ¬ room ≤ (l.length : Int) - ([] : List Int).length := by simp; omega
 have hs0' := hid hs0
 have cA : ∀ (n : Nat) (o : Obj), ((w0.drewN n).alloc o).cell? ⟨ab, 1, none⟩ = some lv := fun n o => (Mod.alloc (Mod.refl (fun _ => False) (w0.drewN n)) o).cell h1 (fun h => h)
 clear hs0
 dsimp only [encBn]
 go_enter Tryz.func134, Tryz.ntmps134
 go_wp2_with fail
 go_quiet ((go_at_call 117; exact Calls.quiet_of (lenB (h.drewN _))))
 go_wp2_with fail
 go_region_law (refine step_app_one [.slice v.la v.ln v.lc, .slice v.ka v.kn v.kc, .bool true] lv l.length (l.flatMap (encP encBn zBn)) (.tmp 27) (.tmp 30) 139 144 _ 3 56 rfl rfl Tryz.underlying139 infoPB rfl (by omega) (by omega) (by simp [Act.eval, Act.put]) (by simp [Act.eval, Act.put]) h.row rfl (by simp [Value.oneCell']) (by omega) ?_
                intro v1 w1 hown hgrow hblk
                obtain ⟨k0, k1, k2, k3⟩ := Ar.grow_l (p := some v) (h.drewN (nq + 1)) (by decide) (by decide) (by decide) hown hgrow hblk (h.inv.put_new hr v)
                have c1 : w1.cell? ⟨ab, 1, none⟩ = some lv := by simp [World.cell?, k0]
                have f1 : w1.frozen? ⟨ab, 1, none⟩ = false := by simp [World.frozen?, k0]
                obtain ⟨A1, cc1, rfl, _, _, _⟩ := own_slice hown)
 all_goals go_wp2_with fail
 all_goals go_ret2
 all_goals exact ⟨by simp, _, k1, (M0.mono fun _ h => h.elim).trans' k2.of_drewN, fun k hk => (k3 k hk).imp id fun h => Nat.le_trans M0.size h⟩
set_option maxHeartbeats 2000000 in
theorem putB_old {k : Nat} (h : ArB w ab lv fv room l (free ++ [(k : Int)])) (v : Bn) :
  Calls Tryz.prog 134 #[.pointer (some ⟨ab, 0, none⟩), .agg (encBn v).toArray] w fun e w' => e = .returned (.tuple #[.int .i64 k, .int .i64 0]) ∧
   ∃ fv', ArB w' ab lv fv' room (l.set k (some v)) free ∧ Mod (Foot ab lv fv) w w' ∧ (∀ k, Foot ab lv fv' k → Foot ab lv fv k ∨ w.heap.size ≤ k) := by
 obtain ⟨w0, hw0, b0, M0, hs0⟩ := boxB w v
 have hlt := fun k hk => h.lt (k := k) hk
 have h := h.mod M0 fun _ _ h => h
 have h0 := h.c0
 have h1 := h.c1
 have h2 := h.c2
 have hab := h.lt (.inl rfl)
 have f1 := h.fr 1
 have f2 := h.fr 2
 have hl : l[k]? = some none := by
  obtain ⟨k', e, hk'⟩ := (h.inv.mem k).1 (by simp)
  have : k = k' := by omega
  subst this; exact hk'
 have hkl := (List.getElem?_eq_some_iff.1 hl).1
 obtain ⟨lb, c, rfl, _, _⟩ := h.place (by omega)
 obtain ⟨A', c', rfl, _, _, hA⟩ := own_slice h.fre
 obtain ⟨fb, rfl⟩ := hA (by simp)
 obtain ⟨b1, b2⟩ := h.flen
 have hlr := h.inv.lr
 have n1 : ab ≠ lb := fun e => h.ne_l (by decide) (by rw [e]; rfl)
 have n2 : ab ≠ fb := fun e => h.ne_f (by decide) (by rw [e]; rfl)
 have n3 : lb ≠ fb := fun e => h.ne_lf (k := lb) (by decide) rfl (by rw [e]; rfl)
 have n4 : ab ≠ w.heap.size := fun e => by have := hlt ab (.inl rfl); omega
 have n5 : w.heap.size ≠ ab := Ne.symm n4
 have n6 : lb ≠ w.heap.size := fun e => by have := hlt lb (.inr (.inl rfl)); omega
 have n7 : w.heap.size ≠ lb := Ne.symm n6
 have cf := (own_cell h.fre (j := free.length) (u := .int .i64 k) (by simp)).1
 obtain ⟨d0, g0⟩ := h.cell (i := k) hl (j := 0) (u := .slice none 0 0) rfl
 obtain ⟨d1, g1⟩ := h.cell (i := k) hl (j := 1) (u := .slice none 0 0) rfl
 obtain ⟨d2, g2⟩ := h.cell (i := k) hl (j := 2) (u := .bool false) rfl
 simp only [zBn, List.length_cons, List.length_nil, Nat.zero_add, Nat.add_zero, Nat.reduceAdd] at d0 g0 d1 g1 d2 g2
 obtain ⟨x0, y0⟩ := blkc b0
 have hr' : ¬ room ≤ (l.length : Int) - (free ++ [(k : Int)]).length := by simp; simp at b1; omega
 have hn0 : ¬ ((free ++ [(k : Int)]).length : Int) - 1 < 0 := by simp
 have hs0' := hid hs0
 have hlt' := hid hlt
 clear hs0 hlt
 simp only [List.length_append, List.length_cons, List.length_nil, Nat.zero_add] at *
 dsimp only [encBn]
 go_enter Tryz.func134, Tryz.ntmps134
 go_wp2_with fail
 go_quiet ((go_at_call 117; exact Calls.quiet_of (lenB (h.drewN _))))
 go_wp2_with fail
 go_region
 all_goals go_wp2_with fail
 all_goals go_ret2
 all_goals
  refine ⟨rfl, .slice (some ⟨fb, 0, none⟩) free.length c', ?_⟩
  have Rz := Ar.reuse (nq := nq) (some v) h (by decide) (by decide) (by decide) hl (h.inv.put_old v)
  exact ⟨Rz.1.drewN 1, (M0.mono fun _ h => h.elim).trans' (Rz.2.1.drewN 1), fun j hj => (Rz.2.2 j hj).imp id fun h => Nat.le_trans M0.size h⟩
theorem atB_yes {lb n c k : Nat} {v : Bn} (h : ArB w ab (.slice (some ⟨lb, 0, none⟩) n c) fv room l free) (hp : l[k]? = some (some v)) :
  Calls Tryz.prog 80 #[.pointer (some ⟨ab, 0, none⟩), .int .i64 k] w fun e w' => e = .returned (.pointer (some ⟨lb, k * 3, none⟩)) ∧ w' = w := atB_in h (some v) hp
set_option maxHeartbeats 2000000 in
theorem freeB_yes {k : Nat} {v : Bn} (h : ArB w ab lv fv room l free) (hp : l[k]? = some (some v)) :
  Calls Tryz.prog 121 #[.pointer (some ⟨ab, 0, none⟩), .int .i64 k] w fun e w' => e = .returned (.bool true) ∧ ∃ fv', ArB w' ab lv fv' room (l.set k none) (free ++ [(k : Int)]) ∧ Mod (Foot ab lv fv) w w' ∧ (∀ k, Foot ab lv fv' k → Foot ab lv fv k ∨ w.heap.size ≤ k) := by
 have hkl := (List.getElem?_eq_some_iff.1 hp).1
 obtain ⟨lb, c, rfl, _, _⟩ := h.place (by omega)
 have H := atB_yes h hp
 have h1 := h.c1
 have h2 := h.c2
 have f1 := h.fr 1
 have f2 := h.fr 2
 have n1 : ab ≠ lb := fun e => h.ne_l (by decide) (by rw [e]; rfl)
 obtain ⟨b1, b2⟩ := h.flen
 obtain ⟨d0, g0⟩ := h.cell (i := k) (p := some v) hp (j := 0) (u := .slice v.la v.ln v.lc) rfl
 obtain ⟨d1, g1⟩ := h.cell (i := k) (p := some v) hp (j := 1) (u := .slice v.ka v.kn v.kc) rfl
 obtain ⟨d2, g2⟩ := h.cell (i := k) (p := some v) hp (j := 2) (u := .bool true) rfl
 simp only [zBn, List.length_cons, List.length_nil, Nat.zero_add, Nat.add_zero, Nat.reduceAdd] at d0 g0 d1 g1 d2 g2
 go_enter Tryz.func121, Tryz.ntmps121
 have hW := setL_heap lb (encP encBn zBn none) w (k * 3) ab n1
 have hrow := h.put_place hp none
 have hm : Mod (Foot ab (.slice (some ⟨lb, 0, none⟩) l.length c) fv) w (setL w lb (k * 3) (encP encBn zBn none)) := setL_mod lb (.inl (.inr (.inl rfl))) _ _ _ (Mod.refl _ _)
 have hfre : (setL w lb (k * 3) (encP encBn zBn none)).ownsRow 0 3 1 fv free.length (free.map (.int .i64)) := own_keep h.fre fun j e => setL_heap lb _ _ _ _ (by rintro rfl; exact h.ne_lf (k := j) (by decide) rfl e)
 go_wp2_with (first | (go_at_call 80; refine H.mono ?_; rintro e w' ⟨rfl, rfl⟩) | (at_builtin; refine app_one [.int .i64 (k : Int)] fv free.length (free.map (.int .i64)) (.tmp 20) (.tmp 22) 113 3 (.int .i64 0) 1 8 rfl rfl Tryz.underlying113 infoIB rfl (by omega) (by omega) rfl (by simp [Act.eval]) hfre rfl (by simp [Value.oneCell']) (by omega) ?_))
 intro v1 w1 hown hgrow hblk
 obtain ⟨k0, k1, k2, k3⟩ := h.grow_f (by decide) (by decide) (by decide) hp hW hrow hm hown hgrow (by rw [setL_size]; exact hblk)
 have c1 : w1.cell? ⟨ab, 2, none⟩ = some fv := by simp [World.cell?, k0]
 have f1 : w1.frozen? ⟨ab, 2, none⟩ = false := by simp [World.frozen?, k0]
 obtain ⟨A1, cc1, rfl, _, _, _⟩ := own_slice hown
 clear h1 h2 hgrow hblk hfre hrow hW
 go_wp2_with fail
 go_ret
 exact ⟨by simp, _, k1, k2, k3⟩
set_option maxHeartbeats 400000 in
theorem resetB (h : ArB w ab lv fv room l free) :
  Calls Tryz.prog 119 #[.pointer (some ⟨ab, 0, none⟩)] w fun e w' => e = .returned (.tuple #[]) ∧ ArB w' ab (.slice none 0 0) (.slice none 0 0) room [] [] ∧ Mod (Foot ab lv fv) w w' := by
 have h1 := h.c1
 have h2 := h.c2
 have f1 := h.fr 1
 have f2 := h.fr 2
 go_enter Tryz.func119, Tryz.ntmps119
 go_wp2
 go_end0
 have hb := blk_set2 (blk_set1 h.blk (u := .slice none 0 0)) (u := .slice none 0 0)
 exact ⟨rfl, ⟨hb, World.ownsRow_nil _ _ _ _, World.ownsRow_nil _ _ _ _, fun _ => rfl, ⟨h.inv.room0, h.inv.room1, Nat.le_refl _, h.inv.room0, List.nodup_nil, by simp⟩⟩,
  ((Mod.refl _ w).setCell (.inl (.inl rfl)) _).setCell (.inl (.inl rfl)) _⟩
set_option maxHeartbeats 400000 in
theorem newB (room : Int) (hr : 0 ≤ room) (hr2 : room ≤ 65536) (w : World) :
  Calls Tryz.prog 77 #[.int .i64 room] w fun e w' => e = .returned (.tuple #[.pointer (some ⟨w.heap.size, 0, none⟩), .int .i64 0]) ∧ ArB w' w.heap.size (.slice none 0 0) (.slice none 0 0) room [] [] ∧ Below w.heap.size w w' := by
 have hr0 : ¬ room < 0 := by omega
 have hr1 : ¬ 65536 < room := by omega
 go_enter Tryz.func77, Tryz.ntmps77
 go_wp2
 go_ret2
 exact ⟨rfl, ⟨heap_alloc_new _ _, World.ownsRow_nil _ _ _ _, World.ownsRow_nil _ _ _ _, fun _ => rfl, ⟨hr, hr2, Nat.le_refl _, hr, List.nodup_nil, by simp⟩⟩, (Below.refl _ _).alloc (Nat.le_refl _) _⟩
end
open Go Go.RowKit
abbrev StB := Nat → Option (List Sg × List Nat)
def Bn.v (b : Bn) (x : Bool) : Value := if x then .slice b.ka b.kn b.kc else .slice b.la b.ln b.lc
def numsV (ks : List Nat) : List Value := ks.map fun (k : Nat) => Value.int .i64 (k : Int)
def NodeB (w : World) (b : Bn) (l : List Sg) (ks : List Nat) : Prop := w.ownsRow 0 38 5 (b.v false) l.length (l.flatMap encS) ∧ w.ownsRow 0 3 1 (b.v true) ks.length (numsV ks)
structure MemB (w : World) (tb ab : Nat) (lv fv : Value) (σ : List (Option Bn)) (free : List Int) (root deg room many : Int) (S : StB) : Prop where
 t : w.heap[tb]? = some (.cells #[.pointer (some ⟨ab, 0, none⟩), .int .i64 root, .int .i64 deg, .int .i64 room, .int .i64 many] 111 (0, 0))
 a : ArB w ab lv fv (2 * room + 4) σ free
 gone : ∀ (i : Nat), (∀ b, σ[i]? ≠ some (some b)) → S i = none
 node : ∀ (i : Nat) (b : Bn), σ[i]? = some (some b) → ∃ l ks, S i = some (l, ks) ∧ NodeB w b l ks
 apart : ∀ (i j : Nat) (b b' : Bn) (x y : Bool) (k : Nat), σ[i]? = some (some b) → σ[j]? = some (some b') → (b.v x).ownBlock = some k → (b'.v y).ownBlock = some k → i = j ∧ x = y
 away : ∀ (i : Nat) (b : Bn) (x : Bool) (k : Nat), σ[i]? = some (some b) → (b.v x).ownBlock = some k → k ≠ tb ∧ ¬ Foot ab lv fv k
 ta : ¬ Foot ab lv fv tb
def FootB (tb ab : Nat) (lv fv : Value) (σ : List (Option Bn)) (k : Nat) : Prop := k = tb ∨ Foot ab lv fv k ∨ ∃ (i : Nat) (b : Bn) (x : Bool), σ[i]? = some (some b) ∧ (b.v x).ownBlock = some k
section
variable {w w' : World} {tb ab : Nat} {lv fv : Value} {σ : List (Option Bn)} {free : List Int} {root deg room many : Int} {S : StB}
theorem NodeB.keep {b : Bn} {l : List Sg} {ks : List Nat} (h : NodeB w b l ks) (hk : ∀ x k, (b.v x).ownBlock = some k → w'.heap[k]? = w.heap[k]?) : NodeB w' b l ks :=
 ⟨own_keep h.1 fun k e => hk false k e, own_keep h.2 fun k e => hk true k e⟩
theorem NodeB.lt {b : Bn} {l : List Sg} {ks : List Nat} (h : NodeB w b l ks) {x : Bool} {k : Nat} (e : (b.v x).ownBlock = some k) : k < w.heap.size := by
 cases x
 ·exact own_lt h.1 e
 ·exact own_lt h.2 e
theorem MemB.lt (h : MemB w tb ab lv fv σ free root deg room many S) {k : Nat} (hk : FootB tb ab lv fv σ k) : k < w.heap.size := by
 rcases hk with rfl | hk | ⟨i, b, x, h1, h2⟩
 ·exact blkl h.t
 ·exact h.a.lt hk
 ·obtain ⟨l, ks, _, hn⟩ := h.node i b h1
  exact hn.lt h2
theorem MemB.keep (h : MemB w tb ab lv fv σ free root deg room many S) (hk : ∀ k, FootB tb ab lv fv σ k → w'.heap[k]? = w.heap[k]?) : MemB w' tb ab lv fv σ free root deg room many S :=
 ⟨(hk _ (.inl rfl)).trans h.t, h.a.keep fun k hf => hk k (.inr (.inl hf)), h.gone, fun i b hb => by
  obtain ⟨l, ks, h1, h2⟩ := h.node i b hb
  exact ⟨l, ks, h1, h2.keep fun x k e => hk k (.inr (.inr ⟨i, b, x, hb, e⟩))⟩, h.apart, h.away, h.ta⟩
theorem MemB.mod {X : Nat → Prop} (h : MemB w tb ab lv fv σ free root deg room many S) (hm : Mod X w w') (hs : ∀ k, FootB tb ab lv fv σ k → ¬ X k) : MemB w' tb ab lv fv σ free root deg room many S :=
 h.keep fun k hk => hm.block k (h.lt hk) (hs k hk)
theorem MemB.mod0 (h : MemB w tb ab lv fv σ free root deg room many S) (hm : Mod (fun _ => False) w w') : MemB w' tb ab lv fv σ free root deg room many S := h.mod hm fun _ _ h => h
theorem MemB.live (h : MemB w tb ab lv fv σ free root deg room many S) {i : Nat} {l : List Sg} {ks : List Nat} (hs : S i = some (l, ks)) : ∃ b, σ[i]? = some (some b) ∧ NodeB w b l ks := by
 rcases Classical.em (∃ b, σ[i]? = some (some b)) with ⟨b, hb⟩ | hn
 ·obtain ⟨l', ks', h1, h2⟩ := h.node i b hb
  rw [hs] at h1
  cases h1
  exact ⟨b, hb, h2⟩
 ·rw [h.gone i fun b hb => hn ⟨b, hb⟩] at hs
  cases hs
theorem MemB.setT (h : MemB w tb ab lv fv σ free root deg room many S) (root' many' : Int) {w' : World} (hb : w'.heap[tb]? = some (.cells #[.pointer (some ⟨ab, 0, none⟩), .int .i64 root', .int .i64 deg, .int .i64 room, .int .i64 many'] 111 (0, 0))) (hm : Mod (fun k => k = tb) w w') :
  MemB w' tb ab lv fv σ free root' deg room many' S := by
 have hk : ∀ k, (Foot ab lv fv k ∨ ∃ (i : Nat) (b : Bn) (x : Bool), σ[i]? = some (some b) ∧ (b.v x).ownBlock = some k) → w'.heap[k]? = w.heap[k]? := fun k hk =>
  hm.block k (h.lt (.inr hk)) fun e => by
   have e : k = tb := e
   subst e
   rcases hk with hk | ⟨i, b, x, h1, h2⟩
   ·exact h.ta hk
   ·exact (h.away i b x _ h1 h2).1 rfl
 exact ⟨hb, h.a.keep fun k hf => hk k (.inl hf), h.gone, fun i b hb => by
  obtain ⟨l, ks, h1, h2⟩ := h.node i b hb
  exact ⟨l, ks, h1, h2.keep fun x k e => hk k (.inr ⟨i, b, x, hb, e⟩)⟩, h.apart, h.away, h.ta⟩
end
open Go Go.RowKit
section
variable {α : Type} {enc : α → List Value} {z : List Value} {ta tp ti : TypeId} {w w' : World} {ab : Nat} {lv fv : Value} {room : Int} {l : List (Option α)} {free : List Int}
theorem Ar.setF {lb n c k j : Nat} {v v' : α} {u : Value} (h : Ar enc z ta tp ti w ab (.slice (some ⟨lb, 0, none⟩) n c) fv room l free) (hT : ta ≠ tp) (hT3 : tp ≠ ti) (hp : l[k]? = some (some v)) (hj : j < z.length) (hv : enc v' = (enc v).set j u) :
  Ar enc z ta tp ti (w.setCell ⟨lb, k * (z.length + 1) + j, none⟩ u) ab (.slice (some ⟨lb, 0, none⟩) n c) fv room (l.set k (some v')) free := by
 have hM : Mod (fun i => i = lb) w (w.setCell ⟨lb, k * (z.length + 1) + j, none⟩ u) := (Mod.refl (fun i => i = lb) w).setCell (.inl rfl) _
 have hr := h.row
 obtain ⟨_, _, e, _⟩ := own_slice hr
 cases e
 refine ⟨hM.heap h.blk fun e => h.ne_l hT (by rw [e]; rfl), ?_, own_mod h.fre hM fun i e e2 => by subst e2; exact h.ne_lf hT3 (k := i) rfl e, h.encl, h.inv.set hp v'⟩
 have hlen : (l.flatMap (encP enc z)).length = l.length * (z.length + 1) := flat_length _ (z.length + 1) (encP_length h.encl) l
 have hk := (List.getElem?_eq_some_iff.1 hp).1
 have hm := Nat.mul_le_mul_right (z.length + 1) hk
 rw [Nat.succ_mul] at hm
 have := own_set hr (k * (z.length + 1) + j) (by rw [hlen]; omega) u
 rw [flat_set (encP enc z) (z.length + 1) (encP_length h.encl) l k j (by omega) u (some v) (some v') hp (by
  show enc v' ++ [Value.bool true] = (enc v ++ [Value.bool true]).set j u
  rw [List.set_append_left _ _ (by rw [h.encl]; omega), hv])] at this
 simpa using this
end
def Bn.upd (b : Bn) (x : Bool) (la : Option Addr) (ln lc : Nat) : Bn := if x then { b with ka := la, kn := ln, kc := lc } else { b with la := la, ln := ln, lc := lc }
theorem Bn.v_upd (b : Bn) (x : Bool) (la : Option Addr) (ln lc : Nat) : (b.upd x la ln lc).v x = .slice la ln lc := by cases x <;> rfl
theorem Bn.v_upd_ne (b : Bn) {x y : Bool} (h : y ≠ x) (la : Option Addr) (ln lc : Nat) : (b.upd x la ln lc).v y = b.v y := by cases x <;> cases y <;> first | rfl | exact absurd rfl h
def StB.set (S : StB) (i : Nat) (v : Option (List Sg × List Nat)) : StB := fun j => if j = i then v else S j
theorem StB.set_self (S : StB) (i : Nat) (v : Option (List Sg × List Nat)) : S.set i v i = v := by unfold StB.set; rw [if_pos rfl]
theorem StB.set_ne (S : StB) {i j : Nat} (v : Option (List Sg × List Nat)) (h : j ≠ i) : S.set i v j = S j := by unfold StB.set; rw [if_neg h]
section
variable {w w1 : World} {tb ab : Nat} {lv fv : Value} {σ : List (Option Bn)} {free : List Int} {root deg room many : Int} {S : StB}
def MoreB (tb ab : Nat) (lv fv : Value) (σ : List (Option Bn)) (w : World) (lv' fv' : Value) (σ' : List (Option Bn)) : Prop := ∀ k, FootB tb ab lv' fv' σ' k → FootB tb ab lv fv σ k ∨ w.heap.size ≤ k
theorem MemB.lbS (h : MemB w tb ab lv fv σ free root deg room many S) {i : Nat} {b : Bn} (hb : σ[i]? = some (some b)) : ∃ lb c, lv = .slice (some ⟨lb, 0, none⟩) σ.length c := by
 obtain ⟨lb, c, e, _⟩ := h.a.place (by have := (List.getElem?_eq_some_iff.1 hb).1; omega)
 exact ⟨lb, c, e⟩
theorem MemB.setF {lb n c i : Nat} {b : Bn} {x : Bool} (h : MemB w tb ab (.slice (some ⟨lb, 0, none⟩) n c) fv σ free root deg room many S) (hb : σ[i]? = some (some b))
  (M1 : Mod (fun k => (b.v x).ownBlock = some k) w w1) (la : Option Addr) (ln lc : Nat) (l' : List Sg) (ks' : List Nat) (own : NodeB w1 (b.upd x la ln lc) l' ks')
  (H : ∀ k, (Value.slice la ln lc).ownBlock = some k → (b.v x).ownBlock = some k ∨ w.heap.size ≤ k) (j : Nat) (hj : j = if x then 1 else 0) :
  MemB (w1.setCell ⟨lb, i * 3 + j, none⟩ (.slice la ln lc)) tb ab (.slice (some ⟨lb, 0, none⟩) n c) fv (σ.set i (some (b.upd x la ln lc))) free root deg room many (S.set i (some (l', ks'))) ∧
   Mod (FootB tb ab (.slice (some ⟨lb, 0, none⟩) n c) fv σ) w (w1.setCell ⟨lb, i * 3 + j, none⟩ (.slice la ln lc)) ∧
   MoreB tb ab (.slice (some ⟨lb, 0, none⟩) n c) fv σ w (.slice (some ⟨lb, 0, none⟩) n c) fv (σ.set i (some (b.upd x la ln lc))) := by
 have hil := (List.getElem?_eq_some_iff.1 hb).1
 have hlb : Foot ab (.slice (some ⟨lb, 0, none⟩) n c) fv lb := .inr (.inl rfl)
 have M2 : Mod (fun k => k = lb) w1 (w1.setCell ⟨lb, i * 3 + j, none⟩ (.slice la ln lc)) := Mod.setCell (S := fun k => k = lb) (p := ⟨lb, i * 3 + j, none⟩) (Mod.refl _ _) (.inl rfl) _
 have hfoot : ∀ k, Foot ab (.slice (some ⟨lb, 0, none⟩) n c) fv k → ¬ (b.v x).ownBlock = some k := fun k hk e => (h.away i b x k hb e).2 hk
 have hget : ∀ (j : Nat) (b' : Bn), (σ.set i (some (b.upd x la ln lc)))[j]? = some (some b') → (j = i ∧ b' = b.upd x la ln lc) ∨ (j ≠ i ∧ σ[j]? = some (some b')) := by
  intro j b' hj
  rw [List.getElem?_set] at hj
  by_cases e : i = j
  ·rw [if_pos e, if_pos hil] at hj
   cases hj
   exact .inl ⟨e.symm, rfl⟩
  ·rw [if_neg e] at hj
   exact .inr ⟨fun h => e h.symm, hj⟩
 have hown : ∀ (j : Nat) (b' : Bn) (y : Bool) (k : Nat), (σ.set i (some (b.upd x la ln lc)))[j]? = some (some b') → (b'.v y).ownBlock = some k →
   (∃ b0, σ[j]? = some (some b0) ∧ (b0.v y).ownBlock = some k ∧ ((j, y) = (i, x) ∨ b'.v y = b0.v y)) ∨ (j = i ∧ y = x ∧ w.heap.size ≤ k) := by
  intro j b' y k hj e
  rcases hget j b' hj with ⟨rfl, rfl⟩ | ⟨hne, hj'⟩
  ·by_cases hy : y = x
   ·subst hy
    rw [Bn.v_upd] at e
    rcases H k e with e2 | e2
    ·exact .inl ⟨b, hb, e2, .inl rfl⟩
    ·exact .inr ⟨rfl, rfl, e2⟩
   ·rw [Bn.v_upd_ne b hy] at e
    exact .inl ⟨b, hb, e, .inr (Bn.v_upd_ne b hy ..)⟩
  ·exact .inl ⟨b', hj', e, .inr rfl⟩
 have hz := M1.size
 refine ⟨⟨M2.heap (M1.heap h.t fun e => (h.away i b x tb hb e).1 rfl) fun e => h.ta (e ▸ hlb), ?_, ?_, ?_, ?_, ?_, h.ta⟩, ?_, ?_⟩
 ·have A1 := h.a.mod M1 hfoot
  have := A1.setF (j := j) (v' := b.upd x la ln lc) (u := .slice la ln lc) (by decide) (by decide) hb (by subst hj; cases x <;> decide) (by subst hj; cases x <;> rfl)
  exact this
 ·intro j' hj'
  have e : j' ≠ i := fun e => hj' (b.upd x la ln lc) (by rw [e, List.getElem?_set_self hil])
  rw [StB.set_ne _ _ e]
  exact h.gone j' fun b' hb' => hj' b' (by rw [List.getElem?_set_ne (Ne.symm e)]; exact hb')
 ·intro j' b' hj'
  rcases hget j' b' hj' with ⟨rfl, rfl⟩ | ⟨hne, hj2⟩
  ·refine ⟨l', ks', StB.set_self .., own.keep fun y k e => M2.block k (own.lt e) fun e2 => ?_⟩
   have e2 : k = lb := e2
   subst e2
   rcases hown _ _ y _ hj' e with ⟨b0, q1, q2, _⟩ | ⟨_, _, q⟩
   ·exact (h.away _ _ _ _ q1 q2).2 hlb
   ·have := h.a.lt hlb; omega
  ·obtain ⟨l, ks, q1, q2⟩ := h.node j' b' hj2
   refine ⟨l, ks, by rw [StB.set_ne _ _ hne]; exact q1, q2.keep fun y k e => (M2.block k (Nat.lt_of_lt_of_le (q2.lt e) hz) fun e2 => ?_).trans (M1.block k (q2.lt e) fun e2 => hne (h.apart j' i b' b y x k hj2 hb e e2).1)⟩
   have e2 : k = lb := e2
   subst e2
   exact (h.away _ _ _ _ hj2 e).2 hlb
 ·intro i1 i2 b1 b2 x1 x2 k h1 h2 e1 e2
  rcases hown _ _ _ _ h1 e1 with ⟨c1, q1, q2, _⟩ | ⟨q1, q2, q3⟩
  ·rcases hown _ _ _ _ h2 e2 with ⟨c2, r1, r2, _⟩ | ⟨r1, r2, r3⟩
   ·exact h.apart i1 i2 c1 c2 x1 x2 k q1 r1 q2 r2
   ·obtain ⟨l, ks, _, hn⟩ := h.node _ _ q1
    have := hn.lt q2; omega
  ·rcases hown _ _ _ _ h2 e2 with ⟨c2, r1, r2, _⟩ | ⟨r1, r2, r3⟩
   ·obtain ⟨l, ks, _, hn⟩ := h.node _ _ r1
    have := hn.lt r2; omega
   ·exact ⟨q1.trans r1.symm, q2.trans r2.symm⟩
 ·intro i1 b1 x1 k h1 e1
  rcases hown _ _ _ _ h1 e1 with ⟨c1, q1, q2, _⟩ | ⟨q1, q2, q3⟩
  ·exact h.away i1 c1 x1 k q1 q2
  ·exact ⟨fun e => by have := blkl h.t; omega, fun e => by have := h.a.lt e; omega⟩
 ·exact (M1.mono fun k hk => .inl (.inr (.inr ⟨i, b, x, hb, hk⟩))).trans M2 fun k hk => .inl (.inr (.inl (by rw [show k = lb from hk]; exact hlb)))
 ·rintro k (rfl | hk | ⟨j', b', y, h1, h2⟩)
  ·exact .inl (.inl rfl)
  ·exact .inl (.inr (.inl hk))
  ·rcases hown _ _ _ _ h1 h2 with ⟨c1, q1, q2, _⟩ | ⟨q1, q2, q3⟩
   ·exact .inl (.inr (.inr ⟨j', c1, y, q1, q2⟩))
   ·exact .inr q3
end
open Go Go.RowKit
section
variable {w : World} {ab : Nat} {lv fv : Value} {room : Int} {l : List (Option Bn)} {free : List Int}
set_option maxHeartbeats 400000 in
theorem setA {k : Nat} {v : Bn} (h : ArB w ab lv fv room l free) (hp : l[k]? = some (some v)) (u : Bn) :
  Calls Tryz.prog 66 #[.pointer (some ⟨ab, 0, none⟩), .int .i64 k, .agg (encBn u).toArray] w fun e w' => e = .returned (.bool true) ∧ ArB w' ab lv fv room (l.set k (some u)) free ∧ Mod (Foot ab lv fv) w w' := by
 obtain ⟨w0, hw0, b0, M0, _⟩ := boxB w u
 replace h := h.mod M0 fun _ _ h => h
 have hkl := (List.getElem?_eq_some_iff.1 hp).1
 obtain ⟨lb, c, rfl, _, _⟩ := h.place (by omega)
 have H := atB_yes h hp
 obtain ⟨hc, hf⟩ := h.cell (i := k) (p := some v) hp (j := 0) (u := .slice v.la v.ln v.lc) rfl
 obtain ⟨hc1, hf1⟩ := h.cell (i := k) (p := some v) hp (j := 1) (u := .slice v.ka v.kn v.kc) rfl
 simp only [zBn, List.length_cons, List.length_nil, Nat.zero_add, Nat.add_zero, Nat.reduceAdd] at hc hf hc1 hf1
 obtain ⟨d0, e0⟩ := blkc b0
 have fin := h.set_thing (by decide) (by decide) hp u
 have M1 := (M0.mono (T := Foot ab (.slice (some ⟨lb, 0, none⟩) l.length c) fv) fun _ h => h.elim).trans' fin.2
 replace fin := hid (And.intro fin.1 M1)
 clear M1
 dsimp only [encBn]
 go_enter Tryz.func66, Tryz.ntmps66
 go_wp2_with (go_at_call 80; refine H.mono ?_; rintro e w' ⟨rfl, hw⟩; subst hw)
 go_ret
 exact ⟨rfl, fin.out⟩
end
section
variable {w w' : World} {tb ab : Nat} {lv fv : Value} {σ : List (Option Bn)} {free : List Int} {root deg room many : Int} {S : StB}
theorem NodeB.ne {b : Bn} {l : List Sg} {ks : List Nat} (h : NodeB w b l ks) {x y : Bool} {k : Nat} (e1 : (b.v x).ownBlock = some k) (e2 : (b.v y).ownBlock = some k) : x = y := by
 have key : ∀ k, (b.v false).ownBlock = some k → (b.v true).ownBlock = some k → False := by
  intro k e1 e2
  obtain ⟨c1, h1⟩ := own_type h.1 e1
  obtain ⟨c2, h2⟩ := own_type h.2 e2
  have := h1.symm.trans h2
  injection this with this; injection this with _ this; exact absurd this (by decide)
 cases x <;> cases y
 ·rfl
 ·exact (key k e1 e2).elim
 ·exact (key k e2 e1).elim
 ·rfl
theorem MemB.change (h : MemB w tb ab lv fv σ free root deg room many S) {lv' fv' : Value} {σ' : List (Option Bn)} {free' : List Int} (A : ArB w' ab lv' fv' (2 * room + 4) σ' free') (M : Mod (Foot ab lv fv) w w')
  (F : ∀ k, Foot ab lv' fv' k → Foot ab lv fv k ∨ w.heap.size ≤ k) (j : Nat) (hσ : ∀ (i : Nat) (b : Bn), i ≠ j → (σ'[i]? = some (some b) ↔ σ[i]? = some (some b))) (N : Option (List Sg × List Nat))
  (new : (∃ u l ks, σ'[j]? = some (some u) ∧ N = some (l, ks) ∧ NodeB w u l ks ∧ ∀ x k, (u.v x).ownBlock = some k → ¬ FootB tb ab lv fv σ k) ∨ ((∀ b, σ'[j]? ≠ some (some b)) ∧ N = none)) :
  MemB w' tb ab lv' fv' σ' free' root deg room many (S.set j N) ∧ Mod (FootB tb ab lv fv σ) w w' ∧
   (∀ k, FootB tb ab lv' fv' σ' k → FootB tb ab lv fv σ k ∨ w.heap.size ≤ k ∨ ∃ (u : Bn) (x : Bool), σ'[j]? = some (some u) ∧ (u.v x).ownBlock = some k) := by
 have hget : ∀ (i : Nat) (b : Bn), σ'[i]? = some (some b) → (i ≠ j ∧ σ[i]? = some (some b)) ∨ (i = j ∧ ∃ l ks, N = some (l, ks) ∧ NodeB w b l ks ∧ ∀ x k, (b.v x).ownBlock = some k → ¬ FootB tb ab lv fv σ k) := by
  intro i b hb
  by_cases e : i = j
  ·subst e
   rcases new with ⟨u, l, ks, q1, q2, q3, q4⟩ | ⟨q1, _⟩
   ·rw [hb] at q1; cases q1
    exact .inr ⟨rfl, l, ks, q2, q3, q4⟩
   ·exact absurd hb (q1 b)
  ·exact .inl ⟨e, (hσ i b e).1 hb⟩
 have hnode : ∀ (i : Nat) (b : Bn), σ'[i]? = some (some b) → ∃ l ks, NodeB w b l ks ∧ ∀ x k, (b.v x).ownBlock = some k → ¬ Foot ab lv fv k := by
  intro i b hb
  rcases hget i b hb with ⟨_, h1⟩ | ⟨_, l, ks, _, h2, h3⟩
  ·obtain ⟨l, ks, _, q⟩ := h.node i b h1
   exact ⟨l, ks, q, fun x k e => (h.away i b x k h1 e).2⟩
  ·exact ⟨l, ks, h2, fun x k e hf => h3 x k e (.inr (.inl hf))⟩
 refine ⟨⟨M.heap h.t h.ta, A, ?_, ?_, ?_, ?_, fun e => ?_⟩, M.mono fun k hk => .inl (.inr (.inl hk)), ?_⟩
 ·intro i hi
  by_cases e : i = j
  ·subst e
   rw [StB.set_self]
   rcases new with ⟨u, l, ks, q1, _⟩ | ⟨_, q⟩
   ·exact absurd q1 (hi u)
   ·exact q
  ·rw [StB.set_ne _ _ e]
   exact h.gone i fun b hb => hi b ((hσ i b e).2 hb)
 ·intro i b hb
  obtain ⟨l0, ks0, hn, hf⟩ := hnode i b hb
  rcases hget i b hb with ⟨e, h1⟩ | ⟨rfl, l, ks, q1, q2, q3⟩
  ·obtain ⟨l, ks, r1, r2⟩ := h.node i b h1
   exact ⟨l, ks, by rw [StB.set_ne _ _ e]; exact r1, r2.keep fun x k e => M.block k (r2.lt e) (hf x k e)⟩
  ·exact ⟨l, ks, by rw [StB.set_self]; exact q1, q2.keep fun x k e => M.block k (q2.lt e) (hf x k e)⟩
 ·intro i1 i2 b1 b2 x1 x2 k h1 h2 e1 e2
  rcases hget i1 b1 h1 with ⟨n1, p1⟩ | ⟨rfl, l, ks, p1, p2, p3⟩
  ·rcases hget i2 b2 h2 with ⟨n2, r1⟩ | ⟨rfl, l, ks, r1, r2, r3⟩
   ·exact h.apart i1 i2 b1 b2 x1 x2 k p1 r1 e1 e2
   ·exact absurd (.inr (.inr ⟨i1, b1, x1, p1, e1⟩)) (r3 x2 k e2)
  ·rcases hget i2 b2 h2 with ⟨n2, r1⟩ | ⟨rfl, l', ks', r1, r2, r3⟩
   ·exact absurd (.inr (.inr ⟨i2, b2, x2, r1, e2⟩)) (p3 x1 k e1)
   ·rw [h1] at h2; cases h2
    exact ⟨rfl, p2.ne e1 e2⟩
 ·intro i b x k hb e
  obtain ⟨l0, ks0, hn, hf⟩ := hnode i b hb
  refine ⟨?_, fun hk => ?_⟩
  ·rcases hget i b hb with ⟨n, h1⟩ | ⟨_, l, ks, _, _, h3⟩
   ·exact (h.away i b x k h1 e).1
   ·exact fun e2 => h3 x k e (.inl e2)
  ·rcases F k hk with hk | hk
   ·exact hf x k e hk
   ·have := hn.lt e; omega
 ·rcases F tb e with e | e
  ·exact h.ta e
  ·have := blkl h.t; omega
 ·rintro k (rfl | hk | ⟨i, b, x, h1, h2⟩)
  ·exact .inl (.inl rfl)
  ·rcases F k hk with hk | hk
   ·exact .inl (.inr (.inl hk))
   ·exact .inr (.inl hk)
  ·rcases hget i b h1 with ⟨n, q⟩ | ⟨rfl, _⟩
   ·exact .inl (.inr (.inr ⟨i, b, x, q, h2⟩))
   ·exact .inr (.inr ⟨b, x, h1, h2⟩)
theorem atM {lb n c k : Nat} {v : Bn} (h : MemB w tb ab (.slice (some ⟨lb, 0, none⟩) n c) fv σ free root deg room many S) (hp : σ[k]? = some (some v)) :
  Calls Tryz.prog 114 #[.pointer (some ⟨tb, 0, none⟩), .int .i64 k] w fun e w' => e = .returned (.pointer (some ⟨lb, k * 3, none⟩)) ∧ w' = w := by
 obtain ⟨c0, f0⟩ := blkc h.t
 have H := atB_yes h.a hp
 go_enter Tryz.func114, Tryz.ntmps114
 go_wp2_with (go_at_call 80; refine H.mono ?_; rintro e w' ⟨rfl, rfl⟩)
 go_ret
 exact ⟨rfl, rfl⟩
theorem MemB.cells {lb n c k : Nat} {v : Bn} (h : MemB w tb ab (.slice (some ⟨lb, 0, none⟩) n c) fv σ free root deg room many S) (hp : σ[k]? = some (some v)) :
  w.cell? ⟨lb, k * 3, none⟩ = some (.slice v.la v.ln v.lc) ∧ w.cell? ⟨lb, k * 3 + 1, none⟩ = some (.slice v.ka v.kn v.kc) ∧ w.frozen? ⟨lb, k * 3, none⟩ = false ∧ w.frozen? ⟨lb, k * 3 + 1, none⟩ = false := by
 have a := h.a.cell (i := k) (p := some v) hp (j := 0) (u := .slice v.la v.ln v.lc) rfl
 have b := h.a.cell (i := k) (p := some v) hp (j := 1) (u := .slice v.ka v.kn v.kc) rfl
 simp only [zBn, List.length_cons, List.length_nil, Nat.zero_add, Nat.add_zero, Nat.reduceAdd] at a b
 exact ⟨a.1, b.1, a.2, b.2⟩
theorem NodeB.kn {b : Bn} {l : List Sg} {ks : List Nat} (h : NodeB w b l ks) : b.kn = ks.length := by
 obtain ⟨A, c, e, _⟩ := own_slice h.2
 have : b.v true = .slice b.ka b.kn b.kc := rfl
 rw [this] at e; injection e with _ e2 _
theorem NodeB.ln {b : Bn} {l : List Sg} {ks : List Nat} (h : NodeB w b l ks) : b.ln = l.length := by
 obtain ⟨A, c, e, _⟩ := own_slice h.1
 have : b.v false = .slice b.la b.ln b.lc := rfl
 rw [this] at e; injection e with _ e2 _
theorem leafM {lb n c k : Nat} {v : Bn} {l : List Sg} {ks : List Nat} (h : MemB w tb ab (.slice (some ⟨lb, 0, none⟩) n c) fv σ free root deg room many S) (hp : σ[k]? = some (some v)) (hn : NodeB w v l ks) :
  Calls Tryz.prog 115 #[.pointer (some ⟨lb, k * 3, none⟩)] w fun e w' => e = .returned (.bool (decide (ks = []))) ∧ w' = w := by
 obtain ⟨_, c1, _, _⟩ := h.cells hp
 have hk := hn.kn
 cases ks with
 | nil =>
  rw [hk] at c1
  go_enter Tryz.func115, Tryz.ntmps115
  go_wp2
  go_ret
  exact ⟨rfl, rfl⟩
 | cons a r =>
  rw [hk] at c1
  have e : ¬ ((a :: r).length : Int) = 0 := by simp; omega
  have e1 : (((a :: r).length : Int) == 0) = false := by simpa using e
  generalize (a :: r).length = m at c1 e e1
  go_enter Tryz.func115, Tryz.ntmps115
  go_wp2
  go_ret
  exact ⟨rfl, rfl⟩
theorem mostM (h : MemB w tb ab lv fv σ free root deg room many S) (hd : 0 ≤ deg ∧ deg ≤ 64) : Calls Tryz.prog 129 #[.pointer (some ⟨tb, 0, none⟩)] w fun e w' => e = .returned (.int .i64 (2 * deg - 1)) ∧ w' = w := by
 obtain ⟨c0, f0⟩ := blkc h.t
 have e1 : IntKind.i64.wrap (2 * deg) = 2 * deg := by rw [IntKind.wrap_i64]; omega
 have e2 : IntKind.i64.wrap (2 * deg - 1) = 2 * deg - 1 := by rw [IntKind.wrap_i64]; omega
 go_enter Tryz.func129, Tryz.ntmps129
 go_wp2
 go_ret
 exact ⟨rfl, rfl⟩
end
open Go Go.RowKit
section
variable {w w' : World} {tb ab : Nat} {lv fv : Value} {σ : List (Option Bn)} {free : List Int} {root deg room many : Int} {S : StB}
def cntB (σ : List (Option Bn)) (free : List Int) : Int := (σ.length : Int) - free.length
def MadeB (w : World) (tb ab : Nat) (lv fv : Value) (σ : List (Option Bn)) (free : List Int) (root deg room many : Int) (S : StB) (u : Bn) (l : List Sg) (ks : List Nat) (j : Nat) (w' : World) : Prop :=
 ∃ lv' fv' σ' free', S j = none ∧ σ'[j]? = some (some u) ∧ MemB w' tb ab lv' fv' σ' free' root deg room many (S.set j (some (l, ks))) ∧ Mod (FootB tb ab lv fv σ) w w' ∧
  (∀ k, FootB tb ab lv' fv' σ' k → FootB tb ab lv fv σ k ∨ w.heap.size ≤ k ∨ ∃ x : Bool, (u.v x).ownBlock = some k) ∧ cntB σ' free' = cntB σ free + 1
theorem aputM (h : MemB w tb ab lv fv σ free root deg room many S) (u : Bn) {l : List Sg} {ks : List Nat} (hn : NodeB w u l ks) (hfr : ∀ x k, (u.v x).ownBlock = some k → ¬ FootB tb ab lv fv σ k) (hroom : cntB σ free < 2 * room + 4) :
  Calls Tryz.prog 134 #[.pointer (some ⟨ab, 0, none⟩), .agg (encBn u).toArray] w fun e w' => ∃ j : Nat, e = .returned (.tuple #[.int .i64 j, .int .i64 0]) ∧ MadeB w tb ab lv fv σ free root deg room many S u l ks j w' := by
 unfold cntB at hroom
 rcases List.eq_nil_or_concat free with rfl | ⟨fr, i, rfl⟩
 ·refine (putB_new h.a u (by simpa using hroom)).mono ?_
  rintro e w' ⟨rfl, lv', A, M, F⟩
  have hj : (σ ++ [some u])[σ.length]? = some (some u) := by simp
  have hS : S σ.length = none := h.gone _ fun b hb => by have := (List.getElem?_eq_some_iff.1 hb).1; omega
  obtain ⟨q1, q2, q3⟩ := h.change A M F σ.length (fun i b hi => by
   by_cases hl : i < σ.length
   ·rw [List.getElem?_append_left hl]
   ·rw [List.getElem?_eq_none (show (σ ++ [some u]).length ≤ i by simp; omega), List.getElem?_eq_none (by omega)]) (some (l, ks)) (.inl ⟨u, l, ks, hj, rfl, hn, hfr⟩)
  refine ⟨σ.length, rfl, lv', fv, σ ++ [some u], [], hS, hj, q1, q2, fun k hk => ?_, by simp only [cntB, List.length_append, List.length_set, List.length_cons, List.length_nil]; omega⟩
  rcases q3 k hk with a | a | ⟨b, x, e1, e2⟩
  ·exact .inl a
  ·exact .inr (.inl a)
  ·rw [hj] at e1; cases e1; exact .inr (.inr ⟨x, e2⟩)
 ·rw [List.concat_eq_append] at h hroom ⊢
  obtain ⟨k, rfl, hk⟩ := (h.a.inv.mem i).1 (by simp)
  have hkl := (List.getElem?_eq_some_iff.1 hk).1
  refine (putB_old (k := k) h.a u).mono ?_
  rintro e w' ⟨rfl, fv', A, M, F⟩
  have hj : (σ.set k (some u))[k]? = some (some u) := List.getElem?_set_self hkl
  have hS : S k = none := h.gone _ fun b hb => by rw [hk] at hb; cases hb
  obtain ⟨q1, q2, q3⟩ := h.change A M F k (fun i b hi => by rw [List.getElem?_set_ne (Ne.symm hi)]) (some (l, ks)) (.inl ⟨u, l, ks, hj, rfl, hn, hfr⟩)
  refine ⟨k, rfl, lv, fv', σ.set k (some u), fr, hS, hj, q1, q2, fun k hk => ?_, by simp only [cntB, List.length_append, List.length_set, List.length_cons, List.length_nil]; omega⟩
  rcases q3 k hk with a | a | ⟨b, x, e1, e2⟩
  ·exact .inl a
  ·exact .inr (.inl a)
  ·rw [hj] at e1; cases e1; exact .inr (.inr ⟨x, e2⟩)
theorem asetM (h : MemB w tb ab lv fv σ free root deg room many S) {j : Nat} {b : Bn} (hb : σ[j]? = some (some b)) (u : Bn) {l : List Sg} {ks : List Nat} (hn : NodeB w u l ks) (hfr : ∀ x k, (u.v x).ownBlock = some k → ¬ FootB tb ab lv fv σ k) :
  Calls Tryz.prog 66 #[.pointer (some ⟨ab, 0, none⟩), .int .i64 j, .agg (encBn u).toArray] w fun e w' => e = .returned (.bool true) ∧ MemB w' tb ab lv fv (σ.set j (some u)) free root deg room many (S.set j (some (l, ks))) ∧ Mod (FootB tb ab lv fv σ) w w' ∧
   (∀ k, FootB tb ab lv fv (σ.set j (some u)) k → FootB tb ab lv fv σ k ∨ w.heap.size ≤ k ∨ ∃ x : Bool, (u.v x).ownBlock = some k) := by
 refine (setA h.a hb u).mono ?_
 rintro e w' ⟨rfl, A, M⟩
 have hj : (σ.set j (some u))[j]? = some (some u) := List.getElem?_set_self (List.getElem?_eq_some_iff.1 hb).1
 obtain ⟨q1, q2, q3⟩ := h.change A M (fun k hk => .inl hk) j (fun i b hi => by rw [List.getElem?_set_ne (Ne.symm hi)]) (some (l, ks)) (.inl ⟨u, l, ks, hj, rfl, hn, hfr⟩)
 refine ⟨rfl, q1, q2, fun k hk => ?_⟩
 rcases q3 k hk with a | a | ⟨b, x, e1, e2⟩
 ·exact .inl a
 ·exact .inr (.inl a)
 ·rw [hj] at e1; cases e1; exact .inr (.inr ⟨x, e2⟩)
theorem afreeM (h : MemB w tb ab lv fv σ free root deg room many S) {j : Nat} {b : Bn} (hb : σ[j]? = some (some b)) :
  Calls Tryz.prog 121 #[.pointer (some ⟨ab, 0, none⟩), .int .i64 j] w fun e w' => e = .returned (.bool true) ∧ ∃ fv', MemB w' tb ab lv fv' (σ.set j none) (free ++ [(j : Int)]) root deg room many (S.set j none) ∧ Mod (FootB tb ab lv fv σ) w w' ∧
   (∀ k, FootB tb ab lv fv' (σ.set j none) k → FootB tb ab lv fv σ k ∨ w.heap.size ≤ k) := by
 refine (freeB_yes h.a hb).mono ?_
 rintro e w' ⟨rfl, fv', A, M, F⟩
 have hj : (σ.set j none)[j]? = some none := List.getElem?_set_self (List.getElem?_eq_some_iff.1 hb).1
 obtain ⟨q1, q2, q3⟩ := h.change A M F j (fun i b hi => by rw [List.getElem?_set_ne (Ne.symm hi)]) none (.inr ⟨fun b hb => (by rw [hj] at hb; cases hb), rfl⟩)
 refine ⟨rfl, fv', q1, q2, fun k hk => ?_⟩
 rcases q3 k hk with a | a | ⟨b, x, e1, e2⟩
 ·exact .inl a
 ·exact .inr a
 ·rw [hj] at e1; cases e1
theorem makeM (h : MemB w tb ab lv fv σ free root deg room many S) (u : Bn) {l : List Sg} {ks : List Nat} (hn : NodeB w u l ks) (hfr : ∀ x k, (u.v x).ownBlock = some k → ¬ FootB tb ab lv fv σ k) (hroom : cntB σ free < 2 * room + 4) :
  Calls Tryz.prog 124 #[.pointer (some ⟨tb, 0, none⟩), .agg (encBn u).toArray] w fun e w' => ∃ j : Nat, e = .returned (.int .i64 j) ∧ MadeB w tb ab lv fv σ free root deg room many S u l ks j w' := by
 obtain ⟨w0, hw0, b0, M0, hs0⟩ := boxB w u
 replace h := h.mod0 M0
 replace hn : NodeB w0 u l ks := hn.keep fun x k e => M0.block k (hn.lt e) fun h => h
 obtain ⟨d0, e0⟩ := blkc b0
 obtain ⟨d1, e1⟩ := blkc h.t
 have H := aputM (h.mod0 ((Mod.refl _ _).drew)) u (hn.keep fun x k e => rfl) hfr hroom
 have fin : ∀ j w', MadeB w0.drew tb ab lv fv σ free root deg room many S u l ks j w' → MadeB w tb ab lv fv σ free root deg room many S u l ks j w' := by
  rintro j w' ⟨lv', fv', σ', free', q1, q2, q3, q4, q5, q6⟩
  have hz := M0.size
  refine ⟨lv', fv', σ', free', q1, q2, q3, (M0.drew.mono fun _ h => h.elim).trans' q4, fun k hk => ?_, q6⟩
  rcases q5 k hk with a | a | a
  ·exact .inl a
  ·have a : w0.heap.size ≤ k := a
   exact .inr (.inl (by omega))
  ·exact .inr (.inr a)
 replace fin := hid fin
 clear h hn hfr hs0
 dsimp only [encBn] at H ⊢
 go_enter Tryz.func124, Tryz.ntmps124
 go_wp2_with fail
 go_region_with (go_at_call 134; refine H.mono ?_; rintro e w1 ⟨j, rfl, hm⟩)
 all_goals
  go_wp2_with fail
  go_ret
  exact ⟨j, rfl, fin.out _ _ hm⟩
end
end Go.Proofs.Bo
