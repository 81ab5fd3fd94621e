import Derived.Test.YtgehgjaglgafdaaGreatG42
import Derived.Test.YtgehgjaglgafdaaGreatG03
import Derived.BigQuiet
import Derived.Test.YtgehgjaglgafdaaGreatG33
set_option linter.unusedVariables false
set_option linter.unusedSimpArgs false
namespace Go.Proofs.Bo
open Go Go.RowKit
def FO (w0 w : World) (mb d : Nat) (room : Int) (l : List Sg) : Prop := OM (fun k => w0.heap.size ≤ k) w mb d room l ∧ Mod (fun _ => False) w0 w
def FM (w0 w : World) (mb cb d : Nat) (room : Int) (l : List Sg) (c : Cu) : Prop := MC (fun k => w0.heap.size ≤ k) w mb cb d room l c ∧ Mod (fun _ => False) w0 w
section
variable {w0 w w' : World} {mb cb d d' : Nat} {room : Int} {l l' : List Sg} {c c' : Cu}
theorem FO.mod0 (h : FO w0 w mb d room l) (m : Mod (fun _ => False) w w') : FO w0 w' mb d room l := ⟨h.1.mod0 m, h.2.trans' m⟩
theorem FM.mod0 (h : FM w0 w mb cb d room l c) (m : Mod (fun _ => False) w w') : FM w0 w' mb cb d room l c := ⟨h.1.mod0 m, h.2.trans' m⟩
theorem FO.grow (h : FO w0 w mb d room l) (a : OM (fun k => w0.heap.size ≤ k ∨ w.heap.size ≤ k) w' mb d' room l') (m : Mod (fun k => w0.heap.size ≤ k) w w') : FO w0 w' mb d' room l' :=
 ⟨a.mono fun k hk _ => by have := h.2.size; omega, h.2.trans m fun j h => .inr h⟩
theorem FM.grow (h : FM w0 w mb cb d room l c) (a : MC (fun k => w0.heap.size ≤ k ∨ w.heap.size ≤ k) w' mb cb d' room l' c') (m : Mod (fun k => w0.heap.size ≤ k) w w') : FM w0 w' mb cb d' room l' c' :=
 ⟨a.mono fun k hk _ => by have := h.2.size; omega, h.2.trans m fun j h => .inr h⟩
theorem FM.grow' (h : FM w0 w mb cb d room l c) (a : MC (fun k => w0.heap.size ≤ k) w' mb cb d' room l' c') (m : Mod (fun k => w0.heap.size ≤ k) w w') : FM w0 w' mb cb d' room l' c' := ⟨a, h.2.trans m fun j h => .inr h⟩
theorem FO.below (h : FO w0 w mb d room l) : Below w0.heap.size w0 w := h.2.to_below (Nat.le_refl _) fun _ h => h.elim
theorem FM.below (h : FM w0 w mb cb d room l c) : Below w0.heap.size w0 w := h.2.to_below (Nat.le_refl _) fun _ h => h.elim
theorem FM.fo (h : FM w0 w mb cb d room l c) : FO w0 w mb d room l := ⟨h.1.om, h.2⟩
theorem FO.back {w1 : World} (h : FO w1 w mb d room l) (M : Mod (fun _ => False) w0 w1) : FO w0 w mb d room l := ⟨h.1.mono fun k hk _ => Nat.le_trans M.size hk, M.trans' h.2⟩
theorem FM.back {w1 : World} (h : FM w1 w mb cb d room l c) (M : Mod (fun _ => False) w0 w1) : FM w0 w mb cb d room l c := ⟨h.1.mono fun k hk _ => Nat.le_trans M.size hk, M.trans' h.2⟩
theorem fo_new (deg room : Int) (hd : rightD deg = true) (h0 : 0 ≤ room ∧ room ≤ 4096) (w : World) : Calls Tryz.prog 29 #[.int .i64 deg, .int .i64 room] w fun e w' => ∃ mb, e = .returned (.tuple #[.pointer (some ⟨mb, 0, none⟩), .int .i64 0]) ∧ FO w w' mb deg.toNat room [] :=
 (om_new deg room hd h0 w).mono fun e w' ⟨mb, h1, h2, h3⟩ => ⟨mb, h1, h2, h3⟩
theorem fo_put (h : FO w0 w mb d room l) (s : Sg) (hf : fit64 s.la) : Calls Tryz.prog 36 #[.pointer (some ⟨mb, 0, none⟩), .agg (encS s).toArray] w fun e w' => e = .returned (.int .i64 (putE room s l)) ∧ FO w0 w' mb d room (putL room s l) :=
 (om_put h.1 s hf).mono fun e w' ⟨a, b, c⟩ => ⟨a, h.grow b c⟩
theorem fo_del (h : FO w0 w mb d room l) (cs ca : Int) (hf : fit64 ca) : Calls Tryz.prog 15 #[.pointer (some ⟨mb, 0, none⟩), .agg #[.int .i64 cs, .int .i64 ca]] w fun e w' => e = .returned (.bool (hasK (kx cs ca) l)) ∧ FO w0 w' mb d room (delL (kx cs ca) l) :=
 (om_del h.1 cs ca hf).mono fun e w' ⟨a, b, c⟩ => ⟨a, h.grow b c⟩
theorem fo_clear (h : FO w0 w mb d room l) : Calls Tryz.prog 35 #[.pointer (some ⟨mb, 0, none⟩)] w fun e w' => e = .returned (.tuple #[]) ∧ FO w0 w' mb d room [] :=
 (om_clear h.1).mono fun e w' ⟨a, b, c⟩ => ⟨a, h.grow b c⟩
theorem fm_del (h : FM w0 w mb cb d room l c) (cs ca : Int) (hf : fit64 ca) : Calls Tryz.prog 15 #[.pointer (some ⟨mb, 0, none⟩), .agg #[.int .i64 cs, .int .i64 ca]] w fun e w' => e = .returned (.bool (hasK (kx cs ca) l)) ∧ FM w0 w' mb cb d room (delL (kx cs ca) l) c :=
 (mc_del h.1 cs ca hf).mono fun e w' ⟨a, b, c⟩ => ⟨a, h.grow b c⟩
theorem fm_turn (h : FM w0 w mb cb d room l c) (deg : Int) : Calls Tryz.prog 43 #[.pointer (some ⟨mb, 0, none⟩), .int .i64 deg] w fun e w' => e = .returned (.int .i64 (if rightD deg then 0 else 1)) ∧ FM w0 w' mb cb (if rightD deg then deg.toNat else d) room l c :=
 (mc_turn h.1 deg).mono fun e w' ⟨a, b, c⟩ => ⟨a, h.grow b c⟩
theorem fm_seek (h : FM w0 w mb cb d room l c) (cs ca : Int) (hf : fit64 ca) : Calls Tryz.prog 12 #[.pointer (some ⟨cb, 0, none⟩), .agg #[.int .i64 cs, .int .i64 ca]] w fun e w' => e = .returned (.bool (nearS true true (kx cs ca) l).isSome) ∧ FM w0 w' mb cb d room l (standC (nearS true true (kx cs ca) l)) :=
 (mc_seek h.1 cs ca hf).mono fun e w' ⟨a, b, c⟩ => ⟨a, h.grow' b c⟩
theorem fm_next (h : FM w0 w mb cb d room l c) : Calls Tryz.prog 13 #[.pointer (some ⟨cb, 0, none⟩)] w fun e w' => e = .returned (.bool (c.on && (nearS true false c.key l).isSome)) ∧ FM w0 w' mb cb d room l (curC c (nearS true false c.key l)) :=
 (mc_next h.1).mono fun e w' ⟨a, b, c⟩ => ⟨a, h.grow' b c⟩
theorem fm_prev (h : FM w0 w mb cb d room l c) : Calls Tryz.prog 17 #[.pointer (some ⟨cb, 0, none⟩)] w fun e w' => e = .returned (.bool (c.on && (nearS false false c.key l).isSome)) ∧ FM w0 w' mb cb d room l (curC c (nearS false false c.key l)) :=
 (mc_prev h.1).mono fun e w' ⟨a, b, c⟩ => ⟨a, h.grow' b c⟩
theorem fo_cursor (h : FO w0 w mb d room l) : Calls Tryz.prog 30 #[.pointer (some ⟨mb, 0, none⟩)] w fun e w' => ∃ cb, e = .returned (.pointer (some ⟨cb, 0, none⟩)) ∧ FM w0 w' mb cb d room l Cu.z := by
 refine (om_cursor mb w).mono ?_
 rintro e w' ⟨rfl, C, M, hz⟩
 refine ⟨_, rfl, ⟨(h.1.mono fun k hk hl => ⟨hk, by omega⟩).mod0 M, C, h.2.size, by unfold Cu.z fit64; decide⟩, h.2.trans' M⟩
theorem put5s8 (w : World) (s : Sg) : ∃ w0 W, w.alloc (.cells #[.int .i64 0, .int .i64 0, .int .i64 0, .int .i64 0, .int .i64 0] 38) = w0 ∧
  ((((w0.setCell ⟨w.heap.size, 0, none⟩ (.int .i64 s.ls)).setCell ⟨w.heap.size, 1, none⟩ (.int .i64 s.la)).setCell ⟨w.heap.size, 2, none⟩ (.int .i64 s.hs)).setCell ⟨w.heap.size, 3, none⟩ (.int .i64 s.ha)).setCell ⟨w.heap.size, 4, none⟩ (.int .i64 s.v) = W ∧
  w0.heap[w.heap.size]? = some (.cells #[.int .i64 0, .int .i64 0, .int .i64 0, .int .i64 0, .int .i64 0] 38 (0, 0)) ∧
  W.heap[w.heap.size]? = some (.cells (encS s).toArray 38 (0, 0)) ∧ Mod (fun _ => False) w W := by
 have M0 : Mod (fun _ => False) w (w.alloc (.cells #[.int .i64 0, .int .i64 0, .int .i64 0, .int .i64 0, .int .i64 0] 38)) := (Mod.refl _ _).alloc _
 exact ⟨_, _, rfl, rfl, alloc_0 _ _, setL_whole (cs := [.int .i64 0, .int .i64 0, .int .i64 0, .int .i64 0, .int .i64 0]) (us := encS s) (alloc_0 _ _) rfl,
  ((((M0.setCell (.inr (Nat.le_refl _)) _).setCell (.inr (Nat.le_refl _)) _).setCell (.inr (Nat.le_refl _)) _).setCell (.inr (Nat.le_refl _)) _).setCell (.inr (Nat.le_refl _)) _⟩
end
open Go Go.RowKit
theorem ret4 {P : Program} {fn : Func} {R : Ending → World → Prop} {a : Act} {W : World} {p q r s : Tmp} (h : fn.results = #[.tmp p, .tmp q, .tmp r, .tmp s]) (hd : a.defers = [])
  (hR : R (.returned (.tuple #[a.tmps.getD p undef, a.tmps.getD q undef, a.tmps.getD r undef, a.tmps.getD s undef])) W) : bodyPost P fn R .ret a W := by
 refine bodyPost_ret (v := .tuple #[a.tmps.getD p undef, a.tmps.getD q undef, a.tmps.getD r undef, a.tmps.getD s undef]) ?_ hd hR
 simp [results, h, go_sem]
theorem boxSe8 (w : World) (deg room : Int) : ∃ w0, w.alloc (.cells #[.int .i64 deg, .int .i64 room] 23) = w0 ∧ w0.heap[w.heap.size]? = some (.cells #[.int .i64 deg, .int .i64 room] 23 (0, 0)) ∧ Mod (fun _ => False) w w0 ∧ w0.heap.size = w.heap.size + 1 :=
 ⟨_, rfl, alloc_0 _ _, (Mod.refl _ _).alloc _, by simp⟩
theorem seatArg8 {cs : Array Value} (h : Fit [.int .i64, .int .i64] cs.toList) : ∃ deg room, cs = #[.int .i64 deg, .int .i64 room] ∧ fit64 deg ∧ fit64 room := by
 obtain ⟨v, vs, e, ⟨n, rfl, hn⟩, h2⟩ := h.cons_inv
 obtain ⟨v2, vs2, rfl, ⟨n2, rfl, hn2⟩, h3⟩ := h2.cons_inv
 obtain rfl := h3.nil_inv
 exact ⟨n, n2, by cases cs; simp_all, wf64 hn, wf64 hn2⟩
theorem boxRC (w : World) (c : Cu) : ∃ w0, w.alloc (.cells (encRC c).toArray 71) = w0 ∧ w0.heap[w.heap.size]? = some (.cells (encRC c).toArray 71 (0, 0)) ∧ Mod (fun _ => False) w w0 ∧ w0.heap.size = w.heap.size + 1 :=
 ⟨_, rfl, alloc_0 _ _, (Mod.refl _ _).alloc _, by simp⟩
theorem box2RA (w : World) (c : Cu) (an : List Value) : ∃ w0, (w.alloc (.cells (encRC c).toArray 71)).alloc (.cells an.toArray 61) = w0 ∧ w0.heap[w.heap.size]? = some (.cells (encRC c).toArray 71 (0, 0)) ∧ w0.heap[w.heap.size + 1]? = some (.cells an.toArray 61 (0, 0)) ∧ Mod (fun _ => False) w w0 ∧ w0.heap.size = w.heap.size + 2 :=
 ⟨_, rfl, alloc2_0 _ _ _, alloc2_1 _ _ _, ((Mod.refl _ _).alloc _).alloc _, by simp⟩
theorem BothD.store {D : Nat → Prop} {w0 W : World} {mb cb d : Nat} {room : Int} {v : Value} {Lt Lv : List Sg} {c : Cu} (h : BothD D w0 W mb cb d room v Lt c Lv) {db : Nat} {c0 : Cu} (hd : D db) (hw : w0.heap.size ≤ db) (hb : W.heap[db]? = some (.cells (encRC c0).toArray 71 (0, 0))) (c1 : Cu) :
  (setL W db 0 (encRC c1)).heap[db]? = some (.cells (encRC c1).toArray 71 (0, 0)) ∧ BothD D w0 (setL W db 0 (encRC c1)) mb cb d room v Lt c Lv ∧ Mod (fun k => k = db) W (setL W db 0 (encRC c1)) := by
 have M : Mod (fun k => k = db) W (setL W db 0 (encRC c1)) := setL_mod (S := fun k => k = db) db (.inl rfl) _ _ _ (Mod.refl _ _)
 have e : ∀ k, (fun k => k = db) k → D k := fun k hk => by have hk : k = db := hk; rw [hk]; exact hd
 exact ⟨setL_whole (cs := encRC c0) hb rfl, ⟨h.1.mod M fun k hk _ hk' => hk.2.2 (e k hk'), own_mod h.2.1 M fun k hk hk' => (h.2.2.1 k hk).2 (e k hk'), h.2.2.1, h.2.2.2.1.trans M fun j hj => .inr (by have : j = db := hj; omega), fun k hk => M.lt (h.2.2.2.2 k hk)⟩, M⟩
def MadeNoM (w : World) (e : Ending) (w' : World) : Prop := e = .returned (.tuple #[.pointer none, .pointer none, .slice none 0 0, .bool false]) ∧ Below w.heap.size w w'
def MadeYesM (w : World) (room : Int) (e : Ending) (w' : World) : Prop := ∃ mb cb d v L c, e = .returned (.tuple #[.pointer (some ⟨mb, 0, none⟩), .pointer (some ⟨cb, 0, none⟩), v, .bool true]) ∧ BothD (fun _ => False) w w' mb cb d room v L c L
set_option maxRecDepth 100000 in
theorem madeM_no (deg room : Int) (a : Option Addr) (len cap : Nat) (w : World) (hb : ¬ (rightD deg = true ∧ 0 ≤ room ∧ room ≤ 4096) ∨ 200 < len) :
  Calls Tryz.prog 10 #[.agg #[.int .i64 deg, .int .i64 room], .slice a len cap] w fun e w' => MadeNoM w e w' := by
 obtain ⟨w0, hw0, b0, M0, hs0⟩ := boxSe8 w deg room
 obtain ⟨c0, f0⟩ := blkc b0
 by_cases hb' : rightD deg = true ∧ 0 ≤ room ∧ room ≤ 4096
 ·have h2' : (200 : Int) < len := by have := hb.resolve_left (fun h => h hb'); omega
  have P := fo_new deg room hb'.1 hb'.2 w0
  replace hs0 := hid hs0
  clear hb hb'
  go_enter Tryz.func10, Tryz.ntmps10
  go_wp2_with fail
  refine P.mono ?_
  rintro e w1 ⟨mb, rfl, F1⟩
  go_wp2_with fail
  exact ret4 rfl rfl ⟨rfl, (F1.back M0).below⟩
 ·have P := om_new_no deg room hb' w0
  replace hs0 := hid hs0
  clear hb hb'
  go_enter Tryz.func10, Tryz.ntmps10
  go_wp2_with fail
  refine P.mono ?_
  rintro e w1 ⟨rfl, hw⟩
  rw [hw]
  clear hw
  go_wp2_with fail
  exact ret4 rfl rfl ⟨rfl, M0.to_below (Nat.le_refl _) fun _ h => h.elim⟩
set_option maxRecDepth 100000 in
set_option maxHeartbeats 2000000 in
theorem madeM (deg room : Int) (a : Option Addr) (len cap : Nat) (zs : List Op8) (w : World) (hr : RdS encO8 7 w a len zs) (hG : ∀ z ∈ zs, GOp8 z) (hd : rightD deg = true) (hr0 : 0 ≤ room ∧ room ≤ 4096) (hl : len ≤ 200) :
  Calls Tryz.prog 10 #[.agg #[.int .i64 deg, .int .i64 room], .slice a len cap] w fun e w' => MadeYesM w room e w' := by
 have h2' : ¬ (200 : Int) < len := by omega
 obtain ⟨w0, hw0, b0, M0, hs0⟩ := boxSe8 w deg room
 obtain ⟨c0, f0⟩ := blkc b0
 have P := fo_new deg room hd hr0 w0
 replace hs0 := hid hs0
 go_enter Tryz.func10, Tryz.ntmps10
 go_wp2_with fail
 refine P.mono ?_
 rintro e w1 ⟨mb, rfl, F1⟩
 clear P c0 f0
 go_wp2_with fail
 refine (fo_cursor F1).mono ?_
 rintro e w2 ⟨cb, rfl, F2⟩
 clear F1
 obtain ⟨W3, hW3, bd, M3, hs3⟩ := boxRC w2 Cu.z
 have F3 := (BothD.start F2.1 F2.2).more (D' := fun k => k = w2.heap.size) M3 (fun k hk => .inr (by have : k = w2.heap.size := hk; omega)) (fun k hk => by have : k = w2.heap.size := hk; omega)
 have hdb : w0.heap.size ≤ w2.heap.size := F2.2.size
 have bS := F3.2.2.2.1.heap b0 fun h => h
 obtain ⟨db, hdb'⟩ : ∃ db, w2.heap.size = db := ⟨_, rfl⟩
 simp only [encRC, Cu.z] at hW3
 replace hs3 := hid hs3
 generalize deg.toNat = d0 at F2 F3
 go_wp2_with fail
 rw [hdb'] at F3 bd hdb
 clear F2 hW3 M3 hs3 hdb'
 go_loopw [11, 41] (fun v c W => ∃ (k : Nat) (L : List Sg) (C : Cu) (d : Nat), k ≤ len ∧ c = .int .i64 k ∧ BothD (fun k => k = db) w0 W mb cb d room v L C L ∧ W.heap[db]? = some (.cells (encRC C).toArray 71 (0, 0))) (fun _ c _ => (len - intOf c).toNat)
 case atStart => exact ⟨0, _, _, _, by omega, rfl, F3, bd⟩
 case round =>
  clear F3 bd bS
  obtain ⟨k, L, C, d, hk, rfl, F, bd⟩ := hrel
  by_cases hlt : k < len
  ·have hzl : k < zs.length := by rw [hr.1]; exact hlt
   obtain ⟨b, o, rfl, hc⟩ := hr.2.2 (by omega)
   obtain ⟨x0, x1, x2, x3, x4, x5, x6⟩ := RdS.op8 hc ((M0.to_below (Nat.le_refl _) fun _ h => h.elim).trans (F.below.mono M0.size)) hzl
   have hg := hG zs[k] (by simp)
   generalize zs[k] = op at x0 x1 x2 x3 x4 x5 x6 hg
   have hdo : db < wr.heap.size := F.2.2.2.2 db rfl
   obtain ⟨W1, hW1, ho, m1⟩ := boxO8 wr op
   obtain ⟨d1, e1⟩ := blkc ho
   replace F := F.mod0 m1
   replace bd := m1.heap bd fun h => h
   obtain ⟨y1, y2⟩ := blkc bd
   have hw1 := m1.size
   have hf : fit64 op.s.la := hg.2.2.2.2.1
   have P := bothD_do F op hf
   have P2 := fun (W : World) (v' : Value) (G : BothD (fun k => k = db) w0 W mb cb d room v' L C (do8L room op L)) => bothD_does G op hf
   have bS := F.2.2.2.1.heap b0 fun h => h
   obtain ⟨s1, s2⟩ := blkc bS
   clear hc hr hzl hG hg
   have hob : wr.heap.size < W1.heap.size := blkl ho
   unfold ans8 at P P2
   obtain ⟨q, n, ls, la, hs, ha, v⟩ := op
   generalize oS (do8S ⟨q, n, ls, la, hs, ha, v⟩ L C) = S1, do8B ⟨q, n, ls, la, hs, ha, v⟩ L C = r1, do8E room ⟨q, n, ls, la, hs, ha, v⟩ L = r2, do8L room ⟨q, n, ls, la, hs, ha, v⟩ L = L1, do8C ⟨q, n, ls, la, hs, ha, v⟩ L C = C1, do8D ⟨q, n, ls, la, hs, ha, v⟩ d = dd at P P2
   obtain ⟨xl, xa, xh, xg, xv⟩ := S1
   simp only [encO8, encRC, ansL] at hW1 d1 P P2 y1
   replace P2 := hid P2
   replace hdo := hid hdo
   go_wp2_with fail
   refine P.mono ?_
   rintro e w2 ⟨v', rfl, F2, M2⟩
   clear P d1 e1 x0 x1 x2 x3 x4 x5 x6 s1 s2 y1 y2
   obtain ⟨W3, hW3, br, ba, M3, hs3⟩ := box2RA w2 C1 [.int .i64 xl, .int .i64 xa, .int .i64 xh, .int .i64 xg, .int .i64 xv, .bool r1, .int .i64 r2]
   have F3 := F2.mod0 M3
   have bd3 := M3.heap (M2.heap bd fun h => h) fun h => h
   have ho3 := M3.heap (M2.heap ho fun h => h) fun h => h
   obtain ⟨y1, y2⟩ := blkc br
   obtain ⟨y3, y4⟩ := blkc bd3
   simp only [encRC] at y1 y3 hW3
   have key := hid fun W (e : W = (setL W3 db 0 (encRC C1)).drew) => (by
    obtain ⟨q1, q2, q3⟩ := F3.store rfl hdb bd3 C1
    have hne := hdo.out
    subst e
    exact ⟨q1, q2.mod0 (Mod.refl _ _).drew, q3.heap ho3 fun h => by omega⟩ : W.heap[db]? = some (.cells (encRC C1).toArray 71 (0, 0)) ∧ BothD (fun k => k = db) w0 W mb cb d room v' L C L1 ∧ W.heap[wr.heap.size]? = some (.cells (encO8 ⟨q, n, ls, la, hs, ha, v⟩).toArray 59 (0, 0)))
   go_wp2_with fail
   clear hW3
   go_region
   all_goals
    generalize hW4 : World.drew _ = W4
    obtain ⟨bd4, F4, ho4⟩ := key.out W4 hW4.symm
    clear hW4 key y1 y2 y3 y4 bd3 br ba ho3
    obtain ⟨d4, e4⟩ := blkc ho4
    have P3 := P2.out W4 v' F4
    simp only [encO8] at d4
    clear P2
    go_wp2_with fail
    refine P3.mono ?_
    rintro e W5 ⟨rfl, F5, M5⟩
    have bd5 := M5.heap bd4 fun h => h.2.2 rfl
    clear P3 d4 e4 F4 bd4 ho4 ho bd
    go_wp2_with fail
    go_roundw
    case rel => exact ⟨k + 1, L1, C1, dd, by omega, by simp, F5, bd5⟩
    case measure => simp [intOf]; omega
  ·obtain rfl : k = len := by omega
   clear hlt hk hr
   go_wp2_with fail
   exact ret4 rfl rfl ⟨_, _, _, _, _, _, rfl, (F.less (D' := fun _ => False) fun _ h => h.elim).back M0⟩
open Go Go.RowKit
theorem segM (n : Int) (w : World) : Calls Tryz.prog 37 #[.int .i64 n] w fun e w' => e = .returned (.agg (encS (segN n)).toArray) ∧ Mod (fun _ => False) w w' := by
 obtain ⟨w0, hw0, b0, M0⟩ : ∃ w0, w.alloc (.cells #[.int .i64 0, .int .i64 0, .int .i64 0, .int .i64 0, .int .i64 0] 38) = w0 ∧ w0.heap[w.heap.size]? = some (.cells #[.int .i64 0, .int .i64 0, .int .i64 0, .int .i64 0, .int .i64 0] 38 (0, 0)) ∧ Mod (fun _ => False) w w0 :=
  ⟨_, rfl, alloc_0 _ _, (Mod.refl _ _).alloc _⟩
 obtain ⟨d0, e0⟩ := blkc b0
 go_enter Tryz.func37, Tryz.ntmps37
 go_wp2_with fail
 exact ret_row w.heap.size [.int .i64 0, .int .i64 n, .int .i64 0, .int .i64 0, .int .i64 n] rfl rfl (setL_whole (cs := [.int .i64 0, .int .i64 0, .int .i64 0, .int .i64 0, .int .i64 0]) (us := [.int .i64 0, .int .i64 n, .int .i64 0, .int .i64 0, .int .i64 n]) b0 rfl) Tryz.underlying38 rfl (by kernel_rfl) rfl
  ⟨rfl, ((((M0.setCell (.inr (Nat.le_refl _)) _).setCell (.inr (Nat.le_refl _)) _).setCell (.inr (Nat.le_refl _)) _).setCell (.inr (Nat.le_refl _)) _).setCell (.inr (Nat.le_refl _)) _⟩
def alL : List Sg := [segN 1, segN 3, segN 5]
def alC : Cu := ⟨true, 0, 3⟩
def alC2 : Cu := ⟨true, 0, 5⟩
set_option maxHeartbeats 2000000 in
set_option maxRecDepth 100000 in
theorem alive8 (w : World) : Calls Tryz.prog 11 #[] w fun e w' => e = .returned (.bool true) ∧ Below w.heap.size w w' := by
 go_enter Tryz.func11, Tryz.ntmps11
 go_wp2_with fail
 refine (fo_new 0 9 rfl (by omega) w).mono ?_
 rintro e w1 ⟨mb, rfl, F⟩
 go_wp2_with fail
 refine (segM 1 w1).mono ?_
 rintro e w2 ⟨rfl, M⟩
 replace F := F.mod0 M
 clear M
 go_wp2_with fail
 refine (fo_put F (segN 1) (by unfold fit64 segN; decide)).mono ?_
 rintro e w3 ⟨rfl, F⟩
 go_wp2_with fail
 refine (segM 3 w3).mono ?_
 rintro e w4 ⟨rfl, M⟩
 replace F := F.mod0 M
 clear M
 go_wp2_with fail
 refine (fo_put F (segN 3) (by unfold fit64 segN; decide)).mono ?_
 rintro e w5 ⟨rfl, F⟩
 go_wp2_with fail
 refine (segM 5 w5).mono ?_
 rintro e w6 ⟨rfl, M⟩
 replace F := F.mod0 M
 clear M
 go_wp2_with fail
 refine (fo_put F (segN 5) (by unfold fit64 segN; decide)).mono ?_
 rintro e w7 ⟨rfl, F⟩
 replace F : FO w w7 mb 0 9 alL := F
 go_wp2_with fail
 refine (fo_cursor F).mono ?_
 rintro e w8 ⟨cb, rfl, F⟩
 go_wp2_with fail
 refine (fm_seek F 0 2 (by unfold fit64; decide)).mono ?_
 rintro e w9 ⟨rfl, F⟩
 rw [show (nearS true true (kx 0 2) alL).isSome = true from rfl]
 replace F : FM w w9 mb cb 0 9 alL alC := F
 go_wp2_with fail
 refine (mc_seg F.1).mono ?_
 rintro e w10 ⟨rfl, M⟩
 have F10 := F.mod0 M
 clear F
 rw [show optS (if alC.on then getS alC.key alL else none) = .tuple #[.agg (encS (segN 3)).toArray, .bool true] from rfl]
 obtain ⟨u8, W8, g8, k8, b8, B8, N8⟩ := put5s8 w10 (segN 3)
 obtain ⟨d8, e8⟩ := blkc b8
 have F := F10.mod0 N8
 simp only [encS, segN]
 simp only [segN] at k8
 clear M
 go_wp2_with fail
 clear d8 e8 b8 g8 k8
 have hz8 : w10.heap.size < W8.heap.size := blkl B8
 have G : MC (fun k => w.heap.size ≤ k ∧ k ≠ w10.heap.size) W8 mb cb 0 9 alL alC := F10.1.mono (fun k hk hl => ⟨hk, by omega⟩) |>.mod0 N8
 have MF := F.2
 refine (mc_del G 0 3 (by unfold fit64; decide)).mono ?_
 rintro e w12 ⟨rfl, G2, M2⟩
 have B12 := M2.heap B8 fun h => h.2 rfl
 replace MF : Mod (fun _ => False) w w12 := MF.trans M2 fun j h => .inr h.1
 replace G2 : MC (fun k => w.heap.size ≤ k ∧ k ≠ w10.heap.size) w12 mb cb 0 9 [segN 1, segN 5] alC := G2.mono fun k hk _ => by
  rcases hk with hk | hk
  ·exact hk
  ·have := F10.2.size; exact ⟨by omega, by omega⟩
 clear G F F10 M2 B8
 rw [show hasK (kx 0 3) alL = true from rfl]
 go_wp2_with fail
 refine (mc_next G2).mono ?_
 rintro e w13 ⟨rfl, G, M2⟩
 have B13 := M2.heap B12 fun h => h.2 rfl
 replace MF : Mod (fun _ => False) w w13 := MF.trans M2 fun j h => .inr h.1
 rw [show (alC.on && (nearS true false alC.key [segN 1, segN 5]).isSome) = true from rfl]
 replace G : MC (fun k => w.heap.size ≤ k ∧ k ≠ w10.heap.size) w13 mb cb 0 9 [segN 1, segN 5] alC2 := G
 clear G2 M2 B12
 go_wp2_with fail
 refine (mc_seg G).mono ?_
 rintro e w14 ⟨rfl, M⟩
 replace G := G.mod0 M
 replace B13 := M.heap B13 fun h => h
 replace MF := MF.trans' M
 rw [show optS (if alC2.on then getS alC2.key [segN 1, segN 5] else none) = .tuple #[.agg (encS (segN 5)).toArray, .bool true] from rfl]
 obtain ⟨u9, W9, g9, k9, b9, B9, N9⟩ := put5s8 w14 (segN 5)
 obtain ⟨d9, e9⟩ := blkc b9
 have D13 := N9.heap B13 fun h => h
 obtain ⟨d8, e8⟩ := blkc D13
 obtain ⟨d7, e7⟩ := blkc B9
 have F : FM w W9 mb cb 0 9 [segN 1, segN 5] alC2 := ⟨(G.mod0 N9).mono fun k hk _ => hk.1, MF.trans' N9⟩
 simp only [encS, segN] at d8 d7 ⊢
 simp only [segN] at k9
 clear M G MF
 go_wp2_with fail
 clear d9 e9 b9 g9 k9 N9 d8 e8 d7 e7
 refine (fm_next F).mono ?_
 rintro e w16 ⟨rfl, F2⟩
 rw [show (alC2.on && (nearS true false alC2.key [segN 1, segN 5]).isSome) = false from rfl]
 clear F
 go_wp2_with fail
 refine (fm_turn F2 2).mono ?_
 rintro e w17 ⟨rfl, F⟩
 rw [show (if rightD 2 = true then (0 : Int) else 1) = 0 from rfl]
 replace F : FM w w17 mb cb 2 9 [segN 1, segN 5] _ := F
 clear F2
 go_wp2_with fail
 refine (om_degree F.fo.1).mono ?_
 rintro e w18 ⟨rfl, M⟩
 replace F := F.mod0 M
 clear M
 go_wp2_with fail
 refine (om_len F.fo.1).mono ?_
 rintro e w19 ⟨rfl, M⟩
 replace F := F.mod0 M
 clear M
 go_wp2_with fail
 refine (om_list F.fo.1).mono ?_
 rintro e w20 ⟨v, rfl, R, hv, M⟩
 replace F := F.mod0 M
 clear M
 obtain ⟨A3, cap3, hv3, _⟩ := R.slice
 subst hv3
 go_wp2_with fail
 go_ret
 exact ⟨rfl, F.below⟩
open Go Go.RowKit
set_option maxHeartbeats 1000000 in
theorem sameR {w : World} {v v' : Value} {l : List Sg} (h : RowV w v l) (h' : RowV w v' l) (hlen : l.length ≤ 65536) :
  Calls Tryz.prog 28 #[v, v'] w fun e w' => e = .returned (.bool true) ∧ Mod (fun _ => False) w w' := by
 obtain ⟨A, c, rfl, hA⟩ := h.slice
 obtain ⟨A', c', rfl, hA'⟩ := h'.slice
 go_enter Tryz.func28, Tryz.ntmps28
 go_wp2_with fail
 go_loopw [5] (fun i W => ∃ k : Nat, k ≤ l.length ∧ i = .int .i64 k ∧ Mod (fun _ => False) w W) (fun i _ => (l.length - intOf i).toNat)
 case atStart => exact ⟨0, by omega, rfl, Mod.refl _ _⟩
 case round =>
  obtain ⟨k, hk, rfl, M1⟩ := hrel
  by_cases hlt : k < l.length
  ·obtain ⟨g, rfl⟩ := hA (by omega)
   obtain ⟨g', rfl⟩ := hA' (by omega)
   obtain ⟨c0, c1, c2, c3, c4⟩ := (h.keep M1).cells hlt
   obtain ⟨d0, d1, d2, d3, d4⟩ := (h'.keep M1).cells hlt
   have hkb : (k : Int) + 1 ≤ 65536 := by omega
   have hkl : (k : Int) < l.length := by omega
   generalize l[k] = s at c0 c1 c2 c3 c4 d0 d1 d2 d3 d4
   obtain ⟨ls, la, hs, ha, sv⟩ := s
   dsimp only at c0 c1 c2 c3 c4 d0 d1 d2 d3 d4
   clear h h'
   go_wp2_with fail
   go_quiet (fail)
   go_wp2_with fail
   go_roundw
   case rel => exact ⟨k + 1, by omega, by simp, M1.drewN _⟩
   case measure => simp [intOf]; omega
  ·obtain rfl : k = l.length := by omega
   clear h h'
   go_wp2_with fail
   go_ret
   exact ⟨rfl, M1⟩
open Go Go.RowKit
section
variable {P : Program}
def fpB (md : Region.Mode) (ops : Array Oper) (p n : Nat) : List Nat → Array Bool → Bool
 | [], listed => decide (Region.ready md ops listed = [p]) && Region.lexFrom md ops (ops.size - n) n (listed.setIfInBounds p true)
 | i :: fl, listed => (Region.ready md ops listed).contains i && Region.free md ops listed i && fpB md ops p n fl (listed.setIfInBounds i true)
theorem fp_region {id : Nat} {Q : Exit → Act → World → Prop} {a : Act} {w : World} {l : List Oper} (p n : Nat) (fl : List Nat) (op : Oper) (hm : P.follows .mixedOrders = true)
  (hB : (Region.noSelect l.toArray && decide (fl.length + 1 = n) && decide (n ≤ l.length) && fpB .any l.toArray p n fl (Array.replicate l.toArray.size false)) = true) (hop : l[p]? = some op)
  (h : ∀ Q0 : Exit → Act → World → Prop, (∀ a w, Q .normal a w → Q0 .normal a w) → wpF P l.toArray (fun a' => Region.wanted op (yielded l.toArray a'.tmps) = true ∧ ∀ K : Act → World → Prop, (∀ a1 w1, wpQuiet P l.toArray (CM w1) (fun a2 => ∀ w2, CM w1 w2 → Q0 .normal a2 w2) (l.drop n) a1 → K a1 w1) → op.wp P a' (w.drewN 1) K Q0) fl a) :
  (Code.region id l.toArray true).wp P Q a w := by
 refine Code.wp_mono NoP.imp ?_
 have hQ : ∀ c (a : Act) (d : Option Tmp) (v : Value) (w : World), NoP Q (.panic c) (a.put d v) w → NoP Q (.panic c) a w := fun _ _ _ _ _ h => h
 replace h := h (NoP Q) fun _ _ h => h
 generalize NoP Q = Q at h hQ
 simp only [Bool.and_eq_true, decide_eq_true_eq] at hB
 obtain ⟨⟨⟨hsel, hlen⟩, hn⟩, hB⟩ := hB
 have key : ∀ (fl2 : List Nat) (listed : Array Bool) (a : Act), fpB .any l.toArray p n fl2 listed = true →
   wpF P l.toArray (fun a' => Region.wanted op (yielded l.toArray a'.tmps) = true ∧ ∀ K : Act → World → Prop, (∀ a1 w1, wpQuiet P l.toArray (CM w1) (fun a2 => ∀ w2, CM w1 w2 → Q .normal a2 w2) (l.drop n) a1 → K a1 w1) → op.wp P a' (w.drewN 1) K Q) fl2 a →
   wpAny P .any l.toArray Q (fl2.length + (1 + (l.toArray.size - n))) listed a (w.drewN 1) := by
  intro fl2
  induction fl2 with
  | nil =>
   intro listed a hb h
   simp only [fpB, Bool.and_eq_true, decide_eq_true_eq] at hb
   rw [List.length_nil, Nat.zero_add, Nat.add_comm]
   refine wpAny_all hb.1 (by simp) ?_
   intro i hi
   simp at hi
   subst hi
   unfold wpOp
   simp only [List.getElem?_toArray, hop]
   rw [if_pos h.1]
   refine .inl (h.2 _ fun a1 w1 hq => ?_)
   refine wpAny_of_quiet (C := CM w1) (Q := fun a' => ∀ w', CM w1 w' → Q .normal a' w') (fun _ w' hw' h => h w' hw') _ _ _ _ (Mod.refl _ _) ?_
   have hd2 : (l.drop n).length = l.toArray.size - n := by simp
   have := wpAnyQ_lex (P := P) (C := CM w1) (md := .any) (ops := l.toArray) hsel (l.drop n) n (listed.setIfInBounds i true) a1 (fun j => by simp) (by rw [hd2]; exact hb.2) hq
   rw [hd2] at this
   exact this
  | cons i fl2 ih =>
   intro listed a hb h
   simp only [fpB, Bool.and_eq_true] at hb
   obtain ⟨o, v, ho, hy, hK⟩ := h
   have hr : i ∈ Region.ready .any l.toArray listed := by simpa using hb.1.1
   rw [List.length_cons, Nat.add_right_comm]
   exact wpAny_first ho (Region.noSelect_spec hsel) (fun c a w => hQ c a _ _ w) _ _ _ _ (Region.free_spec ho hb.1.2) hr hy (ih _ _ hb.2 hK)
 refine wp_region_any hm ?_
 have := key fl _ a hB h
 have e : fl.length + (1 + (l.toArray.size - n)) = l.toArray.size := by simp; omega
 rw [e] at this
 exact this
theorem wpF_step2 {ops : Array Oper} {K : Act → Prop} {i : Nat} {fl : List Nat} {a : Act} (o : Oper) (ho : ops[i]? = some o)
  (h : ∀ K' : Act → Prop, (∀ a, wpF P ops K fl a → K' a) → Region.wanted o (yielded ops a.tmps) = true ∧ ∃ v, (∀ w, (execOp a.eval o).run P w = .ok (.value v) w) ∧ K' (a.put o.dst v)) : wpF P ops K (i :: fl) a := by
 obtain ⟨h1, v, h2, h3⟩ := h _ fun _ h => h
 exact ⟨o, v, ho, .inl ⟨h1, h2⟩, h3⟩
end
open Go Go.RowKit
section
variable {P : Program}
def fsB (md : Region.Mode) (ops : Array Oper) (n : Nat) : List (Nat × Bool) → Array Bool → Bool
 | [], listed => Region.lexFrom md ops (ops.size - n) n listed
 | (i, true) :: st, listed => (Region.ready md ops listed).contains i && Region.free md ops listed i && fsB md ops n st (listed.setIfInBounds i true)
 | (i, false) :: st, listed => decide (Region.ready md ops listed = [i]) && fsB md ops n st (listed.setIfInBounds i true)
def wpG (P : Program) (l : List Oper) (n : Nat) (Q : Exit → Act → World → Prop) : List (Nat × Bool) → Act → World → Prop
 | [], a, w => wpQuiet P l.toArray (CM w) (fun a2 => ∀ w2, CM w w2 → Q .normal a2 w2) (l.drop n) a
 | (i, true) :: st, a, w => ∃ o v, l.toArray[i]? = some o ∧ Yields P l.toArray o v a ∧ wpG P l n Q st (a.put o.dst v) w
 | (i, false) :: st, a, w => ∃ o, l[i]? = some o ∧ Region.wanted o (yielded l.toArray a.tmps) = true ∧ ∀ K : Act → World → Prop, (∀ a1 w1, wpG P l n Q st a1 w1 → K a1 w1) → o.wp P a w K Q
theorem wpG_free {l : List Oper} {n : Nat} {Q : Exit → Act → World → Prop} {i : Nat} {st : List (Nat × Bool)} {a : Act} {w : World} (o : Oper) (ho : l.toArray[i]? = some o)
  (h : ∀ K' : Act → Prop, (∀ a, wpG P l n Q st a w → K' a) → Region.wanted o (yielded l.toArray a.tmps) = true ∧ ∃ v, (∀ w, (execOp a.eval o).run P w = .ok (.value v) w) ∧ K' (a.put o.dst v)) : wpG P l n Q ((i, true) :: st) a w := by
 obtain ⟨h1, v, h2, h3⟩ := h _ fun _ h => h
 exact ⟨o, v, ho, .inl ⟨h1, h2⟩, h3⟩
theorem wpG_one {l : List Oper} {n : Nat} {Q : Exit → Act → World → Prop} {i : Nat} {st : List (Nat × Bool)} {a : Act} {w : World} (o : Oper) (ho : l[i]? = some o)
  (h : Region.wanted o (yielded l.toArray a.tmps) = true ∧ ∀ K : Act → World → Prop, (∀ a1 w1, wpG P l n Q st a1 w1 → K a1 w1) → o.wp P a w K Q) : wpG P l n Q ((i, false) :: st) a w := ⟨o, ho, h.1, h.2⟩
theorem wpG_rest {l : List Oper} {n : Nat} {Q : Exit → Act → World → Prop} {a : Act} {w : World} (h : wpQuiet P l.toArray (CM w) (fun a2 => ∀ w2, CM w w2 → Q .normal a2 w2) (l.drop n) a) : wpG P l n Q [] a w := h
theorem fs_region {id : Nat} {Q : Exit → Act → World → Prop} {a : Act} {w : World} {l : List Oper} (n : Nat) (st : List (Nat × Bool)) (hm : P.follows .mixedOrders = true)
  (hB : (Region.noSelect l.toArray && decide (st.length = n) && decide (n ≤ l.length) && fsB .any l.toArray n st (Array.replicate l.toArray.size false)) = true)
  (h : ∀ Q0 : Exit → Act → World → Prop, (∀ a w, Q .normal a w → Q0 .normal a w) → wpG P l n Q0 st a (w.drewN 1)) :
  (Code.region id l.toArray true).wp P Q a w := by
 refine Code.wp_mono NoP.imp ?_
 have hQ : ∀ c (a : Act) (d : Option Tmp) (v : Value) (w : World), NoP Q (.panic c) (a.put d v) w → NoP Q (.panic c) a w := fun _ _ _ _ _ h => h
 replace h := h (NoP Q) fun _ _ h => h
 generalize NoP Q = Q at h hQ
 simp only [Bool.and_eq_true, decide_eq_true_eq] at hB
 obtain ⟨⟨⟨hsel, hlen⟩, hn⟩, hB⟩ := hB
 have key : ∀ (st : List (Nat × Bool)) (listed : Array Bool) (a : Act) (w : World), fsB .any l.toArray n st listed = true → wpG P l n Q st a w → wpAny P .any l.toArray Q (st.length + (l.toArray.size - n)) listed a w := by
  intro st
  induction st with
  | nil =>
   intro listed a w hb h
   rw [List.length_nil, Nat.zero_add]
   refine wpAny_of_quiet (C := CM w) (Q := fun a' => ∀ w', CM w w' → Q .normal a' w') (fun _ w' hw' h => h w' hw') _ _ _ _ (Mod.refl _ _) ?_
   have hd2 : (l.drop n).length = l.toArray.size - n := by simp
   have := wpAnyQ_lex (P := P) (C := CM w) (md := .any) (ops := l.toArray) hsel (l.drop n) n listed a (fun j => by simp) (by rw [hd2]; exact hb) h
   rw [hd2] at this
   exact this
  | cons x st ih =>
   obtain ⟨i, f⟩ := x
   intro listed a w hb h
   rw [List.length_cons, Nat.add_right_comm]
   cases f with
   | true =>
    simp only [fsB, Bool.and_eq_true] at hb
    obtain ⟨o, v, ho, hy, hK⟩ := h
    have hr : i ∈ Region.ready .any l.toArray listed := by simpa using hb.1.1
    exact wpAny_first ho (Region.noSelect_spec hsel) (fun c a w => hQ c a _ _ w) _ _ _ _ (Region.free_spec ho hb.1.2) hr hy (ih _ _ _ hb.2 hK)
   | false =>
    simp only [fsB, Bool.and_eq_true, decide_eq_true_eq] at hb
    obtain ⟨o, ho, hw, hK⟩ := h
    refine wpAny_all hb.1 (by simp) ?_
    intro j hj
    simp at hj
    subst hj
    unfold wpOp
    simp only [List.getElem?_toArray, ho]
    rw [if_pos hw]
    exact .inl (hK _ fun a1 w1 hq => ih _ _ _ hb.2 hq)
 refine wp_region_any hm ?_
 have := key st _ a _ hB h
 have e : st.length + (l.toArray.size - n) = l.toArray.size := by simp; omega
 rw [e] at this
 exact this
end
open Go Go.RowKit
inductive Stg where
 | rest
 | free (i : Nat) (s : Stg)
 | one (i : Nat) (s : Stg)
 | two (i j : Nat) (s t : Stg)
def Stg.len : Stg → Nat
 | .rest => 0
 | .free _ s => s.len + 1
 | .one _ s => s.len + 1
 | .two _ _ s _ => s.len + 1
section
variable {P : Program}
def ftB (md : Region.Mode) (ops : Array Oper) (n : Nat) : Stg → Array Bool → Bool
 | .rest, listed => Region.lexFrom md ops (ops.size - n) n listed
 | .free i s, listed => (Region.ready md ops listed).contains i && Region.free md ops listed i && ftB md ops n s (listed.setIfInBounds i true)
 | .one i s, listed => decide (Region.ready md ops listed = [i]) && ftB md ops n s (listed.setIfInBounds i true)
 | .two i j s t, listed => decide (Region.ready md ops listed = [i, j]) && decide (s.len = t.len) && ftB md ops n s (listed.setIfInBounds i true) && ftB md ops n t (listed.setIfInBounds j true)
def wpT (P : Program) (l : List Oper) (n : Nat) (Q : Exit → Act → World → Prop) : Stg → Act → World → Prop
 | .rest, a, w => wpQuiet P l.toArray (CM w) (fun a2 => ∀ w2, CM w w2 → Q .normal a2 w2) (l.drop n) a
 | .free i s, a, w => ∃ o v, l.toArray[i]? = some o ∧ Yields P l.toArray o v a ∧ wpT P l n Q s (a.put o.dst v) w
 | .one i s, a, w => ∃ o, l[i]? = some o ∧ Region.wanted o (yielded l.toArray a.tmps) = true ∧ ∀ K : Act → World → Prop, (∀ a1 w1, wpT P l n Q s a1 w1 → K a1 w1) → o.wp P a w K Q
 | .two i j s t, a, w => (∃ o, l[i]? = some o ∧ Region.wanted o (yielded l.toArray a.tmps) = true ∧ ∀ K : Act → World → Prop, (∀ a1 w1, wpT P l n Q s a1 w1 → K a1 w1) → o.wp P a w K Q) ∧
   ∃ o, l[j]? = some o ∧ Region.wanted o (yielded l.toArray a.tmps) = true ∧ ∀ K : Act → World → Prop, (∀ a1 w1, wpT P l n Q t a1 w1 → K a1 w1) → o.wp P a w K Q
theorem wpT_free {l : List Oper} {n : Nat} {Q : Exit → Act → World → Prop} {i : Nat} {s : Stg} {a : Act} {w : World} (o : Oper) (ho : l.toArray[i]? = some o)
  (h : ∀ K' : Act → Prop, (∀ a, wpT P l n Q s a w → K' a) → Region.wanted o (yielded l.toArray a.tmps) = true ∧ ∃ v, (∀ w, (execOp a.eval o).run P w = .ok (.value v) w) ∧ K' (a.put o.dst v)) : wpT P l n Q (.free i s) a w := by
 obtain ⟨h1, v, h2, h3⟩ := h _ fun _ h => h
 exact ⟨o, v, ho, .inl ⟨h1, h2⟩, h3⟩
theorem wpT_one {l : List Oper} {n : Nat} {Q : Exit → Act → World → Prop} {i : Nat} {s : Stg} {a : Act} {w : World} (o : Oper) (ho : l[i]? = some o)
  (h : Region.wanted o (yielded l.toArray a.tmps) = true ∧ ∀ K : Act → World → Prop, (∀ a1 w1, wpT P l n Q s a1 w1 → K a1 w1) → o.wp P a w K Q) : wpT P l n Q (.one i s) a w := ⟨o, ho, h.1, h.2⟩
theorem wpT_two {l : List Oper} {n : Nat} {Q : Exit → Act → World → Prop} {i j : Nat} {s t : Stg} {a : Act} {w : World} (o o' : Oper) (ho : l[i]? = some o) (ho' : l[j]? = some o')
  (h : Region.wanted o (yielded l.toArray a.tmps) = true ∧ ∀ K : Act → World → Prop, (∀ a1 w1, wpT P l n Q s a1 w1 → K a1 w1) → o.wp P a w K Q)
  (h' : Region.wanted o' (yielded l.toArray a.tmps) = true ∧ ∀ K : Act → World → Prop, (∀ a1 w1, wpT P l n Q t a1 w1 → K a1 w1) → o'.wp P a w K Q) : wpT P l n Q (.two i j s t) a w := ⟨⟨o, ho, h.1, h.2⟩, o', ho', h'.1, h'.2⟩
theorem wpT_rest {l : List Oper} {n : Nat} {Q : Exit → Act → World → Prop} {a : Act} {w : World} (h : wpQuiet P l.toArray (CM w) (fun a2 => ∀ w2, CM w w2 → Q .normal a2 w2) (l.drop n) a) : wpT P l n Q .rest a w := h
theorem ft_region {id : Nat} {Q : Exit → Act → World → Prop} {a : Act} {w : World} {l : List Oper} (n : Nat) (st : Stg) (hm : P.follows .mixedOrders = true)
  (hB : (Region.noSelect l.toArray && decide (st.len = n) && decide (n ≤ l.length) && ftB .any l.toArray n st (Array.replicate l.toArray.size false)) = true)
  (h : ∀ Q0 : Exit → Act → World → Prop, (∀ a w, Q .normal a w → Q0 .normal a w) → wpT P l n Q0 st a (w.drewN 1)) :
  (Code.region id l.toArray true).wp P Q a w := by
 refine Code.wp_mono NoP.imp ?_
 have hQ : ∀ c (a : Act) (d : Option Tmp) (v : Value) (w : World), NoP Q (.panic c) (a.put d v) w → NoP Q (.panic c) a w := fun _ _ _ _ _ h => h
 replace h := h (NoP Q) fun _ _ h => h
 generalize NoP Q = Q at h hQ
 simp only [Bool.and_eq_true, decide_eq_true_eq] at hB
 obtain ⟨⟨⟨hsel, hlen⟩, hn⟩, hB⟩ := hB
 have key : ∀ (st : Stg) (listed : Array Bool) (a : Act) (w : World), ftB .any l.toArray n st listed = true → wpT P l n Q st a w → wpAny P .any l.toArray Q (st.len + (l.toArray.size - n)) listed a w := by
  intro st
  induction st with
  | rest =>
   intro listed a w hb h
   rw [Stg.len, Nat.zero_add]
   refine wpAny_of_quiet (C := CM w) (Q := fun a' => ∀ w', CM w w' → Q .normal a' w') (fun _ w' hw' h => h w' hw') _ _ _ _ (Mod.refl _ _) ?_
   have hd2 : (l.drop n).length = l.toArray.size - n := by simp
   have := wpAnyQ_lex (P := P) (C := CM w) (md := .any) (ops := l.toArray) hsel (l.drop n) n listed a (fun j => by simp) (by rw [hd2]; exact hb) h
   rw [hd2] at this
   exact this
  | free i s ih =>
   intro listed a w hb h
   rw [Stg.len, Nat.add_right_comm]
   simp only [ftB, Bool.and_eq_true] at hb
   obtain ⟨o, v, ho, hy, hK⟩ := h
   have hr : i ∈ Region.ready .any l.toArray listed := by simpa using hb.1.1
   exact wpAny_first ho (Region.noSelect_spec hsel) (fun c a w => hQ c a _ _ w) _ _ _ _ (Region.free_spec ho hb.1.2) hr hy (ih _ _ _ hb.2 hK)
  | one i s ih =>
   intro listed a w hb h
   rw [Stg.len, Nat.add_right_comm]
   simp only [ftB, Bool.and_eq_true, decide_eq_true_eq] at hb
   obtain ⟨o, ho, hw, hK⟩ := h
   refine wpAny_all hb.1 (by simp) ?_
   intro j hj
   simp at hj
   subst hj
   unfold wpOp
   simp only [List.getElem?_toArray, ho]
   rw [if_pos hw]
   exact .inl (hK _ fun a1 w1 hq => ih _ _ _ hb.2 hq)
  | two i j s t ih1 ih2 =>
   intro listed a w hb h
   rw [Stg.len, Nat.add_right_comm]
   simp only [ftB, Bool.and_eq_true, decide_eq_true_eq] at hb
   obtain ⟨⟨o, ho, hw, hK⟩, o', ho', hw', hK'⟩ := h
   refine wpAny_all hb.1.1.1 (by simp) ?_
   intro k hk
   simp at hk
   rcases hk with rfl | rfl
   ·unfold wpOp
    simp only [List.getElem?_toArray, ho]
    rw [if_pos hw]
    exact .inl (hK _ fun a1 w1 hq => ih1 _ _ _ hb.1.2 hq)
   ·unfold wpOp
    simp only [List.getElem?_toArray, ho']
    rw [if_pos hw']
    refine .inl (hK' _ fun a1 w1 hq => ?_)
    rw [hb.1.1.2]
    exact ih2 _ _ _ hb.2 hq
 refine wp_region_any hm ?_
 have := key st _ a _ hB h
 have e : st.len + (l.toArray.size - n) = l.toArray.size := by simp; omega
 rw [e] at this
 exact this
end
end Go.Proofs.Bo
