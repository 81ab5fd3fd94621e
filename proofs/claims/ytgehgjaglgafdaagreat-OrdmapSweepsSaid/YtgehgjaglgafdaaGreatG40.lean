import Derived.Test.YtgehgjaglgafdaaGreatG39
import Derived.Test.YtgehgjaglgafdaaGreatG07
import Derived.Test.YtgehgjaglgafdaaGreatG13
import Derived.Test.YtgehgjaglgafdaaGreatG01
import Derived.Maps.OwnIn
set_option linter.unusedVariables false
set_option linter.unusedSimpArgs false
namespace Go.Proofs.Bo
open Go Go.RowKit
def encSB (s : Sg) : Array Value := #[.agg #[.int .i64 s.ls, .int .i64 s.la, .int .i64 s.hs, .int .i64 s.ha, .int .i64 s.v]]
theorem WayM.top {w : World} {wb : Nat} {v : Value} {i k : Nat} {ws : List (Nat × Nat)} (h : WayM w wb v ((i, k) :: ws)) : ∃ g c, v = .slice (some ⟨g, 0, none⟩) (ws.length + 1) c ∧ w.cell? ⟨g, ws.length * 2, none⟩ = some (.int .i64 (i : Int)) ∧ w.cell? ⟨g, ws.length * 2 + 1, none⟩ = some (.int .i64 (k : Int)) ∧ w.frozen? ⟨g, ws.length * 2 + 1, none⟩ = false ∧ g ≠ wb := by
 have hr := h.row
 obtain ⟨A, c, rfl, _, _, hA⟩ := own_slice hr
 obtain ⟨g, rfl⟩ := hA (by simp)
 have hl : ∀ l : List (Nat × Nat), (l.flatMap encW).length = l.length * 2 := by
  intro l
  induction l with
  | nil => rfl
  | cons x l ih => rw [List.flatMap_cons, List.length_append, ih]; simp [encW]; omega
 have e0 : (((i, k) :: ws).reverse.flatMap encW)[ws.length * 2]? = some (.int .i64 (i : Int)) := by
  rw [List.reverse_cons, List.flatMap_append, List.getElem?_append_right (by rw [hl]; simp), hl]
  simp [encW]
 have e1 : (((i, k) :: ws).reverse.flatMap encW)[ws.length * 2 + 1]? = some (.int .i64 (k : Int)) := by
  rw [List.reverse_cons, List.flatMap_append, List.getElem?_append_right (by rw [hl]; simp), hl]
  simp [encW]
 have c0 := own_cell hr e0
 have c1 := own_cell hr e1
 exact ⟨g, c, by simp, c0.1, c1.1, c1.2, fun e => h.ne (by rw [e]; rfl)⟩
theorem WayM.bump {w : World} {wb g c : Nat} {i k : Nat} {ws : List (Nat × Nat)} (h : WayM w wb (.slice (some ⟨g, 0, none⟩) (ws.length + 1) c) ((i, k) :: ws)) (k' : Nat) : WayM (w.setCell ⟨g, ws.length * 2 + 1, none⟩ (.int .i64 (k' : Int))) wb (.slice (some ⟨g, 0, none⟩) (ws.length + 1) c) ((i, k') :: ws) ∧
  Mod (fun j => j = g) w (w.setCell ⟨g, ws.length * 2 + 1, none⟩ (.int .i64 (k' : Int))) := by
 have hl : ∀ l : List (Nat × Nat), (l.flatMap encW).length = l.length * 2 := by
  intro l
  induction l with
  | nil => rfl
  | cons x l ih => rw [List.flatMap_cons, List.length_append, ih]; simp [encW]; omega
 have M : Mod (fun j => j = g) w (w.setCell ⟨g, ws.length * 2 + 1, none⟩ (.int .i64 (k' : Int))) := Mod.setCell (S := fun x => x = g) (p := ⟨g, ws.length * 2 + 1, none⟩) (Mod.refl _ _) (.inl rfl) _
 have o2 := own_set h.row (ws.length * 2 + 1) (by rw [hl]; simp; omega) (.int .i64 (k' : Int))
 refine ⟨⟨M.heap h.box fun e => h.ne (by rw [show wb = g from e]; rfl), ?_, h.ne⟩, M⟩
 have e : ((((i, k) :: ws).reverse.flatMap encW).set (ws.length * 2 + 1) (.int .i64 (k' : Int))) = (((i, k') :: ws).reverse.flatMap encW) := by
  rw [List.reverse_cons, List.reverse_cons, List.flatMap_append, List.flatMap_append, List.set_append_right _ _ (by rw [hl]; simp), hl]
  simp [encW]
 rw [← e]
 exact o2
theorem WayM.pop {w : World} {wb g c : Nat} {x : Nat × Nat} {ws : List (Nat × Nat)} (h : WayM w wb (.slice (some ⟨g, 0, none⟩) (ws.length + 1) c) (x :: ws)) : WayM (w.setCell ⟨wb, 0, none⟩ (.slice (some ⟨g, 0, none⟩) ws.length c)) wb (.slice (some ⟨g, 0, none⟩) ws.length c) ws ∧
  Mod (fun j => j = wb) w (w.setCell ⟨wb, 0, none⟩ (.slice (some ⟨g, 0, none⟩) ws.length c)) := by
 have hl : ∀ l : List (Nat × Nat), (l.flatMap encW).length = l.length * 2 := by
  intro l
  induction l with
  | nil => rfl
  | cons x l ih => rw [List.flatMap_cons, List.length_append, ih]; simp [encW]; omega
 have M : Mod (fun j => j = wb) w (w.setCell ⟨wb, 0, none⟩ (.slice (some ⟨g, 0, none⟩) ws.length c)) := Mod.setCell (S := fun x => x = wb) (p := ⟨wb, 0, none⟩) (Mod.refl _ _) (.inl rfl) _
 have o2 := own_take h.row ws.length (by simp)
 refine ⟨⟨setL_whole (cs := [_]) (us := [_]) h.box rfl, own_mod ?_ M fun k hk e => ?_, ?_⟩, M⟩
 ·have e : (((x :: ws).reverse.flatMap encW).take (ws.length * 2)) = ws.reverse.flatMap encW := by
   rw [List.reverse_cons, List.flatMap_append, List.take_append_of_le_length (by rw [hl]; simp), List.take_of_length_le (by rw [hl]; simp)]
  rw [← e]
  exact o2
 ·exact h.ne (by rw [← show k = wb from e, ← hk]; rfl)
 ·intro e
  exact h.ne (by rw [← e]; rfl)
section
variable {w w' : World} {tb ab : Nat} {lv fv : Value} {σ : List (Option Bn)} {free : List Int} {root deg room many : Int} {S : StB} {d : Nat} {L : List Sg}
theorem allBZ (w : World) (tb : Nat) : Calls Tryz.prog 98 #[.pointer (some ⟨tb, 0, none⟩)] w fun e w' => e = .returned (.func (.func 112) #[] #[.pointer (some ⟨w.heap.size, 0, none⟩)]) ∧ w' = w.alloc (.cells #[.pointer (some ⟨tb, 0, none⟩)] 91) := by
 go_enter Tryz.func98, Tryz.ntmps98
 go_wp2
 go_ret
 exact ⟨rfl, rfl⟩
def IterX (W : World) (d : Nat) (S : StB) (b1 tb ab : Nat) (lv fv : Value) (σ : List (Option Bn)) (wb : Nat) (L : List Sg) (J : List Sg → (Nat → Prop) → World → Prop) (g : Nat) (wr : World) : Prop :=
 ∃ (pre R : List Sg) (N : Nat) (ws : List (Nat × Nat)) (v : Value) (G : Nat → Prop), L = pre ++ R ∧ WayB d S ws R N ∧ g = R.length + N ∧ N ≤ 65536 ∧ WayM wr wb v ws ∧ J pre G wr ∧
  (∀ j, (j = b1 ∨ FootB tb ab lv fv σ j) → wr.heap[j]? = W.heap[j]? ∧ ¬ G j) ∧ (∀ j, G j → j < wr.heap.size) ∧ W.heap.size ≤ wr.heap.size ∧ ¬ G wb ∧ (∀ k, v.ownBlock = some k → ¬ G k ∧ W.heap.size ≤ k)
set_option maxHeartbeats 4000000 in
set_option maxRecDepth 100000 in
theorem all_iter {b1 : Nat} (h : MemB w tb ab lv fv σ free root deg room many S) (hT : PT d S root L) (hd : 2 ≤ d ∧ d ≤ 64) (hLl : L.length ≤ 65535) (hb1 : w.heap[b1]? = some (.cells #[.pointer (some ⟨tb, 0, none⟩)] 91 (0, 0))) :
  Iter Tryz.prog 112 #[.pointer (some ⟨b1, 0, none⟩)] encSB L (fun k => k = b1 ∨ FootB tb ab lv fv σ k) w := by
 intro yl J Jx W hW hJ hJx hY G h0 hH hG
 have hH0 : ∀ k, (k = b1 ∨ FootB tb ab lv fv σ k) → k < w.heap.size := by
  rintro k (rfl | hk)
  ·exact blkl hb1
  ·exact h.lt hk
 have hHW : ∀ k, (k = b1 ∨ FootB tb ab lv fv σ k) → W.heap[k]? = w.heap[k]? := fun k hk => hW.block k (hH0 k hk) (by have := hH0 k hk; omega)
 have A : MemB W tb ab lv fv σ free root deg room many S := h.keep fun k hk => hHW k (.inr hk)
 have q1 := (hHW b1 (.inl rfl)).trans hb1
 have hHs : ∀ k, (k = b1 ∨ FootB tb ab lv fv σ k) → k < W.heap.size := fun k hk => Nat.lt_of_lt_of_le (hH0 k hk) hW.size
 clear h hb1 hHW hH0 hW
 obtain ⟨w0, hw0, b0, M0, hs0⟩ : ∃ w0, W.alloc (.cells #[.slice none 0 0] 168) = w0 ∧ w0.heap[W.heap.size]? = some (.cells #[.slice none 0 0] 168 (0, 0)) ∧ Mod (fun _ => False) W w0 ∧ w0.heap.size = W.heap.size + 1 := ⟨_, rfl, alloc_0 _ _, (Mod.refl _ _).alloc _, by simp⟩
 have hWM : WayM w0 W.heap.size (.slice none 0 0) [] := ⟨b0, World.ownsRow_nil _ _ _ _, by intro e; cases e⟩
 have q1' := M0.heap q1 fun h => h
 have A0 := A.mod0 M0
 obtain ⟨c1, c2⟩ := blkc A0.t
 obtain ⟨c3, c4⟩ := blkc q1'
 obtain ⟨g0, n0, hD, hn0⟩ : ∃ g0 n0, DownN d S g0 root L n0 ∧ n0 ≤ 65536 := by
  rcases hT with ⟨rfl, rfl, _⟩ | ⟨r, hh, F, rfl, hS, _⟩
  ·exact ⟨0, 0, .inl ⟨rfl, rfl, rfl, rfl⟩, by omega⟩
  ·have := (hS.size hd.1).2
   exact ⟨_, _, .inr ⟨r, hh, 1, F, rfl, rfl, hS, rfl⟩, by omega⟩
 have PD := downC A0 hWM q1' (fun k hk => ⟨by have := hHs k (.inr hk); omega, by intro e; cases e⟩) ⟨by have := hHs b1 (.inl rfl); omega, by intro e; cases e⟩ hD (R := []) (m := 0) (ws := []) ⟨rfl, rfl⟩ (by omega)
 refine (callsIn_wide (n := 1)).1 (callsIn_of_wp Tryz.func112 rfl trivial ?_)
 simp only [Tryz.ntmps112, List.size_toArray, List.length_cons, List.length_nil, Nat.reduceAdd, Nat.reduceSub, Array.replicate_succ, Array.replicate_zero, List.push_toArray, List.append_toArray, List.nil_append, List.cons_append]
 replace hs0 := hid hs0
 gi_wp2_with fail
 refine ⟨trivial, callsIn_wide.2 (PD.mono ?_)⟩
 rintro e w1 ⟨rfl, v1, ws1, hW1, hB1, M1, hv1⟩
 clear PD hw0 c1 c2 c3 c4 b0 hWM
 have hs0 := hs0.out
 have N1 : Mod (fun _ => False) W w1 := M0.trans M1 fun k hk => .inr (by
  rcases hk with rfl | hk
  ·exact Nat.le_refl _
  ·cases hk)
 have hv1' : ∀ k, v1.ownBlock = some k → W.heap.size ≤ k := fun k hk => by
  rcases hv1 k hk with e | e
  ·cases e
  ·omega
 obtain ⟨wb, hwb⟩ : ∃ wb, W.heap.size = wb := ⟨_, rfl⟩
 have start : IterX W d S b1 tb ab lv fv σ wb L J (L.length + n0) w1 := by
  rw [← hwb]
  refine ⟨[], L, n0, ws1, v1, G, rfl, by simpa using hB1, rfl, by omega, hW1, hJ _ _ _ _ _ h0 N1 (fun _ h => h.elim), fun j hj => ⟨N1.block j (hHs j hj) (fun h => h), hH j hj⟩, fun j hj => N1.lt (hG j hj), N1.size, fun h => ?_, fun k hk => ⟨fun h => ?_, hv1' k hk⟩⟩
  ·have := hG _ h; omega
  ·have := hG _ h; have := hv1' k hk; omega
 have hwb1 : W.heap.size ≤ wb := by omega
 rw [hwb]
 clear hW1 hB1 M1 hv1 hv1' hs0 q1' A0 M0 h0 hD hT hwb
 replace hwb1 := hid hwb1
 gi_wp2_with fail
 refine (wpIn_wide (n := 1)).2 ?_
 go_loopg [] (L.length + n0) (fun g wr => IterX W d S b1 tb ab lv fv σ wb L J g wr)
 case atStart => exact start
 case round =>
  clear start
  obtain ⟨pre, R, N, ws, v, G1, eL, hB, hg, hN, hWM, hJ1, hH1, hG1, hsz, hGw, hGv⟩ := hrel
  cases ws with
  | nil =>
   obtain ⟨rfl, rfl⟩ := hB
   obtain ⟨p1, p2⟩ := blkc hWM.box
   obtain ⟨A1, cc1, rfl, _⟩ := own_slice hWM.row
   have eL' : L = pre := by simpa using eL
   replace eL' := hid eL'
   clear eL hY hWM
   go_wp2_with fail
   go_end0
   exact ⟨⟨_, rfl⟩, G1, .inl (eL'.out ▸ hJ1)⟩
  | cons x ws =>
   obtain ⟨i, k⟩ := x
   have hlen := hB.len
   obtain ⟨hh, R1, n1, R2, N2, hst, hB2, eR, eN⟩ := hB
   obtain ⟨l, ks, hSi, hkl, hl2, hks⟩ := hst.node
   have A1 : MemB wr tb ab lv fv σ free root deg room many S := A.keep fun j hj => (hH1 j (.inr hj)).1
   obtain ⟨b, hb, hn⟩ := A1.live hSi
   obtain ⟨lb, c, rfl⟩ := A1.lbS hb
   obtain ⟨g, cg, rfl, y0, y1, y2, hgw⟩ := hWM.top
   have q2 := (hH1 b1 (.inl rfl)).1.trans q1
   obtain ⟨p1, p2⟩ := blkc hWM.box
   obtain ⟨nn, hnn⟩ : ∃ nn, ws.length = nn := ⟨_, rfl⟩
   rw [hnn] at y0 y1 y2 p1
   have hnn1 : nn ≤ 65536 := by simp at hlen; omega
   have HA := hid (fun (w' : World) (M : CM wr w') => (atM (A1.mod0 M) hb).mono fun e w'' ⟨h1, h2⟩ => (⟨h1, by rw [h2]; exact M⟩ : e = _ ∧ CM wr w''))
   have HB := hid (fun (w' : World) (M : CM wr w') => And.intro (blkc (Mod.heap M q2 fun h => h)) (And.intro (blkc (Mod.heap M hWM.box fun h => h)) (And.intro (Mod.cell M y0 fun h => h) (And.intro (Mod.cell M y1 fun h => h) ((A1.mod0 M).cells hb)))))
   obtain ⟨q5, q6, q7, q8⟩ := A1.cells hb
   have hln := hn.ln
   replace hst := hid hst
   replace hnn := hid hnn
   replace hln := hid hln
   go_wp2_with fail
   refine cq_region (by kernel_rfl) (by kernel_rfl) ?_
   iterate 7 (refine wpQuiet_step (fun K hK => ?_); go_simp; first | (refine hK _ ?_; clear hK K) | (refine ⟨_, fun _ _ => rfl, hK _ ?_⟩; clear hK K) | (apply Exists.intro; refine ⟨fun wq hq => ?_, hK _ ?_⟩; (focus (first | (go_at_call 114; exact HA.out _ hq) | (obtain ⟨⟨t1, t2⟩, ⟨t3, t4⟩, t5, t6, t7, t8, t9, t10⟩ := HB.out _ hq; go_simp; try with_reducible rfl))); clear hK K))
   refine wpQuiet_nil ?_
   intro w5 M5
   go_wp2_with fail
   refine cq_region (by kernel_rfl) (by kernel_rfl) ?_
   iterate 10 (refine wpQuiet_step (fun K hK => ?_); go_simp; first | (refine hK _ ?_; clear hK K) | (refine ⟨_, fun _ _ => rfl, hK _ ?_⟩; clear hK K) | (apply Exists.intro; refine ⟨fun wq hq => ?_, hK _ ?_⟩; (focus (first  | (obtain ⟨⟨t1, t2⟩, ⟨t3, t4⟩, t5, t6, t7, t8, t9, t10⟩ := HB.out _ (Mod.trans' M5 hq); go_simp; try with_reducible rfl))); clear hK K))
   refine wpQuiet_nil ?_
   intro w6 M6
   replace M6 := Mod.trans' M5 M6
   clear HA M5 q5 q6 q7 q8 p1 p2
   have hWM6 : WayM w6 wb (.slice (some ⟨g, 0, none⟩) (ws.length + 1) cg) ((i, k) :: ws) := hWM.mod M6 (fun h => h) fun _ _ h => h
   have hJ6 := hJ _ _ _ _ _ hJ1 M6 fun _ h => h.elim
   have hH6 : ∀ j, (j = b1 ∨ FootB tb ab (.slice (some ⟨lb, 0, none⟩) σ.length c) fv σ j) → w6.heap[j]? = W.heap[j]? ∧ ¬ G1 j := fun j hj => ⟨(M6.block j (by have := hHs j hj; omega) fun h => h).trans (hH1 j hj).1, (hH1 j hj).2⟩
   have hG6 : ∀ j, G1 j → j < w6.heap.size := fun j hj => M6.lt (hG1 j hj)
   have hsz6 := Nat.le_trans hsz M6.size
   obtain ⟨⟨t1, t2⟩, ⟨t3, t4⟩, t5, t6, t7, t8, t9, t10⟩ := HB.out _ M6
   rw [hnn.out] at t3
   have y3 : w6.frozen? ⟨g, nn * 2 + 1, none⟩ = false := by
    obtain ⟨_, _, e, _, _, z, _⟩ := hWM6.top
    cases e
    rw [hnn.out] at z
    exact z
   clear HB hWM hJ1 hH1 hG1 M6
   by_cases hk : k = l.length
   ·have hkb : ((k : Int) == (b.ln : Int)) = true := by rw [hln.out, hk]; simp
    subst hk
    obtain ⟨rfl, rfl⟩ := hst.out.done hSi
    obtain ⟨hw7, hM7⟩ := hWM6.pop
    rw [hnn.out] at hw7 hM7
    obtain ⟨_, _, e, hcg, hcx, _⟩ := own_slice hWM6.row
    cases e
    have hcg1 : nn ≤ cg := by simp at hcg; have := hnn.out; omega
    clear hst hSi hn hb A1 hWM6
    obtain ⟨w7, hw7e⟩ : ∃ w7, w6.setCell ⟨wb, 0, none⟩ (.slice (some ⟨g, 0, none⟩) nn cg) = w7 := ⟨_, rfl⟩
    rw [hw7e] at hw7 hM7
    have hwbw := hwb1.out
    have fin : IterX W d S b1 tb ab (.slice (some ⟨lb, 0, none⟩) σ.length c) fv σ wb L J (R2.length + N2) w7 := by
     refine ⟨pre, R2, N2, ws, _, G1, by rw [eL, eR]; rfl, hB2, rfl, by omega, hw7, hJ _ _ _ _ _ hJ6 hM7 (fun k hk => by rw [show k = wb from hk]; exact ⟨hwbw, hGw⟩), fun j hj => ⟨(hM7.block j (by have := hHs j hj; omega) (fun e => by have := hHs j hj; have e : j = wb := e; omega)).trans (hH6 j hj).1, (hH6 j hj).2⟩, fun j hj => hM7.lt (hG6 j hj), Nat.le_trans hsz6 hM7.size, hGw, fun k hk => hGv k hk⟩
    have hmeas : R2.length + N2 < gk := by rw [hg, eR, eN]; simp
    replace fin := hid fin
    replace hmeas := hid hmeas
    clear hw7 hM7 eL eR eN hg hJ6 hH6 hY
    go_wp2_with fail
    go_roundg (R2.length + N2)
    case measure => exact hmeas.out
    case rel => exact fin.out
   ·have hkb : ((k : Int) == (b.ln : Int)) = false := by rw [hln.out]; simp; omega
    have hkl' : k < l.length := by omega
    have hk128 : (k : Int) + 1 ≤ 128 := by omega
    obtain ⟨hw7, hM7⟩ := hWM6.bump (k + 1)
    rw [hnn.out] at hw7 hM7
    have ec : ((k + 1 : Nat) : Int) = (k : Int) + 1 := by omega
    rw [ec] at hw7 hM7
    obtain ⟨w7, hw7e⟩ : ∃ w7, w6.setCell ⟨g, nn * 2 + 1, none⟩ (.int .i64 ((k : Int) + 1)) = w7 := ⟨_, rfl⟩
    rw [hw7e] at hw7 hM7
    have hgW : W.heap.size ≤ g := (hGv g rfl).2
    have hgG : ¬ G1 g := (hGv g rfl).1
    have hJ7 := hJ _ _ _ _ _ hJ6 hM7 (fun k hk => by rw [show k = g from hk]; exact ⟨hgW, hgG⟩)
    have hH7 : ∀ j, (j = b1 ∨ FootB tb ab (.slice (some ⟨lb, 0, none⟩) σ.length c) fv σ j) → w7.heap[j]? = W.heap[j]? ∧ ¬ G1 j := fun j hj => ⟨(hM7.block j (by have := hHs j hj; omega) (fun e => by have := hHs j hj; have e : j = g := e; omega)).trans (hH6 j hj).1, (hH6 j hj).2⟩
    have hG7 : ∀ j, G1 j → j < w7.heap.size := fun j hj => hM7.lt (hG6 j hj)
    have hsz7 := Nat.le_trans hsz6 hM7.size
    have A7 : MemB w7 tb ab (.slice (some ⟨lb, 0, none⟩) σ.length c) fv σ free root deg room many S := A.keep fun j hj => (hH7 j (.inr hj)).1
    obtain ⟨l', ks', e', hn7⟩ := A7.node i b hb
    rw [hSi] at e'; cases e'
    obtain ⟨gl, hgl, x0, x1, x2, x3, x4⟩ := hn7.segC hkl'
    have q7 := (hH7 b1 (.inl rfl)).1.trans q1
    obtain ⟨_, _, e7, z0, z1, _, _⟩ := hw7.top
    cases e7
    rw [hnn.out] at z0 z1
    have HB := hid (fun (w' : World) (M : CM w7 w') => And.intro (blkc (Mod.heap M q7 fun h => h)) (And.intro (blkc (Mod.heap M hw7.box fun h => h)) (And.intro (Mod.cell M z0 fun h => h) (And.intro (Mod.cell M z1 fun h => h) ((A7.mod0 M).cells hb)))))
    have HS := hid (fun (w' : World) (M : CM w7 w') => And.intro (Mod.cell M x0 fun h => h) (And.intro (Mod.cell M x1 fun h => h) (And.intro (Mod.cell M x2 fun h => h) (And.intro (Mod.cell M x3 fun h => h) (Mod.cell M x4 fun h => h)))))
    rw [hgl] at HB
    have hlnk : (k : Int) < (b.ln : Int) := by rw [hln.out]; omega
    have hb' := hb
    have hH1' : ∀ j, (j = b1 ∨ FootB tb ab (.slice (some ⟨lb, 0, none⟩) σ.length c) fv σ j) → ¬ G1 j := fun j hj => (hH7 j hj).2
    clear hn hb A1 hWM6 x0 x1 x2 x3 x4 q7 z0 z1 hJ6 hH6 hG6 hsz6
    have hwk : IntKind.i64.wrap (k : Int) = (k : Int) := by rw [IntKind.wrap_i64]; omega
    have hk00 : (0 : Int) ≤ (k : Int) := by omega
    go_wp2_with fail
    refine (wpIn_wide (n := 1)).1 ?_
    refine cq_midIn 12 _ (by kernel_rfl) (by kernel_rfl) rfl rfl ?_
    simp only [List.take_succ_cons, List.take_zero, List.drop_succ_cons, List.drop_zero]
    clear t3 t4 t1 t2 t5 t6 t7 t8 t9 t10 y0 y1 y2 y3
    iterate 12 (refine wpQuiet_step (fun K hK => ?_); go_simp; first | (refine hK _ ?_; clear hK K) | (refine ⟨_, fun _ _ => rfl, hK _ ?_⟩; clear hK K) | (apply Exists.intro; refine ⟨fun wq hq => ?_, hK _ ?_⟩; (focus (first  | ((obtain ⟨⟨t1, t2⟩, ⟨t3, t4⟩, t5, t6, t7, t8, t9, t10⟩ := HB.out _ hq; obtain ⟨s0, s1, s2, s3, s4⟩ := HS.out _ hq); go_simp; try with_reducible rfl))); clear hK K))
    refine wpQuiet_nil ?_
    intro w8 M8 K hK
    have hJ8 := hJ _ _ _ _ _ hJ7 M8 fun _ h => h.elim
    have hnext := hst.out.next hSi hkl'
    obtain ⟨rest, hrest⟩ : ∃ rest, R = l[k] :: rest := by
     rcases hnext with ⟨_, R', e, _⟩ | ⟨_, _, Lk, _, R', _, _, _, _, e, _⟩
     ·exact ⟨R' ++ R2, by rw [eR, e]; rfl⟩
     ·exact ⟨(Lk ++ R') ++ R2, by rw [eR, e]; rfl⟩
    obtain ⟨fn, tmps, assign, body, hy, hR⟩ := hY pre l[k] rest G1 w8 (by rw [eL, hrest]) hJ8
    dsimp only [encSB] at hy
    go_simp
    refine hR.mono ?_
    clear hR hy
    have hwbw := hwb1.out
    have hb1W := hHs b1 (.inl rfl)
    have hwb8 : wb < w8.heap.size := M8.lt (blkl hw7.box)
    have hg8 : g < w8.heap.size := M8.lt (own_lt hw7.row rfl)
    have hsz8 := Nat.le_trans hsz7 M8.size
    have kept : ∀ (W' : World), Mod G1 w8 W' → ∀ j, (j = b1 ∨ FootB tb ab (.slice (some ⟨lb, 0, none⟩) σ.length c) fv σ j) → W'.heap[j]? = W.heap[j]? := fun W' m j hj =>
     (m.block j (by have := hHs j hj; omega) (hH1' j hj)).trans ((M8.block j (by have := hHs j hj; omega) fun h => h).trans (hH7 j hj).1)
    rintro e W' ⟨G', g1, g2, (⟨rfl, hJ'⟩ | ⟨rfl, hJ'⟩)⟩
    ·refine hK _ _ ?_
     clear hK K
     iterate 1 (refine wpQuiet_step (fun K hK => ?_); go_simp; first | (refine hK _ ?_; clear hK K) | (refine ⟨_, fun _ _ => rfl, hK _ ?_⟩; clear hK K) | (apply Exists.intro; refine ⟨fun wq hq => ?_, hK _ ?_⟩; (focus (first  | (skip; go_simp; try with_reducible rfl))); clear hK K))
     refine wpQuiet_nil ?_
     intro w9 M9
     have N9 : Mod G1 w7 w9 := ((M8.mono fun _ h => h.elim).trans g2 fun k hk => .inl hk).trans M9 fun _ h => h.elim
     have hw9 := hw7.mod N9 hGw fun k hk => (hGv k hk).1
     have hJ9 := hJ _ _ _ _ _ hJ' M9 fun _ h => h.elim
     have hH9 : ∀ j, (j = b1 ∨ FootB tb ab (.slice (some ⟨lb, 0, none⟩) σ.length c) fv σ j) → w9.heap[j]? = W.heap[j]? ∧ ¬ G' j := fun j hj => ⟨(M9.block j (by have := hHs j hj; have := g2.size; omega) fun h => h).trans (kept W' g2 j hj), fun h => by
      rcases (g1 j h).1 with h | h
      ·exact hH1' j hj h
      ·have := hHs j hj; omega⟩
     have hG9 : ∀ j, G' j → j < w9.heap.size := fun j hj => M9.lt (g1 j hj).2
     have hsz9 : W.heap.size ≤ w9.heap.size := by have := g2.size; have := M9.size; omega
     have hGw9 : ¬ G' wb := fun h => by
      rcases (g1 wb h).1 with h | h
      ·exact hGw h
      ·omega
     have hGg9 : ¬ G' g := fun h => by
      rcases (g1 g h).1 with h | h
      ·exact hgG h
      ·omega
     have A9 : MemB w9 tb ab (.slice (some ⟨lb, 0, none⟩) σ.length c) fv σ free root deg room many S := A.keep fun j hj => (hH9 j (.inr hj)).1
     obtain ⟨l', ks', e', hn9⟩ := A9.node i b hb'
     rw [hSi] at e'; cases e'
     have PL := leafM A9 hb' hn9
     have q9 := (hH9 b1 (.inl rfl)).1.trans q1
     clear hJ' hJ8 kept g2 N9 hJ7 hH7 hw7 M8 HB HS A7
     rcases hnext with ⟨rfl, R', eR1, hst'⟩ | ⟨h', kid, Lk, Fk, R', n', hks0, hkid, hSk, eR1, en1, hst'⟩
     ·simp only [decide_true] at PL
      have fin : IterX W d S b1 tb ab (.slice (some ⟨lb, 0, none⟩) σ.length c) fv σ wb L J ((R' ++ R2).length + N) w9 := by
       refine ⟨pre ++ [l[k]], R' ++ R2, N, (i, k + 1) :: ws, _, G', by rw [eL, eR, eR1]; simp, ⟨hh, R', n1, R2, N2, hst', hB2, rfl, eN⟩, rfl, hN, hw9, hJ9, hH9, hG9, hsz9, hGw9, fun k hk => ?_⟩
       cases hk
       exact ⟨hGg9, hgW⟩
      have hmeas : (R' ++ R2).length + N < gk := by rw [hg, eR, eR1]; simp
      replace fin := hid fin
      replace hmeas := hid hmeas
      clear hw9 hJ9 hH9 hst' eR1 eR eL eN hg hrest hst hY hn9 A9
      go_wp2_with fail
      refine PL.mono ?_; rintro e w10 ⟨rfl, hw10⟩; subst hw10
      go_wp2_with fail
      go_roundg ((R' ++ R2).length + N)
      case measure => exact hmeas.out
      case rel => exact fin.out
     ·rw [show decide (ks = []) = false from by simpa using hks0] at PL
      obtain ⟨h0, hkk⟩ := List.getElem?_eq_some_iff.1 hkid
      obtain ⟨gk', hgk, yk⟩ := hn9.kidC h0
      rw [hkk] at yk
      have hkn := hn9.kn
      have hFW : ∀ j, FootB tb ab (.slice (some ⟨lb, 0, none⟩) σ.length c) fv σ j → j < W.heap.size := fun j hj => hHs j (.inr hj)
      have hgE : ∀ x, (Value.slice (some ⟨g, 0, none⟩) (ws.length + 1) cg).ownBlock = some x → x = g := fun x e => by cases e; rfl
      have PD : ∀ w', CM w9 w' → Calls Tryz.prog 113 #[.int .i64 (kid : Int), .pointer (some ⟨wb, 0, none⟩), .pointer (some ⟨b1, 0, none⟩)] w' fun e w'' => e = .returned (.tuple #[]) ∧ ∃ v' ws', WayM w'' wb v' ws' ∧ WayB d S ws' (Lk ++ (R' ++ R2)) (Fk.length + (n' + N2)) ∧
        Mod (fun k => k = wb ∨ (Value.slice (some ⟨g, 0, none⟩) (ws.length + 1) cg).ownBlock = some k) w' w'' ∧ (∀ k, v'.ownBlock = some k → (Value.slice (some ⟨g, 0, none⟩) (ws.length + 1) cg).ownBlock = some k ∨ w'.heap.size ≤ k) := fun w' M =>
       downC (A9.mod0 M) (hw9.mod M (fun h => h) fun _ _ h => h) (Mod.heap M q9 fun h => h) (fun j hj => ⟨fun e => by have := hFW j hj; omega, fun e => by have := hgE _ e; have := hFW _ hj; omega⟩) ⟨fun e => by omega, fun e => by have := hgE _ e; omega⟩
        (g0 := h' + 1) (.inr ⟨kid, h', d - 1, Fk, rfl, rfl, hSk, rfl⟩) (ws := (i, k + 1) :: ws) (R := R' ++ R2) (m := n' + N2) ⟨hh, R', n', R2, N2, hst', hB2, rfl, rfl⟩ (by omega)
      obtain ⟨_, _, e9, _, z1, _, _⟩ := hw9.top
      cases e9
      have HB : ∀ w', CM w9 w' → w'.cell? ⟨g, ws.length * 2 + 1, none⟩ = some (.int .i64 ((k + 1 : Nat) : Int)) ∧ w'.cell? ⟨gk', k + 1, none⟩ = some (.int .i64 (kid : Int)) ∧ w'.cell? ⟨lb, i * 3 + 1, none⟩ = some (.slice (some ⟨gk', 0, none⟩) ks.length b.kc) := fun w' M =>
       ⟨Mod.cell M z1 fun h => h, Mod.cell M yk fun h => h, by have := ((A9.mod0 M).cells hb').2.1; rw [hgk, hkn] at this; exact this⟩
      have fin : ∀ (w12 : World) (v2 : Value) (ws2 : List (Nat × Nat)), Mod (fun k => k = wb ∨ (Value.slice (some ⟨g, 0, none⟩) (ws.length + 1) cg).ownBlock = some k) w9 w12 → WayM w12 wb v2 ws2 → WayB d S ws2 (Lk ++ (R' ++ R2)) (Fk.length + (n' + N2)) →
        (∀ k, v2.ownBlock = some k → (Value.slice (some ⟨g, 0, none⟩) (ws.length + 1) cg).ownBlock = some k ∨ w9.heap.size ≤ k) → IterX W d S b1 tb ab (.slice (some ⟨lb, 0, none⟩) σ.length c) fv σ wb L J ((Lk ++ (R' ++ R2)).length + N) w12 := by
       intro w12 v2 ws2 M12 hw12 hB12 hv2
       refine ⟨pre ++ [l[k]], Lk ++ (R' ++ R2), N, ws2, v2, G', by rw [eL, eR, eR1]; simp, ?_, rfl, hN, hw12, hJ _ _ _ _ _ hJ9 M12 (fun k hk => ?_), fun j hj => ⟨(M12.block j (by have := hHs j hj; omega) fun e => ?_).trans (hH9 j hj).1, (hH9 j hj).2⟩, fun j hj => M12.lt (hG9 j hj), Nat.le_trans hsz9 M12.size, hGw9, fun k hk => ?_⟩
       ·rw [eN, en1, Nat.add_assoc]; exact hB12
       ·rcases hk with rfl | hk
        ·exact ⟨hwbw, hGw9⟩
        ·cases hk; exact ⟨hgW, hGg9⟩
       ·have := hHs j hj
        rcases e with rfl | e
        ·omega
        ·have := hgE _ e
         omega
       ·rcases hv2 k hk with e | e
        ·cases e; exact ⟨hGg9, hgW⟩
        ·exact ⟨fun h => by have := hG9 k h; omega, by omega⟩
      have hmeas : (Lk ++ (R' ++ R2)).length + N < gk := by rw [hg, eR, eR1]; simp
      have hk1 : (k : Int) + 1 < (ks.length : Int) := by omega
      have hk10 : (0 : Int) ≤ (k : Int) + 1 := by omega
      have htn : ((k : Int) + 1).toNat = k + 1 := by omega
      replace PD := hid PD
      replace HB := hid HB
      replace fin := hid fin
      replace hmeas := hid hmeas
      clear hw9 hJ9 hH9 hst' eR1 eR eL eN hg hrest hst hY hn9 A9 z1 yk en1 hSk
      go_wp2_with fail
      refine PL.mono ?_; rintro e w10 ⟨rfl, hw10⟩; subst hw10
      go_wp2_with fail
      refine cq_mid 11 _ (by kernel_rfl) (by kernel_rfl) rfl rfl ?_
      simp only [List.take_succ_cons, List.take_zero, List.drop_succ_cons, List.drop_zero]
      iterate 11 (refine wpQuiet_step (fun K hK => ?_); go_simp; first | (refine hK _ ?_; clear hK K) | (refine ⟨_, fun _ _ => rfl, hK _ ?_⟩; clear hK K) | (apply Exists.intro; refine ⟨fun wq hq => ?_, hK _ ?_⟩; (focus (first  | ((obtain ⟨t1, t2, t3⟩ := HB.out _ hq); go_simp; try with_reducible rfl))); clear hK K))
      refine wpQuiet_nil ?_
      intro w10 M10 K hK
      go_simp
      refine (PD.out w10 M10).mono ?_
      rintro e w11 ⟨rfl, v2, ws2, hw11, hB11, M11, hv2⟩
      refine hK _ _ ?_
      refine wpQuiet_nil ?_
      intro w12 M12
      have F := fin.out w12 v2 ws2 (((M10.mono fun _ h => h.elim).trans M11 fun k hk => .inl hk).trans M12 fun _ h => h.elim) (hw11.mod M12 (fun h => h) fun _ _ h => h) hB11 (fun k hk => (hv2 k hk).imp id fun e => Nat.le_trans M10.size e)
      clear hw11 hB11 M11 hv2 hK PD fin HB
      replace F := hid F
      go_wp2_with fail
      go_roundg ((Lk ++ (R' ++ R2)).length + N)
      case measure => exact hmeas.out
      case rel => exact F.out
    ·refine hK _ _ ?_
     clear hK K
     iterate 1 (refine wpQuiet_step (fun K hK => ?_); go_simp; first | (refine hK _ ?_; clear hK K) | (refine ⟨_, fun _ _ => rfl, hK _ ?_⟩; clear hK K) | (apply Exists.intro; refine ⟨fun wq hq => ?_, hK _ ?_⟩; (focus (first  | (skip; go_simp; try with_reducible rfl))); clear hK K))
     refine wpQuiet_nil ?_
     intro w9 M9
     have hJ9 := hJx _ _ _ _ _ hJ' M9 fun _ h => h.elim
     have hpre : pre ++ [l[k]] <+: L := ⟨rest, by rw [eL, hrest]; simp⟩
     clear eL eR eN hg hrest hst hY HB HS A7 hw7
     replace hpre := hid hpre
     go_wp2_with fail
     exact bodyPost_ret (results_none rfl _ _ _) rfl ⟨⟨_, rfl⟩, G', .inr ⟨_, hpre.out, hJ9⟩⟩
end
open Go Go.RowKit Go.Shelf
section
variable {P : Program} {α : Type}
theorem roundEnd_mono {I : List α → (Nat → Prop) → World → Prop} {Ix : Code → List α → (Nat → Prop) → World → Prop} {xs : List α} {G G1 : Nat → Prop} {W : World} (hG : ∀ k, G k → G1 k) {e : Exit} {a : Act} {W' : World} (h : roundEnd I Ix xs G W e a W') : roundEnd I Ix xs G1 W e a W' := by
 have key : ∀ (J : List α → (Nat → Prop) → World → Prop), (∃ G', (∀ k, G' k → (G k ∨ W.heap.size ≤ k) ∧ k < W'.heap.size) ∧ Mod G W W' ∧ J xs G' W') → ∃ G', (∀ k, G' k → (G1 k ∨ W.heap.size ≤ k) ∧ k < W'.heap.size) ∧ Mod G1 W W' ∧ J xs G' W' := fun J ⟨G', h1, h2, h3⟩ =>
  ⟨G', fun k hk => ⟨(h1 k hk).1.imp (hG k) id, (h1 k hk).2⟩, h2.mono fun i hi => .inl (hG i hi), h3⟩
 cases e <;> first | exact key _ h | exact h.elim
theorem wp_range1G {g : Operand} {ps : Array Tmp} {assign body : Code} {Q : Exit → Act → World → Prop} {a : Act} {w : World}
  {gf : Nat} {lb : Array Value} (hg : a.eval g = .func (.func gf) #[] lb) (eg : ∀ args w, (callFunc gf args).run P w = .ok (.enter gf args) w)
  {encs : α → Array Value} {xs : List α} {H : Nat → Prop} (hit : Iter P gf lb encs xs H w) (hps : ∀ x, (encs x).size = ps.size)
  (G0 : Nat → Prop) (hG0 : ∀ k, G0 k → k < w.heap.size) (hH : ∀ k, H k → ¬ G0 k) (hHl : ∀ k, H k → k < w.heap.size)
  (I : List α → (Nat → Prop) → World → Prop) (Ix : Code → List α → (Nat → Prop) → World → Prop) (hI : Stab w.heap.size I) (hIx : ∀ c, Stab w.heap.size (Ix c)) (hlt : ∀ pre G W, I pre G W → w.heap.size ≤ W.heap.size ∧ ∀ k, G k → k < W.heap.size) (h0 : I [] G0 w)
  (cells : α → Array Value) (ty : TypeId)
  (hab : ∃ F : Nat → α → Act,
   (∀ (l : Nat) (x : α) (W : World) (K : Act → World → Prop), K (F W.heap.size x) (W.alloc (.cells (cells x) ty)) → assign.wpIn (Fence.wide.inRound l) 0 P (Exit.then K (fun _ _ _ => False)) { tmps := (ps.zip (encs x)).foldl (fun t (p, v) => t.setIfInBounds p v) a.tmps, defers := [] } W) ∧
   (∀ (l : Nat) (pre : List α) (x : α) (rest : List α) (b : Nat) (G : Nat → Prop) (W : World), xs = pre ++ x :: rest → W.heap[b]? = some (.cells (cells x) ty (0, 0)) → ¬ G b → w.heap.size ≤ b → I pre G W → (∀ k, G k → k ≠ w.heap.size ∧ k ≠ w.heap.size + 1) → body.wpIn (Fence.wide.inRound l) 0 P (roundEnd I Ix (pre ++ [x]) G W) (F b x) W))
  (hdone : ∀ (G : Nat → Prop) (W : World), I xs G W → (∀ k, G k → k ≠ w.heap.size ∧ k ≠ w.heap.size + 1) → W.heap[w.heap.size]? = some (.deferred (some [])) → Q .normal { a with defers := { target := .collected w.heap.size, args := #[] } :: a.defers } W)
  (hstop : ∀ (c : Code) (pre : List α) (G : Nat → Prop) (W : World), pre <+: xs → Ix c pre G W → (∀ k, G k → k ≠ w.heap.size ∧ k ≠ w.heap.size + 1) → W.heap[w.heap.size]? = some (.deferred (some [])) → c.wp P Q { a with defers := { target := .collected w.heap.size, args := #[] } :: a.defers } W) :
  (Code.rangeFunc g ps assign body).wp P Q a w := by
 obtain ⟨F, h1, h2⟩ := hab
 refine wp_range hg eg hit (Mod.refl _ _) hps G0 hG0 hH hHl I Ix hI hIx h0
  (fun pre x a1 G1 W => ∃ b G, a1 = F b x ∧ (∀ k, G1 k ↔ (G k ∨ k = b)) ∧ ¬ G b ∧ w.heap.size ≤ b ∧ W.heap[b]? = some (.cells (cells x) ty (0, 0)) ∧ I pre G W) ?_ ?_ ?_ hdone hstop
 ·rintro x a1 s G1 W W' T ⟨b, G, e, g1, g2, g3, g4, g5⟩ m t
  exact ⟨b, G, e, g1, g2, g3, m.heap g4 fun h => (t b h).2 ((g1 b).2 (.inr rfl)), hI _ _ _ _ _ g5 m fun k hk => ⟨(t k hk).1, fun h => (t k hk).2 ((g1 k).2 (.inl h))⟩⟩
 ·rintro l pre x rest G W K hx hi hK
  have hM : Mod (fun _ => False) W (W.alloc (.cells (cells x) ty)) := (Mod.refl _ _).alloc _
  obtain ⟨q1, q2⟩ := hlt _ _ _ hi
  exact h1 l x W K (hK _ (fun j => G j ∨ j = W.heap.size) _ ⟨W.heap.size, G, rfl, fun _ => Iff.rfl, fun h => absurd (q2 _ h) (by omega), q1, alloc_0 _ _, hI _ _ _ _ _ hi hM fun _ h => h.elim⟩
   (fun k hk => hk.imp id fun h => by omega) (hM.mono fun _ h => h.elim))
 ·rintro l pre x rest a1 G1 W hx ⟨b, G, rfl, g1, g2, g3, g4, g5⟩ hne
  exact wpIn_mono (h2 l pre x rest b G W hx g4 g2 g3 g5 fun k hk => hne k ((g1 k).2 (.inl hk))) fun e a' W' hq => roundEnd_mono (fun k hk => (g1 k).2 (.inl hk)) hq
end
open Go Go.RowKit
section
variable {P : Program} {ops : Array Oper} {rest : List Oper} {o : Oper} {a : Act} {Q : Exit → Act → World → Prop} {F : Fence} {nF : Nat}
theorem app_oneIn {W : World} (news : List Value) (v : Value) (n : Nat) (xs : List Value) (s x : Operand) (t e : TypeId) (z : Value) (size bytes : Nat) (hgd : o.guard = none)
  (ho : o.op = .call { callee := .builtin .append, args := #[s, x], argTypes := #[t, t] })
  (ht : P.underlying t = some (.slice e)) (hinfo : (P.info? e).map (fun i => (i.zero, i.size, i.bytes)) = some (some z, size, bytes)) (hz : z.cells.size = size) (hz0 : 0 < size) (hb0 : 0 < bytes)
  (hs : a.eval s = v) (hx : a.eval x = .slice (some ⟨W.heap.size, 0, none⟩) 1 1)
  (HO : W.ownsRow 0 e size v n xs) (hnl : news.length = size) (h1 : ∀ u ∈ news, u.oneCell' = true) (hl : (n + 1) * bytes ≤ 140737488355328)
  (h : ∀ v1 w1, w1.ownsRow 0 e size v1 (n + 1) (xs ++ news) → W.grownBy w1 v.ownBlock → (∀ k, v1.ownBlock = some k → v.ownBlock = some k ∨ W.heap.size ≤ k) → wpListIn F nF P ops Q rest (a.put o.dst v1) w1) :
  wpListIn F nF P ops Q (o :: rest) a (W.alloc (.cells news.toArray e)) := by
 obtain ⟨i0, hi, hzz⟩ := Option.map_eq_some_iff.1 hinfo
 simp only [Prod.mk.injEq] at hzz
 obtain ⟨hz0', hz1, hz2⟩ := hzz
 have hlen : n + 1 ≤ 140737488355328 := Nat.le_trans (Nat.le_mul_of_pos_right _ hb0) hl
 refine wpListIn_append_own_at (W.alloc (.cells news.toArray e)) hgd s x t ho 0 e i0 z size bytes ht hi hz0' hz1 hz2 hz hz0 v n xs hs (HO.alloc _) ⟨W.heap.size, 0, none⟩ 1 1 news hx (by omega)
  (World.news_of_block (cs := news.toArray) (t := e) (fr := (0, 0)) (heap_alloc_new W _)) h1 (by simp only [maxLen]; omega) hl (by simp) ?_
 intro v1 w1 hown hgr _ hat
 have hg0 : W.grownBy (W.alloc (.cells news.toArray e)) v.ownBlock := World.grownBy_alloc W _ _
 refine h v1 w1 hown (hg0.trans hgr) fun k hk => ?_
 rcases hat with e | e
 ·exact .inl (e ▸ hk)
 ·rw [e] at hk; cases hk; exact .inr (by simp)
end
end Go.Proofs.Bo
