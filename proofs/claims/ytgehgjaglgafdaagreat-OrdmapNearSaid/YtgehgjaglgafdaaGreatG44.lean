import Derived.Test.YtgehgjaglgafdaaGreatG27
import Derived.Test.YtgehgjaglgafdaaGreatG40
import Derived.Test.YtgehgjaglgafdaaGreatG41
import Derived.Test.YtgehgjaglgafdaaGreatG04
import Derived.Test.YtgehgjaglgafdaaGreatG01
import Derived.Test.YtgehgjaglgafdaaGreatG03
import Derived.Test.YtgehgjaglgafdaaGreatG00
import Derived.Test.YtgehgjaglgafdaaGreatG02
set_option linter.unusedVariables false
set_option linter.unusedSimpArgs false
namespace Go.Proofs.Bo
open Go Go.RowKit
section
variable {w w' : World} {tb ab : Nat} {lv fv : Value} {σ : List (Option Bn)} {free : List Int} {root deg room many : Int} {S : StB} {d : Nat} {L : List Sg}
theorem put5q (w : World) (s : Sg) : ∃ w0 W, w.alloc (.cells #[.int .i64 0, .int .i64 0, .int .i64 0, .int .i64 0, .int .i64 0] 38) = w0 ∧
  ((((w0.setCell ⟨w.heap.size, 0, none⟩ (.int .i64 s.ls)).setCell ⟨w.heap.size, 1, none⟩ (.int .i64 s.la)).setCell ⟨w.heap.size, 2, none⟩ (.int .i64 s.hs)).setCell ⟨w.heap.size, 3, none⟩ (.int .i64 s.ha)).setCell ⟨w.heap.size, 4, none⟩ (.int .i64 s.v) = W ∧
  w0.heap[w.heap.size]? = some (.cells #[.int .i64 0, .int .i64 0, .int .i64 0, .int .i64 0, .int .i64 0] 38 (0, 0)) ∧
  W.heap[w.heap.size]? = some (.cells (encS s).toArray 38 (0, 0)) ∧ Mod (fun _ => False) w W := by
 have M0 : Mod (fun _ => False) w (w.alloc (.cells #[.int .i64 0, .int .i64 0, .int .i64 0, .int .i64 0, .int .i64 0] 38)) := (Mod.refl _ _).alloc _
 exact ⟨_, _, rfl, rfl, alloc_0 _ _, setL_whole (cs := [.int .i64 0, .int .i64 0, .int .i64 0, .int .i64 0, .int .i64 0]) (us := encS s) (alloc_0 _ _) rfl,
  ((((M0.setCell (.inr (Nat.le_refl _)) _).setCell (.inr (Nat.le_refl _)) _).setCell (.inr (Nat.le_refl _)) _).setCell (.inr (Nat.le_refl _)) _).setCell (.inr (Nat.le_refl _)) _⟩
theorem set5q (w : World) (b : Nat) (o s : Sg) (hb : w.heap[b]? = some (.cells (encS o).toArray 38 (0, 0))) : ∃ W,
  ((((w.setCell ⟨b, 0, none⟩ (.int .i64 s.ls)).setCell ⟨b, 1, none⟩ (.int .i64 s.la)).setCell ⟨b, 2, none⟩ (.int .i64 s.hs)).setCell ⟨b, 3, none⟩ (.int .i64 s.ha)).setCell ⟨b, 4, none⟩ (.int .i64 s.v) = W ∧
  W.heap[b]? = some (.cells (encS s).toArray 38 (0, 0)) ∧ Mod (fun j => j = b) w W :=
 ⟨_, rfl, setL_whole (cs := encS o) (us := encS s) hb rfl, ((((Mod.setCell (S := fun j => j = b) (p := ⟨b, 0, none⟩) (Mod.refl _ _) (.inl rfl) _).setCell (.inl rfl) _).setCell (.inl rfl) _).setCell (.inl rfl) _).setCell (.inl rfl) _⟩
end
open Go Go.RowKit
section
variable {w w' : World} {mb d : Nat} {room : Int} {l : List Sg} {X : Nat → Prop}
theorem om_range (mb : Nat) (ls la hs ha : Int) (w : World) : Calls Tryz.prog 27 #[.pointer (some ⟨mb, 0, none⟩), .agg #[.int .i64 ls, .int .i64 la], .agg #[.int .i64 hs, .int .i64 ha]] w fun e w' =>
  e = .returned (.func (.func 49) #[] #[.pointer (some ⟨w.heap.size, 0, none⟩), .pointer (some ⟨w.heap.size + 1, 0, none⟩), .pointer (some ⟨w.heap.size + 2, 0, none⟩)]) ∧
  w'.heap[w.heap.size]? = some (.cells #[.pointer (some ⟨mb, 0, none⟩)] 26 (0, 0)) ∧ w'.heap[w.heap.size + 1]? = some (.cells #[.int .i64 ls, .int .i64 la] 34 (0, 0)) ∧ w'.heap[w.heap.size + 2]? = some (.cells #[.int .i64 hs, .int .i64 ha] 34 (0, 0)) ∧
  Mod (fun _ => False) w w' ∧ w'.heap.size = w.heap.size + 3 := by
 go_enter Tryz.func27, Tryz.ntmps27
 go_wp2_with fail
 go_ret
 exact ⟨rfl, alloc3_0 _ _ _ _, alloc3_1 _ _ _ _, alloc3_2 _ _ _ _, (((Mod.refl _ _).alloc _).alloc _).alloc _, by simp⟩
def RngX (W : World) (HH : Nat → Prop) (L C : List Sg) (J : List Sg → (Nat → Prop) → World → Prop) (g : Nat) (p is : Value) (wr : World) : Prop :=
 ∃ (pre R : List Sg) (sb : Nat) (G : Nat → Prop), L = pre ++ R ∧ g = R.length ∧ p = .pointer (some ⟨sb, 0, none⟩) ∧ is = .bool (R ++ C).head?.isSome ∧ wr.heap[sb]? = some (.cells (encS (oS (R ++ C).head?)).toArray 38 (0, 0)) ∧ J pre G wr ∧
  Mod (fun j => ¬ HH j) W wr ∧ (∀ j, HH j → ¬ G j) ∧ (∀ j, G j → j < wr.heap.size) ∧ ¬ G sb ∧ W.heap.size ≤ sb
end
open Go Go.RowKit
section
variable {w w' : World} {mb d : Nat} {room : Int} {l : List Sg} {X : Nat → Prop}
set_option maxHeartbeats 4000000 in
set_option maxRecDepth 100000 in
theorem range_iter {b1 b2 b3 : Nat} {ls la hs ha : Int} (h : OM X w mb d room l) (hX : ∀ k, X k → k < w.heap.size) (hfl : fit64 la) (hfh : fit64 ha)
  (hb1 : w.heap[b1]? = some (.cells #[.pointer (some ⟨mb, 0, none⟩)] 26 (0, 0))) (hb2 : w.heap[b2]? = some (.cells #[.int .i64 ls, .int .i64 la] 34 (0, 0))) (hb3 : w.heap[b3]? = some (.cells #[.int .i64 hs, .int .i64 ha] 34 (0, 0))) :
  Iter Tryz.prog 49 #[.pointer (some ⟨b1, 0, none⟩), .pointer (some ⟨b2, 0, none⟩), .pointer (some ⟨b3, 0, none⟩)] encSB (rangeL (kx ls la) (kx hs ha) l) (fun k => (k = b1 ∨ k = b2 ∨ k = b3) ∨ X k) w := by
 intro yl J Jx W hW hJ hJx hY G h0 hH hG
 have hH0 : ∀ k, ((k = b1 ∨ k = b2 ∨ k = b3) ∨ X k) → k < w.heap.size := by
  rintro k ((rfl | rfl | rfl) | hk)
  ·exact blkl hb1
  ·exact blkl hb2
  ·exact blkl hb3
  ·exact hX k hk
 have hHW : ∀ k, ((k = b1 ∨ k = b2 ∨ k = b3) ∨ X k) → W.heap[k]? = w.heap[k]? := fun k hk => hW.block k (hH0 k hk) (by have := hH0 k hk; omega)
 have A : OM X W mb d room l := h.mod hW fun k hk _ hn => by have := hX k hk; omega
 have q1 := (hHW b1 (.inl (.inl rfl))).trans hb1
 have q2 := (hHW b2 (.inl (.inr (.inl rfl)))).trans hb2
 have q3 := (hHW b3 (.inl (.inr (.inr rfl)))).trans hb3
 have hHs : ∀ k, ((k = b1 ∨ k = b2 ∨ k = b3) ∨ X k) → k < W.heap.size := fun k hk => Nat.lt_of_lt_of_le (hH0 k hk) hW.size
 obtain ⟨HH, hHH⟩ : ∃ HH : Nat → Prop, (fun k => (k = b1 ∨ k = b2 ∨ k = b3) ∨ X k) = HH := ⟨_, rfl⟩
 have e1 : ∀ k, ((k = b1 ∨ k = b2 ∨ k = b3) ∨ X k) ↔ HH k := fun k => by rw [← hHH]
 have u1 : HH b1 := (e1 _).1 (.inl (.inl rfl))
 have u2 : HH b2 := (e1 _).1 (.inl (.inr (.inl rfl)))
 have u3 : HH b3 := (e1 _).1 (.inl (.inr (.inr rfl)))
 have u4 : ∀ k, X k → HH k := fun k hk => (e1 k).1 (.inr hk)
 replace hH : ∀ k, HH k → ¬ G k := fun k hk => hH k (by rw [hHH]; exact hk)
 replace hHs : ∀ k, HH k → k < W.heap.size := fun k hk => hHs k ((e1 k).2 hk)
 clear h hb1 hb2 hb3 hHW hH0 hW hHH e1 hX
 have hr := om_row A
 obtain ⟨AA, C, el, hA, hL, hC⟩ := range_cut (kx ls la) (kx hs ha) hr.1
 generalize rangeL (kx ls la) (kx hs ha) l = L at el hL hY ⊢
 have hfirst : nearS true true (kx ls la) l = (L ++ C).head? := by
  rw [el]
  refine near_ceil hA fun y hy => ?_
  rcases List.mem_append.1 hy with hy | hy
  ·exact (hL y hy).1
  ·exact (hC y hy).1
 have hnext : ∀ pre x R, L = pre ++ x :: R → nearS true false (ky x) l = (R ++ C).head? := fun pre x R e => by
  have e2 : l = (AA ++ pre ++ [x]) ++ (R ++ C) := by rw [el, e]; simp
  have hs := hr.1
  rw [e2] at hs ⊢
  have hp := List.pairwise_append.1 hs
  refine near_high (fun y hy => ?_) fun y hy => hp.2.2 x (by simp) y hy
  rcases List.mem_append.1 hy with hy | hy
  ·exact Int.le_of_lt ((List.pairwise_append.1 hp.1).2.2 y hy x (by simp))
  ·obtain rfl := List.mem_singleton.1 hy; exact Int.le_refl _
 have hfit : ∀ y ∈ L ++ C, fit64 y.la := fun y hy => (hr.2 y (by rw [el]; simp only [List.mem_append] at hy ⊢; rcases hy with h | h; exact .inr (.inl h); exact .inr (.inr h))).2
 have hbig : ∀ y ∈ C, kx hs ha ≤ ky y := fun y hy => (hC y hy).2
 have hin : ∀ y ∈ L, ky y < kx hs ha := fun y hy => (hL y hy).2
 obtain ⟨hi, hhi⟩ : ∃ hi, kx hs ha = hi := ⟨_, rfl⟩
 have HCmp := hid fun (s : Sg) (hs' : fit64 s.la) (w : World) => compareZ (s := s.ls) (s' := hs) hs' hfh w
 clear hA hL hC el
 obtain ⟨c1, f1⟩ := blkc q1
 obtain ⟨c2, f2⟩ := blkc q2
 obtain ⟨c3, f3⟩ := blkc q3
 have PL := om_ceil A ls la hfl
 rw [hfirst] at PL
 clear hfirst
 obtain ⟨o, ho⟩ : ∃ o, (L ++ C).head? = o := ⟨_, rfl⟩
 rw [ho] at PL
 replace ho := hid ho
 unfold optS at PL
 replace hbig := hid hbig
 replace hin := hid hin
 replace hhi := hid hhi
 refine (callsIn_wide (n := 1)).1 (callsIn_of_wp Tryz.func49 rfl trivial ?_)
 simp only [Tryz.ntmps49, List.size_toArray, List.length_cons, List.length_nil, Nat.reduceAdd, Nat.reduceSub, Array.replicate_succ, Array.replicate_zero, List.push_toArray, List.append_toArray, List.nil_append, List.cons_append]
 gi_wp2_with fail
 refine ⟨trivial, callsIn_wide.2 (PL.mono ?_)⟩
 rintro e w1 ⟨rfl, M1⟩
 clear PL c1 f1 c2 f2 c3 f3
 obtain ⟨w2, W2, hw2, hW2, x2, X2, N2⟩ := put5q w1 (oS o)
 obtain ⟨d2, e2⟩ := blkc x2
 have M2 := M1.trans' N2
 have hx2 : W.heap.size ≤ w1.heap.size := M1.size
 gi_wp2_with fail
 refine (wpIn_wide (n := 1)).2 ?_
 have hJ2 := hJ _ _ _ _ _ h0 M2 fun _ h => h.elim
 have start : RngX W HH L C J L.length (.pointer (some ⟨w1.heap.size, 0, none⟩)) (.bool o.isSome) W2 := by
  refine ⟨[], L, w1.heap.size, G, rfl, by simp, rfl, by rw [ho.out], by rw [ho.out]; exact X2, hJ2, M2.mono (fun _ h => h.elim), hH, fun j hj => M2.lt (hG j hj), fun h => ?_, hx2⟩
  have := hG _ h; omega
 clear M1 hw2 hW2 x2 X2 N2 d2 e2 M2 hJ2 h0 ho
 go_loopg [5, 6] L.length (fun g p is wr => RngX W HH L C J g p is wr)
 case atStart => exact start
 case round =>
  clear start
  obtain ⟨pre, R, sb, G1, eL, hg, rfl, rfl, hsb, hJ1, hM1, hH1, hG1, hGs, hsW⟩ := hrel
  refine (wpIn_wide (n := 1)).1 ?_
  have z3 := hM1.heap q3 fun h => h u3
  have hsz := hM1.size
  obtain ⟨c3, f3⟩ := blkc z3
  cases R with
  | nil =>
   have eL' : L = pre := by simpa using eL
   replace eL' := hid eL'
   clear eL hY hnext
   cases C with
   | nil =>
    simp only [List.append_nil, List.head?_nil, Option.isSome_none] at hsb ⊢
    gi_wp2_with fail
    refine ⟨trivial, ?_⟩
    gi_wp2_with fail
    go_end0
    exact ⟨⟨_, rfl⟩, G1, .inl (eL'.out ▸ hJ1)⟩
   | cons x C =>
    simp only [List.nil_append, List.head?_cons, Option.isSome_some, oS, Option.getD_some] at hsb ⊢
    obtain ⟨s1, s2⟩ := blkc hsb
    have PC := HCmp.out x (hfit x (by simp)) wr
    have hk := hbig.out x (by simp)
    have hc : cmpI (kx x.ls x.la) (kx hs ha) = 0 ∨ cmpI (kx x.ls x.la) (kx hs ha) = 1 := by
     unfold cmpI
     unfold ky at hk
     rw [if_neg (by omega)]
     split <;> simp
    generalize cmpI (kx x.ls x.la) (kx hs ha) = cc at PC hc
    have hcc : ¬ cc < 0 := by omega
    clear hc hk
    obtain ⟨xl, xa, xh, xg, xv⟩ := x
    simp only [encS] at s1 hsb
    gi_wp2_with fail
    refine ⟨trivial, callsIn_wide.2 (PC.mono ?_)⟩
    rintro e w6 ⟨rfl, M6⟩
    have hJ6 := hJ _ _ _ _ _ hJ1 M6 fun _ h => h.elim
    clear PC s1 s2 c3 f3
    gi_wp2_with fail
    go_end0
    exact ⟨⟨_, rfl⟩, G1, .inl (eL'.out ▸ hJ6)⟩
  | cons x R =>
   simp only [List.cons_append, List.head?_cons, Option.isSome_some, oS, Option.getD_some] at hsb ⊢
   obtain ⟨s1, s2⟩ := blkc hsb
   have hkx : fit64 x.la := hfit x (by rw [eL]; simp)
   have PC := HCmp.out x hkx wr
   have hk := hin.out x (by rw [eL]; simp)
   have hc : cmpI (kx x.ls x.la) (kx hs ha) = -1 := by
    unfold cmpI
    unfold ky at hk
    rw [if_pos hk]
   rw [hc] at PC
   have hnear := hnext pre x R eL
   have hnear2 : nearS true false (kx x.ls x.la) l = (R ++ C).head? := hnear
   have hsl := blkl hsb
   clear hc hk hnext hnear
   replace hY := hid hY
   replace hnear2 := hid hnear2
   obtain ⟨xl, xa, xh, xg, xv⟩ := x
   simp only [encS] at s1 hsb
   replace eL := hid eL
   replace hg := hid hg
   gi_wp2_with fail
   refine ⟨trivial, callsIn_wide.2 (PC.mono ?_)⟩
   rintro e w6 ⟨rfl, M6⟩
   have hJ6 := hJ _ _ _ _ _ hJ1 M6 fun _ h => h.elim
   obtain ⟨fn, tmps, assign, body, hy, hR⟩ := hY.out pre ⟨xl, xa, xh, xg, xv⟩ R G1 w6 eL.out hJ6
   have hsb6 := M6.heap hsb fun h => h
   have hM6 := hM1.trans M6 fun _ h => h.elim
   have hz6 := M6.size
   clear s1 s2 c3 f3 PC hY hJ1 hsb
   obtain ⟨s1, s2⟩ := blkc hsb6
   dsimp only [encSB] at hy
   gi_wp2_with fail
   refine hR.mono ?_
   clear hR hy s1 s2
   rintro e W' ⟨G', g1, g2, (⟨rfl, hJ'⟩ | ⟨rfl, hJ'⟩)⟩
   ·have hsb' := g2.heap hsb6 hGs
    obtain ⟨s1, s2⟩ := blkc hsb'
    have hM' : Mod (fun j => ¬ HH j) W W' := hM6.trans g2 fun j hj => .inl fun hh => hH1 j hh hj
    have hG' : ∀ j, HH j → ¬ G' j := fun j hj h => by
     rcases (g1 j h).1 with h | h
     ·exact hH1 j hj h
     ·have := hHs j hj; omega
    have A' : OM X W' mb d room l := A.mod hM' fun k hk _ hn => hn (u4 k hk)
    obtain ⟨w2, W2, hw2, hW2, x2, X2, N2⟩ := put5q W' ⟨xl, xa, xh, xg, xv⟩
    obtain ⟨d2, e2⟩ := blkc x2
    obtain ⟨d3, e3⟩ := blkc X2
    obtain ⟨d4, e4⟩ := blkc (N2.heap (hM'.heap q1 fun h => h u1) fun h => h)
    simp only [encS] at d3 X2 hW2
    have PW := om_high (A'.mod0 N2) xl xa hkx
    rw [hnear2.out] at PW
    obtain ⟨o, ho⟩ : ∃ o, (R ++ C).head? = o := ⟨_, rfl⟩
    rw [ho] at PW
    unfold optS at PW
    have hsz' := g2.size
    replace ho := hid ho
    gi_wp2_with fail
    refine ⟨trivial, callsIn_wide.2 (PW.mono ?_)⟩
    rintro e w7 ⟨rfl, M7⟩
    clear PW d2 e2 d3 e3 d4 e4 s1 s2
    have X7 := M7.heap X2 fun h => h
    obtain ⟨d6, e6⟩ := blkc X7
    obtain ⟨W7, hW7, Y7, K7⟩ := set5q w7 W'.heap.size ⟨xl, xa, xh, xg, xv⟩ (oS o) X7
    have M27 := N2.trans' M7
    have hz7 := M27.size
    have fin : RngX W HH L C J R.length (.pointer (some ⟨W'.heap.size, 0, none⟩)) (.bool o.isSome) W7 := by
     have hJ7 := hJ _ _ _ _ _ hJ' M27 fun _ h => h.elim
     have hnG : ¬ G' W'.heap.size := fun h => by have := (g1 _ h).2; omega
     refine ⟨pre ++ [⟨xl, xa, xh, xg, xv⟩], R, W'.heap.size, G', by rw [eL.out]; simp, rfl, rfl, by rw [ho.out], by rw [ho.out]; exact Y7, hJ _ _ _ _ _ hJ7 K7 (fun k hk => by rw [show k = W'.heap.size from hk]; exact ⟨by omega, hnG⟩),
      (hM'.trans M27 fun _ h => h.elim).trans K7 fun j hj => .inr (by have : j = W'.heap.size := hj; omega), hG', fun j hj => by have := (g1 j hj).2; have := K7.size; omega, hnG, by omega⟩
    have hmeas : R.length < gk := by rw [hg.out]; simp
    replace fin := hid fin
    replace hmeas := hid hmeas
    clear X7 Y7 K7 hw2 hW2 hJ' hsb' X2 N2 M7 M27
    gi_wp2_with fail
    go_roundg R.length
    case measure => exact hmeas.out
    case rel => exact fin.out
   ·have hpre : pre ++ [⟨xl, xa, xh, xg, xv⟩] <+: L := ⟨R, by rw [eL.out]; simp⟩
    replace hpre := hid hpre
    gi_wp2_with fail
    exact bodyPost_ret (results_none rfl _ _ _) rfl ⟨⟨_, rfl⟩, G', .inr ⟨_, hpre.out, hJ'⟩⟩
end
open Go Go.RowKit
def Rd5 (w : World) (v : Value) (l : List Sg) : Prop := ∃ A cap, v = .slice A l.length cap ∧ (0 < l.length → ∃ b o, A = some ⟨b, o, none⟩ ∧ ∀ k s, l[k]? = some s → ∀ j u, (encS s)[j]? = some u → w.cell? ⟨b, o + k * 5 + j, none⟩ = some u)
section
variable {w W : World} {v v' : Value} {l l' : List Sg}
theorem RowV.rd (h : RowV w v l) : Rd5 w v l := by
 obtain ⟨A, c, rfl, hA⟩ := h.slice
 refine ⟨A, c, rfl, fun hl => ?_⟩
 obtain ⟨g, rfl⟩ := hA hl
 refine ⟨g, 0, rfl, fun k s hs j u hu => ?_⟩
 obtain ⟨hk, e⟩ := List.getElem?_eq_some_iff.1 hs
 subst e
 obtain ⟨c0, c1, c2, c3, c4⟩ := h.cells hk
 rw [Nat.zero_add]
 match j, hu with
 | 0, hu => cases hu; exact c0
 | 1, hu => cases hu; exact c1
 | 2, hu => cases hu; exact c2
 | 3, hu => cases hu; exact c3
 | 4, hu => cases hu; exact c4
theorem RdS.rd {a : Option Addr} {len : Nat} (h : RdS encS 5 w a len l) (cap : Nat) : Rd5 w (.slice a len cap) l := by
 refine ⟨a, cap, by rw [h.1], fun hl => ?_⟩
 obtain ⟨b, o, e, hc⟩ := h.2.2 (by rw [← h.1]; exact hl)
 exact ⟨b, o, e, hc⟩
theorem Rd5.keep (h : Rd5 w v l) (M : Mod (fun _ => False) w W) : Rd5 W v l := by
 obtain ⟨A, c, rfl, hA⟩ := h
 refine ⟨A, c, rfl, fun hl => ?_⟩
 obtain ⟨b, o, e, hc⟩ := hA hl
 exact ⟨b, o, e, fun k s hs j u hu => M.cell (hc k s hs j u hu) fun h => h⟩
theorem Rd5.cells (h : Rd5 w v l) {k : Nat} (hk : k < l.length) : ∃ b o cap, v = .slice (some ⟨b, o, none⟩) l.length cap ∧
  w.cell? ⟨b, o + k * 5, none⟩ = some (.int .i64 l[k].ls) ∧ w.cell? ⟨b, o + k * 5 + 1, none⟩ = some (.int .i64 l[k].la) ∧ w.cell? ⟨b, o + k * 5 + 2, none⟩ = some (.int .i64 l[k].hs) ∧
  w.cell? ⟨b, o + k * 5 + 3, none⟩ = some (.int .i64 l[k].ha) ∧ w.cell? ⟨b, o + k * 5 + 4, none⟩ = some (.int .i64 l[k].v) := by
 obtain ⟨A, c, rfl, hA⟩ := h
 obtain ⟨b, o, rfl, hc⟩ := hA (by omega)
 have g : ∀ j u, (encS l[k])[j]? = some u → w.cell? ⟨b, o + k * 5 + j, none⟩ = some u := fun j u hu => hc k l[k] (by simp [hk]) j u hu
 exact ⟨b, o, c, rfl, g 0 _ rfl, g 1 _ rfl, g 2 _ rfl, g 3 _ rfl, g 4 _ rfl⟩
theorem Rd5.slice (h : Rd5 w v l) : ∃ A c, v = .slice A l.length c ∧ (0 < l.length → ∃ b o, A = some ⟨b, o, none⟩) := by
 obtain ⟨A, c, rfl, hA⟩ := h
 exact ⟨A, c, rfl, fun hl => by obtain ⟨b, o, e, _⟩ := hA hl; exact ⟨b, o, e⟩⟩
set_option maxHeartbeats 1000000 in
theorem same5 (h : Rd5 w v l) (h' : Rd5 w v' l) (hlen : l.length ≤ 65536) : Calls Tryz.prog 28 #[v, v'] w fun e w' => e = .returned (.bool true) ∧ Mod (fun _ => False) w w' := by
 obtain ⟨A, c, rfl, hA⟩ := h.slice
 obtain ⟨A', c', rfl, hA'⟩ := h'.slice
 go_enter Tryz.func28, Tryz.ntmps28
 go_wp2_with fail
 go_loopw [5] (fun i W => ∃ k : Nat, k ≤ l.length ∧ i = .int .i64 k ∧ Mod (fun _ => False) w W) (fun i _ => (l.length - intOf i).toNat)
 case atStart => exact ⟨0, by omega, rfl, Mod.refl _ _⟩
 case round =>
  obtain ⟨k, hk, rfl, M1⟩ := hrel
  by_cases hlt : k < l.length
  ·obtain ⟨b, o, cap, e, c0, c1, c2, c3, c4⟩ := (h.keep M1).cells hlt
   obtain ⟨b', o', cap', e', d0, d1, d2, d3, d4⟩ := (h'.keep M1).cells hlt
   cases e
   cases e'
   have hkb : (k : Int) + 1 ≤ 65536 := by omega
   have hkl : (k : Int) < l.length := by omega
   generalize l[k] = s at c0 c1 c2 c3 c4 d0 d1 d2 d3 d4
   obtain ⟨ls, la, hs, ha, sv⟩ := s
   dsimp only at c0 c1 c2 c3 c4 d0 d1 d2 d3 d4
   clear h h' hA hA'
   go_wp2_with fail
   go_quiet (fail)
   go_wp2_with fail
   go_roundw
   case rel => exact ⟨k + 1, by omega, by simp, M1.drewN _⟩
   case measure => simp [intOf]; omega
  ·obtain rfl : k = l.length := by omega
   clear h h' hA hA'
   go_wp2_with fail
   go_ret
   exact ⟨rfl, M1⟩
end
open Go Go.RowKit
section
variable {w W : World} {v v' : Value} {l l' : List Sg}
theorem range_take {lo hi : Int} {l : List Sg} {k : Nat} (hk : k < l.length) : rangeL lo hi (l.take (k + 1)) = rangeL lo hi (l.take k) ++ (if lo ≤ ky l[k] ∧ ky l[k] < hi then [l[k]] else []) := by
 rw [List.take_succ_eq_append_getElem hk, range_snoc]
theorem range_len (lo hi : Int) (l : List Sg) : (rangeL lo hi l).length ≤ l.length := by unfold rangeL; exact List.length_filter_le _ _
set_option maxHeartbeats 1000000 in
theorem rangeR (h : Rd5 w v l) (hfit : ∀ s ∈ l, fit64 s.la) (hlen : l.length ≤ 65536) (ls la hs ha : Int) (fl : fit64 la) (fh : fit64 ha) : Calls Tryz.prog 26 #[v, .agg #[.int .i64 ls, .int .i64 la], .agg #[.int .i64 hs, .int .i64 ha]] w fun e w' =>
  ∃ v', e = .returned v' ∧ RowV w' v' (rangeL (kx ls la) (kx hs ha) l) ∧ (∀ k, v'.ownBlock = some k → w.heap.size ≤ k) ∧ Mod (fun _ => False) w w' := by
 obtain ⟨A, c, rfl, hA⟩ := h.slice
 obtain ⟨w0, hw0, b0, b1, M0⟩ := box2 w (.int .i64 ls) (.int .i64 la) (.int .i64 hs) (.int .i64 ha) 34 34
 have P1 := hid fun (s : Sg) (hs' : fit64 s.la) (w : World) => lessR (s := s.ls) (s' := ls) hs' fl w
 have P2 := hid fun (s : Sg) (hs' : fit64 s.la) (w : World) => lessR (s := s.ls) (s' := hs) hs' fh w
 obtain ⟨lo, hlo⟩ : ∃ lo, kx ls la = lo := ⟨_, rfl⟩
 obtain ⟨hi, hhi⟩ : ∃ hi, kx hs ha = hi := ⟨_, rfl⟩
 rw [hlo] at P1
 rw [hhi] at P2
 rw [hlo, hhi]
 clear hlo hhi fl fh
 go_enter Tryz.func26, Tryz.ntmps26
 go_wp2_with fail
 go_loopw [7, 8] (fun q i W => ∃ k : Nat, k ≤ l.length ∧ i = .int .i64 k ∧ RowV W q (rangeL lo hi (l.take k)) ∧ (∀ j, q.ownBlock = some j → w0.heap.size ≤ j) ∧ Mod (fun _ => False) w0 W) (fun _ i _ => (l.length - intOf i).toNat)
 case atStart => exact ⟨0, by omega, rfl, RowV.nil _, fun k hk => (by cases hk), Mod.refl _ _⟩
 case round =>
  obtain ⟨k, hk, rfl, R, hown, M1⟩ := hrel
  by_cases hlt : k < l.length
  ·obtain ⟨b, o, cap, e, c0, c1, c2, c3, c4⟩ := ((h.keep M0).keep M1).cells hlt
   cases e
   have hkb : (k : Int) + 1 ≤ 65536 := by omega
   have hkl : (k : Int) < l.length := by omega
   have hf := hfit l[k] (by simp)
   have ht := range_take (lo := lo) (hi := hi) hlt
   have hq : (rangeL lo hi (l.take k)).length ≤ 65536 := by have := range_len lo hi (l.take k); simp at this; omega
   generalize l[k] = s at c0 c1 c2 c3 c4 hf ht
   replace P1 := P1.out s hf
   replace P2 := P2.out s hf
   generalize rangeL lo hi (l.take k) = q at R ht hq
   obtain ⟨q2, hq2⟩ : ∃ q2, rangeL lo hi (l.take (k + 1)) = q2 := ⟨_, rfl⟩
   rw [hq2] at ht
   replace hq2 := hid hq2
   obtain ⟨key, hkey⟩ : ∃ key, ky s = key := ⟨_, rfl⟩
   have hkey' : kx s.ls s.la = key := hkey
   rw [hkey] at ht
   simp only [hkey'] at P1 P2
   clear hkey hkey'
   obtain ⟨ls', la', hs', ha', sv⟩ := s
   dsimp only at c0 c1 c2 c3 c4 P1 P2
   obtain ⟨W1, hW1, bk, m1⟩ : ∃ W1, wr.alloc (.cells #[.int .i64 ls', .int .i64 la'] 34) = W1 ∧ W1.heap[wr.heap.size]? = some (.cells #[.int .i64 ls', .int .i64 la'] 34 (0, 0)) ∧ Mod (fun _ => False) wr W1 := ⟨_, rfl, alloc_0 _ _, (Mod.refl _ _).alloc _⟩
   obtain ⟨d1, e1⟩ := blkc bk
   obtain ⟨d2, e2⟩ := blkc (m1.heap (M1.heap b0 fun h => h) fun h => h)
   have b1' := m1.heap (M1.heap b1 fun h => h) fun h => h
   replace P1 := P1 W1
   have hc : ∀ W, Mod (fun _ => False) wr W → W.cell? ⟨b, o + k * 5, none⟩ = some (.int .i64 ls') ∧ W.cell? ⟨b, o + k * 5 + 1, none⟩ = some (.int .i64 la') ∧ W.cell? ⟨b, o + k * 5 + 2, none⟩ = some (.int .i64 hs') ∧ W.cell? ⟨b, o + k * 5 + 3, none⟩ = some (.int .i64 ha') ∧ W.cell? ⟨b, o + k * 5 + 4, none⟩ = some (.int .i64 sv) := fun W M => ⟨M.cell c0 fun h => h, M.cell c1 fun h => h, M.cell c2 fun h => h, M.cell c3 fun h => h, M.cell c4 fun h => h⟩
   replace hc := hid hc
   clear h hA hlt
   replace ht := hid ht
   by_cases hlo : key < lo
   ·rw [decide_eq_true hlo] at P1
    have ht2 : q2 = q := by rw [ht.out, if_neg (by omega), List.append_nil]
    replace ht2 := hid ht2
    clear hlo
    go_wp2_with fail
    refine P1.mono ?_
    rintro e w2 ⟨rfl, M2⟩
    clear P1 P2
    go_wp2_with fail
    go_roundw
    case rel => exact ⟨k + 1, by omega, by simp, by rw [hq2.out, ht2.out]; exact (R.keep m1).keep M2, hown, (M1.trans' m1).trans' M2⟩
    case measure => simp [intOf]; omega
   ·rw [decide_eq_false hlo] at P1
    go_wp2_with fail
    refine P1.mono ?_
    rintro e w2 ⟨rfl, M2⟩
    clear P1 d1 e1 d2 e2
    obtain ⟨d1, e1⟩ := blkc (M2.heap bk fun h => h)
    obtain ⟨d2, e2⟩ := blkc (M2.heap b1' fun h => h)
    replace P2 := P2 w2
    by_cases hhi : key < hi
    ·rw [decide_eq_true hhi] at P2
     have ht2 : q2 = q ++ [⟨ls', la', hs', ha', sv⟩] := by rw [ht.out, if_pos (by omega)]
     replace ht2 := hid ht2
     clear hlo hhi
     go_wp2_with fail
     refine P2.mono ?_
     rintro e w3 ⟨rfl, M3⟩
     clear P2 d1 e1 d2 e2 c0 c1 c2 c3 c4
     have M13 := (m1.trans' M2).trans' M3
     have R3 := R.keep M13
     obtain ⟨c0, c1, c2, c3, c4⟩ := hc.out w3 M13
     have hsz := M0.size
     have hsz1 := M1.size
     have hsz3 := M13.size
     have hfin : ∀ W v6, W.ownsRow 0 38 5 v6 (q.length + 1) (q.flatMap encS ++ [.int .i64 ls', .int .i64 la', .int .i64 hs', .int .i64 ha', .int .i64 sv]) → RowV W v6 q2 := fun W v6 own => by
      rw [ht2.out]; unfold RowV; rw [List.flatMap_append, List.length_append]; simpa [encS] using own
     replace hfin := hid hfin
     go_wp2_with (at_builtin; refine app_one [.int .i64 ls', .int .i64 la', .int .i64 hs', .int .i64 ha', .int .i64 sv] u7 q.length (q.flatMap encS) (.tmp 31) (.tmp 36) 28 38 (.agg #[.int .i64 0, .int .i64 0, .int .i64 0, .int .i64 0, .int .i64 0]) 5 40 rfl rfl Tryz.underlying28 infoSg rfl (by omega) (by omega) rfl rfl R3 rfl (by simp [Value.oneCell']) (by omega) ?_)
     intro v6 w6 own gr bl
     have Mg : Mod (fun k => u7.ownBlock = some k) w3 w6 := Mod.of_grown gr
     have M06 : Mod (fun _ => False) w0 w6 := (M1.trans' M13).trans Mg fun j hj => .inr (hown j hj)
     have hown6 : ∀ j, v6.ownBlock = some j → w0.heap.size ≤ j := fun j hj => by
      rcases bl j hj with e | e
      ·exact hown j e
      ·omega
     replace own := hfin.out _ _ own
     go_wp2_with fail
     go_roundw
     case rel => exact ⟨k + 1, by omega, by simp, by rw [hq2.out]; exact own, hown6, M06⟩
     case measure => simp [intOf]; omega
    ·rw [decide_eq_false hhi] at P2
     have ht2 : q2 = q := by rw [ht.out, if_neg (by omega), List.append_nil]
     replace ht2 := hid ht2
     clear hlo hhi
     go_wp2_with fail
     refine P2.mono ?_
     rintro e w3 ⟨rfl, M3⟩
     clear P2
     go_wp2_with fail
     go_roundw
     case rel => exact ⟨k + 1, by omega, by simp, by rw [hq2.out, ht2.out]; exact ((R.keep m1).keep M2).keep M3, hown, ((M1.trans' m1).trans' M2).trans' M3⟩
     case measure => simp [intOf]; omega
  ·obtain rfl : k = l.length := by omega
   rw [List.take_length] at R
   clear h hA
   go_wp2_with fail
   go_ret
   exact ⟨_, rfl, R, fun j hj => Nat.le_trans M0.size (hown j hj), M0.trans' M1⟩
end
open Go Go.RowKit Go.Shelf
theorem one_setCell7 {w : World} {g : Nat} {t : TypeId} {u v : Value} (h : w.heap[g]? = some (.cells #[u] t (0, 0))) : (w.setCell ⟨g, 0, none⟩ v).heap[g]? = some (.cells #[v] t (0, 0)) := setL_whole (cs := [u]) (us := [v]) h rfl
def CntR7 (nb : Nat) (f : Nat → Int) (R : Nat → Prop) : List Sg → World → Prop := fun pre W => W.heap[nb]? = some (.cells #[.int .i64 (f pre.length)] 3 (0, 0)) ∧ R pre.length
theorem CntR7.looks {nb : Nat} {f : Nat → Int} {R : Nat → Prop} : Looks (fun j => j = nb) (CntR7 nb f R) := fun pre W W' h hk => ⟨(hk nb rfl).trans h.1, h.2⟩
theorem shareW {G : Prop} (F : World → Prop) (h : ∃ P : World → Prop, ((∀ a, F a → P a) → G) ∧ ∀ a, F a → P a) : G := h.elim fun P q => q.1 q.2
theorem shareNM {G : Prop} (F : World → Nat → Nat → Prop) (h : ∃ P : World → Nat → Nat → Prop, ((∀ a b c, F a b c → P a b c) → G) ∧ ∀ a b c, F a b c → P a b c) : G := h.elim fun P q => q.1 q.2
open Go Go.RowKit
theorem wp_region_head_quiet {P : Program} {id : Nat} {o0 : Oper} {rest : List Oper} {Q : Exit → Act → World → Prop} {a : Act} {w : World} (hm : P.follows .mixedOrders = true) (hg : o0.guard = none)
  (hr : Region.ready .any (o0 :: rest).toArray (Array.replicate (rest.length + 1) false) = [0])
  (hB : (Region.noSelect (o0 :: rest).toArray && Region.lexFrom .any (o0 :: rest).toArray rest.length 1 ((Array.replicate (rest.length + 1) false).setIfInBounds 0 true)) = true)
  (h : ∀ K : Act → World → Prop, (∀ a1 w1, wpQuiet P (o0 :: rest).toArray (fun w' => ∃ n, w' = w1.drewN n) (fun a' => ∀ w', (∃ n, w' = w1.drewN n) → Q .normal a' w') rest a1 → K a1 w1) → o0.wp P a w.drew K Q) :
  (Code.region id (o0 :: rest).toArray true).wp P Q a w := by
 simp only [Bool.and_eq_true] at hB
 refine wp_region_any hm ?_
 show wpAny P .any (o0 :: rest).toArray Q (rest.length + 1) (Array.replicate (rest.length + 1) false) a w.drew
 refine wpAny_all hr (by simp) ?_
 intro i hi
 simp at hi
 subst hi
 unfold wpOp
 simp only [List.getElem?_toArray, List.getElem?_cons_zero]
 rw [if_pos (by simp [Region.wanted, hg])]
 refine .inl (h _ fun a1 w1 hq => ?_)
 refine wpAny_of_quiet (C := fun w' => ∃ n, w' = w1.drewN n) (Q := fun a' => ∀ w', (∃ n, w' = w1.drewN n) → Q .normal a' w') (fun _ w' hw' h => h w' hw') _ _ _ _ ⟨0, rfl⟩ ?_
 exact wpAnyQ_lex hB.1 rest 1 _ _ (fun j => by simp [Nat.add_comm 1 j]) hB.2 hq
open Go
theorem okWide_array {P : Program} {w : World} {r : Reach} {base : Nat} {t e : TypeId} {n : Nat} {v : Value} (ht : P.underlying t = some (.array n e)) (h : Value.okWide P w r base t v) : ∃ cs, v = .agg cs ∧ cs.size = P.cellsOf t := by
 simp only [Value.okWide, ht] at h
 obtain ⟨cs, h1, h2, _⟩ := h
 exact ⟨cs, h1, h2⟩
end Go.Proofs.Bo
