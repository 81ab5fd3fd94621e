import Derived.Test.YtgehgjaglgafdaaGreatG12
import Derived.Test.YtgehgjaglgafdaaGreatG07
set_option linter.unusedVariables false
set_option linter.unusedSimpArgs false
namespace Go.Proofs.Bo
open Go Go.RowKit
section
variable {w w' : World} {tb ab N : Nat} {lv fv : Value} {room : Int} {free : List Int} {t : T}
theorem TS.bound (h : TS w tb ab lv fv room N free t) : (t.size : Int) ≤ room ∧ room ≤ 65536 ∧ 0 ≤ room := by
 obtain ⟨root, σ, m, hh, _⟩ := h
 have := hh.count m.a.inv
 have := m.a.inv.lr
 have := m.a.inv.room1
 have := m.a.inv.room0
 omega
theorem cblk_le : ∀ c : Ctx, cblk c ≤ c.length
 | [] => Nat.le_refl _
 | a :: c => by have := cblk_le c; simp only [cblk, List.length_cons]; split <;> omega
def DeepR (w : World) (t : T) (D K : Nat) (g : Nat) (v1 v6 v7 : Value) (W : World) : Prop :=
 W = w ∧ ∃ n m : Nat, v6 = .int .i64 n ∧ v7 = .int .i64 m ∧ ((g = 0 ∧ v1 = .int .i64 (-1) ∧ n = D ∧ m = K) ∨ ∃ c1 j b s l r, g = c1.length + 1 ∧ v1 = .int .i64 j ∧ t = plug c1 (.N j b s l r) ∧ n + (c1.length + 1) = D ∧ m + (cblk c1 + nblk b) = K)
set_option maxHeartbeats 1000000 in
theorem deepZ {c : Ctx} {k : Nat} {b : Bool} {s : Sg} {l r : T} (h : TS w tb ab lv fv room N free (plug c (.N k b s l r))) :
  Calls Tryz.prog 168 #[.pointer (some ⟨tb, 0, none⟩), .int .i64 k] w fun e w' => e = .returned (.tuple #[.int .i64 ((c.length + 1 : Nat) : Int), .int .i64 ((cblk c + nblk b : Nat) : Int)]) ∧ w' = w := by
 have hbd : c.length + 1 ≤ 65536 := by
  have := h.bound; have := size_plug_le c (.N k b s l r); simp only [T.size] at this; omega
 obtain ⟨t, ht⟩ : ∃ t, plug c (.N k b s l r) = t := ⟨_, rfl⟩
 have hK := cblk_le c
 obtain ⟨D, hD⟩ : ∃ D, c.length + 1 = D := ⟨_, rfl⟩
 obtain ⟨K, hKK⟩ : ∃ K, cblk c + nblk b = K := ⟨_, rfl⟩
 have hKb : K ≤ 65536 := by rw [← hKK]; unfold nblk; split <;> omega
 rw [ht] at h
 rw [hD, hKK]
 rw [hD] at hbd
 replace hD := hid hD
 replace hKK := hid hKK
 replace ht := hid ht
 clear hK
 go_enter Tryz.func168, Tryz.ntmps168
 go_wp2_with fail
 go_loopg [1, 6, 7] (c.length + 1) (fun g v1 v6 v7 W => DeepR w t D K g v1 v6 v7 W)
 case atStart => exact ⟨rfl, 0, 0, rfl, rfl, .inr ⟨c, k, b, s, l, r, rfl, rfl, ht.out.symm, by have := hD.out; omega, by have := hKK.out; omega⟩⟩
 case round =>
  clear hD hKK ht
  obtain ⟨hw, n, m, rfl, rfl, ⟨hg, rfl, rfl, rfl⟩ | ⟨c1, j, b1, s1, l1, r1, hg, rfl, rfl, hn, hm⟩⟩ := hrel
  ·subst hw
   clear h
   replace hg := hid hg
   go_wp2_with fail
   go_ret2
   exact ⟨rfl, rfl⟩
  ·subst hw
   replace hg := hid hg
   have hn0 : (0 : Int) ≤ n ∧ (n : Int) < 65536 := by omega
   have hm0 : (0 : Int) ≤ m ∧ (m : Int) ≤ 65536 := by omega
   replace hn := hid hn
   replace hm := hid hm
   obtain ⟨j, rfl⟩ := h.nat (i := j) ((mem_plug ..).2 (.inr (by simp [T.ids])))
   obtain ⟨lb, hN⟩ := h.node'
   have A := hN.at'
   have c7 := hN.c7
   have R := redZ h
   rw [T.ix_N, T.red_N] at R
   have hj0 : ((j : Int) != -1) = true := by simp
   clear hN c
   obtain ⟨pc, hpc⟩ : ∃ pc, cix c1 = pc := ⟨_, rfl⟩
   rw [hpc] at c7
   replace hpc := hid hpc
   have hnext : ∀ m', m' = m + nblk b1 → ∃ g', g' < gk ∧ DeepR wr (plug c1 (.N j b1 s1 l1 r1)) D K g' (.int .i64 pc) (.int .i64 ((n + 1 : Nat) : Int)) (.int .i64 (m' : Nat)) wr := by
    rintro m' rfl
    have hn := hn.out
    have hm := hm.out
    have hpc := hpc.out
    cases c1 with
    | nil => exact ⟨0, by rw [hg.out]; omega, rfl, _, _, rfl, rfl, .inl ⟨rfl, by rw [← hpc]; rfl, by simpa using hn, by simp only [cblk] at hm; omega⟩⟩
    | cons a c2 =>
     refine ⟨c2.length + 1, by rw [hg.out]; simp, rfl, _, _, rfl, rfl, .inr ?_⟩
     obtain ⟨ad, p, ared, sa, ao⟩ := a
     simp only [cblk, List.length_cons] at hn hm
     have hmk : ∃ x y, T.mk ad p ared sa (.N j b1 s1 l1 r1) ao = .N p ared sa x y := by cases ad <;> exact ⟨_, _, rfl⟩
     obtain ⟨x, y, hxy⟩ := hmk
     refine ⟨c2, p, ared, sa, x, y, rfl, by rw [← hpc]; rfl, by rw [← hxy]; rfl, by omega, by unfold nblk at *; omega⟩
   replace hnext := hid hnext
   clear h
   cases b1
   ·go_wp2_with fail
    refine R.mono ?_; rintro e w2 ⟨rfl, hw⟩; subst hw
    go_wp2_with fail
    refine A.mono ?_; rintro e w2 ⟨rfl, hw⟩; subst hw
    go_wp2_with fail
    obtain ⟨g', hg', hR⟩ := hnext.out (m + 1) rfl
    go_roundg g'
    case measure => exact hg'
    case rel => simpa using hR
   ·go_wp2_with fail
    refine R.mono ?_; rintro e w2 ⟨rfl, hw⟩; subst hw
    go_wp2_with fail
    refine A.mono ?_; rintro e w2 ⟨rfl, hw⟩; subst hw
    go_wp2_with fail
    obtain ⟨g', hg', hR⟩ := hnext.out m rfl
    go_roundg g'
    case measure => exact hg'
    case rel => simpa using hR
end
open Go Go.RowKit
section
variable {w w' : World} {tb ab N : Nat} {lv fv : Value} {room : Int} {free : List Int} {t : T}
theorem idx0 (x y : Int) (w : World) : (Instr.index 125 (.agg #[.int .i64 x, .int .i64 y]) (.int .i64 0)).run Tryz.prog w = .ok (.int .i64 x) w := by
 simp [Instr.index, asIntOf, run_underlying Tryz.underlying125, part, go_sem]
theorem idx1 (x y : Int) (w : World) : (Instr.index 125 (.agg #[.int .i64 x, .int .i64 y]) (.int .i64 1)).run Tryz.prog w = .ok (.int .i64 y) w := by
 simp [Instr.index, asIntOf, run_underlying Tryz.underlying125, part, go_sem]
set_option maxHeartbeats 2000000 in
set_option maxRecDepth 100000 in
theorem fineZ {c : Ctx} {k : Nat} {b : Bool} {s : Sg} {l r : T} (h : TS w tb ab lv fv room N free (plug c (.N k b s l r))) (hb : b = true → l.red = false ∧ r.red = false) :
  Calls Tryz.prog 167 #[.pointer (some ⟨tb, 0, none⟩), .int .i64 k] w fun e w' => e = .returned (.bool true) ∧ w' = w := by
 obtain ⟨lb, cp, rfl⟩ := h.lb (by intro e; have := toL_focus c k b s l r; rw [e] at this; simp [T.toL] at this)
 have hN := h.node
 have A := hN.at'
 have c5 := hN.c5
 have c6 := hN.c6
 clear hN
 have R := redZ h
 rw [T.ix_N, T.red_N] at R
 obtain ⟨x, hx⟩ : ∃ x, l.ix = x := ⟨_, rfl⟩
 obtain ⟨y, hy⟩ : ∃ y, r.ix = y := ⟨_, rfl⟩
 rw [hx] at c5
 rw [hy] at c6
 replace hx := hid hx
 replace hy := hid hy
 replace hb := hid hb
 have hh := h
 have x0 := idx0 x y
 have x1 := idx1 x y
 go_enter Tryz.func167, Tryz.ntmps167
 go_wp2_with fail
 refine A.mono ?_; rintro e w2 ⟨rfl, hw⟩; subst hw
 go_wp2_with fail
 go_loopw [13] (fun v W => ∃ n : Nat, n ≤ 2 ∧ v = .int .i64 n ∧ W = w2) (fun v _ => 2 - (intOf v).toNat)
 case atStart => exact ⟨0, by omega, rfl, rfl⟩
 case round =>
  obtain ⟨n, hn, rfl, hw⟩ := hrel
  subst hw
  have : n = 0 ∨ n = 1 ∨ n = 2 := by omega
  rcases this with rfl | rfl | rfl
  ·clear c5 c6 A
   cases l with
   | E =>
    obtain rfl : x = -1 := hx.out.symm
    clear h R hh
    go_wp2_with fail
    go_roundw
    case rel => exact ⟨1, by omega, by first | rfl | trivial, by first | rfl | trivial⟩
    case measure => simp [intOf]
   | N j b2 s2 l2 r2 =>
    obtain ⟨j, rfl⟩ := h.nat (i := j) ((mem_plug ..).2 (.inr (by simp [T.ids])))
    obtain rfl : x = (j : Int) := hx.out.symm
    have hj0 : ((j : Int) != -1) = true := by simp
    have h2 : TS wr tb ab (.slice (some ⟨lb, 0, none⟩) N cp) fv room N free (plug (⟨false, k, b, s, r⟩ :: c) (.N j b2 s2 l2 r2)) := hh
    have hN2 := h2.node
    have A2 := hN2.at'
    have q7 := hN2.c7
    rw [cix_cons] at q7
    have R2 := redZ h2
    rw [T.ix_N, T.red_N] at R2
    have hb2 : b = true → b2 = false := fun e => (hb.out e).1
    clear hN2 h h2 hh
    cases b
    ·clear hb2
     go_wp2_with fail
     refine A2.mono ?_; rintro e w3 ⟨rfl, hw⟩; subst hw
     go_wp2_with fail
     refine A2.mono ?_; rintro e w3 ⟨rfl, hw⟩; subst hw
     go_wp2_with fail
     refine R.mono ?_; rintro e w3 ⟨rfl, hw⟩; subst hw
     go_wp2_with fail
     go_roundw
     case rel => exact ⟨1, by omega, by first | rfl | trivial, by first | rfl | trivial⟩
     case measure => simp [intOf]
    ·obtain rfl : b2 = false := hb2 rfl
     clear hb2
     go_wp2_with fail
     refine A2.mono ?_; rintro e w3 ⟨rfl, hw⟩; subst hw
     go_wp2_with fail
     refine A2.mono ?_; rintro e w3 ⟨rfl, hw⟩; subst hw
     go_wp2_with fail
     refine R.mono ?_; rintro e w3 ⟨rfl, hw⟩; subst hw
     go_wp2_with fail
     refine R2.mono ?_; rintro e w3 ⟨rfl, hw⟩; subst hw
     go_wp2_with fail
     go_roundw
     case rel => exact ⟨1, by omega, by first | rfl | trivial, by first | rfl | trivial⟩
     case measure => simp [intOf]
  ·clear c5 c6 A
   cases r with
   | E =>
    obtain rfl : y = -1 := hy.out.symm
    clear h R hh
    go_wp2_with fail
    go_roundw
    case rel => exact ⟨2, by omega, by first | rfl | trivial, by first | rfl | trivial⟩
    case measure => simp [intOf]
   | N j b2 s2 l2 r2 =>
    obtain ⟨j, rfl⟩ := h.nat (i := j) ((mem_plug ..).2 (.inr (by simp [T.ids])))
    obtain rfl : y = (j : Int) := hy.out.symm
    have hj0 : ((j : Int) != -1) = true := by simp
    have h2 : TS wr tb ab (.slice (some ⟨lb, 0, none⟩) N cp) fv room N free (plug (⟨true, k, b, s, l⟩ :: c) (.N j b2 s2 l2 r2)) := hh
    have hN2 := h2.node
    have A2 := hN2.at'
    have q7 := hN2.c7
    rw [cix_cons] at q7
    have R2 := redZ h2
    rw [T.ix_N, T.red_N] at R2
    have hb2 : b = true → b2 = false := fun e => (hb.out e).2
    clear hN2 h h2 hh
    cases b
    ·clear hb2
     go_wp2_with fail
     refine A2.mono ?_; rintro e w3 ⟨rfl, hw⟩; subst hw
     go_wp2_with fail
     refine A2.mono ?_; rintro e w3 ⟨rfl, hw⟩; subst hw
     go_wp2_with fail
     refine R.mono ?_; rintro e w3 ⟨rfl, hw⟩; subst hw
     go_wp2_with fail
     go_roundw
     case rel => exact ⟨2, by omega, by first | rfl | trivial, by first | rfl | trivial⟩
     case measure => simp [intOf]
    ·obtain rfl : b2 = false := hb2 rfl
     clear hb2
     go_wp2_with fail
     refine A2.mono ?_; rintro e w3 ⟨rfl, hw⟩; subst hw
     go_wp2_with fail
     refine A2.mono ?_; rintro e w3 ⟨rfl, hw⟩; subst hw
     go_wp2_with fail
     refine R.mono ?_; rintro e w3 ⟨rfl, hw⟩; subst hw
     go_wp2_with fail
     refine R2.mono ?_; rintro e w3 ⟨rfl, hw⟩; subst hw
     go_wp2_with fail
     go_roundw
     case rel => exact ⟨2, by omega, by first | rfl | trivial, by first | rfl | trivial⟩
     case measure => simp [intOf]
  ·clear h R hh A c5 c6
   go_wp2_with fail
   go_ret
   exact ⟨rfl, rfl⟩
end
open Go Go.RowKit
def WalkW (w : World) (tb : Nat) (d : Bool) : World := (w.alloc (.cells #[.pointer (some ⟨tb, 0, none⟩)] 93)).alloc (.cells #[.int .i64 (di d)] 3)
section
variable {w w' : World} {tb ab N : Nat} {lv fv : Value} {room : Int} {free : List Int} {t : T}
theorem walkZ (w : World) (tb : Nat) (d : Bool) : Calls Tryz.prog 163 #[.pointer (some ⟨tb, 0, none⟩), .int .i64 (di d)] w fun e w' => e = .returned (.func (.func 181) #[] #[.pointer (some ⟨w.heap.size, 0, none⟩), .pointer (some ⟨w.heap.size + 1, 0, none⟩)]) ∧ w' = WalkW w tb d := by
 go_enter Tryz.func163, Tryz.ntmps163
 go_wp2
 go_ret
 exact ⟨rfl, rfl⟩
theorem allTZ (w : World) (tb : Nat) : Calls Tryz.prog 149 #[.pointer (some ⟨tb, 0, none⟩)] w fun e w' => e = .returned (.func (.func 181) #[] #[.pointer (some ⟨w.heap.size, 0, none⟩), .pointer (some ⟨w.heap.size + 1, 0, none⟩)]) ∧ w' = WalkW w tb false := by
 have H := walkZ w tb false
 go_enter Tryz.func149, Tryz.ntmps149
 go_wp2_with fail
 refine H.mono ?_; rintro e w' ⟨rfl, rfl⟩
 go_wp2_with fail
 go_ret
 exact ⟨rfl, rfl⟩
def encSV (s : Sg) : Array Value := #[.agg #[.int .i64 s.ls, .int .i64 s.la, .int .i64 s.hs, .int .i64 s.ha, .int .i64 s.v]]
def dirL (d : Bool) (l : List Sg) : List Sg := if d then l.reverse else l
def At (t : T) (d : Bool) (g : Nat) (v : Int) (pre : List Sg) : Prop :=
 (v = -1 ∧ g = 0 ∧ pre = dirL d t.toL) ∨ ∃ c j b s l r rest, v = j ∧ t = plug c (.N j b s l r) ∧ dirL d t.toL = pre ++ s :: rest ∧ g = rest.length + 1 ∧ pre = (if d then (r.toL ++ cpost c).reverse else cpre c ++ l.toL)
def WalkR (W : World) (t : T) (d : Bool) (tb ab : Nat) (lv fv : Value) (b1 b2 : Nat) (J : List Sg → (Nat → Prop) → World → Prop) (g : Nat) (v : Value) (wr : World) : Prop :=
 ∃ (i : Int) (pre : List Sg) (G : Nat → Prop), v = .int .i64 i ∧ At t d g i pre ∧ J pre G wr ∧ (∀ j, (j = b1 ∨ j = b2 ∨ TF tb ab lv fv j) → wr.heap[j]? = W.heap[j]? ∧ ¬ G j) ∧ (∀ j, G j → j < wr.heap.size) ∧ W.heap.size ≤ wr.heap.size
theorem TS.keep {w w' : World} (h : TS w tb ab lv fv room N free t) (hk : ∀ k, TF tb ab lv fv k → w'.heap[k]? = w.heap[k]?) : TS w' tb ab lv fv room N free t := by
 obtain ⟨root, σ, a, b, c⟩ := h
 exact ⟨root, σ, ⟨(hk _ (.inl rfl)).trans a.t, a.a.keep fun k h => hk k (.inr h)⟩, b, c⟩
theorem at_start {v : Int} {d : Bool} (h : EndQ t d v) : ∃ g, At t d g v [] := by
 rcases h with ⟨rfl, rfl⟩ | ⟨F, i, b, s, l, r, rfl, rfl, h1, h2⟩
 ·exact ⟨0, .inl ⟨rfl, rfl, by cases d <;> rfl⟩⟩
 ·cases d
  ·obtain ⟨rfl, e⟩ := h1 rfl
   exact ⟨_, .inr ⟨F, _, b, s, .E, r, r.toL ++ cpost F, rfl, rfl, by simp [dirL, toL_plug, e, T.toL], rfl, by simp [e, T.toL]⟩⟩
  ·obtain ⟨rfl, e⟩ := h2 rfl
   exact ⟨_, .inr ⟨F, _, b, s, l, .E, (cpre F ++ l.toL).reverse, rfl, rfl, by simp [dirL, toL_plug, e, T.toL], rfl, by simp [e, T.toL]⟩⟩
theorem at_next {d : Bool} {c : Ctx} {k : Int} {b : Bool} {s : Sg} {l r : T} {rest pre : List Sg} {v : Int} (ht : t = plug c (.N k b s l r)) (hd : dirL d t.toL = pre ++ s :: rest) (hp : pre = (if d then (r.toL ++ cpost c).reverse else cpre c ++ l.toL))
  (h : NextQ t (!d) (cpre c ++ l.toL) (r.toL ++ cpost c) s v) : ∃ g, g < rest.length + 1 ∧ At t d g v (pre ++ [s]) := by
 have hall := toL_focus c k b s l r
 rw [← ht] at hall
 cases d
 ·simp only [dirL, Bool.false_eq_true, if_false] at hd hp
  rw [hall, hp] at hd
  have hrest : r.toL ++ cpost c = rest := by simpa using hd
  rcases h with ⟨rfl, e⟩ | ⟨c', j, b', s', l', r', rfl, ht', e⟩
  ·simp only [Bool.not_false, if_true] at e
   refine ⟨0, by omega, .inl ⟨rfl, rfl, ?_⟩⟩
   simp only [dirL, Bool.false_eq_true, if_false]
   rw [hall, e, hp]
  ·simp only [Bool.not_false, if_true] at e
   have hall' := toL_focus c' v b' s' l' r'
   rw [← ht', e, hall] at hall'
   have h2 : r.toL ++ cpost c = s' :: (r'.toL ++ cpost c') := by simpa using hall'
   refine ⟨_, ?_, .inr ⟨c', _, b', s', l', r', r'.toL ++ cpost c', rfl, ht', ?_, rfl, ?_⟩⟩
   ·rw [← hrest, h2]; simp
   ·simp only [dirL, Bool.false_eq_true, if_false]; rw [hall, hp, h2]; simp
   ·simp only [Bool.false_eq_true, if_false]; rw [hp, e]
 ·simp only [dirL, if_true] at hd hp
  rw [hall, hp] at hd
  have hrest : (cpre c ++ l.toL).reverse = rest := by simpa using hd
  rcases h with ⟨rfl, e⟩ | ⟨c', j, b', s', l', r', rfl, ht', e⟩
  ·simp only [Bool.not_true, Bool.false_eq_true, if_false] at e
   refine ⟨0, by omega, .inl ⟨rfl, rfl, ?_⟩⟩
   simp only [dirL, if_true]
   rw [hall, e, hp]; simp
  ·simp only [Bool.not_true, Bool.false_eq_true, if_false] at e
   have hall' := toL_focus c' v b' s' l' r'
   rw [← ht', e, hall] at hall'
   have h2 : cpre c ++ l.toL = cpre c' ++ l'.toL ++ [s'] := by
    have : (cpre c ++ l.toL) ++ (s :: (r.toL ++ cpost c)) = (cpre c' ++ l'.toL ++ [s']) ++ (s :: (r.toL ++ cpost c)) := by simpa using hall'
    exact List.append_cancel_right this
   refine ⟨_, ?_, .inr ⟨c', _, b', s', l', r', (cpre c' ++ l'.toL).reverse, rfl, ht', ?_, rfl, ?_⟩⟩
   ·rw [← hrest, h2]; simp
   ·simp only [dirL, if_true]; rw [hall, hp, h2]; simp
   ·simp only [if_true]; rw [hp, e]; simp
theorem At.node {d : Bool} {g : Nat} {v : Int} {pre : List Sg} (h : At t d g v pre) (hv : v ≠ -1) : ∃ c b s l r rest, t = plug c (.N v b s l r) ∧ dirL d t.toL = pre ++ s :: rest ∧ g = rest.length + 1 ∧ pre = (if d then (r.toL ++ cpost c).reverse else cpre c ++ l.toL) := by
 rcases h with ⟨e, _⟩ | ⟨c, j, b, s, l, r, rest, rfl, h1, h2, h3, h4⟩
 ·exact absurd e hv
 ·exact ⟨c, b, s, l, r, rest, h1, h2, h3, h4⟩
set_option maxHeartbeats 4000000 in
theorem walk_iter (d : Bool) {b1 b2 : Nat} (h : TS w tb ab lv fv room N free t) (hb1 : w.heap[b1]? = some (.cells #[.pointer (some ⟨tb, 0, none⟩)] 93 (0, 0))) (hb2 : w.heap[b2]? = some (.cells #[.int .i64 (di d)] 3 (0, 0))) :
  Iter Tryz.prog 181 #[.pointer (some ⟨b1, 0, none⟩), .pointer (some ⟨b2, 0, none⟩)] encSV (dirL d t.toL) (fun k => k = b1 ∨ k = b2 ∨ TF tb ab lv fv k) w := by
 intro yl J Jx W hW hJ hJx hY G h0 hH hG
 have hH0 : ∀ k, (k = b1 ∨ k = b2 ∨ TF tb ab lv fv k) → k < w.heap.size := by
  rintro k (rfl | rfl | hk)
  ·exact blkl hb1
  ·exact blkl hb2
  ·exact h.lt hk
 have hHW : ∀ k, (k = b1 ∨ k = b2 ∨ TF tb ab lv fv k) → W.heap[k]? = w.heap[k]? := fun k hk => hW.block k (hH0 k hk) (by have := hH0 k hk; omega)
 have A : TS W tb ab lv fv room N free t := h.keep fun k hk => hHW k (.inr (.inr hk))
 have q1 := (hHW b1 (.inl rfl)).trans hb1
 have q2 := (hHW b2 (.inr (.inl rfl))).trans hb2
 have hHs : ∀ k, (k = b1 ∨ k = b2 ∨ TF tb ab lv fv k) → k < W.heap.size := fun k hk => Nat.lt_of_lt_of_le (hH0 k hk) hW.size
 have HL := hid (fun (w' : World) (M : CM W w') => And.intro (A.mod0 M).root (And.intro (blkc (Mod.heap M q1 fun h => h)) (blkc (Mod.heap M q2 fun h => h))))
 refine (callsIn_wide (n := 1)).1 (callsIn_of_wp Tryz.func181 rfl trivial ?_)
 simp only [Tryz.ntmps181, List.size_toArray, List.length_cons, List.length_nil, Nat.reduceAdd, Nat.reduceSub, Array.replicate_succ, Array.replicate_zero, List.push_toArray, List.append_toArray, List.nil_append, List.cons_append]
 gi_wp2_with fail
 refine (wpIn_wide (n := 1)).2 ?_
 refine cq_mid 6 _ (by kernel_rfl) (by kernel_rfl) rfl rfl ?_
 simp only [List.take_succ_cons, List.take_zero, List.drop_succ_cons, List.drop_zero]
 iterate 6 (refine wpQuiet_step (fun K hK => ?_); go_simp; first | (refine hK _ ?_; clear hK K) | (refine ⟨_, fun _ _ => rfl, hK _ ?_⟩; clear hK K) | (apply Exists.intro; refine ⟨fun wq hq => ?_, hK _ ?_⟩; (focus (first  | (obtain ⟨⟨t1, t2, t3⟩, ⟨t4, _⟩, ⟨t5, _⟩⟩ := HL.out _ hq; go_simp; try with_reducible rfl))); clear hK K))
 refine wpQuiet_nil ?_
 intro w3 M3 K hK
 go_simp
 refine (endZ (c := []) (X := t) (A.mod0 M3) d).mono ?_
 rintro e w4 ⟨⟨v, rfl, hq⟩, hw⟩
 subst hw
 obtain ⟨g0, hAt⟩ := at_start hq
 clear hq HL
 refine hK _ _ ?_
 clear hK K
 iterate 1 (refine wpQuiet_step (fun K hK => ?_); go_simp; first | (refine hK _ ?_; clear hK K) | (refine ⟨_, fun _ _ => rfl, hK _ ?_⟩; clear hK K) | (apply Exists.intro; refine ⟨fun wq hq => ?_, hK _ ?_⟩; (focus (first  | (skip; go_simp; try with_reducible rfl))); clear hK K))
 refine wpQuiet_nil ?_
 intro w5 M5
 replace M5 := Mod.trans' M3 M5
 replace h0 := hJ _ _ _ _ _ h0 M5 fun _ h => h.elim
 gi_wp2_with fail
 refine (wpIn_wide (n := 1)).2 ?_
 go_loopg [4] g0 (fun g v wr => WalkR W t d tb ab lv fv b1 b2 J g v wr)
 case atStart => exact ⟨v, [], G, rfl, hAt, h0, fun j hj => ⟨M5.block j (hHs j hj) (fun h => h), hH j hj⟩, fun j hj => M5.lt (hG j hj), M5.size⟩
 case round =>
  refine (wpIn_wide (n := 1)).1 ?_
  clear h0 hAt M5 M3
  obtain ⟨i, pre, G1, rfl, hAt, hJ1, hH1, hG1, hsz⟩ := hrel
  replace hAt := hid hAt
  by_cases hi : i = -1
  ·subst hi
   have hp : pre = dirL d t.toL := by
    rcases hAt.out with ⟨_, _, e⟩ | ⟨c, j, b, s, l, r, rest, e, ht, _⟩
    ·exact e
    ·rw [ht] at A
     obtain ⟨k, hk⟩ := A.nat (i := j) ((mem_plug ..).2 (.inr (by simp [T.ids])))
     omega
   clear hAt
   replace hp := hid hp
   gi_wp2_with fail
   go_end0
   exact ⟨⟨_, rfl⟩, G1, .inl (hp.out ▸ hJ1)⟩
  ·obtain ⟨c, b, s, l, r, rest, ht, hd, hg, hpre⟩ := hAt.out.node hi
   clear hAt
   have A1 : TS wr tb ab lv fv room N free t := A.keep fun k hk => (hH1 k (.inr (.inr hk))).1
   rw [ht] at A1
   obtain ⟨k, rfl⟩ := A1.nat (i := i) ((mem_plug ..).2 (.inr (by simp [T.ids])))
   obtain ⟨lb, hN⟩ := A1.node'
   have AT := hN.at'
   have z0 := hN.c0
   have z1 := hN.c1
   have z2 := hN.c2
   have z3 := hN.c3
   have z4 := hN.c4
   clear hN
   have hk0 : ((k : Int) != -1) = true := by simp
   have q1' := (blkc ((hH1 b1 (.inl rfl)).1.trans q1)).1
   have q2' := (blkc ((hH1 b2 (.inr (.inl rfl))).1.trans q2)).1
   obtain ⟨fn, tmps, assign, body, hy, hR⟩ := hY pre s rest G1 wr hd hJ1
   dsimp only [encSV] at hy
   replace hd := hid hd
   replace hg := hid hg
   replace hpre := hid hpre
   replace ht := hid ht
   clear hY hi
   gi_wp2_with fail
   refine ⟨trivial, callsIn_wide.2 (AT.mono ?_)⟩
   rintro e w6 ⟨rfl, hw⟩
   subst hw
   clear AT
   gi_wp2_with fail
   refine hR.mono ?_
   clear hR hy z0 z1 z2 z3 z4 q1' q2'
   have kept : ∀ (W' : World), Mod G1 w6 W' → ∀ j, (j = b1 ∨ j = b2 ∨ TF tb ab lv fv j) → W'.heap[j]? = W.heap[j]? := fun W' m j hj =>
    (m.block j (by have := hHs j hj; omega) (hH1 j hj).2).trans (hH1 j hj).1
   rintro e W' ⟨G', g1, g2, (⟨rfl, hJ'⟩ | ⟨rfl, hJ'⟩)⟩
   ·have A2 : TS W' tb ab lv fv room N free (plug c (.N k b s l r)) := by
     rw [← ht.out]; exact A.keep fun j hj => kept W' g2 j (.inr (.inr hj))
    have q1' := (blkc ((kept W' g2 b1 (.inl rfl)).trans q1)).1
    have q2' := (blkc ((kept W' g2 b2 (.inr (.inl rfl))).trans q2)).1
    have hfin : ∀ (v : Int) (w8 : World), NextQ (plug c (.N k b s l r)) (!d) (cpre c ++ l.toL) (r.toL ++ cpost c) s v → Mod (fun _ => False) W' w8 → ∃ g', g' < gk ∧ WalkR W t d tb ab lv fv b1 b2 J g' (.int .i64 v) w8 := by
     intro v w8 hn M8
     rw [← ht.out] at hn
     obtain ⟨g', hg', hA'⟩ := at_next ht.out hd.out hpre.out hn
     refine ⟨g', by rw [hg.out]; exact hg', v, pre ++ [s], G', rfl, hA', hJ _ _ _ _ _ hJ' M8 (fun _ h => h.elim), fun j hj => ⟨(M8.block j (Nat.lt_of_lt_of_le (hHs j hj) (Nat.le_trans hsz g2.size)) (fun h => h)).trans (kept W' g2 j hj), fun h => ?_⟩, fun j hj => M8.lt (g1 j hj).2, Nat.le_trans hsz (Nat.le_trans g2.size M8.size)⟩
     rcases (g1 j h).1 with h | h
     ·exact (hH1 j hj).2 h
     ·have := hHs j hj; omega
    replace hfin := hid hfin
    have NX : Calls Tryz.prog 182 #[.pointer (some ⟨tb, 0, none⟩), .int .i64 k, .int .i64 (1 - di d)] W' fun e w' => NextP W' (plug c (.N k b s l r)) (!d) (cpre c ++ l.toL) (r.toL ++ cpost c) s e w' := by
     cases d
     ·exact nextZ_true A2
     ·exact nextZ_false A2
    clear A2 hJ' g2 kept
    have e1 : IntKind.i64.wrap (1 - di d) = 1 - di d := by cases d <;> decide
    gi_wp2_with fail
    refine ⟨trivial, callsIn_wide.2 (NX.mono ?_)⟩
    rintro e w8 ⟨⟨v, rfl, hn⟩, M8⟩
    clear NX e1
    obtain ⟨g', hg', hR'⟩ := hfin.out v w8 hn M8
    clear hn hfin
    gi_wp2_with fail
    go_roundg g'
    case measure => exact hg'
    case rel => exact hR'
   ·gi_wp2_with fail
    refine bodyPost_ret (results_none rfl _ _ _) rfl ⟨⟨_, rfl⟩, G', .inr ⟨pre ++ [s], ⟨rest, by simpa using hd.out.symm⟩, hJ'⟩⟩
end
open Go Go.RowKit
def items {α : Type} : Nat → List (Option α) → List (Nat × α)
 | _, [] => []
 | k, none :: l => items (k + 1) l
 | k, some v :: l => (k, v) :: items (k + 1) l
theorem items_drop {α : Type} (k : Nat) (l : List (Option α)) (b : Nat) : (hk : k < l.length) → items (b + k) (l.drop k) = (match l[k] with | none => [] | some v => [(b + k, v)]) ++ items (b + (k + 1)) (l.drop (k + 1)) := by
 intro hk
 rw [List.drop_eq_getElem_cons hk]
 cases l[k] <;> simp [items, Nat.add_assoc]
section
variable {w : World} {ab : Nat} {lv fv : Value} {room : Int} {l : List (Option Nd)} {free : List Int}
set_option maxHeartbeats 400000 in
theorem eachN (w : World) (ab : Nat) : Calls Tryz.prog 166 #[.pointer (some ⟨ab, 0, none⟩)] w fun e w' => e = .returned (.func (.func 185) #[] #[.pointer (some ⟨w.heap.size, 0, none⟩)]) ∧ w' = w.alloc (.cells #[.pointer (some ⟨ab, 0, none⟩)] 121) := by
 go_enter Tryz.func166, Tryz.ntmps166
 go_wp2
 go_ret
 exact ⟨rfl, rfl⟩
def encNV (x : Nat × Nd) : Array Value := #[.int .i64 x.1, .agg #[.int .i64 x.2.s.ls, .int .i64 x.2.s.la, .int .i64 x.2.s.hs, .int .i64 x.2.s.ha, .int .i64 x.2.s.v, .int .i64 x.2.k0, .int .i64 x.2.k1, .int .i64 x.2.p, .bool x.2.red]]
set_option maxHeartbeats 1000000 in
theorem eachN_iter {b : Nat} (h : ArN w ab lv fv room l free) (hb : w.heap[b]? = some (.cells #[.pointer (some ⟨ab, 0, none⟩)] 121 (0, 0))) :
  Iter Tryz.prog 185 #[.pointer (some ⟨b, 0, none⟩)] encNV (items 0 l) (fun k => k = b ∨ Foot ab lv fv k) w := by
 intro yl J Jx W hW hJ hJx hY G h0 hH hG
 have hH0 : ∀ k, (k = b ∨ Foot ab lv fv k) → k < w.heap.size := by
  rintro k (rfl | hk)
  ·exact blkl hb
  ·exact h.lt hk
 have hHW : ∀ k, (k = b ∨ Foot ab lv fv k) → W.heap[k]? = w.heap[k]? := fun k hk => hW.block k (hH0 k hk) (by have := hH0 k hk; omega)
 have A : ArN W ab lv fv room l free := h.keep fun k hk => hHW k (.inr hk)
 have cb : W.cell? ⟨b, 0, none⟩ = some (.pointer (some ⟨ab, 0, none⟩)) := by
  have := (hHW b (.inl rfl)).trans hb
  simp [World.cell?, this]
 obtain ⟨LA, lc, rfl, hlc⟩ := own_slice A.row
 have c1 := A.c1
 obtain ⟨b1, b2⟩ := A.flen
 have hHs : ∀ k, (k = b ∨ Foot ab (.slice LA l.length lc) fv k) → k < W.heap.size := fun k hk => Nat.lt_of_lt_of_le (hH0 k hk) hW.size
 refine (callsIn_wide (n := 1)).1 (callsIn_of_wp Tryz.func185 rfl trivial ?_)
 simp only [Tryz.ntmps185, List.size_toArray, List.length_cons, List.length_nil, Nat.reduceAdd, Nat.reduceSub, Array.replicate_succ, Array.replicate_zero, List.push_toArray, List.append_toArray, List.nil_append, List.cons_append]
 gi_wp2_with fail
 gi_loopw [10] (fun c wr => ∃ (k : Nat) (pre : List (Nat × Nd)) (G : Nat → Prop), k ≤ l.length ∧ c = .int .i64 k ∧ items 0 l = pre ++ items k (l.drop k) ∧ J pre G wr ∧ (∀ j, (j = b ∨ Foot ab (.slice LA l.length lc) fv j) → wr.heap[j]? = W.heap[j]? ∧ ¬ G j) ∧ (∀ j, G j → j < wr.heap.size) ∧ W.heap.size ≤ wr.heap.size) (fun c _ => (l.length - intOf c).toNat)
 case atStart => exact ⟨0, [], G, by omega, rfl, by simp, h0, fun j hj => ⟨rfl, hH j hj⟩, hG, Nat.le_refl _⟩
 case round =>
  obtain ⟨k, pre, G1, hk, rfl, hpre, hJ1, hH1, hG1, hsz⟩ := hrel
  by_cases hlt : k < l.length
  ·have hd := items_drop k l 0 hlt
   simp only [Nat.zero_add] at hd
   have A1 : ArN wr ab (.slice LA l.length lc) fv room l free := A.keep fun j hj => (hH1 j (.inr hj)).1
   obtain ⟨lb, rfl⟩ := hlc.2.2 (by omega)
   have hp : l[k]? = some l[k] := by simp [hlt]
   cases hlk : l[k] with
   | none =>
    rw [hlk] at hp hd
    simp only [List.nil_append] at hd
    have d0 := (A1.cell (i := k) hp (j := 0) (u := .int .i64 0) rfl).1
    have d1 := (A1.cell (i := k) hp (j := 1) (u := .int .i64 0) rfl).1
    have d2 := (A1.cell (i := k) hp (j := 2) (u := .int .i64 0) rfl).1
    have d3 := (A1.cell (i := k) hp (j := 3) (u := .int .i64 0) rfl).1
    have d4 := (A1.cell (i := k) hp (j := 4) (u := .int .i64 0) rfl).1
    have d5 := (A1.cell (i := k) hp (j := 5) (u := .int .i64 0) rfl).1
    have d6 := (A1.cell (i := k) hp (j := 6) (u := .int .i64 0) rfl).1
    have d7 := (A1.cell (i := k) hp (j := 7) (u := .int .i64 0) rfl).1
    have d8 := (A1.cell (i := k) hp (j := 8) (u := .bool false) rfl).1
    have d9 := (A1.cell (i := k) hp (j := 9) (u := .bool false) rfl).1
    simp only [zNd, List.length_cons, List.length_nil, Nat.zero_add, Nat.add_zero, Nat.reduceAdd] at d0 d1 d2 d3 d4 d5 d6 d7 d8 d9
    have hpre' := hid (hpre.trans (by rw [hd]))
    have M1 : Mod (fun _ => False) wr (wr.alloc (.cells #[.int .i64 0, .int .i64 0, .int .i64 0, .int .i64 0, .int .i64 0, .int .i64 0, .int .i64 0, .int .i64 0, .bool false, .bool false] 152)) := (Mod.refl _ _).alloc _
    have R1 := hJ _ _ _ _ _ hJ1 M1 fun _ h => h.elim
    clear hpre hd hlk hp A1
    gi_wp2_with fail
    refine ⟨fun _ _ => trivial, ?_⟩
    gi_wp2_with fail
    go_roundw
    case rel => exact ⟨k + 1, pre, G1, by omega, by go_num, hpre'.out, R1, fun j hj => ⟨(M1.block j (by have := hHs j hj; omega) (fun h => h)).trans (hH1 j hj).1, (hH1 j hj).2⟩, fun j hj => M1.lt (hG1 j hj), Nat.le_trans hsz M1.size⟩
    case measure => simp [intOf]; omega
   | some v =>
    rw [hlk] at hp hd
    simp only [List.cons_append, List.nil_append] at hd
    have d0 := (A1.cell (i := k) hp (j := 0) (u := .int .i64 v.s.ls) rfl).1
    have d1 := (A1.cell (i := k) hp (j := 1) (u := .int .i64 v.s.la) rfl).1
    have d2 := (A1.cell (i := k) hp (j := 2) (u := .int .i64 v.s.hs) rfl).1
    have d3 := (A1.cell (i := k) hp (j := 3) (u := .int .i64 v.s.ha) rfl).1
    have d4 := (A1.cell (i := k) hp (j := 4) (u := .int .i64 v.s.v) rfl).1
    have d5 := (A1.cell (i := k) hp (j := 5) (u := .int .i64 v.k0) rfl).1
    have d6 := (A1.cell (i := k) hp (j := 6) (u := .int .i64 v.k1) rfl).1
    have d7 := (A1.cell (i := k) hp (j := 7) (u := .int .i64 v.p) rfl).1
    have d8 := (A1.cell (i := k) hp (j := 8) (u := .bool v.red) rfl).1
    have d9 := (A1.cell (i := k) hp (j := 9) (u := .bool true) rfl).1
    simp only [zNd, List.length_cons, List.length_nil, Nat.zero_add, Nat.add_zero, Nat.reduceAdd] at d0 d1 d2 d3 d4 d5 d6 d7 d8 d9
    have hpre' := hid (hpre.trans (by rw [hd]))
    have M1 : Mod (fun _ => False) wr (wr.alloc (.cells #[.int .i64 v.s.ls, .int .i64 v.s.la, .int .i64 v.s.hs, .int .i64 v.s.ha, .int .i64 v.s.v, .int .i64 v.k0, .int .i64 v.k1, .int .i64 v.p, .bool v.red, .bool true] 152)) := (Mod.refl _ _).alloc _
    have R1 := hJ _ _ _ _ _ hJ1 M1 fun _ h => h.elim
    obtain ⟨fn, tmps, assign, body, hy, hR⟩ := hY pre (k, v) _ G1 _ hpre'.out R1
    dsimp only [encNV] at hy
    clear hpre hd hlk hp A1
    gi_wp2_with fail
    refine hR.mono ?_
    clear hR hy hY R1
    have hsz1 := M1.size
    have kept : ∀ (W' : World), Mod G1 (wr.alloc (.cells #[.int .i64 v.s.ls, .int .i64 v.s.la, .int .i64 v.s.hs, .int .i64 v.s.ha, .int .i64 v.s.v, .int .i64 v.k0, .int .i64 v.k1, .int .i64 v.p, .bool v.red, .bool true] 152)) W' → ∀ j, (j = b ∨ Foot ab (.slice (some ⟨lb, 0, none⟩) l.length lc) fv j) → W'.heap[j]? = W.heap[j]? := fun W' m j hj =>
     (m.block j (by have := hHs j hj; omega) (hH1 j hj).2).trans ((M1.block j (by have := hHs j hj; omega) (fun h => h)).trans (hH1 j hj).1)
    rintro e W' ⟨G', g1, g2, (⟨rfl, hJ'⟩ | ⟨rfl, hJ'⟩)⟩
    ·gi_wp2_with fail
     go_roundw
     case rel =>
      refine ⟨k + 1, pre ++ [(k, v)], G', by omega, by go_num, by simpa using hpre'.out, hJ', fun j hj => ⟨kept W' g2 j hj, fun h => ?_⟩, fun j hj => (g1 j hj).2, Nat.le_trans hsz (Nat.le_trans hsz1 g2.size)⟩
      rcases (g1 j h).1 with h | h
      ·exact (hH1 j hj).2 h
      ·have := hHs j hj; omega
     case measure => simp [intOf]; omega
    ·gi_wp2_with fail
     refine bodyPost_ret (results_none rfl _ _ _) rfl ⟨⟨_, rfl⟩, G', .inr ⟨pre ++ [(k, v)], ⟨items (k + 1) (l.drop (k + 1)), by simpa using hpre'.out.symm⟩, hJ'⟩⟩
  ·obtain rfl : k = l.length := by omega
   have hp2 : pre = items 0 l := by rw [hpre]; simp [items]
   clear hlt hpre
   gi_wp2_with fail
   go_end0
   exact ⟨⟨_, rfl⟩, G1, .inl (hp2 ▸ hJ1)⟩
end
open Go Go.RowKit Go.Shelf
def RngI {α : Type} (W1 : World) (S : Nat → Prop) (R : List α → World → Prop) : List α → (Nat → Prop) → World → Prop := fun pre G W =>
 (∀ j, G j ↔ S j) ∧ Mod S W1 W ∧ R pre W
def Looks {α : Type} (S : Nat → Prop) (R : List α → World → Prop) : Prop := ∀ pre W W', R pre W → (∀ j, S j → W'.heap[j]? = W.heap[j]?) → R pre W'
theorem RngI.stab {α : Type} {W1 : World} {S : Nat → Prop} {R : List α → World → Prop} (hR : Looks S R) (hS : ∀ j, S j → j < W1.heap.size) : Stab W1.heap.size (RngI W1 S R) := by
 rintro s G W W' T ⟨g1, g2, g3⟩ m t
 exact ⟨g1, g2.trans m fun j h => .inr (t j h).1, hR _ _ _ g3 fun j hj => m.block j (Nat.lt_of_lt_of_le (hS j hj) g2.size) fun h => (t j h).2 ((g1 j).2 hj)⟩
theorem RngI.step {α : Type} {W1 W W' : World} {S : Nat → Prop} {R R' : List α → World → Prop} {pre pre' : List α} {G : Nat → Prop} (h : RngI W1 S R pre G W) (hS : ∀ j, S j → j < W1.heap.size) (m : Mod S W W') (hr : R' pre' W') :
  ∃ G', (∀ k, G' k → (G k ∨ W.heap.size ≤ k) ∧ k < W'.heap.size) ∧ Mod G W W' ∧ RngI W1 S R' pre' G' W' := by
 obtain ⟨g1, g2, g3⟩ := h
 exact ⟨S, fun k hk => ⟨.inl ((g1 k).2 hk), Nat.lt_of_lt_of_le (hS k hk) (Nat.le_trans g2.size m.size)⟩, m.mono fun i hi => .inl ((g1 i).2 hi), fun _ => Iff.rfl, g2.trans' m, hr⟩
theorem RngI.start {α : Type} {W1 : World} {S : Nat → Prop} {R : List α → World → Prop} (hr : R [] W1) : RngI W1 S R [] S W1 := ⟨fun _ => Iff.rfl, Mod.refl _ _, hr⟩
def rndE {α : Type} (S : Nat → Prop) (R : List α → World → Prop) (Ix : Code → List α → World → Prop) (pre : List α) (W : World) : Exit → Act → World → Prop
 | .normal, _, W' => Mod S W W' ∧ R pre W'
 | .ret, _, W' => Mod S W W' ∧ Ix .ret pre W'
 | .exit id, _, W' => Mod S W W' ∧ Ix (.exit id) pre W'
 | .goto t, _, W' => Mod S W W' ∧ Ix (.goto t) pre W'
 | .panic _, _, _ => False
 | .outgrown, _, _ => False
section
variable {P : Program} {α : Type} {W1 W : World} {S : Nat → Prop} {R : List α → World → Prop} {Ix : Code → List α → World → Prop} {pre : List α} {G : Nat → Prop}
theorem rnd_to (g1 : ∀ j, S j → G j ∨ W.heap.size ≤ j) (g2 : Mod S W1 W) (hS : ∀ j, S j → j < W1.heap.size) {e : Exit} {a : Act} {W' : World} (h : rndE S R Ix pre W e a W') :
  roundEnd (RngI W1 S R) (fun c => RngI W1 S (Ix c)) pre G W e a W' := by
 have key : ∀ (R' : List α → World → Prop), Mod S W W' → R' pre W' → ∃ G', (∀ k, G' k → (G k ∨ W.heap.size ≤ k) ∧ k < W'.heap.size) ∧ Mod G W W' ∧ RngI W1 S R' pre G' W' := fun R' m hr =>
  ⟨S, fun k hk => ⟨g1 k hk, Nat.lt_of_lt_of_le (hS k hk) (Nat.le_trans g2.size m.size)⟩, m.mono g1, fun _ => Iff.rfl, g2.trans' m, hr⟩
 cases e <;> first | exact key _ h.1 h.2 | exact h.elim
theorem wp_range0 {g : Operand} {ps : Array Tmp} {assign body : Code} {Q : Exit → Act → World → Prop} {a : Act} {w : World}
  {gf : Nat} {lb : Array Value} (hg : a.eval g = .func (.func gf) #[] lb) (eg : ∀ args w, (callFunc gf args).run P w = .ok (.enter gf args) w)
  {encs : α → Array Value} {xs : List α} {H : Nat → Prop} (hit : Iter P gf lb encs xs H w) (hps : ∀ x, (encs x).size = ps.size)
  (S : Nat → Prop) (hS : ∀ k, S k → k < w.heap.size) (hH : ∀ k, H k → ¬ S k) (hHl : ∀ k, H k → k < w.heap.size)
  (R : List α → World → Prop) (Ix : Code → List α → World → Prop) (hR : Looks S R) (hIx : ∀ c, Looks S (Ix c)) (h0 : R [] w)
  (hab : ∃ F : α → Act,
   (∀ (l : Nat) (x : α) (W : World) (K : Act → World → Prop), K (F x) W → assign.wpIn (Fence.wide.inRound l) 0 P (Exit.then K (fun _ _ _ => False)) { tmps := (ps.zip (encs x)).foldl (fun t (p, v) => t.setIfInBounds p v) a.tmps, defers := [] } W) ∧
   (∀ (l : Nat) (pre : List α) (x : α) (rest : List α) (W : World), xs = pre ++ x :: rest → Mod S w W → R pre W → body.wpIn (Fence.wide.inRound l) 0 P (rndE S R Ix (pre ++ [x]) W) (F x) W))
  (hdone : ∀ (W : World), Mod S w W → R xs W → W.heap[w.heap.size]? = some (.deferred (some [])) → Q .normal { a with defers := { target := .collected w.heap.size, args := #[] } :: a.defers } W)
  (hstop : ∀ (c : Code) (pre : List α) (W : World), pre <+: xs → Mod S w W → Ix c pre W → W.heap[w.heap.size]? = some (.deferred (some [])) → c.wp P Q { a with defers := { target := .collected w.heap.size, args := #[] } :: a.defers } W) :
  (Code.rangeFunc g ps assign body).wp P Q a w := by
 obtain ⟨F, h1, h2⟩ := hab
 refine wp_range' hg eg hit (Mod.refl _ _) hps S hS hH hHl (RngI w S R) (fun c => RngI w S (Ix c)) (RngI.stab hR hS) (fun c => RngI.stab (hIx c) hS) (RngI.start h0) ⟨F, h1, ?_⟩ ?_ ?_
 ·intro l pre x rest G W hx hi _
  exact wpIn_mono (h2 l pre x rest W hx hi.2.1 hi.2.2) fun e a' W' hq => rnd_to (fun j hj => .inl ((hi.1 j).2 hj)) hi.2.1 hS hq
 ·exact fun G W hi _ hk => hdone W hi.2.1 hi.2.2 hk
 ·exact fun c pre G W hp hi _ hk => hstop c pre W hp hi.2.1 hi.2.2 hk
theorem wp_range1 {g : Operand} {ps : Array Tmp} {assign body : Code} {Q : Exit → Act → World → Prop} {a : Act} {w : World}
  {gf : Nat} {lb : Array Value} (hg : a.eval g = .func (.func gf) #[] lb) (eg : ∀ args w, (callFunc gf args).run P w = .ok (.enter gf args) w)
  {encs : α → Array Value} {xs : List α} {H : Nat → Prop} (hit : Iter P gf lb encs xs H w) (hps : ∀ x, (encs x).size = ps.size)
  (S : Nat → Prop) (hS : ∀ k, S k → k < w.heap.size) (hH : ∀ k, H k → ¬ S k) (hHl : ∀ k, H k → k < w.heap.size)
  (R : List α → World → Prop) (Ix : Code → List α → World → Prop) (hR : Looks S R) (hIx : ∀ c, Looks S (Ix c)) (h0 : R [] w)
  (cells : α → Array Value) (ty : TypeId)
  (hab : ∃ F : Nat → α → Act,
   (∀ (l : Nat) (x : α) (W : World) (K : Act → World → Prop), K (F W.heap.size x) (W.alloc (.cells (cells x) ty)) → assign.wpIn (Fence.wide.inRound l) 0 P (Exit.then K (fun _ _ _ => False)) { tmps := (ps.zip (encs x)).foldl (fun t (p, v) => t.setIfInBounds p v) a.tmps, defers := [] } W) ∧
   (∀ (l : Nat) (pre : List α) (x : α) (rest : List α) (b : Nat) (W : World), xs = pre ++ x :: rest → W.heap[b]? = some (.cells (cells x) ty (0, 0)) → w.heap.size ≤ b → Mod S w W → R pre W → body.wpIn (Fence.wide.inRound l) 0 P (rndE S R Ix (pre ++ [x]) W) (F b x) W))
  (hdone : ∀ (W : World), Mod S w W → R xs W → W.heap[w.heap.size]? = some (.deferred (some [])) → Q .normal { a with defers := { target := .collected w.heap.size, args := #[] } :: a.defers } W)
  (hstop : ∀ (c : Code) (pre : List α) (W : World), pre <+: xs → Mod S w W → Ix c pre W → W.heap[w.heap.size]? = some (.deferred (some [])) → c.wp P Q { a with defers := { target := .collected w.heap.size, args := #[] } :: a.defers } W) :
  (Code.rangeFunc g ps assign body).wp P Q a w := by
 obtain ⟨F, h1, h2⟩ := hab
 refine wp_range hg eg hit (Mod.refl _ _) hps S hS hH hHl (RngI w S R) (fun c => RngI w S (Ix c)) (RngI.stab hR hS) (fun c => RngI.stab (hIx c) hS) (RngI.start h0)
  (fun pre x a1 G W => ∃ b, a1 = F b x ∧ (∀ j, G j ↔ (S j ∨ j = b)) ∧ w.heap.size ≤ b ∧ W.heap[b]? = some (.cells (cells x) ty (0, 0)) ∧ Mod S w W ∧ R pre W) ?_ ?_ ?_ ?_ ?_
 ·rintro x a1 s G W W' T ⟨b, g1, g2, g3, g4, g5, g6⟩ m t
  exact ⟨b, g1, g2, g3, m.heap g4 fun h => (t b h).2 ((g2 b).2 (.inr rfl)), g5.trans m fun j h => .inr (t j h).1, hR _ _ _ g6 fun j hj => m.block j (Nat.lt_of_lt_of_le (hS j hj) g5.size) fun h => (t j h).2 ((g2 j).2 (.inl hj))⟩
 ·rintro l pre x rest G W K hx ⟨i1, i2, i3⟩ hK
  have hM : Mod (fun _ => False) W (W.alloc (.cells (cells x) ty)) := (Mod.refl _ _).alloc _
  exact h1 l x W K (hK _ (fun j => S j ∨ j = W.heap.size) _ ⟨W.heap.size, rfl, fun _ => Iff.rfl, i2.size, alloc_0 _ _, i2.trans hM (fun _ h => h.elim), hR _ _ _ i3 fun j hj => hM.block j (Nat.lt_of_lt_of_le (hS j hj) i2.size) fun h => h⟩
   (fun k hk => hk.imp (fun h => (i1 k).2 h) (fun h => by omega)) (hM.mono fun _ h => h.elim))
 ·rintro l pre x rest a1 G W hx ⟨b, rfl, g2, g3, g4, g5, g6⟩ _
  exact wpIn_mono (h2 l pre x rest b W hx g4 g3 g5 g6) fun e a' W' hq => rnd_to (fun j hj => .inl ((g2 j).2 (.inl hj))) g5 hS hq
 ·exact fun G W hi _ hk => hdone W hi.2.1 hi.2.2 hk
 ·exact fun c pre G W hp hi _ hk => hstop c pre W hp hi.2.1 hi.2.2 hk
end
end Go.Proofs.Bo
