import Derived.Test.YtofgoehkahcajaaGreatNrG
import Derived.Test.YtofgoehkahcajaaGreatRTG
import Derived.Test.YtofgoehkahcajaaGreatRngG
import Derived.Deep.DeepCutAuto
import Derived.Test.YtofgoehkahcajaaGreatDel
import Derived.Test.YtofgoehkahcajaaGreatBoG
set_option linter.unusedVariables false
set_option linter.unusedSimpArgs false
namespace Go.Proofs.Bo
open Go Go.RowKit

section
variable {w w' : World} {tb ab N : Nat} {lv fv : Value} {room : Int} {free : List Int} {t : T}

theorem TS.bound (h : TS w tb ab lv fv room N free t) : (t.size : Int) ≤ room ∧ room ≤ 65536 ∧ 0 ≤ room := by
  obtain ⟨root, σ, m, hh, _⟩ := h
  have := hh.count m.a.inv
  have := m.a.inv.lr
  have := m.a.inv.room1
  have := m.a.inv.room0
  omega

theorem cblk_le : ∀ c : Ctx, cblk c ≤ c.length
  | [] => Nat.le_refl _
  | a :: c => by have := cblk_le c; simp only [cblk, List.length_cons]; split <;> omega

def DeepR (w : World) (t : T) (D K : Nat) (g : Nat) (v1 v6 v7 : Value) (W : World) : Prop :=
  W = w ∧ ∃ n m : Nat, v6 = .int .i64 n ∧ v7 = .int .i64 m ∧ ((g = 0 ∧ v1 = .int .i64 (-1) ∧ n = D ∧ m = K) ∨ ∃ c1 j b s l r, g = c1.length + 1 ∧ v1 = .int .i64 j ∧ t = plug c1 (.N j b s l r) ∧ n + (c1.length + 1) = D ∧ m + (cblk c1 + nblk b) = K)

end
end Go.Proofs.Bo
set_option linter.unusedVariables false
set_option linter.unusedSimpArgs false
namespace Go.Proofs.Bo
open Go Go.RowKit

section
variable {w w' : World} {tb ab N : Nat} {lv fv : Value} {room : Int} {free : List Int} {t : T}

theorem idx0 (x y : Int) (w : World) : (Instr.index 60 (.agg #[.int .i64 x, .int .i64 y]) (.int .i64 0)).run Tryz.prog w = .ok (.int .i64 x) w := by
  simp [Instr.index, asIntOf, run_underlying Tryz.underlying60, part, go_sem]
theorem idx1 (x y : Int) (w : World) : (Instr.index 60 (.agg #[.int .i64 x, .int .i64 y]) (.int .i64 1)).run Tryz.prog w = .ok (.int .i64 y) w := by
  simp [Instr.index, asIntOf, run_underlying Tryz.underlying60, part, go_sem]

end
end Go.Proofs.Bo
set_option linter.unusedVariables false
set_option linter.unusedSimpArgs false
namespace Go.Proofs.Bo
open Go Go.RowKit

/-- The closure's two boxes. -/
def WalkW (w : World) (tb : Nat) (d : Bool) : World := (w.alloc (.cells #[.pointer (some ⟨tb, 0, none⟩)] 31)).alloc (.cells #[.int .i64 (di d)] 3)

section
variable {w w' : World} {tb ab N : Nat} {lv fv : Value} {room : Int} {free : List Int} {t : T}

theorem walkZ (w : World) (tb : Nat) (d : Bool) : Calls Tryz.prog 41 #[.pointer (some ⟨tb, 0, none⟩), .int .i64 (di d)] w fun e w' => e = .returned (.func (.func 70) #[] #[.pointer (some ⟨w.heap.size, 0, none⟩), .pointer (some ⟨w.heap.size + 1, 0, none⟩)]) ∧ w' = WalkW w tb d := by
  go_enter Tryz.func41, Tryz.ntmps41
  go_wp2
  go_ret
  exact ⟨rfl, rfl⟩
theorem allTZ (w : World) (tb : Nat) : Calls Tryz.prog 10 #[.pointer (some ⟨tb, 0, none⟩)] w fun e w' => e = .returned (.func (.func 70) #[] #[.pointer (some ⟨w.heap.size, 0, none⟩), .pointer (some ⟨w.heap.size + 1, 0, none⟩)]) ∧ w' = WalkW w tb false := by
  have H := walkZ w tb false
  go_enter Tryz.func10, Tryz.ntmps10
  go_wp2_with fail
  refine H.mono ?_; rintro e w' ⟨rfl, rfl⟩
  go_wp2_with fail
  go_ret
  exact ⟨rfl, rfl⟩
def encSV (s : Sg) : Array Value := #[.agg #[.int .i64 s.ls, .int .i64 s.la, .int .i64 s.hs, .int .i64 s.ha, .int .i64 s.v]]
/-- The segments from a side's end on. -/
def dirL (d : Bool) (l : List Sg) : List Sg := if d then l.reverse else l
/-- Where a walk stands: at a node, or behind all. -/
def At (t : T) (d : Bool) (g : Nat) (v : Int) (pre : List Sg) : Prop :=
  (v = -1 ∧ g = 0 ∧ pre = dirL d t.toL) ∨ ∃ c j b s l r rest, v = j ∧ t = plug c (.N j b s l r) ∧ dirL d t.toL = pre ++ s :: rest ∧ g = rest.length + 1 ∧ pre = (if d then (r.toL ++ cpost c).reverse else cpre c ++ l.toL)
def WalkR (W : World) (t : T) (d : Bool) (tb ab : Nat) (lv fv : Value) (b1 b2 : Nat) (J : List Sg → (Nat → Prop) → World → Prop) (g : Nat) (v : Value) (wr : World) : Prop :=
  ∃ (i : Int) (pre : List Sg) (G : Nat → Prop), v = .int .i64 i ∧ At t d g i pre ∧ J pre G wr ∧ (∀ j, (j = b1 ∨ j = b2 ∨ TF tb ab lv fv j) → wr.heap[j]? = W.heap[j]? ∧ ¬ G j) ∧ (∀ j, G j → j < wr.heap.size) ∧ W.heap.size ≤ wr.heap.size

theorem TS.keep {w w' : World} (h : TS w tb ab lv fv room N free t) (hk : ∀ k, TF tb ab lv fv k → w'.heap[k]? = w.heap[k]?) : TS w' tb ab lv fv room N free t := by
  obtain ⟨root, σ, a, b, c⟩ := h
  exact ⟨root, σ, ⟨(hk _ (.inl rfl)).trans a.t, a.a.keep fun k h => hk k (.inr h)⟩, b, c⟩

theorem at_start {v : Int} {d : Bool} (h : EndQ t d v) : ∃ g, At t d g v [] := by
  rcases h with ⟨rfl, rfl⟩ | ⟨F, i, b, s, l, r, rfl, rfl, h1, h2⟩
  · exact ⟨0, .inl ⟨rfl, rfl, by cases d <;> rfl⟩⟩
  · cases d
    · obtain ⟨rfl, e⟩ := h1 rfl
      exact ⟨_, .inr ⟨F, _, b, s, .E, r, r.toL ++ cpost F, rfl, rfl, by simp [dirL, toL_plug, e, T.toL], rfl, by simp [e, T.toL]⟩⟩
    · obtain ⟨rfl, e⟩ := h2 rfl
      exact ⟨_, .inr ⟨F, _, b, s, l, .E, (cpre F ++ l.toL).reverse, rfl, rfl, by simp [dirL, toL_plug, e, T.toL], rfl, by simp [e, T.toL]⟩⟩
theorem at_next {d : Bool} {c : Ctx} {k : Int} {b : Bool} {s : Sg} {l r : T} {rest pre : List Sg} {v : Int} (ht : t = plug c (.N k b s l r)) (hd : dirL d t.toL = pre ++ s :: rest) (hp : pre = (if d then (r.toL ++ cpost c).reverse else cpre c ++ l.toL))
    (h : NextQ t (!d) (cpre c ++ l.toL) (r.toL ++ cpost c) s v) : ∃ g, g < rest.length + 1 ∧ At t d g v (pre ++ [s]) := by
  have hall := toL_focus c k b s l r
  rw [← ht] at hall
  cases d
  · simp only [dirL, Bool.false_eq_true, if_false] at hd hp
    rw [hall, hp] at hd
    have hrest : r.toL ++ cpost c = rest := by simpa using hd
    rcases h with ⟨rfl, e⟩ | ⟨c', j, b', s', l', r', rfl, ht', e⟩
    · simp only [Bool.not_false, if_true] at e
      refine ⟨0, by omega, .inl ⟨rfl, rfl, ?_⟩⟩
      simp only [dirL, Bool.false_eq_true, if_false]
      rw [hall, e, hp]
    · simp only [Bool.not_false, if_true] at e
      have hall' := toL_focus c' v b' s' l' r'
      rw [← ht', e, hall] at hall'
      have h2 : r.toL ++ cpost c = s' :: (r'.toL ++ cpost c') := by simpa using hall'
      refine ⟨_, ?_, .inr ⟨c', _, b', s', l', r', r'.toL ++ cpost c', rfl, ht', ?_, rfl, ?_⟩⟩
      · rw [← hrest, h2]; simp
      · simp only [dirL, Bool.false_eq_true, if_false]; rw [hall, hp, h2]; simp
      · simp only [Bool.false_eq_true, if_false]; rw [hp, e]
  · simp only [dirL, if_true] at hd hp
    rw [hall, hp] at hd
    have hrest : (cpre c ++ l.toL).reverse = rest := by simpa using hd
    rcases h with ⟨rfl, e⟩ | ⟨c', j, b', s', l', r', rfl, ht', e⟩
    · simp only [Bool.not_true, Bool.false_eq_true, if_false] at e
      refine ⟨0, by omega, .inl ⟨rfl, rfl, ?_⟩⟩
      simp only [dirL, if_true]
      rw [hall, e, hp]; simp
    · simp only [Bool.not_true, Bool.false_eq_true, if_false] at e
      have hall' := toL_focus c' v b' s' l' r'
      rw [← ht', e, hall] at hall'
      have h2 : cpre c ++ l.toL = cpre c' ++ l'.toL ++ [s'] := by
        have : (cpre c ++ l.toL) ++ (s :: (r.toL ++ cpost c)) = (cpre c' ++ l'.toL ++ [s']) ++ (s :: (r.toL ++ cpost c)) := by simpa using hall'
        exact List.append_cancel_right this
      refine ⟨_, ?_, .inr ⟨c', _, b', s', l', r', (cpre c' ++ l'.toL).reverse, rfl, ht', ?_, rfl, ?_⟩⟩
      · rw [← hrest, h2]; simp
      · simp only [dirL, if_true]; rw [hall, hp, h2]; simp
      · simp only [if_true]; rw [hp, e]; simp

theorem At.node {d : Bool} {g : Nat} {v : Int} {pre : List Sg} (h : At t d g v pre) (hv : v ≠ -1) : ∃ c b s l r rest, t = plug c (.N v b s l r) ∧ dirL d t.toL = pre ++ s :: rest ∧ g = rest.length + 1 ∧ pre = (if d then (r.toL ++ cpost c).reverse else cpre c ++ l.toL) := by
  rcases h with ⟨e, _⟩ | ⟨c, j, b, s, l, r, rest, rfl, h1, h2, h3, h4⟩
  · exact absurd e hv
  · exact ⟨c, b, s, l, r, rest, h1, h2, h3, h4⟩

set_option maxHeartbeats 4000000 in
theorem walk_iter (d : Bool) {b1 b2 : Nat} (h : TS w tb ab lv fv room N free t) (hb1 : w.heap[b1]? = some (.cells #[.pointer (some ⟨tb, 0, none⟩)] 31 (0, 0))) (hb2 : w.heap[b2]? = some (.cells #[.int .i64 (di d)] 3 (0, 0))) :
    Iter Tryz.prog 70 #[.pointer (some ⟨b1, 0, none⟩), .pointer (some ⟨b2, 0, none⟩)] encSV (dirL d t.toL) (fun k => k = b1 ∨ k = b2 ∨ TF tb ab lv fv k) w := by
  intro yl J Jx W hW hJ hJx hY G h0 hH hG
  have hH0 : ∀ k, (k = b1 ∨ k = b2 ∨ TF tb ab lv fv k) → k < w.heap.size := by
    rintro k (rfl | rfl | hk)
    · exact blkl hb1
    · exact blkl hb2
    · exact h.lt hk
  have hHW : ∀ k, (k = b1 ∨ k = b2 ∨ TF tb ab lv fv k) → W.heap[k]? = w.heap[k]? := fun k hk => hW.block k (hH0 k hk) (by have := hH0 k hk; omega)
  have A : TS W tb ab lv fv room N free t := h.keep fun k hk => hHW k (.inr (.inr hk))
  have q1 := (hHW b1 (.inl rfl)).trans hb1
  have q2 := (hHW b2 (.inr (.inl rfl))).trans hb2
  have hHs : ∀ k, (k = b1 ∨ k = b2 ∨ TF tb ab lv fv k) → k < W.heap.size := fun k hk => Nat.lt_of_lt_of_le (hH0 k hk) hW.size
  have HL := hid (fun (w' : World) (M : CM W w') => And.intro (A.mod0 M).root (And.intro (blkc (Mod.heap M q1 fun h => h)) (blkc (Mod.heap M q2 fun h => h))))
  refine (callsIn_wide (n := 1)).1 (callsIn_of_wp Tryz.func70 rfl trivial ?_)
  simp only [Tryz.ntmps70, List.size_toArray, List.length_cons, List.length_nil, Nat.reduceAdd, Nat.reduceSub, Array.replicate_succ, Array.replicate_zero, List.push_toArray, List.append_toArray, List.nil_append, List.cons_append]
  gi_wp2_with fail
  refine (wpIn_wide (n := 1)).2 ?_
  refine cq_mid 6 _ (by kernel_rfl) (by kernel_rfl) rfl rfl ?_
  simp only [List.take_succ_cons, List.take_zero, List.drop_succ_cons, List.drop_zero]
  iterate 6 (refine wpQuiet_step (fun K hK => ?_); go_simp; first | (refine hK _ ?_; clear hK K) | (refine ⟨_, fun _ _ => rfl, hK _ ?_⟩; clear hK K) | (apply Exists.intro; refine ⟨fun wq hq => ?_, hK _ ?_⟩; (focus (first  | (obtain ⟨⟨t1, t2, t3⟩, ⟨t4, _⟩, ⟨t5, _⟩⟩ := HL.out _ hq; go_simp; try with_reducible rfl))); clear hK K))
  refine wpQuiet_nil ?_
  intro w3 M3 K hK
  go_simp
  refine (endZ (c := []) (X := t) (A.mod0 M3) d).mono ?_
  rintro e w4 ⟨⟨v, rfl, hq⟩, hw⟩
  subst hw
  obtain ⟨g0, hAt⟩ := at_start hq
  clear hq HL
  refine hK _ _ ?_
  clear hK K
  iterate 1 (refine wpQuiet_step (fun K hK => ?_); go_simp; first | (refine hK _ ?_; clear hK K) | (refine ⟨_, fun _ _ => rfl, hK _ ?_⟩; clear hK K) | (apply Exists.intro; refine ⟨fun wq hq => ?_, hK _ ?_⟩; (focus (first  | (skip; go_simp; try with_reducible rfl))); clear hK K))
  refine wpQuiet_nil ?_
  intro w5 M5
  replace M5 := Mod.trans' M3 M5
  replace h0 := hJ _ _ _ _ _ h0 M5 fun _ h => h.elim
  gi_wp2_with fail
  refine (wpIn_wide (n := 1)).2 ?_
  go_loopg [4] g0 (fun g v wr => WalkR W t d tb ab lv fv b1 b2 J g v wr)
  case atStart => exact ⟨v, [], G, rfl, hAt, h0, fun j hj => ⟨M5.block j (hHs j hj) (fun h => h), hH j hj⟩, fun j hj => M5.lt (hG j hj), M5.size⟩
  case round =>
    refine (wpIn_wide (n := 1)).1 ?_
    clear h0 hAt M5 M3
    obtain ⟨i, pre, G1, rfl, hAt, hJ1, hH1, hG1, hsz⟩ := hrel
    replace hAt := hid hAt
    by_cases hi : i = -1
    · subst hi
      have hp : pre = dirL d t.toL := by
        rcases hAt.out with ⟨_, _, e⟩ | ⟨c, j, b, s, l, r, rest, e, ht, _⟩
        · exact e
        · rw [ht] at A
          obtain ⟨k, hk⟩ := A.nat (i := j) ((mem_plug ..).2 (.inr (by simp [T.ids])))
          omega
      clear hAt
      replace hp := hid hp
      gi_wp2_with fail
      go_end0
      exact ⟨⟨_, rfl⟩, G1, .inl (hp.out ▸ hJ1)⟩
    · obtain ⟨c, b, s, l, r, rest, ht, hd, hg, hpre⟩ := hAt.out.node hi
      clear hAt
      have A1 : TS wr tb ab lv fv room N free t := A.keep fun k hk => (hH1 k (.inr (.inr hk))).1
      rw [ht] at A1
      obtain ⟨k, rfl⟩ := A1.nat (i := i) ((mem_plug ..).2 (.inr (by simp [T.ids])))
      obtain ⟨lb, hN⟩ := A1.node'
      have AT := hN.at'
      have z0 := hN.c0
      have z1 := hN.c1
      have z2 := hN.c2
      have z3 := hN.c3
      have z4 := hN.c4
      clear hN
      have hk0 : ((k : Int) != -1) = true := by simp
      have q1' := (blkc ((hH1 b1 (.inl rfl)).1.trans q1)).1
      have q2' := (blkc ((hH1 b2 (.inr (.inl rfl))).1.trans q2)).1
      obtain ⟨fn, tmps, assign, body, hy, hR⟩ := hY pre s rest G1 wr hd hJ1
      dsimp only [encSV] at hy
      replace hd := hid hd
      replace hg := hid hg
      replace hpre := hid hpre
      replace ht := hid ht
      clear hY hi
      gi_wp2_with fail
      refine ⟨trivial, callsIn_wide.2 (AT.mono ?_)⟩
      rintro e w6 ⟨rfl, hw⟩
      subst hw
      clear AT
      gi_wp2_with fail
      refine hR.mono ?_
      clear hR hy z0 z1 z2 z3 z4 q1' q2'
      have kept : ∀ (W' : World), Mod G1 w6 W' → ∀ j, (j = b1 ∨ j = b2 ∨ TF tb ab lv fv j) → W'.heap[j]? = W.heap[j]? := fun W' m j hj =>
        (m.block j (by have := hHs j hj; omega) (hH1 j hj).2).trans (hH1 j hj).1
      rintro e W' ⟨G', g1, g2, (⟨rfl, hJ'⟩ | ⟨rfl, hJ'⟩)⟩
      · have A2 : TS W' tb ab lv fv room N free (plug c (.N k b s l r)) := by
          rw [← ht.out]; exact A.keep fun j hj => kept W' g2 j (.inr (.inr hj))
        have q1' := (blkc ((kept W' g2 b1 (.inl rfl)).trans q1)).1
        have q2' := (blkc ((kept W' g2 b2 (.inr (.inl rfl))).trans q2)).1
        have hfin : ∀ (v : Int) (w8 : World), NextQ (plug c (.N k b s l r)) (!d) (cpre c ++ l.toL) (r.toL ++ cpost c) s v → Mod (fun _ => False) W' w8 → ∃ g', g' < gk ∧ WalkR W t d tb ab lv fv b1 b2 J g' (.int .i64 v) w8 := by
          intro v w8 hn M8
          rw [← ht.out] at hn
          obtain ⟨g', hg', hA'⟩ := at_next ht.out hd.out hpre.out hn
          refine ⟨g', by rw [hg.out]; exact hg', v, pre ++ [s], G', rfl, hA', hJ _ _ _ _ _ hJ' M8 (fun _ h => h.elim), fun j hj => ⟨(M8.block j (Nat.lt_of_lt_of_le (hHs j hj) (Nat.le_trans hsz g2.size)) (fun h => h)).trans (kept W' g2 j hj), fun h => ?_⟩, fun j hj => M8.lt (g1 j hj).2, Nat.le_trans hsz (Nat.le_trans g2.size M8.size)⟩
          rcases (g1 j h).1 with h | h
          · exact (hH1 j hj).2 h
          · have := hHs j hj; omega
        replace hfin := hid hfin
        have NX : Calls Tryz.prog 71 #[.pointer (some ⟨tb, 0, none⟩), .int .i64 k, .int .i64 (1 - di d)] W' fun e w' => NextP W' (plug c (.N k b s l r)) (!d) (cpre c ++ l.toL) (r.toL ++ cpost c) s e w' := by
          cases d
          · exact nextZ_true A2
          · exact nextZ_false A2
        clear A2 hJ' g2 kept
        have e1 : IntKind.i64.wrap (1 - di d) = 1 - di d := by cases d <;> decide
        gi_wp2_with fail
        refine ⟨trivial, callsIn_wide.2 (NX.mono ?_)⟩
        rintro e w8 ⟨⟨v, rfl, hn⟩, M8⟩
        clear NX e1
        obtain ⟨g', hg', hR'⟩ := hfin.out v w8 hn M8
        clear hn hfin
        gi_wp2_with fail
        go_roundg g'
        case measure => exact hg'
        case rel => exact hR'
      · gi_wp2_with fail
        refine bodyPost_ret (results_none rfl _ _ _) rfl ⟨⟨_, rfl⟩, G', .inr ⟨pre ++ [s], ⟨rest, by simpa using hd.out.symm⟩, hJ'⟩⟩
end
end Go.Proofs.Bo
set_option linter.unusedVariables false
set_option linter.unusedSimpArgs false
namespace Go.Proofs.Bo
open Go Go.RowKit

/-- The things of a row of places, each with its place, from a number on. -/
def items {α : Type} : Nat → List (Option α) → List (Nat × α)
  | _, [] => []
  | k, none :: l => items (k + 1) l
  | k, some v :: l => (k, v) :: items (k + 1) l

theorem items_drop {α : Type} (k : Nat) (l : List (Option α)) (b : Nat) : (hk : k < l.length) → items (b + k) (l.drop k) = (match l[k] with | none => [] | some v => [(b + k, v)]) ++ items (b + (k + 1)) (l.drop (k + 1)) := by
  intro hk
  rw [List.drop_eq_getElem_cons hk]
  cases l[k] <;> simp [items, Nat.add_assoc]

section
variable {w : World} {ab : Nat} {lv fv : Value} {room : Int} {l : List (Option Nd)} {free : List Int}

def ndL (n : Nd) (b : Bool) : Array Value := #[.int .i64 n.s.ls, .int .i64 n.s.la, .int .i64 n.s.hs, .int .i64 n.s.ha, .int .i64 n.s.v, .int .i64 n.k0, .int .i64 n.k1, .int .i64 n.p, .bool n.red, .bool b]
def encNV (x : Nat × Nd) : Array Value := #[.int .i64 x.1, .agg #[.int .i64 x.2.s.ls, .int .i64 x.2.s.la, .int .i64 x.2.s.hs, .int .i64 x.2.s.ha, .int .i64 x.2.s.v, .int .i64 x.2.k0, .int .i64 x.2.k1, .int .i64 x.2.p, .bool x.2.red]]

end
end Go.Proofs.Bo
set_option linter.unusedVariables false
set_option linter.unusedSimpArgs false
namespace Go.Proofs.Bo
open Go Go.RowKit Go.Shelf

theorem items_spec {α : Type} : ∀ (l : List (Option α)) (b : Nat) (x : Nat × α), x ∈ items b l → b ≤ x.1 ∧ l[x.1 - b]? = some (some x.2)
  | [], _, _, h => by simp [items] at h
  | none :: l, b, x, h => by
    obtain ⟨h1, h2⟩ := items_spec l (b + 1) x h
    refine ⟨by omega, ?_⟩
    rw [show x.1 - b = (x.1 - (b + 1)) + 1 by omega]; simpa using h2
  | some v :: l, b, x, h => by
    simp only [items, List.mem_cons] at h
    rcases h with rfl | h
    · simp
    · obtain ⟨h1, h2⟩ := items_spec l (b + 1) x h
      refine ⟨by omega, ?_⟩
      rw [show x.1 - b = (x.1 - (b + 1)) + 1 by omega]; simpa using h2
theorem items_mem {α : Type} : ∀ (l : List (Option α)) (b k : Nat) (v : α), l[k]? = some (some v) → (b + k, v) ∈ items b l
  | [], _, _, _, h => by simp at h
  | p :: l, b, 0, v, h => by simp at h; subst h; simp [items]
  | none :: l, b, k + 1, v, h => by
    have := items_mem l (b + 1) k v (by simpa using h)
    rw [show b + (k + 1) = b + 1 + k by omega]; simpa [items] using this
  | some u :: l, b, k + 1, v, h => by
    have := items_mem l (b + 1) k v (by simpa using h)
    rw [show b + (k + 1) = b + 1 + k by omega]; simp [items, this]

section
variable {w w' : World} {tb ab N : Nat} {lv fv : Value} {room : Int} {free : List Int} {t : T}

/-- What an arena's things are to the tree. -/
theorem Holds.item {σ : List (Option Nd)} {root : Int} (h : Holds σ root t) {x : Nat × Nd} (hx : x ∈ items 0 σ) : ∃ c b s l r, t = plug c (.N x.1 b s l r) := by
  have := (items_spec σ 0 x hx).2
  simp only [Nat.sub_zero] at this
  exact mem_path t x.1 (h.just _ _ (nod_of this))
theorem Holds.items {σ : List (Option Nd)} {root : Int} (h : Holds σ root t) : ∀ k ∈ t.ids, k ∈ (items 0 σ).map (fun x => (x.1 : Int)) := by
  intro k hk
  obtain ⟨n, hn⟩ := h.ex hk
  obtain ⟨i, rfl, hi⟩ := nod_some hn
  rw [List.mem_map]
  have := items_mem σ 0 i n hi
  simp only [Nat.zero_add] at this
  exact ⟨_, this, rfl⟩

attribute [local go_sem] Oper.semAt_some

def HgtR (t : T) (nb : Nat) : List (Nat × Nd) → World → Prop := fun pre W => W.heap[nb]? = some (.cells #[.int .i64 (maxD t (pre.map (fun x => (x.1 : Int))))] 3 (0, 0))

end
end Go.Proofs.Bo
set_option linter.unusedVariables false
set_option linter.unusedSimpArgs false
namespace Go.Proofs.Bo
open Go Go.RowKit

section
variable {w w' : World} {tb ab N : Nat} {lv fv : Value} {room : Int} {free : List Int} {t : T}

theorem fine_E : Fine .E := ⟨rfl, 0, rfl⟩
theorem row_nil : Row [] := ⟨.nil, by simp⟩
theorem holds_nil : Holds [] (-1) .E := ⟨rfl, trivial, .nil, by intro k n h; unfold nod at h; split at h <;> simp at h⟩

theorem clearTZ (h : TS w tb ab lv fv room N free t) : Calls Tryz.prog 9 #[.pointer (some ⟨tb, 0, none⟩)] w fun e w' => e = .returned (.tuple #[]) ∧ TS w' tb ab (.slice none 0 0) (.slice none 0 0) room 0 [] .E ∧ Mod (TF tb ab lv fv) w w' := by
  obtain ⟨d1, d2, _⟩ := h.root
  obtain ⟨root, σ, m, hh, _⟩ := h
  have P := resetN m.a
  have hne := m.ne
  have ht := m.t
  clear m hh
  go_enter Tryz.func9, Tryz.ntmps9
  go_wp2_with fail
  refine P.mono ?_; rintro e w1 ⟨rfl, A1, M1⟩
  have m1 : TM w1 tb ab (.slice none 0 0) (.slice none 0 0) room root [] [] := ⟨M1.heap ht hne, A1⟩
  obtain ⟨T2, M2⟩ := m1.setRoot (-1)
  obtain ⟨q1, q2⟩ := blkc m1.t
  clear P d1 d2 A1 m1
  go_wp2_with fail
  go_end0
  exact ⟨rfl, ⟨_, _, T2, holds_nil, rfl⟩, (M1.mono fun _ h => .inl (.inr h)).trans M2 fun i h => .inl (.inl h)⟩

theorem newTZ_no (room : Int) (hr : room < 0 ∨ 4096 < room) (w : World) : Calls Tryz.prog 5 #[.int .i64 room] w fun e w' => e = .returned (.tuple #[.pointer none, .int .i64 1]) ∧ w' = w := by
  rcases hr with hr | hr
  · go_enter Tryz.func5, Tryz.ntmps5
    go_wp2_with fail
    go_ret2
    exact ⟨rfl, rfl⟩
  · have h0 : ¬ room < 0 := by omega
    go_enter Tryz.func5, Tryz.ntmps5
    go_wp2_with fail
    go_ret2
    exact ⟨rfl, rfl⟩
theorem newTZ (room : Int) (h0 : 0 ≤ room) (h1 : room ≤ 4096) (w : World) : Calls Tryz.prog 5 #[.int .i64 room] w fun e w' => ∃ tb, e = .returned (.tuple #[.pointer (some ⟨tb, 0, none⟩), .int .i64 0]) ∧ TS w' tb w.heap.size (.slice none 0 0) (.slice none 0 0) room 0 [] .E ∧ w.heap.size ≤ tb ∧ Mod (fun _ => False) w w' := by
  have P := newN room h0 (by omega) w
  have h2 : ¬ room < 0 := by omega
  have h3 : ¬ 4096 < room := by omega
  clear h0 h1
  go_enter Tryz.func5, Tryz.ntmps5
  go_wp2_with fail
  refine P.mono ?_; rintro e w1 ⟨rfl, A1, B1⟩
  clear P
  go_wp2_with fail
  go_ret2
  have hM : Mod (fun _ => False) w1 (w1.alloc (.cells #[.pointer (some ⟨w.heap.size, 0, none⟩), .int .i64 (-1)] 64)) := (Mod.refl _ _).alloc _
  exact ⟨w1.heap.size, rfl, ⟨-1, [], ⟨alloc_0 _ _, A1.mod hM fun _ _ h => h⟩, holds_nil, rfl⟩, B1.size, (Mod.of_below B1).trans' hM⟩
end
end Go.Proofs.Bo
set_option linter.unusedVariables false
set_option linter.unusedSimpArgs false
namespace Go.Proofs.Bo
open Go Go.RowKit Go.Shelf

/-- The end of a function whose one result is a bool in memory. -/
theorem res_bool {P : Program} {fn : Func} {tmps : Array Value} {W : World} {p : Tmp} {ty : TypeId} (g : Nat) (v : Value) (h : fn.results = #[.cell p ty]) (hp : tmps.getD p undef = .pointer (some ⟨g, 0, none⟩))
    (hg : W.cell? ⟨g, 0, none⟩ = some v) (hu : P.underlying ty = some .bool) : (results fn tmps).run P W = .ok v W := by
  have hp' : tmps[p]?.getD undef = .pointer (some ⟨g, 0, none⟩) := by simpa using hp
  have hl : (Sem.load .plain ⟨g, 0, none⟩ Sem.pure).run P W = .ok v W := by
    have := run_load (P := P) (w := W) ⟨g, 0, none⟩ .plain
    rw [hg] at this
    exact this
  simp [results, h, hp', asAddr, loadVar, isAgg, run_underlying hu, load, hl, go_sem]
theorem one_setCell {w : World} {g : Nat} {t : TypeId} {u v : Value} (h : w.heap[g]? = some (.cells #[u] t (0, 0))) : (w.setCell ⟨g, 0, none⟩ v).heap[g]? = some (.cells #[v] t (0, 0)) := setL_whole (cs := [u]) (us := [v]) h rfl

section
variable {w w' : World} {tb ab N : Nat} {lv fv : Value} {room : Int} {free : List Int} {t : T}
attribute [local go_sem] Oper.semAt_some

/-- Boxes for the tree and the result. -/
theorem boxTB (w : World) (tb : Nat) : ∃ w0, (w.alloc (.cells #[.pointer (some ⟨tb, 0, none⟩)] 31)).alloc (.cells #[.bool false] 4) = w0 ∧ w0.heap[w.heap.size]? = some (.cells #[.pointer (some ⟨tb, 0, none⟩)] 31 (0, 0)) ∧
    w0.heap[w.heap.size + 1]? = some (.cells #[.bool false] 4 (0, 0)) ∧ Mod (fun _ => False) w w0 ∧ w0.heap.size = w.heap.size + 2 :=
  ⟨_, rfl, alloc2_0 _ _ _, alloc2_1 _ _ _, ((Mod.refl _ _).alloc _).alloc _, by simp⟩

def ChkR (K : Nat) (g3 : Nat) : List (Nat × Nd) → World → Prop := fun _ W => ∃ v : Int, (v = -1 ∨ v = K) ∧ W.heap[g3]? = some (.cells #[.int .i64 v] 3 (0, 0))
/-- The last key so far. -/
def lastK (pre : List Sg) : Sg := (pre.getLast?).getD zSg
def SrtR (g4 g8 : Nat) : List Sg → World → Prop := fun pre W => W.heap[g4]? = some (.cells #[.int .i64 pre.length] 3 (0, 0)) ∧ W.heap[g8]? = some (.cells #[.int .i64 (lastK pre).ls, .int .i64 (lastK pre).la] 26 (0, 0))

end
end Go.Proofs.Bo
set_option linter.unusedVariables false
set_option linter.unusedSimpArgs false
namespace Go.Proofs.Bo
open Go Go.RowKit

theorem Row.filter {l : List Sg} (h : Row l) (p : Sg → Bool) : Row (l.filter p) := ⟨h.1.sublist List.filter_sublist, fun s hs => h.2 s (List.mem_filter.1 hs).1⟩
theorem del_none {k : Int} {l : List Sg} (h : hasK k l = false) : delL k l = l := by
  unfold delL hasK at *
  rw [List.filter_eq_self]
  intro x hx
  simp only [List.any_eq_false] at h
  simpa using h x hx
theorem Row.ins {l : List Sg} (h : Row l) {s : Sg} (hs : KeyOK s) : Row (insL s l) := by
  unfold insL
  refine ⟨List.pairwise_append.2 ⟨h.1.sublist List.filter_sublist, List.pairwise_cons.2 ⟨fun x hx => by simpa using (List.mem_filter.1 hx).2, h.1.sublist List.filter_sublist⟩, fun a ha b hb => ?_⟩, fun x hx => ?_⟩
  · have h1 : ky a < ky s := by simpa using (List.mem_filter.1 ha).2
    rcases List.mem_cons.1 hb with rfl | hb
    · exact h1
    · have h2 : ky s < ky b := by simpa using (List.mem_filter.1 hb).2
      omega
  · rcases List.mem_append.1 hx with hx | hx
    · exact h.2 x (List.mem_filter.1 hx).1
    · rcases List.mem_cons.1 hx with rfl | hx
      · exact hs
      · exact h.2 x (List.mem_filter.1 hx).1
theorem can_pos {s a : Int} (h : canS s a = s ∧ canA s a = a) (hs : 0 < s) : s = 1 ∧ a = 0 := by
  unfold canS canA at h
  grind

section
variable {w w' : World} {tb : Nat} {room : Int} {l : List Sg} {X : Nat → Prop}

theorem rb_bound (h : RB X w tb room l) : (l.length : Int) ≤ room ∧ room ≤ 65536 := by
  obtain ⟨ab, N, lv, fv, free, t, h1, h2, h3, rfl, h5⟩ := h
  have := h1.bound
  rw [size_toL]; omega
theorem rb_row (h : RB X w tb room l) : Row l := by
  obtain ⟨ab, N, lv, fv, free, t, h1, h2, h3, rfl, h5⟩ := h
  exact h2

theorem rb_put (h : RB X w tb room l) (s : Sg) (hf : fit64 s.la) : Calls Tryz.prog 7 #[.pointer (some ⟨tb, 0, none⟩), .agg (encS s).toArray] w fun e w' => PutP X w tb room l s e w' := by
  have h0 := h
  obtain ⟨ab, N, lv, fv, free, t, h1, h2, h3, rfl, h5⟩ := h
  have hgrow : ∀ {w' : World} {L : List Sg}, Row L → Mod (TF tb ab lv fv) w w' → (∃ lv' fv' N' free' t', TS w' tb ab lv' fv' room N' free' t' ∧ Fine t' ∧ t'.toL = L ∧ ∀ b, TF tb ab lv' fv' b → TF tb ab lv fv b ∨ w.heap.size ≤ b) →
      RB (fun k => X k ∨ w.heap.size ≤ k) w' tb room L ∧ Mod X w w' := by
    rintro w' L hL hm ⟨lv', fv', N', free', t', T1, T2, T3, T4⟩
    exact ⟨⟨ab, N', lv', fv', free', t', T1, by rw [T3]; exact hL, T2, T3, fun k hk => (T4 k hk).imp (h5 k) id⟩, hm.mono fun i hi => .inl (h5 i hi)⟩
  have hsame : ∀ {w' : World}, Mod (fun _ => False) w w' → RB (fun k => X k ∨ w.heap.size ≤ k) w' tb room t.toL ∧ Mod X w w' := fun m =>
    ⟨(h0.mod0 m).mono fun k hk _ => .inl hk, m.mono fun _ h => h.elim⟩
  unfold PutP putE putL
  by_cases hc : canS s.ls s.la = s.ls ∧ canA s.ls s.la = s.la
  · by_cases hs : 0 < s.ls
    · have hk : okB s = false := decide_eq_false fun h => by have := h.2.2; omega
      rw [hk]
      refine (putZ_arg2 s (can_pos hc hs) w tb).mono ?_
      rintro e w' ⟨rfl, hm⟩
      exact ⟨rfl, hsame hm⟩
    · have hk' : okKey s.ls s.la := ⟨hc.1, hc.2, by omega⟩
      have hk : okB s = true := by unfold okB; simpa using hk'
      rw [hk]
      simp only [if_true]
      by_cases ho : hasK (ky s) t.toL = true
      · rw [ho]
        refine (putZ_old h1 h2 h3 s hk' hf ho).mono ?_
        rintro e w' ⟨rfl, t', T1, T2, T3, hm⟩
        exact ⟨rfl, hgrow (h2.ins ⟨hk', hf⟩) hm ⟨_, _, _, _, _, T1, T2, T3, fun b hb => .inl hb⟩⟩
      · replace ho : hasK (ky s) t.toL = false := by simpa using ho
        rw [ho]
        simp only [Bool.false_eq_true, if_false]
        by_cases hz : room ≤ t.size
        · rw [if_pos (by rw [size_toL]; exact hz), if_pos (by rw [size_toL]; exact hz)]
          refine (putZ_full h1 h2 h3 s hk' hf ho hz).mono ?_
          rintro e w' ⟨rfl, hm⟩
          exact ⟨rfl, hsame hm⟩
        · rw [if_neg (by rw [size_toL]; exact hz), if_neg (by rw [size_toL]; exact hz)]
          refine (putZ_new h1 h2 h3 s hk' hf ho (by omega)).mono ?_
          rintro e w' ⟨rfl, lv', fv', N', free', t', T1, T2, T3, hm, T4⟩
          exact ⟨rfl, hgrow (h2.ins ⟨hk', hf⟩) hm ⟨_, _, _, _, _, T1, T2, T3, T4⟩⟩
  · have hk : okB s = false := decide_eq_false fun h => hc ⟨h.1, h.2.1⟩
    rw [hk]
    refine (putZ_arg1 s hc w tb).mono ?_
    rintro e w' ⟨rfl, hm⟩
    exact ⟨rfl, hsame hm⟩

def DelP (X : Nat → Prop) (w : World) (tb : Nat) (room : Int) (l : List Sg) (k : Int) (e : Ending) (w' : World) : Prop :=
  e = .returned (.bool (hasK k l)) ∧ RB (fun k => X k ∨ w.heap.size ≤ k) w' tb room (delL k l) ∧ Mod X w w'
theorem rb_del (h : RB X w tb room l) (cs ca : Int) (hf : fit64 ca) : Calls Tryz.prog 8 #[.pointer (some ⟨tb, 0, none⟩), .agg #[.int .i64 cs, .int .i64 ca]] w fun e w' => DelP X w tb room l (kx cs ca) e w' := by
  have h0 := h
  obtain ⟨ab, N, lv, fv, free, t, h1, h2, h3, rfl, h5⟩ := h
  unfold DelP
  by_cases ho : hasK (kx cs ca) t.toL = true
  · rw [ho]
    refine (delZ_yes h1 h2 h3 cs ca hf ho).mono ?_
    rintro e w' ⟨rfl, lv', fv', N', free', t', T1, T2, T3, hm, T4⟩
    exact ⟨rfl, ⟨ab, N', lv', fv', free', t', T1, by rw [T3]; exact h2.filter _, T2, T3, fun k hk => (T4 k hk).imp (h5 k) id⟩, hm.mono fun i hi => .inl (h5 i hi)⟩
  · replace ho : hasK (kx cs ca) t.toL = false := by simpa using ho
    rw [ho, del_none ho]
    refine (delZ_no h1 h2 cs ca hf ho).mono ?_
    rintro e w' ⟨rfl, hm⟩
    exact ⟨rfl, (h0.mod0 hm).mono fun k hk _ => .inl hk, hm.mono fun _ h => h.elim⟩
theorem rb_clear (h : RB X w tb room l) : Calls Tryz.prog 9 #[.pointer (some ⟨tb, 0, none⟩)] w fun e w' => e = .returned (.tuple #[]) ∧ RB (fun k => X k ∨ w.heap.size ≤ k) w' tb room [] ∧ Mod X w w' := by
  obtain ⟨ab, N, lv, fv, free, t, h1, h2, h3, rfl, h5⟩ := h
  refine (clearTZ h1).mono ?_
  rintro e w' ⟨rfl, T1, hm⟩
  refine ⟨rfl, ⟨ab, 0, _, _, [], .E, T1, row_nil, fine_E, rfl, fun k hk => ?_⟩, hm.mono fun i hi => .inl (h5 i hi)⟩
  refine .inl (h5 k ?_)
  rcases hk with hk | hk | hk | hk
  · exact .inl hk
  · exact .inr (.inl hk)
  · cases hk
  · cases hk

theorem rb_floor (h : RB X w tb room l) (cs ca : Int) (hf : fit64 ca) : Calls Tryz.prog 12 #[.pointer (some ⟨tb, 0, none⟩), .agg #[.int .i64 cs, .int .i64 ca]] w fun e w' => e = .returned (optS (nearS false true (kx cs ca) l)) ∧ Mod (fun _ => False) w w' := by
  obtain ⟨ab, N, lv, fv, free, t, h1, h2, h3, rfl, h5⟩ := h
  exact floorTZ h1 h2 hf
theorem rb_high (h : RB X w tb room l) (cs ca : Int) (hf : fit64 ca) : Calls Tryz.prog 14 #[.pointer (some ⟨tb, 0, none⟩), .agg #[.int .i64 cs, .int .i64 ca]] w fun e w' => e = .returned (optS (nearS true false (kx cs ca) l)) ∧ Mod (fun _ => False) w w' := by
  obtain ⟨ab, N, lv, fv, free, t, h1, h2, h3, rfl, h5⟩ := h
  exact highTZ h1 h2 hf
/-- A height that a row's tree may have. -/
def HgtOK (l : List Sg) (h : Nat) : Prop := ∃ t : T, t.toL = l ∧ Fine t ∧ t.height = h
theorem HgtOK.bound {h : Nat} {k : Nat} (hh : HgtOK l h) (hk : l.length + 1 < 2 ^ k) : h ≤ 2 * k := by
  obtain ⟨t, rfl, ⟨hr, n, hn⟩, rfl⟩ := hh
  have := rbt_height t n hn
  rw [hr] at this
  rw [size_toL] at hk
  have h2 : n < k := (Nat.pow_lt_pow_iff_right (by omega : 1 < 2)).1 (Nat.lt_of_le_of_lt this.2 hk)
  simp only [Bool.false_eq_true, if_false] at this
  omega
theorem HgtOK.zero {h : Nat} (hh : HgtOK l h) : h = 0 ↔ l.length = 0 := by
  obtain ⟨t, rfl, _, rfl⟩ := hh
  rw [size_toL]
  cases t <;> simp [T.height, T.size]
theorem HgtOK.le {h : Nat} (hh : HgtOK l h) : h ≤ 2 * l.length + 2 := hh.bound (by have := Nat.lt_two_pow_self (n := l.length + 1); exact this)
theorem rb_new (h0 : 0 ≤ room) (h1 : room ≤ 4096) (w : World) : Calls Tryz.prog 5 #[.int .i64 room] w fun e w' => ∃ tb, e = .returned (.tuple #[.pointer (some ⟨tb, 0, none⟩), .int .i64 0]) ∧ RB (fun k => w.heap.size ≤ k) w' tb room [] ∧ w.heap.size ≤ tb ∧ Mod (fun _ => False) w w' := by
  refine (newTZ room h0 h1 w).mono ?_
  rintro e w' ⟨tb, rfl, T1, hz, hm⟩
  refine ⟨tb, rfl, ⟨_, _, _, _, _, _, T1, row_nil, fine_E, rfl, fun k hk => ?_⟩, hz, hm⟩
  rcases hk with rfl | rfl | hk | hk
  · exact hz
  · exact Nat.le_refl _
  · cases hk
  · cases hk
end
end Go.Proofs.Bo
set_option linter.unusedVariables false
set_option linter.unusedSimpArgs false
namespace Go.Proofs.Bo
open Go Go.RowKit

section
variable {w w' : World} {tb : Nat} {room : Int} {l : List Sg} {X : Nat → Prop}

def Do6P (X : Nat → Prop) (w : World) (tb : Nat) (room : Int) (l : List Sg) (o : Op6) (e : Ending) (w' : World) : Prop :=
  e = .returned (.tuple #[.bool (do6B o l), .int .i64 (do6E room o l)]) ∧ RB (fun k => X k ∨ w.heap.size ≤ k) w' tb room (do6L room o l) ∧ Mod X w w'

def BitR (n : Nat) (g : Nat) (v0 v3 : Value) (w W : World) : Prop := W = w ∧ ∃ m k : Nat, g = m ∧ v0 = .int .i64 m ∧ v3 = .int .i64 k ∧ n < (m + 1) * 2 ^ k ∧ m + k ≤ n
end
end Go.Proofs.Bo
set_option linter.unusedVariables false
set_option linter.unusedSimpArgs false
namespace Go.Proofs.Bo
open Go Go.RowKit

/-- A tree of blocks that were made since w0; nothing else has changed. -/
def FB (w0 w : World) (tb : Nat) (room : Int) (l : List Sg) : Prop := RB (fun k => w0.heap.size ≤ k) w tb room l ∧ Mod (fun _ => False) w0 w

section
variable {w0 w w' : World} {tb : Nat} {room : Int} {l l' : List Sg}
theorem FB.mod0 (h : FB w0 w tb room l) (m : Mod (fun _ => False) w w') : FB w0 w' tb room l := ⟨h.1.mod0 m, h.2.trans' m⟩
theorem FB.grow (h : FB w0 w tb room l) (a : RB (fun k => w0.heap.size ≤ k ∨ w.heap.size ≤ k) w' tb room l') (m : Mod (fun k => w0.heap.size ≤ k) w w') : FB w0 w' tb room l' :=
  ⟨a.mono fun k hk _ => by have := h.2.size; omega, h.2.trans m fun j h => .inr h⟩
theorem FB.below (h : FB w0 w tb room l) : Below w0.heap.size w0 w := h.2.to_below (Nat.le_refl _) fun _ h => h.elim
theorem fb_new (h0 : 0 ≤ room) (h1 : room ≤ 4096) (w : World) : Calls Tryz.prog 5 #[.int .i64 room] w fun e w' => ∃ tb, e = .returned (.tuple #[.pointer (some ⟨tb, 0, none⟩), .int .i64 0]) ∧ FB w w' tb room [] :=
  (rb_new h0 h1 w).mono fun e w' ⟨tb, h1, h2, h3, h4⟩ => ⟨tb, h1, h2, h4⟩
theorem fb_put (h : FB w0 w tb room l) (s : Sg) (hf : fit64 s.la) : Calls Tryz.prog 7 #[.pointer (some ⟨tb, 0, none⟩), .agg (encS s).toArray] w fun e w' => e = .returned (.int .i64 (putE room s l)) ∧ FB w0 w' tb room (putL room s l) :=
  (rb_put h.1 s hf).mono fun e w' ⟨a, b, c⟩ => ⟨a, h.grow b c⟩
theorem fb_del (h : FB w0 w tb room l) (cs ca : Int) (hf : fit64 ca) : Calls Tryz.prog 8 #[.pointer (some ⟨tb, 0, none⟩), .agg #[.int .i64 cs, .int .i64 ca]] w fun e w' => e = .returned (.bool (hasK (kx cs ca) l)) ∧ FB w0 w' tb room (delL (kx cs ca) l) :=
  (rb_del h.1 cs ca hf).mono fun e w' ⟨a, b, c⟩ => ⟨a, h.grow b c⟩
theorem rbt0 {t : T} (h : RBT t 0) (hr : t.red = false) : t = .E := by
  cases t with
  | E => rfl
  | N i b s l r =>
    cases b
    · simp only [RBT, Bool.false_eq_true, if_false] at h
      obtain ⟨m, e, _⟩ := h; omega
    · cases hr
theorem rbt0_size {t : T} (h : RBT t 0) : t.size ≤ 1 := by
  cases t with
  | E => exact Nat.zero_le _
  | N i b s l r =>
    cases b
    · simp only [RBT, Bool.false_eq_true, if_false] at h
      obtain ⟨m, e, _⟩ := h; omega
    · simp only [RBT, if_true] at h
      obtain ⟨h1, h2, h3, h4⟩ := h
      obtain rfl := rbt0 h3 h1
      obtain rfl := rbt0 h4 h2
      simp [T.size]
theorem size1 {t : T} (h : t.size = 1) : t.height = 1 := by
  cases t with
  | E => cases h
  | N i b s l r =>
    have hl : l = .E := by cases l with | E => rfl | N => simp only [T.size] at h; omega
    have hr : r = .E := by cases r with | E => rfl | N => simp only [T.size] at h; omega
    subst hl hr
    simp [T.height]
theorem hgt3 {k : Nat} (h : HgtOK l k) (hl : l.length = 3) : k = 2 := by
  obtain ⟨t, rfl, ⟨hr, n, hn⟩, rfl⟩ := h
  rw [size_toL] at hl
  cases t with
  | E => cases hl
  | N i b s l r =>
    cases b
    · simp only [RBT, Bool.false_eq_true, if_false] at hn
      obtain ⟨m, rfl, h1, h2⟩ := hn
      simp only [T.size] at hl
      cases l with
      | E =>
        simp only [RBT] at h1
        subst h1
        have := rbt0_size h2
        simp only [T.size] at hl
        omega
      | N a1 a2 a3 a4 a5 =>
        cases r with
        | E =>
          simp only [RBT] at h2
          subst h2
          have := rbt0_size h1
          simp only [T.size] at hl this
          omega
        | N c1 c2 c3 c4 c5 =>
          simp only [T.height]
          have e1 := size1 (t := .N a1 a2 a3 a4 a5) (by simp only [T.size] at hl ⊢; omega)
          have e2 := size1 (t := .N c1 c2 c3 c4 c5) (by simp only [T.size] at hl ⊢; omega)
          simp only [T.height] at e1 e2
          omega
    · cases hr

/-- A segment is stored in a new block. -/
theorem put5 (w : World) (s : Sg) : ∃ w0 W, w.alloc (.cells #[.int .i64 0, .int .i64 0, .int .i64 0, .int .i64 0, .int .i64 0] 39) = w0 ∧
    ((((w0.setCell ⟨w.heap.size, 0, none⟩ (.int .i64 s.ls)).setCell ⟨w.heap.size, 1, none⟩ (.int .i64 s.la)).setCell ⟨w.heap.size, 2, none⟩ (.int .i64 s.hs)).setCell ⟨w.heap.size, 3, none⟩ (.int .i64 s.ha)).setCell ⟨w.heap.size, 4, none⟩ (.int .i64 s.v) = W ∧
    w0.heap[w.heap.size]? = some (.cells #[.int .i64 0, .int .i64 0, .int .i64 0, .int .i64 0, .int .i64 0] 39 (0, 0)) ∧
    W.heap[w.heap.size]? = some (.cells (encS s).toArray 39 (0, 0)) ∧ Mod (fun _ => False) w W := by
  have M0 : Mod (fun _ => False) w (w.alloc (.cells #[.int .i64 0, .int .i64 0, .int .i64 0, .int .i64 0, .int .i64 0] 39)) := (Mod.refl _ _).alloc _
  exact ⟨_, _, rfl, rfl, alloc_0 _ _, setL_whole (cs := [.int .i64 0, .int .i64 0, .int .i64 0, .int .i64 0, .int .i64 0]) (us := encS s) (alloc_0 _ _) rfl,
    ((((M0.setCell (.inr (Nat.le_refl _)) _).setCell (.inr (Nat.le_refl _)) _).setCell (.inr (Nat.le_refl _)) _).setCell (.inr (Nat.le_refl _)) _).setCell (.inr (Nat.le_refl _)) _⟩

end
end Go.Proofs.Bo
