import Derived.Test.YtniemignjlanaaaFineF
import Derived.Test.YtniemignjlanaaaBoG
set_option linter.unusedVariables false
namespace Go.Proofs.Bo
open Go Go.RowKit

/-- The closure's two boxes. -/
def WalkW (w : World) (tb : Nat) (d : Bool) : World := (w.alloc (.cells #[.pointer (some ⟨tb, 0, none⟩)] 23)).alloc (.cells #[.int .i64 (di d)] 3)

section
variable {w w' : World} {tb ab N : Nat} {lv fv : Value} {room : Int} {free : List Int} {t : T}

theorem walkZ (w : World) (tb : Nat) (d : Bool) : Calls Try.prog 61 #[.pointer (some ⟨tb, 0, none⟩), .int .i64 (di d)] w fun e w' => e = .returned (.func (.func 78) #[] #[.pointer (some ⟨w.heap.size, 0, none⟩), .pointer (some ⟨w.heap.size + 1, 0, none⟩)]) ∧ w' = WalkW w tb d := by
  go_enter Try.func61, Try.ntmps61
  go_wp2
  go_ret
  exact ⟨rfl, rfl⟩
theorem allTZ (w : World) (tb : Nat) : Calls Try.prog 26 #[.pointer (some ⟨tb, 0, none⟩)] w fun e w' => e = .returned (.func (.func 78) #[] #[.pointer (some ⟨w.heap.size, 0, none⟩), .pointer (some ⟨w.heap.size + 1, 0, none⟩)]) ∧ w' = WalkW w tb false := by
  have H := walkZ w tb false
  go_enter Try.func26, Try.ntmps26
  go_wp2_with fail
  refine H.mono ?_; rintro e w' ⟨rfl, rfl⟩
  go_wp2_with fail
  go_ret
  exact ⟨rfl, rfl⟩
theorem downTZ (w : World) (tb : Nat) : Calls Try.prog 25 #[.pointer (some ⟨tb, 0, none⟩)] w fun e w' => e = .returned (.func (.func 78) #[] #[.pointer (some ⟨w.heap.size, 0, none⟩), .pointer (some ⟨w.heap.size + 1, 0, none⟩)]) ∧ w' = WalkW w tb true := by
  have H := walkZ w tb true
  go_enter Try.func25, Try.ntmps25
  go_wp2_with fail
  refine H.mono ?_; rintro e w' ⟨rfl, rfl⟩
  go_wp2_with fail
  go_ret
  exact ⟨rfl, rfl⟩

def encSV (s : Sg) : Array Value := #[.agg #[.int .i64 s.ls, .int .i64 s.la, .int .i64 s.hs, .int .i64 s.ha, .int .i64 s.v]]
/-- The segments from a side's end on. -/
def dirL (d : Bool) (l : List Sg) : List Sg := if d then l.reverse else l
/-- Where a walk stands: at a node, or behind all. -/
def At (t : T) (d : Bool) (g : Nat) (v : Int) (pre : List Sg) : Prop :=
  (v = -1 ∧ g = 0 ∧ pre = dirL d t.toL) ∨ ∃ c j b s l r rest, v = j ∧ t = plug c (.N j b s l r) ∧ dirL d t.toL = pre ++ s :: rest ∧ g = rest.length + 1 ∧ pre = (if d then (r.toL ++ cpost c).reverse else cpre c ++ l.toL)
def WalkR (W : World) (t : T) (d : Bool) (tb ab : Nat) (lv fv : Value) (b1 b2 : Nat) (J : List Sg → (Nat → Prop) → World → Prop) (g : Nat) (v : Value) (wr : World) : Prop :=
  ∃ (i : Int) (pre : List Sg) (G : Nat → Prop), v = .int .i64 i ∧ At t d g i pre ∧ J pre G wr ∧ (∀ j, (j = b1 ∨ j = b2 ∨ TF tb ab lv fv j) → wr.heap[j]? = W.heap[j]? ∧ ¬ G j) ∧ (∀ j, G j → j < wr.heap.size) ∧ W.heap.size ≤ wr.heap.size

theorem TS.keep {w w' : World} (h : TS w tb ab lv fv room N free t) (hk : ∀ k, TF tb ab lv fv k → w'.heap[k]? = w.heap[k]?) : TS w' tb ab lv fv room N free t := by
  obtain ⟨root, σ, a, b, c⟩ := h
  exact ⟨root, σ, ⟨(hk _ (.inl rfl)).trans a.t, a.a.keep fun k h => hk k (.inr h)⟩, b, c⟩

theorem at_start {v : Int} {d : Bool} (h : EndQ t d v) : ∃ g, At t d g v [] := by
  rcases h with ⟨rfl, rfl⟩ | ⟨F, i, b, s, l, r, rfl, rfl, h1, h2⟩
  · exact ⟨0, .inl ⟨rfl, rfl, by cases d <;> rfl⟩⟩
  · cases d
    · obtain ⟨rfl, e⟩ := h1 rfl
      exact ⟨_, .inr ⟨F, _, b, s, .E, r, r.toL ++ cpost F, rfl, rfl, by simp [dirL, toL_plug, e, T.toL], rfl, by simp [e, T.toL]⟩⟩
    · obtain ⟨rfl, e⟩ := h2 rfl
      exact ⟨_, .inr ⟨F, _, b, s, l, .E, (cpre F ++ l.toL).reverse, rfl, rfl, by simp [dirL, toL_plug, e, T.toL], rfl, by simp [e, T.toL]⟩⟩
theorem at_next {d : Bool} {c : Ctx} {k : Int} {b : Bool} {s : Sg} {l r : T} {rest pre : List Sg} {v : Int} (ht : t = plug c (.N k b s l r)) (hd : dirL d t.toL = pre ++ s :: rest) (hp : pre = (if d then (r.toL ++ cpost c).reverse else cpre c ++ l.toL))
    (h : NextQ t (!d) (cpre c ++ l.toL) (r.toL ++ cpost c) s v) : ∃ g, g < rest.length + 1 ∧ At t d g v (pre ++ [s]) := by
  have hall := toL_focus c k b s l r
  rw [← ht] at hall
  cases d
  · simp only [dirL, Bool.false_eq_true, if_false] at hd hp
    rw [hall, hp] at hd
    have hrest : r.toL ++ cpost c = rest := by simpa using hd
    rcases h with ⟨rfl, e⟩ | ⟨c', j, b', s', l', r', rfl, ht', e⟩
    · simp only [Bool.not_false, if_true] at e
      refine ⟨0, by omega, .inl ⟨rfl, rfl, ?_⟩⟩
      simp only [dirL, Bool.false_eq_true, if_false]
      rw [hall, e, hp]
    · simp only [Bool.not_false, if_true] at e
      have hall' := toL_focus c' v b' s' l' r'
      rw [← ht', e, hall] at hall'
      have h2 : r.toL ++ cpost c = s' :: (r'.toL ++ cpost c') := by simpa using hall'
      refine ⟨_, ?_, .inr ⟨c', _, b', s', l', r', r'.toL ++ cpost c', rfl, ht', ?_, rfl, ?_⟩⟩
      · rw [← hrest, h2]; simp
      · simp only [dirL, Bool.false_eq_true, if_false]; rw [hall, hp, h2]; simp
      · simp only [Bool.false_eq_true, if_false]; rw [hp, e]
  · simp only [dirL, if_true] at hd hp
    rw [hall, hp] at hd
    have hrest : (cpre c ++ l.toL).reverse = rest := by simpa using hd
    rcases h with ⟨rfl, e⟩ | ⟨c', j, b', s', l', r', rfl, ht', e⟩
    · simp only [Bool.not_true, Bool.false_eq_true, if_false] at e
      refine ⟨0, by omega, .inl ⟨rfl, rfl, ?_⟩⟩
      simp only [dirL, if_true]
      rw [hall, e, hp]; simp
    · simp only [Bool.not_true, Bool.false_eq_true, if_false] at e
      have hall' := toL_focus c' v b' s' l' r'
      rw [← ht', e, hall] at hall'
      have h2 : cpre c ++ l.toL = cpre c' ++ l'.toL ++ [s'] := by
        have : (cpre c ++ l.toL) ++ (s :: (r.toL ++ cpost c)) = (cpre c' ++ l'.toL ++ [s']) ++ (s :: (r.toL ++ cpost c)) := by simpa using hall'
        exact List.append_cancel_right this
      refine ⟨_, ?_, .inr ⟨c', _, b', s', l', r', (cpre c' ++ l'.toL).reverse, rfl, ht', ?_, rfl, ?_⟩⟩
      · rw [← hrest, h2]; simp
      · simp only [dirL, if_true]; rw [hall, hp, h2]; simp
      · simp only [if_true]; rw [hp, e]; simp

theorem At.node {d : Bool} {g : Nat} {v : Int} {pre : List Sg} (h : At t d g v pre) (hv : v ≠ -1) : ∃ c b s l r rest, t = plug c (.N v b s l r) ∧ dirL d t.toL = pre ++ s :: rest ∧ g = rest.length + 1 ∧ pre = (if d then (r.toL ++ cpost c).reverse else cpre c ++ l.toL) := by
  rcases h with ⟨e, _⟩ | ⟨c, j, b, s, l, r, rest, rfl, h1, h2, h3, h4⟩
  · exact absurd e hv
  · exact ⟨c, b, s, l, r, rest, h1, h2, h3, h4⟩

set_option maxHeartbeats 4000000 in
theorem walk_iter (d : Bool) {b1 b2 : Nat} (h : TS w tb ab lv fv room N free t) (hb1 : w.heap[b1]? = some (.cells #[.pointer (some ⟨tb, 0, none⟩)] 23 (0, 0))) (hb2 : w.heap[b2]? = some (.cells #[.int .i64 (di d)] 3 (0, 0))) :
    Iter Try.prog 78 #[.pointer (some ⟨b1, 0, none⟩), .pointer (some ⟨b2, 0, none⟩)] encSV (dirL d t.toL) (fun k => k = b1 ∨ k = b2 ∨ TF tb ab lv fv k) w := by
  intro yl J Jx W hW hJ hJx hY G h0 hH hG
  have hH0 : ∀ k, (k = b1 ∨ k = b2 ∨ TF tb ab lv fv k) → k < w.heap.size := by
    rintro k (rfl | rfl | hk)
    · exact blkl hb1
    · exact blkl hb2
    · exact h.lt hk
  have hHW : ∀ k, (k = b1 ∨ k = b2 ∨ TF tb ab lv fv k) → W.heap[k]? = w.heap[k]? := fun k hk => hW.block k (hH0 k hk) (by have := hH0 k hk; omega)
  have A : TS W tb ab lv fv room N free t := h.keep fun k hk => hHW k (.inr (.inr hk))
  have q1 := (hHW b1 (.inl rfl)).trans hb1
  have q2 := (hHW b2 (.inr (.inl rfl))).trans hb2
  have hHs : ∀ k, (k = b1 ∨ k = b2 ∨ TF tb ab lv fv k) → k < W.heap.size := fun k hk => Nat.lt_of_lt_of_le (hH0 k hk) hW.size
  have HL := hid (fun (w' : World) (M : CM W w') => And.intro (A.mod0 M).root (And.intro (blkc (Mod.heap M q1 fun h => h)) (blkc (Mod.heap M q2 fun h => h))))
  refine (callsIn_wide (n := 1)).1 (callsIn_of_wp Try.func78 rfl trivial ?_)
  simp only [Try.ntmps78, List.size_toArray, List.length_cons, List.length_nil, Nat.reduceAdd, Nat.reduceSub, Array.replicate_succ, Array.replicate_zero, List.push_toArray, List.append_toArray, List.nil_append, List.cons_append]
  gi_wp2_with fail
  refine (wpIn_wide (n := 1)).2 ?_
  refine cq_mid 6 _ (by kernel_rfl) (by kernel_rfl) rfl rfl ?_
  simp only [List.take_succ_cons, List.take_zero, List.drop_succ_cons, List.drop_zero]
  iterate 6 (refine wpQuiet_step (fun K hK => ?_); go_simp; first | (refine hK _ ?_; clear hK K) | (refine ⟨_, fun _ _ => rfl, hK _ ?_⟩; clear hK K) | (apply Exists.intro; refine ⟨fun wq hq => ?_, hK _ ?_⟩; (focus (first  | (obtain ⟨⟨t1, t2, t3⟩, ⟨t4, _⟩, ⟨t5, _⟩⟩ := HL.out _ hq; go_simp; try with_reducible rfl))); clear hK K))
  refine wpQuiet_nil ?_
  intro w3 M3 K hK
  go_simp
  refine (endZ (c := []) (X := t) (A.mod0 M3) d).mono ?_
  rintro e w4 ⟨⟨v, rfl, hq⟩, hw⟩
  subst hw
  obtain ⟨g0, hAt⟩ := at_start hq
  clear hq HL
  refine hK _ _ ?_
  clear hK K
  iterate 1 (refine wpQuiet_step (fun K hK => ?_); go_simp; first | (refine hK _ ?_; clear hK K) | (refine ⟨_, fun _ _ => rfl, hK _ ?_⟩; clear hK K) | (apply Exists.intro; refine ⟨fun wq hq => ?_, hK _ ?_⟩; (focus (first  | (skip; go_simp; try with_reducible rfl))); clear hK K))
  refine wpQuiet_nil ?_
  intro w5 M5
  replace M5 := Mod.trans' M3 M5
  replace h0 := hJ _ _ _ _ _ h0 M5 fun _ h => h.elim
  gi_wp2_with fail
  refine (wpIn_wide (n := 1)).2 ?_
  go_loopg [4] g0 (fun g v wr => WalkR W t d tb ab lv fv b1 b2 J g v wr)
  case atStart => exact ⟨v, [], G, rfl, hAt, h0, fun j hj => ⟨M5.block j (hHs j hj) (fun h => h), hH j hj⟩, fun j hj => M5.lt (hG j hj), M5.size⟩
  case round =>
    refine (wpIn_wide (n := 1)).1 ?_
    clear h0 hAt M5 M3
    obtain ⟨i, pre, G1, rfl, hAt, hJ1, hH1, hG1, hsz⟩ := hrel
    replace hAt := hid hAt
    by_cases hi : i = -1
    · subst hi
      have hp : pre = dirL d t.toL := by
        rcases hAt.out with ⟨_, _, e⟩ | ⟨c, j, b, s, l, r, rest, e, ht, _⟩
        · exact e
        · rw [ht] at A
          obtain ⟨k, hk⟩ := A.nat (i := j) ((mem_plug ..).2 (.inr (by simp [T.ids])))
          omega
      clear hAt
      replace hp := hid hp
      gi_wp2_with fail
      go_end0
      exact ⟨⟨_, rfl⟩, G1, .inl (hp.out ▸ hJ1)⟩
    · obtain ⟨c, b, s, l, r, rest, ht, hd, hg, hpre⟩ := hAt.out.node hi
      clear hAt
      have A1 : TS wr tb ab lv fv room N free t := A.keep fun k hk => (hH1 k (.inr (.inr hk))).1
      rw [ht] at A1
      obtain ⟨k, rfl⟩ := A1.nat (i := i) ((mem_plug ..).2 (.inr (by simp [T.ids])))
      obtain ⟨lb, hN⟩ := A1.node'
      have AT := hN.at'
      have z0 := hN.c0
      have z1 := hN.c1
      have z2 := hN.c2
      have z3 := hN.c3
      have z4 := hN.c4
      clear hN
      have hk0 : ((k : Int) != -1) = true := by simp
      have q1' := (blkc ((hH1 b1 (.inl rfl)).1.trans q1)).1
      have q2' := (blkc ((hH1 b2 (.inr (.inl rfl))).1.trans q2)).1
      obtain ⟨fn, tmps, assign, body, hy, hR⟩ := hY pre s rest G1 wr hd hJ1
      dsimp only [encSV] at hy
      replace hd := hid hd
      replace hg := hid hg
      replace hpre := hid hpre
      replace ht := hid ht
      clear hY hi
      gi_wp2_with fail
      refine ⟨trivial, callsIn_wide.2 (AT.mono ?_)⟩
      rintro e w6 ⟨rfl, hw⟩
      subst hw
      clear AT
      gi_wp2_with fail
      refine hR.mono ?_
      clear hR hy z0 z1 z2 z3 z4 q1' q2'
      have kept : ∀ (W' : World), Mod G1 w6 W' → ∀ j, (j = b1 ∨ j = b2 ∨ TF tb ab lv fv j) → W'.heap[j]? = W.heap[j]? := fun W' m j hj =>
        (m.block j (by have := hHs j hj; omega) (hH1 j hj).2).trans (hH1 j hj).1
      rintro e W' ⟨G', g1, g2, (⟨rfl, hJ'⟩ | ⟨rfl, hJ'⟩)⟩
      · have A2 : TS W' tb ab lv fv room N free (plug c (.N k b s l r)) := by
          rw [← ht.out]; exact A.keep fun j hj => kept W' g2 j (.inr (.inr hj))
        have q1' := (blkc ((kept W' g2 b1 (.inl rfl)).trans q1)).1
        have q2' := (blkc ((kept W' g2 b2 (.inr (.inl rfl))).trans q2)).1
        have hfin : ∀ (v : Int) (w8 : World), NextQ (plug c (.N k b s l r)) (!d) (cpre c ++ l.toL) (r.toL ++ cpost c) s v → Mod (fun _ => False) W' w8 → ∃ g', g' < gk ∧ WalkR W t d tb ab lv fv b1 b2 J g' (.int .i64 v) w8 := by
          intro v w8 hn M8
          rw [← ht.out] at hn
          obtain ⟨g', hg', hA'⟩ := at_next ht.out hd.out hpre.out hn
          refine ⟨g', by rw [hg.out]; exact hg', v, pre ++ [s], G', rfl, hA', hJ _ _ _ _ _ hJ' M8 (fun _ h => h.elim), fun j hj => ⟨(M8.block j (Nat.lt_of_lt_of_le (hHs j hj) (Nat.le_trans hsz g2.size)) (fun h => h)).trans (kept W' g2 j hj), fun h => ?_⟩, fun j hj => M8.lt (g1 j hj).2, Nat.le_trans hsz (Nat.le_trans g2.size M8.size)⟩
          rcases (g1 j h).1 with h | h
          · exact (hH1 j hj).2 h
          · have := hHs j hj; omega
        replace hfin := hid hfin
        have NX : Calls Try.prog 79 #[.pointer (some ⟨tb, 0, none⟩), .int .i64 k, .int .i64 (1 - di d)] W' fun e w' => NextP W' (plug c (.N k b s l r)) (!d) (cpre c ++ l.toL) (r.toL ++ cpost c) s e w' := by
          cases d
          · exact nextZ_true A2
          · exact nextZ_false A2
        clear A2 hJ' g2 kept
        have e1 : IntKind.i64.wrap (1 - di d) = 1 - di d := by cases d <;> decide
        gi_wp2_with fail
        refine ⟨trivial, callsIn_wide.2 (NX.mono ?_)⟩
        rintro e w8 ⟨⟨v, rfl, hn⟩, M8⟩
        clear NX e1
        obtain ⟨g', hg', hR'⟩ := hfin.out v w8 hn M8
        clear hn hfin
        gi_wp2_with fail
        go_roundg g'
        case measure => exact hg'
        case rel => exact hR'
      · gi_wp2_with fail
        refine bodyPost_ret (results_none rfl _ _ _) rfl ⟨⟨_, rfl⟩, G', .inr ⟨pre ++ [s], ⟨rest, by simpa using hd.out.symm⟩, hJ'⟩⟩
end
end Go.Proofs.Bo
