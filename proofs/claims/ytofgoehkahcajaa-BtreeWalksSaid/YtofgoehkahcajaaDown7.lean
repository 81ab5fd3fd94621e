import Derived.Test.YtofgoehkahcajaaTold7
import Derived.Test.YtofgoehkahcajaaIter7
set_option linter.unusedVariables false
set_option linter.unusedSimpArgs false
namespace Go.Proofs.Bo
open Go Go.RowKit

theorem near_lower {A B : List Sg} {x : Sg} (hr : Row (A ++ x :: B)) : nearS false false (kx x.ls x.la) (A ++ x :: B) = A.getLast? := by
  have hs := hr.1
  have h1 : ∀ y ∈ A, fitB false false (kx x.ls x.la) (ky y) = true := fun y hy => by
    have : ky y < ky x := (List.pairwise_append.1 hs).2.2 y hy x (by simp)
    have h2 : ky y < kx x.ls x.la := this
    simp [fitB, h2]
  have h2 : ∀ y ∈ x :: B, ¬ fitB false false (kx x.ls x.la) (ky y) = true := fun y hy => by
    have h3 : kx x.ls x.la ≤ ky y := by
      rcases List.mem_cons.1 hy with rfl | hy
      · exact Int.le_refl _
      · exact Int.le_of_lt ((List.pairwise_cons.1 (List.pairwise_append.1 hs).2.1).1 y hy)
    simp [fitB]; omega
  unfold nearS
  simp only [Bool.false_eq_true, if_false]
  rw [List.filter_append, List.filter_eq_self.2 h1, List.filter_eq_nil_iff.2 h2, List.append_nil]

section
variable {w w' : World} {tb ab : Nat} {lv fv : Value} {σ : List (Option Bn)} {free : List Int} {root deg room many : Int} {S : StB} {d : Nat} {L : List Sg}

theorem downBZ (w : World) (tb : Nat) : Calls Try.prog 34 #[.pointer (some ⟨tb, 0, none⟩)] w fun e w' => e = .returned (.func (.func 59) #[] #[.pointer (some ⟨w.heap.size, 0, none⟩)]) ∧ w' = w.alloc (.cells #[.pointer (some ⟨tb, 0, none⟩)] 25) := by
  go_enter Try.func34, Try.ntmps34
  go_wp2
  go_ret
  exact ⟨rfl, rfl⟩

/-- Between two rounds: what was told, and the next one in a block of its own. -/
def DownIX (W : World) (b1 tb ab : Nat) (lv fv : Value) (σ : List (Option Bn)) (L : List Sg) (J : List Sg → (Nat → Prop) → World → Prop) (g : Nat) (p is : Value) (wr : World) : Prop :=
  ∃ (pre R : List Sg) (sb : Nat) (G : Nat → Prop), L.reverse = pre ++ R ∧ g = R.length ∧ p = .pointer (some ⟨sb, 0, none⟩) ∧ is = .bool R.head?.isSome ∧ wr.heap[sb]? = some (.cells (encS (oS R.head?)).toArray 36 (0, 0)) ∧ J pre G wr ∧
    (∀ j, (j = b1 ∨ FootB tb ab lv fv σ j) → wr.heap[j]? = W.heap[j]? ∧ ¬ G j) ∧ (∀ j, G j → j < wr.heap.size) ∧ W.heap.size ≤ wr.heap.size ∧ ¬ G sb ∧ W.heap.size ≤ sb

theorem put5q (w : World) (s : Sg) : ∃ w0 W, w.alloc (.cells #[.int .i64 0, .int .i64 0, .int .i64 0, .int .i64 0, .int .i64 0] 36) = w0 ∧
    ((((w0.setCell ⟨w.heap.size, 0, none⟩ (.int .i64 s.ls)).setCell ⟨w.heap.size, 1, none⟩ (.int .i64 s.la)).setCell ⟨w.heap.size, 2, none⟩ (.int .i64 s.hs)).setCell ⟨w.heap.size, 3, none⟩ (.int .i64 s.ha)).setCell ⟨w.heap.size, 4, none⟩ (.int .i64 s.v) = W ∧
    w0.heap[w.heap.size]? = some (.cells #[.int .i64 0, .int .i64 0, .int .i64 0, .int .i64 0, .int .i64 0] 36 (0, 0)) ∧
    W.heap[w.heap.size]? = some (.cells (encS s).toArray 36 (0, 0)) ∧ Mod (fun _ => False) w W := by
  have M0 : Mod (fun _ => False) w (w.alloc (.cells #[.int .i64 0, .int .i64 0, .int .i64 0, .int .i64 0, .int .i64 0] 36)) := (Mod.refl _ _).alloc _
  exact ⟨_, _, rfl, rfl, alloc_0 _ _, setL_whole (cs := [.int .i64 0, .int .i64 0, .int .i64 0, .int .i64 0, .int .i64 0]) (us := encS s) (alloc_0 _ _) rfl,
    ((((M0.setCell (.inr (Nat.le_refl _)) _).setCell (.inr (Nat.le_refl _)) _).setCell (.inr (Nat.le_refl _)) _).setCell (.inr (Nat.le_refl _)) _).setCell (.inr (Nat.le_refl _)) _⟩
/-- A segment is stored in a block that has another one. -/
theorem set5q (w : World) (b : Nat) (o s : Sg) (hb : w.heap[b]? = some (.cells (encS o).toArray 36 (0, 0))) : ∃ W,
    ((((w.setCell ⟨b, 0, none⟩ (.int .i64 s.ls)).setCell ⟨b, 1, none⟩ (.int .i64 s.la)).setCell ⟨b, 2, none⟩ (.int .i64 s.hs)).setCell ⟨b, 3, none⟩ (.int .i64 s.ha)).setCell ⟨b, 4, none⟩ (.int .i64 s.v) = W ∧
    W.heap[b]? = some (.cells (encS s).toArray 36 (0, 0)) ∧ Mod (fun j => j = b) w W :=
  ⟨_, rfl, setL_whole (cs := encS o) (us := encS s) hb rfl, ((((Mod.setCell (S := fun j => j = b) (p := ⟨b, 0, none⟩) (Mod.refl _ _) (.inl rfl) _).setCell (.inl rfl) _).setCell (.inl rfl) _).setCell (.inl rfl) _).setCell (.inl rfl) _⟩

set_option maxHeartbeats 4000000 in
set_option maxRecDepth 100000 in
theorem down_iter {b1 : Nat} (h : MemB w tb ab lv fv σ free root deg room many S) (hT : PT d S root L) (hd : d ≤ 64) (hr : Row L) (hb1 : w.heap[b1]? = some (.cells #[.pointer (some ⟨tb, 0, none⟩)] 25 (0, 0))) :
    Iter Try.prog 59 #[.pointer (some ⟨b1, 0, none⟩)] encSB L.reverse (fun k => k = b1 ∨ FootB tb ab lv fv σ k) w := by
  intro yl J Jx W hW hJ hJx hY G h0 hH hG
  have hH0 : ∀ k, (k = b1 ∨ FootB tb ab lv fv σ k) → k < w.heap.size := by
    rintro k (rfl | hk)
    · exact blkl hb1
    · exact h.lt hk
  have hHW : ∀ k, (k = b1 ∨ FootB tb ab lv fv σ k) → W.heap[k]? = w.heap[k]? := fun k hk => hW.block k (hH0 k hk) (by have := hH0 k hk; omega)
  have A : MemB W tb ab lv fv σ free root deg room many S := h.keep fun k hk => hHW k (.inr hk)
  have q1 := (hHW b1 (.inl rfl)).trans hb1
  have hHs : ∀ k, (k = b1 ∨ FootB tb ab lv fv σ k) → k < W.heap.size := fun k hk => Nat.lt_of_lt_of_le (hH0 k hk) hW.size
  clear h hb1 hHW hH0 hW
  obtain ⟨c3, c4⟩ := blkc q1
  have PL := lastBZ A hd hT hr
  refine (callsIn_wide (n := 1)).1 (callsIn_of_wp Try.func59 rfl trivial ?_)
  simp only [Try.ntmps59, List.size_toArray, List.length_cons, List.length_nil, Nat.reduceAdd, Nat.reduceSub, Array.replicate_succ, Array.replicate_zero, List.push_toArray, List.append_toArray, List.nil_append, List.cons_append]
  have hhd : L.getLast? = L.reverse.head? := by simp
  rw [hhd] at PL
  obtain ⟨o, ho⟩ : ∃ o, L.reverse.head? = o := ⟨_, rfl⟩
  rw [ho] at PL
  clear hhd
  replace ho := hid ho
  unfold optS at PL
  gi_wp2_with fail
  refine ⟨trivial, callsIn_wide.2 (PL.mono ?_)⟩
  rintro e w1 ⟨rfl, M1⟩
  clear PL c3 c4
  obtain ⟨w2, W2, hw2, hW2, x2, X2, N2⟩ := put5q w1 (oS o)
  obtain ⟨d2, e2⟩ := blkc x2
  have M2 := M1.trans' N2
  have hx2 : W.heap.size ≤ w1.heap.size := M1.size
  gi_wp2_with fail
  refine (wpIn_wide (n := 1)).2 ?_
  have hJ2 := hJ _ _ _ _ _ h0 M2 fun _ h => h.elim
  have start : DownIX W b1 tb ab lv fv σ L J L.length (.pointer (some ⟨w1.heap.size, 0, none⟩)) (.bool o.isSome) W2 := by
    refine ⟨[], L.reverse, w1.heap.size, G, rfl, by simp, rfl, by rw [ho.out], by rw [ho.out]; exact X2, hJ2, fun j hj => ⟨M2.block j (hHs j hj) (fun h => h), hH j hj⟩, fun j hj => M2.lt (hG j hj), M2.size, fun h => ?_, hx2⟩
    have := hG _ h; omega
  clear M1 hw2 hW2 x2 X2 N2 d2 e2 M2 hJ2 h0 ho
  go_loopg [3, 4] L.length (fun g p is wr => DownIX W b1 tb ab lv fv σ L J g p is wr)
  case atStart => exact start
  case round =>
    clear start
    obtain ⟨pre, R, sb, G1, eL, hg, rfl, rfl, hsb, hJ1, hH1, hG1, hsz, hGs, hsW⟩ := hrel
    refine (wpIn_wide (n := 1)).1 ?_
    cases R with
    | nil =>
      have eL' : L.reverse = pre := by simpa using eL
      replace eL' := hid eL'
      clear eL hY
      simp only [List.head?_nil, Option.isSome_none]
      gi_wp2_with fail
      go_end0
      exact ⟨⟨_, rfl⟩, G1, .inl (eL'.out ▸ hJ1)⟩
    | cons x R =>
      simp only [List.head?_cons, Option.isSome_some]
      simp only [List.head?_cons, oS, Option.getD_some] at hsb
      obtain ⟨s1, s2⟩ := blkc hsb
      have eLL : L = R.reverse ++ x :: pre.reverse := by have := congrArg List.reverse eL; simpa using this
      have hkx : fit64 x.la := (hr.2 x (by rw [eLL]; simp)).2
      have hnear : nearS false false (kx x.ls x.la) L = R.head? := by
        rw [eLL] at hr ⊢
        rw [near_lower hr]; simp
      obtain ⟨fn, tmps, assign, body, hy, hR⟩ := hY pre x R G1 wr eL hJ1
      dsimp only [encSB] at hy
      have hsl := blkl hsb
      obtain ⟨ls, la, hs', ha, sv⟩ := x
      simp only [encS] at s1 hsb
      clear hY
      replace eL := hid eL
      replace eLL := hid eLL
      replace hg := hid hg
      gi_wp2_with fail
      refine hR.mono ?_
      clear hR hy s1 s2
      have hb1W := hHs b1 (.inl rfl)
      rintro e W' ⟨G', g1, g2, (⟨rfl, hJ'⟩ | ⟨rfl, hJ'⟩)⟩
      · have hsb' := g2.heap hsb hGs
        obtain ⟨s1, s2⟩ := blkc hsb'
        have kept : ∀ j, (j = b1 ∨ FootB tb ab lv fv σ j) → W'.heap[j]? = W.heap[j]? ∧ ¬ G' j := fun j hj => ⟨(g2.block j (by have := hHs j hj; omega) (hH1 j hj).2).trans (hH1 j hj).1, fun h => by
          rcases (g1 j h).1 with h | h
          · exact (hH1 j hj).2 h
          · have := hHs j hj; omega⟩
        have A' : MemB W' tb ab lv fv σ free root deg room many S := A.keep fun j hj => (kept j (.inr hj)).1
        have q1' := (kept b1 (.inl rfl)).1.trans q1
        obtain ⟨w2, W2, hw2, hW2, x2, X2, N2⟩ := put5q W' ⟨ls, la, hs', ha, sv⟩
        obtain ⟨d2, e2⟩ := blkc x2
        obtain ⟨d3, e3⟩ := blkc X2
        obtain ⟨d4, e4⟩ := blkc (N2.heap q1' fun h => h)
        simp only [encS] at d3 X2 hW2
        have PW := lowerBZ (A'.mod0 N2) hd hT hr (cs := ls) (ca := la) hkx
        rw [hnear] at PW
        obtain ⟨o, ho⟩ : ∃ o, R.head? = o := ⟨_, rfl⟩
        rw [ho] at PW
        unfold optS at PW
        have hsz' := g2.size
        replace ho := hid ho
        replace kept := hid kept
        replace hnear := hid hnear
        gi_wp2_with fail
        refine ⟨trivial, callsIn_wide.2 (PW.mono ?_)⟩
        rintro e w6 ⟨rfl, M6⟩
        clear PW d2 e2 d3 e3 d4 e4 s1 s2
        have X6 := M6.heap X2 fun h => h
        obtain ⟨d6, e6⟩ := blkc X6
        obtain ⟨W7, hW7, X7, M7⟩ := set5q w6 W'.heap.size ⟨ls, la, hs', ha, sv⟩ (oS o) X6
        have M26 := N2.trans' M6
        have hz6 := M26.size
        have fin : DownIX W b1 tb ab lv fv σ L J R.length (.pointer (some ⟨W'.heap.size, 0, none⟩)) (.bool o.isSome) W7 := by
          have hJ6 := hJ _ _ _ _ _ hJ' M26 fun _ h => h.elim
          have hnG : ¬ G' W'.heap.size := fun h => by have := (g1 _ h).2; omega
          refine ⟨pre ++ [⟨ls, la, hs', ha, sv⟩], R, W'.heap.size, G', by rw [eL.out]; simp, rfl, rfl, by rw [ho.out], by rw [ho.out]; exact X7, hJ _ _ _ _ _ hJ6 M7 (fun k hk => by rw [show k = W'.heap.size from hk]; exact ⟨by omega, hnG⟩), fun j hj => ⟨(M7.block j (by have := hHs j hj; omega) (fun e => by have := hHs j hj; have e : j = W'.heap.size := e; omega)).trans ((M26.block j (by have := hHs j hj; omega) fun h => h).trans (kept.out j hj).1), (kept.out j hj).2⟩, fun j hj => by have := (g1 j hj).2; have := M7.size; omega, by have := M7.size; omega, hnG, by omega⟩
        have hmeas : R.length < gk := by rw [hg.out]; simp
        replace fin := hid fin
        replace hmeas := hid hmeas
        clear X6 X7 M7 hw2 hW2 hJ' hsb' X2 N2 M6 M26
        gi_wp2_with fail
        go_roundg R.length
        case measure => exact hmeas.out
        case rel => exact fin.out
      · have hpre : pre ++ [⟨ls, la, hs', ha, sv⟩] <+: L.reverse := ⟨R, by rw [eL.out]; simp⟩
        replace hpre := hid hpre
        gi_wp2_with fail
        exact bodyPost_ret (results_none rfl _ _ _) rfl ⟨⟨_, rfl⟩, G', .inr ⟨_, hpre.out, hJ'⟩⟩
end
end Go.Proofs.Bo
