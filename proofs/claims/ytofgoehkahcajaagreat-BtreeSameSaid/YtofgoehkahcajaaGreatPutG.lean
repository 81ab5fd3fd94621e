import Derived.Test.YtofgoehkahcajaaGreatSpG
import Derived.Test.YtofgoehkahcajaaGreatSwap7
import Derived.Test.YtofgoehkahcajaaGreatTold7
import Derived.Deep.CutBlock
set_option linter.unusedVariables false
set_option linter.unusedSimpArgs false
namespace Go.Proofs.Bo
open Go Go.RowKit

/-- Where a way down stands, with its hole; the node is not full. -/
def At9 (d : Nat) (S : StB') (L : List Sg) (H lo0 r0 : Nat) (k : Int) (g r : Nat) : Prop :=
  ∃ (A B Li : List Sg) (Fl Fr F : List Nat) (lo : Nat) (l : List Sg) (ks : List Nat), L = A ++ (Li ++ B) ∧ Alls S (Fl ++ (F ++ Fr)) ∧ (∀ x ∈ A, ky x < k) ∧ (∀ x ∈ B, k + 1 ≤ ky x) ∧ Sub d S g lo r Li F ∧ Hole d S H lo0 r0 A B Fl Fr g lo r ∧ S r = some (l, ks) ∧ l.length ≤ 2 * d - 2

theorem has_sub {k : Int} {l L : List Sg} (h : l.Sublist L) (hk : hasK k L = false) : hasK k l = false := by
  unfold hasK at *
  rw [List.any_eq_false] at *
  exact fun x hx => hk x (h.subset hx)

theorem At9.down {d : Nat} {S : StB'} {L A B Li l : List Sg} {Fl Fr F ks : List Nat} {H lo0 r0 : Nat} {k : Int} {g r lo : Nat} (hs : Sub d S (g + 1) lo r Li F) (hi : S r = some (l, ks)) (hr : Srt L) (hL : L = A ++ (Li ++ B)) (hA : ∀ x ∈ A, ky x < k) (hB : ∀ x ∈ B, k + 1 ≤ ky x) (hno : hasK k L = false)
    (hH : Hole d S H lo0 r0 A B Fl Fr (g + 1) lo r) (hAll : Alls S (Fl ++ (F ++ Fr))) {kt : Nat} {lt : List Sg} {kk : List Nat} (h1 : ks[posL k l]? = some kt) (h2 : S kt = some (lt, kk)) (h3 : lt.length ≤ 2 * d - 2) : At9 d S L H lo0 r0 k g kt := by
  subst hL
  have hsL : Srt Li := (List.pairwise_append.1 (List.pairwise_append.1 hr).2.1).1
  have hsub : l.Sublist (A ++ (Li ++ B)) := ((hs.row hi).trans (List.sublist_append_left _ _)).trans (List.sublist_append_right _ _)
  have hsl : Srt l := hr.sublist hsub
  have hnot := drop_gt hsl (has_sub hsub hno)
  have hlo := (posL_lo (k := k) hsl).1
  obtain ⟨ht2, P, Q, L', F', F1, F2, hS', rfl, part, rfl, hH'⟩ := hs.hole hi hsL (posL k l) (posL_le k l)
  have hP := part.lt _ hlo
  have hQ := part.ge _ hnot
  rw [List.getElem?_eq_getElem ht2] at h1
  obtain rfl : ks[posL k l] = kt := by injection h1
  exact ⟨A ++ P, Q ++ B, L', Fl ++ (r :: F1), F2 ++ Fr, F', d - 1, lt, kk, by simp, by simpa using hAll, fun x hx => (List.mem_append.1 hx).elim (hA x) (hP x), fun x hx => (List.mem_append.1 hx).elim (hQ x) (hB x), hS', hH.down hH', h2, h3⟩

theorem posL_up {k : Int} {l : List Sg} (up : Sg) (t : Nat) : posL k (l.take t ++ up :: l.drop t) = posL k l ∨ posL k (l.take t ++ up :: l.drop t) = posL k l + 1 := by
  have e : posL k l = ((l.take t).filter (fun x => decide (ky x < k))).length + ((l.drop t).filter (fun x => decide (ky x < k))).length := by
    unfold posL
    rw [← List.length_append, ← List.filter_append, List.take_append_drop]
  unfold posL at *
  rw [e, List.filter_append, List.filter_cons]
  split
  · right; simp; omega
  · left; simp

/-- A segment is put into a leaf. -/
theorem At9.put {d : Nat} {S S' : StB'} {L : List Sg} {H lo0 r0 : Nat} {s : Sg} {r : Nat} {l : List Sg} {ks : List Nat} (h : At9 d S L H lo0 r0 (ky s) 0 r) (hr : Srt L) (hno : hasK (ky s) L = false) (hd : 1 ≤ d) (hi : S r = some (l, ks)) (h1 : S' r = some (l.take (posL (ky s) l) ++ s :: l.drop (posL (ky s) l), ks)) (h2 : ∀ x, x ≠ r → S' x = S x) (h0 : lo0 = 1 ∨ (H = 0 ∧ L = [])) :
    PT d S' r0 (insL s L) := by
  obtain ⟨A, B, Li, Fl, Fr, F, lo, l', ks', rfl, hAll, hA, hB, hS, hH, hSr, hl⟩ := h
  rw [hi] at hSr; cases hSr
  obtain ⟨q1, q2, q3, q4⟩ := hS
  rw [hi] at q1
  have e1 : l = Li := by injection q1 with q1; exact (Prod.mk.inj q1).1
  have e2 : ks = [] := by injection q1 with q1; exact (Prod.mk.inj q1).2
  subst e1 e2 q2
  have hsl : Srt l := (List.pairwise_append.1 (List.pairwise_append.1 hr).2.1).1
  have hno' : hasK (ky s) l = false := has_sub ((List.sublist_append_left _ _).trans (List.sublist_append_right _ _)) hno
  have hnot := drop_gt hsl hno'
  have hlo := (posL_lo (k := ky s) hsl).1
  have hlen : (l.take (posL (ky s) l) ++ s :: l.drop (posL (ky s) l)).length = l.length + 1 := by simp; have := posL_le (ky s) l; omega
  have s1 : Sub d S' 0 lo r (l.take (posL (ky s) l) ++ s :: l.drop (posL (ky s) l)) [r] := ⟨h1, rfl, by omega, by omega⟩
  obtain ⟨a1, a2⟩ := (Chg.mk (S := S) (S' := S') (F := [r]) (F' := [r]) (fun x hx _ => h2 x (by simpa using hx)) (by simp) (fun x hx => .inl hx) (fun x hx hx' => absurd hx hx')).all hAll (fun x hx => s1.live x hx)
  have s2 := hH S' _ _ a2 s1
  have hins : insL s (A ++ (l ++ B)) = A ++ ((l.take (posL (ky s) l) ++ s :: l.drop (posL (ky s) l)) ++ B) := by
    have e : A ++ (l ++ B) = (A ++ l.take (posL (ky s) l)) ++ (l.drop (posL (ky s) l) ++ B) := by
      rw [List.append_assoc, ← List.append_assoc (l.take _), List.take_append_drop]
    rw [e, ins_new]
    · simp
    · intro x hx
      rcases List.mem_append.1 hx with hx | hx
      · exact hA x hx
      · exact hlo x hx
    · intro x hx
      rcases List.mem_append.1 hx with hx | hx
      · have := hnot x hx; omega
      · have := hB x hx; omega
  rw [hins]
  rcases h0 with rfl | ⟨rfl, e⟩
  · exact .inr ⟨r0, H, _, rfl, s2, a1.1, a1.2⟩
  · obtain ⟨u1, u2, u3, u4⟩ := s2
    exact .inr ⟨r0, 0, _, rfl, ⟨u1, u2, by simp; omega, u4⟩, a1.1, a1.2⟩
theorem Sub.raise {d : Nat} {S : StB'} {h lo lo' i : Nat} {L l : List Sg} {ks : List Nat} {F : List Nat} (hs : Sub d S h lo i L F) (hl : S i = some (l, ks)) (e : lo' ≤ l.length) : Sub d S h lo' i L F := by
  cases h with
  | zero =>
    obtain ⟨h1, h2, h3, h4⟩ := hs
    rw [hl] at h1; cases h1
    exact ⟨hl, h2, e, h4⟩
  | succ h =>
    obtain ⟨l', cs, h1, h2, h3, h4⟩ := hs
    rw [hl] at h1; cases h1
    exact ⟨l, cs, hl, e, h3, h4⟩
/-- A new root above a root. -/
theorem Sub.above {d : Nat} {S S' : StB'} {h lo i j : Nat} {L l : List Sg} {ks : List Nat} {F : List Nat} (hs : Sub d S h lo i L F) (hl : S i = some (l, ks)) (e : d - 1 ≤ l.length) (hj : S' j = some ([], [i])) (hk : ∀ x ∈ F, S' x = S x) : Sub d S' (h + 1) 0 j L (j :: F) :=
  ⟨[], [⟨i, L, F⟩], hj, Nat.le_refl _, Nat.zero_le _, rfl, fun c hc => by
    have hc : c = ⟨i, L, F⟩ := by simpa using hc
    subst hc
    exact (hs.raise hl e).keep hk, by simp [inter, post], by simp⟩
theorem Alls.cons {S S' : StB'} {F : List Nat} (h : Alls S F) {j : Nat} (hj : S j = none) (h1 : S' j ≠ none) (h2 : ∀ x, x ≠ j → S' x = S x) : Alls S' (j :: F) := by
  refine ⟨List.nodup_cons.2 ⟨fun e => (h.2 j).1 e hj, h.1⟩, fun i => ?_⟩
  by_cases e : i = j
  · subst e; exact ⟨fun _ => h1, fun _ => by simp⟩
  · rw [h2 i e, ← h.2 i, List.mem_cons]
    exact ⟨fun h => h.resolve_left e, .inr⟩
theorem get_has (k : Int) (L : List Sg) : (getS k L).isSome = hasK k L := by
  unfold getS hasK
  rw [Bool.eq_iff_iff, List.find?_isSome, List.any_eq_true]
end Go.Proofs.Bo
set_option linter.unusedVariables false
set_option linter.unusedSimpArgs false
namespace Go.Proofs.Bo
open Go Go.RowKit

/-- A cut is stored in a new block. -/
theorem put2 (w : World) (cs ca : Int) : ∃ w0 W, w.alloc (.cells #[.int .i64 0, .int .i64 0] 26) = w0 ∧ (w0.setCell ⟨w.heap.size, 0, none⟩ (.int .i64 cs)).setCell ⟨w.heap.size, 1, none⟩ (.int .i64 ca) = W ∧
    w0.heap[w.heap.size]? = some (.cells #[.int .i64 0, .int .i64 0] 26 (0, 0)) ∧ W.heap[w.heap.size]? = some (.cells #[.int .i64 cs, .int .i64 ca] 26 (0, 0)) ∧ Mod (fun _ => False) w W := by
  have M0 : Mod (fun _ => False) w (w.alloc (.cells #[.int .i64 0, .int .i64 0] 26)) := (Mod.refl _ _).alloc _
  refine ⟨_, _, rfl, rfl, alloc_0 _ _, ?_, (M0.setCell (.inr (Nat.le_refl _)) _).setCell (.inr (Nat.le_refl _)) _⟩
  exact setL_whole (cs := [.int .i64 0, .int .i64 0]) (us := [.int .i64 cs, .int .i64 ca]) (alloc_0 _ _) rfl
theorem put5z (w : World) (s : Sg) : ∃ w0 W, w.alloc (.cells #[.int .i64 0, .int .i64 0, .int .i64 0, .int .i64 0, .int .i64 0] 39) = w0 ∧
    ((((w0.setCell ⟨w.heap.size, 0, none⟩ (.int .i64 s.ls)).setCell ⟨w.heap.size, 1, none⟩ (.int .i64 s.la)).setCell ⟨w.heap.size, 2, none⟩ (.int .i64 s.hs)).setCell ⟨w.heap.size, 3, none⟩ (.int .i64 s.ha)).setCell ⟨w.heap.size, 4, none⟩ (.int .i64 s.v) = W ∧
    w0.heap[w.heap.size]? = some (.cells #[.int .i64 0, .int .i64 0, .int .i64 0, .int .i64 0, .int .i64 0] 39 (0, 0)) ∧
    W.heap[w.heap.size]? = some (.cells (encS s).toArray 39 (0, 0)) ∧ Mod (fun _ => False) w W := by
  have M0 : Mod (fun _ => False) w (w.alloc (.cells #[.int .i64 0, .int .i64 0, .int .i64 0, .int .i64 0, .int .i64 0] 39)) := (Mod.refl _ _).alloc _
  exact ⟨_, _, rfl, rfl, alloc_0 _ _, setL_whole (cs := [.int .i64 0, .int .i64 0, .int .i64 0, .int .i64 0, .int .i64 0]) (us := encS s) (alloc_0 _ _) rfl,
    ((((M0.setCell (.inr (Nat.le_refl _)) _).setCell (.inr (Nat.le_refl _)) _).setCell (.inr (Nat.le_refl _)) _).setCell (.inr (Nat.le_refl _)) _).setCell (.inr (Nat.le_refl _)) _⟩

section
variable {w w' : World} {tb ab : Nat} {lv fv : Value} {σ : List (Option Bn)} {free : List Int} {root room many : Int} {S : StB} {d : Nat} {L : List Sg}

def PutQ7 (w : World) (tb ab : Nat) (lv fv : Value) (σ : List (Option Bn)) (d : Nat) (room many' : Int) (L' : List Sg) (w' : World) : Prop :=
  ∃ (S' : StB) (lv' fv' : Value) (σ' : List (Option Bn)) (free' : List Int) (root' : Int), MemB w' tb ab lv' fv' σ' free' root' d room many' S' ∧ PT d S' root' L' ∧ Mod (FootB tb ab lv fv σ) w w' ∧ (∀ x, FootB tb ab lv' fv' σ' x → FootB tb ab lv fv σ x ∨ w.heap.size ≤ x)

def PutS7 (wb : World) (tb ab : Nat) (lv fv : Value) (σ : List (Option Bn)) (d : Nat) (room many' : Int) (L : List Sg) (H lo0 r0 : Nat) (k : Int) (g r : Nat) (W : World) : Prop :=
  ∃ (S' : StB) (lv' fv' : Value) (σ' : List (Option Bn)) (free' : List Int), MemB W tb ab lv' fv' σ' free' (r0 : Int) d room many' S' ∧ At9 d S' L H lo0 r0 k g r ∧ Mod (FootB tb ab lv fv σ) wb W ∧ (∀ x, FootB tb ab lv' fv' σ' x → FootB tb ab lv fv σ x ∨ wb.heap.size ≤ x)

set_option maxHeartbeats 4000000 in
set_option maxRecDepth 100000 in
theorem putBZ_arg1 (h : MemB w tb ab lv fv σ free root (d : Int) room many S) (hd : 2 ≤ d ∧ d ≤ 64) (hT : PT d S root L) (hr : Row L) (s : Sg) (hf : fit64 s.la) (hs : ¬ (canS s.ls s.la = s.ls ∧ canA s.ls s.la = s.la)) :
    Calls Tryz.prog 21 #[.pointer (some ⟨tb, 0, none⟩), .agg (encS s).toArray] w fun e w' => e = .returned (.int .i64 1) ∧ Mod (fun _ => False) w w' := by
  obtain ⟨w0, hw0, b0, M0⟩ := boxS w s
  obtain ⟨d0, e0⟩ := blkc b0
  obtain ⟨wz, wa, hwz, hwa, bz, ba, Ma⟩ := put2 w0 s.ls s.la
  obtain ⟨dz, ez⟩ := blkc bz
  obtain ⟨d1, e1⟩ := blkc ba
  have m1 := (h.mod0 M0).mod0 Ma
  have HG := getBZ m1 hd.2 hT hr (cs := s.ls) (ca := s.la) hf
  have hgh := get_has (kx s.ls s.la) L
  obtain ⟨o, ho⟩ : ∃ o, getS (kx s.ls s.la) L = o := ⟨_, rfl⟩
  rw [ho] at HG hgh
  unfold optS at HG
  rw [hgh] at HG
  have hky : kx s.ls s.la = ky s := rfl
  rw [hky] at HG
  generalize oS o = so at HG
  have hs0 := M0.size
  have hsa := Ma.size
  have hb0 := blkl b0
  have hba := blkl ba
  replace b0 := hid (Ma.heap b0 fun h => h)
  replace ba := hid ba
  replace M0 := M0.trans' Ma
  clear hgh ho Ma hky
  dsimp only [encS]
  go_enter Tryz.func21, Tryz.ntmps21
  go_upto_region 3 with (go_at_call 50; refine HG.mono ?_; rintro e w1 ⟨rfl, M1⟩; obtain ⟨u1, W1, g1, k1, x1, X1, N1⟩ := put5z w1 so; obtain ⟨d2, e2⟩ := blkc x1)
  have hs1 := M1.size
  have hs2 := N1.size
  replace b0 := N1.heap (M1.heap b0.out fun h => h) fun h => h
  replace ba := N1.heap (M1.heap ba.out fun h => h) fun h => h
  replace M0 := (M0.trans' M1).trans' N1
  clear d0 e0 d1 e1 dz ez d2 e2 hwz hwa hw0 g1 k1 x1 X1 N1 M1 HG m1 bz
  have m2 := h.mod0 M0
  have HR := hid (fun w1 (M : CM W1 w1) => (rightZ s.ls s.la w1).mono fun e w' ⟨h1, h2⟩ => (⟨h1, Mod.trans' M h2⟩ : e = Ending.returned (.bool (decide (canS s.ls s.la = s.ls ∧ canA s.ls s.la = s.la))) ∧ CM W1 w'))
  have HL := hid (fun w1 (M : CM W1 w1) => (lastZ w1).mono fun e w' ⟨h1, h2⟩ => (⟨h1, Mod.trans' M h2⟩ : e = Ending.returned (.agg #[.int .i64 1, .int .i64 0]) ∧ CM W1 w'))
  replace ba := hid ba
  replace b0 := hid b0
  have HB := hid (fun w1 (M : CM W1 w1) => blkc (Mod.heap M ba.out fun h => h))
  rw [decide_eq_false hs] at HR
  go_cut [23] (fun v W => v = .bool true ∧ Mod (fun _ => False) W1 W)
  case first =>
    refine cq_region (by kernel_rfl) (by kernel_rfl) ?_
    iterate 9 (refine wpQuiet_step (fun K hK => ?_); go_simp; first | (refine hK _ ?_; clear hK K) | (refine ⟨_, fun _ _ => rfl, hK _ ?_⟩; clear hK K) | (apply Exists.intro; refine ⟨fun wq hq => ?_, hK _ ?_⟩; (focus (first | (go_at_call 28; exact HR.out _ hq) | (go_at_call 29; exact HL.out _ hq) | (obtain ⟨d1, e1⟩ := HB.out _ hq; go_simp; try with_reducible rfl))); clear hK K))
    refine wpQuiet_nil ?_
    intro w1 M1
    go_wp2_with fail
    go_meet
    exact ⟨rfl, M1⟩
  case rest =>
    obtain ⟨rfl, M1⟩ := hcut
    clear HR HL HB
    go_wp2_with fail
    go_ret
    exact ⟨rfl, M0.trans' M1⟩

set_option maxHeartbeats 4000000 in
set_option maxRecDepth 100000 in
theorem putBZ_arg2 (h : MemB w tb ab lv fv σ free root (d : Int) room many S) (hd : 2 ≤ d ∧ d ≤ 64) (hT : PT d S root L) (hr : Row L) (s : Sg) (hf : fit64 s.la) (hs : s.ls = 1 ∧ s.la = 0) :
    Calls Tryz.prog 21 #[.pointer (some ⟨tb, 0, none⟩), .agg (encS s).toArray] w fun e w' => e = .returned (.int .i64 1) ∧ Mod (fun _ => False) w w' := by
  obtain ⟨ls, la, hs', ha', v'⟩ := s
  obtain ⟨rfl, rfl⟩ := hs
  obtain ⟨w0, hw0, b0, M0⟩ := boxS w ⟨1, 0, hs', ha', v'⟩
  obtain ⟨d0, e0⟩ := blkc b0
  obtain ⟨wz, wa, hwz, hwa, bz, ba, Ma⟩ := put2 w0 1 0
  obtain ⟨dz, ez⟩ := blkc bz
  obtain ⟨d1, e1⟩ := blkc ba
  have m1 := (h.mod0 M0).mod0 Ma
  have HG := getBZ m1 hd.2 hT hr (cs := 1) (ca := 0) hf
  have hgh := get_has (kx 1 0) L
  obtain ⟨o, ho⟩ : ∃ o, getS (kx 1 0) L = o := ⟨_, rfl⟩
  rw [ho] at HG hgh
  unfold optS at HG
  rw [hgh] at HG
  have hky : kx 1 0 = ky ⟨1, 0, hs', ha', v'⟩ := rfl
  rw [hky] at HG
  generalize oS o = so at HG
  have hs0 := M0.size
  have hsa := Ma.size
  have hb0 := blkl b0
  have hba := blkl ba
  replace b0 := hid (Ma.heap b0 fun h => h)
  replace ba := hid ba
  replace M0 := M0.trans' Ma
  clear hgh ho Ma hky
  dsimp only [encS]
  go_enter Tryz.func21, Tryz.ntmps21
  go_upto_region 3 with (go_at_call 50; refine HG.mono ?_; rintro e w1 ⟨rfl, M1⟩; obtain ⟨u1, W1, g1, k1, x1, X1, N1⟩ := put5z w1 so; obtain ⟨d2, e2⟩ := blkc x1)
  have hs1 := M1.size
  have hs2 := N1.size
  replace b0 := N1.heap (M1.heap b0.out fun h => h) fun h => h
  replace ba := N1.heap (M1.heap ba.out fun h => h) fun h => h
  replace M0 := (M0.trans' M1).trans' N1
  clear d0 e0 d1 e1 dz ez d2 e2 hwz hwa hw0 g1 k1 x1 X1 N1 M1 HG m1 bz
  have m2 := h.mod0 M0
  have HR := hid (fun w1 (M : CM W1 w1) => (rightZ 1 0 w1).mono fun e w' ⟨h1, h2⟩ => (⟨h1, Mod.trans' M h2⟩ : e = Ending.returned (.bool (decide (canS 1 0 = 1 ∧ canA 1 0 = 0))) ∧ CM W1 w'))
  have HL := hid (fun w1 (M : CM W1 w1) => (lastZ w1).mono fun e w' ⟨h1, h2⟩ => (⟨h1, Mod.trans' M h2⟩ : e = Ending.returned (.agg #[.int .i64 1, .int .i64 0]) ∧ CM W1 w'))
  replace ba := hid ba
  replace b0 := hid b0
  have HB := hid (fun w1 (M : CM W1 w1) => blkc (Mod.heap M ba.out fun h => h))
  rw [decide_eq_true (by decide)] at HR
  go_cut [23] (fun v W => v = .bool true ∧ Mod (fun _ => False) W1 W)
  case first =>
    refine cq_region (by kernel_rfl) (by kernel_rfl) ?_
    iterate 9 (refine wpQuiet_step (fun K hK => ?_); go_simp; first | (refine hK _ ?_; clear hK K) | (refine ⟨_, fun _ _ => rfl, hK _ ?_⟩; clear hK K) | (apply Exists.intro; refine ⟨fun wq hq => ?_, hK _ ?_⟩; (focus (first | (go_at_call 28; exact HR.out _ hq) | (go_at_call 29; exact HL.out _ hq) | (obtain ⟨d1, e1⟩ := HB.out _ hq; go_simp; try with_reducible rfl))); clear hK K))
    refine wpQuiet_nil ?_
    intro w1 M1
    go_wp2_with fail
    go_meet
    exact ⟨rfl, M1⟩
  case rest =>
    obtain ⟨rfl, M1⟩ := hcut
    clear HR HL HB
    go_wp2_with fail
    go_ret
    exact ⟨rfl, M0.trans' M1⟩

set_option maxHeartbeats 4000000 in
set_option maxRecDepth 100000 in
theorem putBZ_old (h : MemB w tb ab lv fv σ free root (d : Int) room many S) (hd : 2 ≤ d ∧ d ≤ 64) (hT : PT d S root L) (hr : Row L) (s : Sg) (hf : fit64 s.la) (hk : okKey s.ls s.la) (ho : hasK (ky s) L = true) :
    Calls Tryz.prog 21 #[.pointer (some ⟨tb, 0, none⟩), .agg (encS s).toArray] w fun e w' => e = .returned (.int .i64 0) ∧ PutQ7 w tb ab lv fv σ d room many (insL s L) w' := by
  obtain ⟨w0, hw0, b0, M0⟩ := boxS w s
  obtain ⟨d0, e0⟩ := blkc b0
  obtain ⟨wz, wa, hwz, hwa, bz, ba, Ma⟩ := put2 w0 s.ls s.la
  obtain ⟨dz, ez⟩ := blkc bz
  obtain ⟨d1, e1⟩ := blkc ba
  have m1 := (h.mod0 M0).mod0 Ma
  have HG := getBZ m1 hd.2 hT hr (cs := s.ls) (ca := s.la) hf
  have hgh := get_has (kx s.ls s.la) L
  obtain ⟨o, ho⟩ : ∃ o, getS (kx s.ls s.la) L = o := ⟨_, rfl⟩
  rw [ho] at HG hgh
  unfold optS at HG
  rw [hgh] at HG
  have hky : kx s.ls s.la = ky s := rfl
  rw [hky] at HG
  generalize oS o = so at HG
  have hs0 := M0.size
  have hsa := Ma.size
  have hb0 := blkl b0
  have hba := blkl ba
  replace b0 := hid (Ma.heap b0 fun h => h)
  replace ba := hid ba
  replace M0 := M0.trans' Ma
  clear hgh ho Ma hky
  dsimp only [encS]
  go_enter Tryz.func21, Tryz.ntmps21
  go_upto_region 3 with (go_at_call 50; refine HG.mono ?_; rintro e w1 ⟨rfl, M1⟩; obtain ⟨u1, W1, g1, k1, x1, X1, N1⟩ := put5z w1 so; obtain ⟨d2, e2⟩ := blkc x1)
  have hs1 := M1.size
  have hs2 := N1.size
  replace b0 := N1.heap (M1.heap b0.out fun h => h) fun h => h
  replace ba := N1.heap (M1.heap ba.out fun h => h) fun h => h
  replace M0 := (M0.trans' M1).trans' N1
  clear d0 e0 d1 e1 dz ez d2 e2 hwz hwa hw0 g1 k1 x1 X1 N1 M1 HG m1 bz
  have m2 := h.mod0 M0
  have HR := hid (fun w1 (M : CM W1 w1) => (rightZ s.ls s.la w1).mono fun e w' ⟨h1, h2⟩ => (⟨h1, Mod.trans' M h2⟩ : e = Ending.returned (.bool (decide (canS s.ls s.la = s.ls ∧ canA s.ls s.la = s.la))) ∧ CM W1 w'))
  have HL := hid (fun w1 (M : CM W1 w1) => (lastZ w1).mono fun e w' ⟨h1, h2⟩ => (⟨h1, Mod.trans' M h2⟩ : e = Ending.returned (.agg #[.int .i64 1, .int .i64 0]) ∧ CM W1 w'))
  replace ba := hid ba
  replace b0 := hid b0
  have HB := hid (fun w1 (M : CM W1 w1) => blkc (Mod.heap M ba.out fun h => h))
  rw [decide_eq_true ⟨hk.1, hk.2.1⟩] at HR
  have hx1 : (s.ls == 1) = false := by have := hk.2.2; simp; omega
  go_cut [23] (fun v W => v = .bool false ∧ Mod (fun _ => False) W1 W)
  case first =>
    refine cq_region (by kernel_rfl) (by kernel_rfl) ?_
    iterate 9 (refine wpQuiet_step (fun K hK => ?_); go_simp; first | (refine hK _ ?_; clear hK K) | (refine ⟨_, fun _ _ => rfl, hK _ ?_⟩; clear hK K) | (apply Exists.intro; refine ⟨fun wq hq => ?_, hK _ ?_⟩; (focus (first | (go_at_call 28; exact HR.out _ hq) | (go_at_call 29; exact HL.out _ hq) | (obtain ⟨d1, e1⟩ := HB.out _ hq; go_simp; try with_reducible rfl))); clear hK K))
    refine wpQuiet_nil ?_
    intro w1 M1
    go_wp2_with fail
    go_meet
    exact ⟨rfl, M1⟩
  case rest =>
    obtain ⟨rfl, M1⟩ := hcut
    clear HR HL HB
    have hs2 := hid (M0.trans' M1).size
    have PS := swapBZ (m2.mod0 M1) hd.2 hT hr s hf ho
    obtain ⟨d0, e0⟩ := blkc (M1.heap b0.out fun h => h)
    clear hx1
    go_wp2_with fail
    refine PS.mono ?_; rintro e w2 ⟨rfl, S', m3, p3, M3⟩
    go_wp2_with fail
    go_ret
    exact ⟨rfl, S', _, _, _, _, _, m3, p3, ((M0.trans' M1).mono fun _ h => h.elim).trans' M3, fun x hx => .inl hx⟩

set_option maxHeartbeats 4000000 in
set_option maxRecDepth 100000 in
theorem putBZ_full (h : MemB w tb ab lv fv σ free root (d : Int) room many S) (hd : 2 ≤ d ∧ d ≤ 64) (hT : PT d S root L) (hr : Row L) (s : Sg) (hf : fit64 s.la) (hk : okKey s.ls s.la) (ho : hasK (ky s) L = false) (hm : room ≤ many) :
    Calls Tryz.prog 21 #[.pointer (some ⟨tb, 0, none⟩), .agg (encS s).toArray] w fun e w' => e = .returned (.int .i64 50) ∧ Mod (fun _ => False) w w' := by
  obtain ⟨w0, hw0, b0, M0⟩ := boxS w s
  obtain ⟨d0, e0⟩ := blkc b0
  obtain ⟨wz, wa, hwz, hwa, bz, ba, Ma⟩ := put2 w0 s.ls s.la
  obtain ⟨dz, ez⟩ := blkc bz
  obtain ⟨d1, e1⟩ := blkc ba
  have m1 := (h.mod0 M0).mod0 Ma
  have HG := getBZ m1 hd.2 hT hr (cs := s.ls) (ca := s.la) hf
  have hgh := get_has (kx s.ls s.la) L
  obtain ⟨o, ho⟩ : ∃ o, getS (kx s.ls s.la) L = o := ⟨_, rfl⟩
  rw [ho] at HG hgh
  unfold optS at HG
  rw [hgh] at HG
  have hky : kx s.ls s.la = ky s := rfl
  rw [hky] at HG
  generalize oS o = so at HG
  have hs0 := M0.size
  have hsa := Ma.size
  have hb0 := blkl b0
  have hba := blkl ba
  replace b0 := hid (Ma.heap b0 fun h => h)
  replace ba := hid ba
  replace M0 := M0.trans' Ma
  clear hgh ho Ma hky
  dsimp only [encS]
  go_enter Tryz.func21, Tryz.ntmps21
  go_upto_region 3 with (go_at_call 50; refine HG.mono ?_; rintro e w1 ⟨rfl, M1⟩; obtain ⟨u1, W1, g1, k1, x1, X1, N1⟩ := put5z w1 so; obtain ⟨d2, e2⟩ := blkc x1)
  have hs1 := M1.size
  have hs2 := N1.size
  replace b0 := N1.heap (M1.heap b0.out fun h => h) fun h => h
  replace ba := N1.heap (M1.heap ba.out fun h => h) fun h => h
  replace M0 := (M0.trans' M1).trans' N1
  clear d0 e0 d1 e1 dz ez d2 e2 hwz hwa hw0 g1 k1 x1 X1 N1 M1 HG m1 bz
  have m2 := h.mod0 M0
  have HR := hid (fun w1 (M : CM W1 w1) => (rightZ s.ls s.la w1).mono fun e w' ⟨h1, h2⟩ => (⟨h1, Mod.trans' M h2⟩ : e = Ending.returned (.bool (decide (canS s.ls s.la = s.ls ∧ canA s.ls s.la = s.la))) ∧ CM W1 w'))
  have HL := hid (fun w1 (M : CM W1 w1) => (lastZ w1).mono fun e w' ⟨h1, h2⟩ => (⟨h1, Mod.trans' M h2⟩ : e = Ending.returned (.agg #[.int .i64 1, .int .i64 0]) ∧ CM W1 w'))
  replace ba := hid ba
  replace b0 := hid b0
  have HB := hid (fun w1 (M : CM W1 w1) => blkc (Mod.heap M ba.out fun h => h))
  rw [decide_eq_true ⟨hk.1, hk.2.1⟩] at HR
  have hx1 : (s.ls == 1) = false := by have := hk.2.2; simp; omega
  go_cut [23] (fun v W => v = .bool false ∧ Mod (fun _ => False) W1 W)
  case first =>
    refine cq_region (by kernel_rfl) (by kernel_rfl) ?_
    iterate 9 (refine wpQuiet_step (fun K hK => ?_); go_simp; first | (refine hK _ ?_; clear hK K) | (refine ⟨_, fun _ _ => rfl, hK _ ?_⟩; clear hK K) | (apply Exists.intro; refine ⟨fun wq hq => ?_, hK _ ?_⟩; (focus (first | (go_at_call 28; exact HR.out _ hq) | (go_at_call 29; exact HL.out _ hq) | (obtain ⟨d1, e1⟩ := HB.out _ hq; go_simp; try with_reducible rfl))); clear hK K))
    refine wpQuiet_nil ?_
    intro w1 M1
    go_wp2_with fail
    go_meet
    exact ⟨rfl, M1⟩
  case rest =>
    obtain ⟨rfl, M1⟩ := hcut
    clear HR HL HB
    have HT := hid (fun W (M : CM wc W) => (blkc ((m2.mod0 M1).mod0 M).t))
    obtain ⟨t0, t1⟩ := HT.out _ (Mod.refl _ _)
    have hge : decide (many ≥ room) = true := by simpa using hm
    clear hx1
    go_wp2_with fail
    refine cq_region (by kernel_rfl) (by kernel_rfl) ?_
    iterate 10 (refine wpQuiet_step (fun K hK => ?_); go_simp; first | (refine hK _ ?_; clear hK K) | (refine ⟨_, fun _ _ => rfl, hK _ ?_⟩; clear hK K) | (apply Exists.intro; refine ⟨fun wq hq => ?_, hK _ ?_⟩; (focus (first  | (obtain ⟨t0, t1⟩ := HT.out _ hq; go_simp; try with_reducible rfl))); clear hK K))
    refine wpQuiet_nil ?_
    intro w2 M2
    go_wp2_with fail
    go_ret
    exact ⟨rfl, M0.trans' (M1.trans' M2)⟩
end
end Go.Proofs.Bo
