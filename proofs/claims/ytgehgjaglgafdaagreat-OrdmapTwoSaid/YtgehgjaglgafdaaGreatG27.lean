import Derived.Test.YtgehgjaglgafdaaGreatG22
import Derived.Test.YtgehgjaglgafdaaGreatG21
import Derived.Test.YtgehgjaglgafdaaGreatG26
set_option linter.unusedVariables false
set_option linter.unusedSimpArgs false
namespace Go.Proofs.Bo
open Go Go.RowKit
theorem has_mid {k : Int} {P M Q : List Sg} (h1 : ∀ x ∈ P, ky x < k) (h2 : ∀ x ∈ Q, k + 1 ≤ ky x) : hasK k (P ++ (M ++ Q)) = hasK k M := by
 unfold hasK
 rw [List.any_append, List.any_append, List.any_eq_false.2 (by intro x hx; have := h1 x hx; simp; omega), show Q.any (fun x => decide (ky x = k)) = false from List.any_eq_false.2 (by intro x hx; have := h2 x hx; simp; omega)]
 simp
theorem drop_gt {k : Int} {l : List Sg} (h : Srt l) (hk : hasK k l = false) : ∀ x ∈ l.drop (posL k l), k + 1 ≤ ky x := by
 intro x hx
 have := (posL_lo (k := k) h).2 x hx
 have : ky x ≠ k := fun e => by
  have : hasK k l = true := by unfold hasK; exact List.any_eq_true.2 ⟨x, List.mem_of_mem_drop hx, by simpa using e⟩
  rw [hk] at this; cases this
 omega
section
variable {w w' : World} {tb ab : Nat} {lv fv : Value} {σ : List (Option Bn)} {free : List Int} {root deg room many : Int} {S : StB} {d : Nat} {L : List Sg}
def At8 (d : Nat) (S : StB) (L : List Sg) (F0 : List Nat) (H r0 : Nat) (k : Int) (g : Nat) (r : Nat) : Prop :=
 ∃ (A B Li : List Sg) (Fl Fr F : List Nat) (lo : Nat), L = A ++ (Li ++ B) ∧ F0 = Fl ++ (F ++ Fr) ∧ (∀ x ∈ A, ky x < k) ∧ (∀ x ∈ B, k + 1 ≤ ky x) ∧ Sub d S g lo r Li F ∧ Hole d S H 1 r0 A B Fl Fr g lo r
def SwapX (d : Nat) (S : StB) (w : World) (s : Sg) (L : List Sg) (F0 : List Nat) (H r0 : Nat) (g : Nat) (i : Value) (W : World) : Prop :=
 ∃ r : Nat, i = .int .i64 r ∧ At8 d S L F0 H r0 (ky s) g r ∧ Mod (fun _ => False) w W ∧ W.heap[w.heap.size]? = some (.cells #[.int .i64 s.ls, .int .i64 s.la, .int .i64 s.hs, .int .i64 s.ha, .int .i64 s.v] 38 (0, 0))
set_option maxHeartbeats 4000000 in
set_option maxRecDepth 100000 in
theorem swapBZ (h : MemB w tb ab lv fv σ free root deg room many S) (hd : d ≤ 64) (hT : PT d S root L) (hr : Row L) (s : Sg) (hf : fit64 s.la) (hk : hasK (ky s) L = true) :
  Calls Tryz.prog 123 #[.pointer (some ⟨tb, 0, none⟩), .agg #[.int .i64 s.ls, .int .i64 s.la, .int .i64 s.hs, .int .i64 s.ha, .int .i64 s.v]] w fun e w' => e = .returned (.tuple #[]) ∧
   ∃ S', MemB w' tb ab lv fv σ free root deg room many S' ∧ PT d S' root (insL s L) ∧ Mod (FootB tb ab lv fv σ) w w' := by
 rcases hT with ⟨_, rfl, _⟩ | ⟨r0, H, F0, rfl, hS0, hnd, hall⟩
 ·simp [hasK] at hk
 obtain ⟨w0, hw0, b0, M0⟩ := boxS w s
 obtain ⟨d0, e0⟩ := blkc b0
 have h1 := h.mod0 M0
 obtain ⟨t0, t1⟩ := blkc h1.t
 have hAt := hid (show At8 d S L F0 H r0 (ky s) H r0 from ⟨[], [], L, [], [], F0, 1, by simp, by simp, by simp, by simp, hS0, Hole.root d S H 1 r0⟩)
 replace hnd := hid hnd
 replace hall := hid hall
 clear hS0
 go_enter Tryz.func123, Tryz.ntmps123
 go_wp2_with fail
 go_loopg [4] H (fun g i W => SwapX d S w s L F0 H r0 g i W)
 case atStart => exact ⟨r0, rfl, hAt.out, M0, b0⟩
 case round =>
  clear hAt b0 M0 t0 t1 d0 e0 h1 hw0
  obtain ⟨r, rfl, ⟨A, B, Li, Fl, Fr, F, lo, rfl, rfl, hA, hB, hS, hH⟩, M, c0⟩ := hrel
  rw [has_mid hA hB] at hk
  obtain ⟨l, ks, hSr, hl1, hl2, hks⟩ := hS.node
  have h1 := h.mod0 M
  obtain ⟨b, hb, hn⟩ := h1.live hSr
  obtain ⟨lb, c, rfl⟩ := h1.lbS hb
  have hsL : Srt Li := (List.pairwise_append.1 (List.pairwise_append.1 hr.1).2.1).1
  have hsub : l.Sublist (A ++ (Li ++ B)) := ((hS.row hSr).trans (List.sublist_append_left _ _)).trans (List.sublist_append_right _ _)
  have hrl : Row l := hr.sub hsub
  have PA := atM h1 hb
  have PP := placeM h1 hb hn hrl (by omega) s.ls s.la hf
  obtain ⟨q0, q1, q2, q3⟩ := h1.cells hb
  obtain ⟨s0, s1⟩ := blkc c0
  have hr0 : ((r : Int) != -1) = true := by simp
  have hpl := posL_le (ky s) l
  have hky : kx s.ls s.la = ky s := rfl
  rw [hky] at PP
  have hnb := hn.ln
  have hnk := hn.kn
  have HB := hid (fun (W : World) (m : Mod (fun _ => False) wr W) => And.intro (Mod.heap m c0 fun h => h) (And.intro (h1.mod0 m) (hn.keep fun x k e => m.block k (hn.lt e) fun h => h)))
  cases hK : hasK (ky s) l
  ·have hnot := drop_gt hrl.1 hK
   have hlo := (posL_lo (k := ky s) hrl.1).1
   cases gk with
   | zero =>
    exfalso
    obtain ⟨_, e, _⟩ := hS.leaf hSr 0
    rw [e, hK] at hk
    cases hk
   | succ g =>
    obtain ⟨ht2, P, Q, L', F', F1, F2, hS', rfl, part, rfl, hH'⟩ := hS.hole hSr hsL (posL (ky s) l) hpl
    have hP := part.lt _ hlo
    have hQ := part.ge _ hnot
    have fin : ∀ W, Mod (fun _ => False) wr W → SwapX d S w s (A ++ ((P ++ (L' ++ Q)) ++ B)) (Fl ++ (((r :: F1) ++ (F' ++ F2)) ++ Fr)) H r0 g (.int .i64 (ks[posL (ky s) l] : Int)) W := fun W m =>
     ⟨_, rfl, ⟨A ++ P, Q ++ B, L', Fl ++ (r :: F1), F2 ++ Fr, F', d - 1, by simp, by simp, fun x hx => (List.mem_append.1 hx).elim (hA x) (hP x), fun x hx => (List.mem_append.1 hx).elim (hQ x) (hB x), hS', hH.down hH'⟩, M.trans' m, m.heap c0 fun h => h⟩
    replace fin := hid fin
    rw [hK] at PP
    have HKC := hid (fun (W : World) (m : Mod (fun _ => False) wr W) => ((HB.out W m).2.2).kidC ht2)
    have HCL := hid (fun (W : World) (m : Mod (fun _ => False) wr W) => ((HB.out W m).2.1).cells hb)
    clear hP hQ hA hB hS hH hH' hS' part hk hr hsL hsub hrl hnot hlo hall hnd h h1 hn hks
    generalize hpk : posL (ky s) l = k at *
    go_wp2_with fail
    refine PA.mono ?_; rintro e w2 ⟨rfl, hw2⟩; subst hw2
    go_wp2_with fail
    refine PP.mono ?_; rintro e w3 ⟨rfl, M3⟩
    obtain ⟨y0, y1, y2, y3⟩ := HCL.out _ M3
    obtain ⟨g2, hgk, yk⟩ := HKC.out _ M3
    rw [hnk, hgk] at y1
    have hkI : (k : Int) < ks.length := by omega
    replace fin := hid (fin.out _ M3)
    clear q0 q1 q2 q3 s0 s1
    go_wp2_with fail
    go_roundg g
    case measure => omega
    case rel => exact fin.out
  ·obtain ⟨hp, hpe⟩ := (hasK_pos hrl.1).1 hK
   rw [hK] at PP
   have hres : ∃ (P Q : List Sg), A ++ (Li ++ B) = P ++ l[posL (ky s) l] :: Q ∧ PT d (S.set r (some (l.set (posL (ky s) l) s, ks))) r0 (P ++ s :: Q) := by
    have hndF : F.Nodup := (List.nodup_append.1 (List.nodup_append.1 hnd.out).2.1).1
    obtain ⟨P, Q, e, hsub2⟩ := hS.swap (S' := S.set r (some (l.set (posL (ky s) l) s, ks))) hSr hndF hp s (StB.set_self ..) (fun j hj => StB.set_ne _ _ hj)
    subst e
    have hne : ∀ j ∈ Fl ++ Fr, j ≠ r := by
     rintro j hj rfl
     have hn0 := hnd.out
     have hm := hS.mem
     rcases List.mem_append.1 hj with hj | hj
     ·exact (List.nodup_append.1 hn0).2.2 j hj j (by simp [hm]) rfl
     ·exact (List.nodup_append.1 (List.nodup_append.1 hn0).2.1).2.2 j hm j hj rfl
    have hroot := hH _ _ _ (fun j hj => StB.set_ne _ _ (hne j hj)) hsub2
    refine ⟨A ++ P, Q ++ B, by simp, .inr ⟨r0, H, _, rfl, by simpa using hroot, hnd.out, fun i => ?_⟩⟩
    by_cases hi : i = r
    ·subst hi
     rw [StB.set_self]
     exact ⟨fun _ => by simp, fun _ => by simp [hS.mem]⟩
    ·rw [StB.set_ne _ _ hi]
     exact hall.out i
   have hins : ∃ (P Q : List Sg), PT d (S.set r (some (l.set (posL (ky s) l) s, ks))) r0 (P ++ s :: Q) ∧ insL s (A ++ (Li ++ B)) = P ++ s :: Q := by
    obtain ⟨P, Q, e, hpt⟩ := hres
    refine ⟨P, Q, hpt, ?_⟩
    have hr2 := hr.1
    rw [e] at hr2 ⊢
    exact ins_old hpe (fun x hx => by have := hr2.app.1 x hx; omega) (fun x hx => by have := hr2.app.2 x hx; omega)
   have HF := hid (fun (W : World) (m : Mod (fun _ => False) wr W) (hx : MemB W tb ab (.slice (some ⟨lb, 0, none⟩) σ.length c) fv σ free (r0 : Int) deg room many S) (hy : NodeB W b l ks) => fun (g : Nat) (hg : b.la = some ⟨g, 0, none⟩) => by
    obtain ⟨z1, z2⟩ := hy.put5 hp s hg
    obtain ⟨z3, z4⟩ := hx.inRow hb z2 z1
    exact (And.intro z3 ((m.mono (T := FootB tb ab (.slice (some ⟨lb, 0, none⟩) σ.length c) fv σ) fun _ h => h.elim).trans' z4)))
   replace hins := hid hins
   generalize hpk : posL (ky s) l = k at *
   have HC := hid (fun (W : World) (m : CM wr W) => And.intro (blkc (Mod.heap m c0 fun h => h)) (((HB.out W m).2.1).cells hb))
   have HD := hid (fun (W : World) (m : CM wr W) => And.intro (HB.out W m).2.1 (HB.out W m).2.2)
   have hkI : (k : Int) < l.length := by omega
   obtain ⟨g2, hg2, -⟩ := hn.segC hp
   clear hres hpe hk hr hsL hsub hrl hH hA hB hS hnd hall h h1 HB hks
   go_wp2_with fail
   refine PA.mono ?_; rintro e w2 ⟨rfl, hw2⟩; subst hw2
   go_wp2_with fail
   refine PP.mono ?_; rintro e w3 ⟨rfl, M3⟩
   clear q0 q1 q2 q3 s0 s1 PA PP
   have HE := hid (fun (W : World) (m : CM w3 W) => HC.out W (M3.trans' m))
   rw [hnb, hg2] at HE
   go_wp2_with fail
   refine cq_tail 7 (by kernel_rfl) (by kernel_rfl) ?_
   simp only [List.take_succ_cons, List.take_zero, List.drop_succ_cons, List.drop_zero]
   iterate 7 (refine wpQuiet_step (fun K hK => ?_); go_simp; first | (refine hK _ ?_; clear hK K) | (refine ⟨_, fun _ _ => rfl, hK _ ?_⟩; clear hK K) | (apply Exists.intro; refine ⟨fun wq hq => ?_, hK _ ?_⟩; (focus (first  | (obtain ⟨⟨d1, e1⟩, t1, t2, t3, t4⟩ := HE.out _ hq; go_simp; try with_reducible rfl))); clear hK K))
   refine wpQuiet_nil ?_
   intro w4 M4
   obtain ⟨hx, hy⟩ := HD.out _ (M3.trans' M4)
   have hfr := hy.segF hp hg2
   obtain ⟨⟨v0, y0⟩, f0⟩ := hfr 0 (by omega)
   obtain ⟨⟨v1, y1⟩, f1⟩ := hfr 1 (by omega)
   obtain ⟨⟨v2, y2⟩, f2⟩ := hfr 2 (by omega)
   obtain ⟨⟨v3, y3⟩, f3⟩ := hfr 3 (by omega)
   obtain ⟨⟨v4, y4⟩, f4⟩ := hfr 4 (by omega)
   simp only [Nat.add_zero] at y0 f0
   replace HF := hid (HF.out _ (M3.trans' M4) hx hy g2 hg2)
   clear hx hy hn hfr
   go_wp2_with fail
   (try simp only [Exit.inBlock, Exit.then])
   refine bodyPost_ret (results_none rfl _ _ _) rfl ?_
   obtain ⟨P, Q, hpt, e⟩ := hins.out
   refine ⟨rfl, _, HF.out.1, by rw [e]; exact hpt, ?_⟩
   exact (M.mono (T := FootB tb ab (.slice (some ⟨lb, 0, none⟩) σ.length c) fv σ) fun _ h => h.elim).trans' HF.out.2
end
open Go Go.RowKit
section
variable {w w' : World} {tb ab : Nat} {lv fv : Value} {σ : List (Option Bn)} {free : List Int} {root deg room many : Int} {S : StB} {d : Nat} {L : List Sg} {cs ca : Int}
set_option maxHeartbeats 1000000 in
theorem floorBZ (h : MemB w tb ab lv fv σ free root deg room many S) (hd : d ≤ 64) (hT : PT d S root L) (hr : Row L) (hf : fit64 ca) :
  Calls Tryz.prog 104 #[.pointer (some ⟨tb, 0, none⟩), .agg #[.int .i64 cs, .int .i64 ca]] w fun e w' => e = .returned (optS (nearS false true (kx cs ca) L)) ∧ Mod (fun _ => False) w w' := by
 obtain ⟨wa, hwa, ba, Ma⟩ := boxC w cs ca
 obtain ⟨w0, hw0, b0, M0⟩ := boxZ wa
 have hg := hid Ma.size
 replace ba := M0.heap ba fun h => h
 replace M0 := Ma.trans' M0
 clear Ma
 obtain ⟨d0, e0⟩ := blkc b0
 obtain ⟨d1, e1⟩ := blkc ba
 replace h := h.mod0 M0
 have HT := nearBZ false true h hd hT hr cs ca hf
 simp only [Bool.not_true, Bool.not_false] at HT
 obtain ⟨o, ho⟩ : ∃ o, nearS false true (kx cs ca) L = o := ⟨_, rfl⟩
 rw [ho] at HT ⊢
 clear ho h hr hf hT hd
 go_enter Tryz.func104, Tryz.ntmps104
 go_wp2_with fail
 refine HT.mono ?_; rintro e w3 ⟨rfl, M3⟩
 clear HT d0 e0 d1 e1 ba hwa hw0
 have b3 := M3.heap b0 fun h => h
 replace M0 := M0.trans' M3
 clear M3 b0
 obtain ⟨d0, e0⟩ := blkc b3
 unfold optS
 obtain ⟨s, hs⟩ : ∃ s, oS o = s := ⟨_, rfl⟩
 rw [hs]
 go_wp2_with fail
 obtain ⟨b4, M4⟩ := store5 (a' := .int .i64 s.ls) (b' := .int .i64 s.la) (c' := .int .i64 s.hs) (d' := .int .i64 s.ha) (e' := .int .i64 s.v) b3 hg.out M0
 exact ret_row_tmp wa.heap.size [.int .i64 s.ls, .int .i64 s.la, .int .i64 s.hs, .int .i64 s.ha, .int .i64 s.v] rfl rfl b4 Tryz.underlying38 rfl (by kernel_rfl) rfl ⟨by first | rfl | (unfold optS; rw [hs]; rfl), M4⟩
set_option maxHeartbeats 1000000 in
theorem lowerBZ (h : MemB w tb ab lv fv σ free root deg room many S) (hd : d ≤ 64) (hT : PT d S root L) (hr : Row L) (hf : fit64 ca) :
  Calls Tryz.prog 109 #[.pointer (some ⟨tb, 0, none⟩), .agg #[.int .i64 cs, .int .i64 ca]] w fun e w' => e = .returned (optS (nearS false false (kx cs ca) L)) ∧ Mod (fun _ => False) w w' := by
 obtain ⟨wa, hwa, ba, Ma⟩ := boxC w cs ca
 obtain ⟨w0, hw0, b0, M0⟩ := boxZ wa
 have hg := hid Ma.size
 replace ba := M0.heap ba fun h => h
 replace M0 := Ma.trans' M0
 clear Ma
 obtain ⟨d0, e0⟩ := blkc b0
 obtain ⟨d1, e1⟩ := blkc ba
 replace h := h.mod0 M0
 have HT := nearBZ false false h hd hT hr cs ca hf
 simp only [Bool.not_true, Bool.not_false] at HT
 obtain ⟨o, ho⟩ : ∃ o, nearS false false (kx cs ca) L = o := ⟨_, rfl⟩
 rw [ho] at HT ⊢
 clear ho h hr hf hT hd
 go_enter Tryz.func109, Tryz.ntmps109
 go_wp2_with fail
 refine HT.mono ?_; rintro e w3 ⟨rfl, M3⟩
 clear HT d0 e0 d1 e1 ba hwa hw0
 have b3 := M3.heap b0 fun h => h
 replace M0 := M0.trans' M3
 clear M3 b0
 obtain ⟨d0, e0⟩ := blkc b3
 unfold optS
 obtain ⟨s, hs⟩ : ∃ s, oS o = s := ⟨_, rfl⟩
 rw [hs]
 go_wp2_with fail
 obtain ⟨b4, M4⟩ := store5 (a' := .int .i64 s.ls) (b' := .int .i64 s.la) (c' := .int .i64 s.hs) (d' := .int .i64 s.ha) (e' := .int .i64 s.v) b3 hg.out M0
 exact ret_row_tmp wa.heap.size [.int .i64 s.ls, .int .i64 s.la, .int .i64 s.hs, .int .i64 s.ha, .int .i64 s.v] rfl rfl b4 Tryz.underlying38 rfl (by kernel_rfl) rfl ⟨by first | rfl | (unfold optS; rw [hs]; rfl), M4⟩
set_option maxHeartbeats 1000000 in
theorem ceilBZ (h : MemB w tb ab lv fv σ free root deg room many S) (hd : d ≤ 64) (hT : PT d S root L) (hr : Row L) (hf : fit64 ca) :
  Calls Tryz.prog 99 #[.pointer (some ⟨tb, 0, none⟩), .agg #[.int .i64 cs, .int .i64 ca]] w fun e w' => e = .returned (optS (nearS true true (kx cs ca) L)) ∧ Mod (fun _ => False) w w' := by
 obtain ⟨wa, hwa, ba, Ma⟩ := boxC w cs ca
 obtain ⟨w0, hw0, b0, M0⟩ := boxZ wa
 have hg := hid Ma.size
 replace ba := M0.heap ba fun h => h
 replace M0 := Ma.trans' M0
 clear Ma
 obtain ⟨d0, e0⟩ := blkc b0
 obtain ⟨d1, e1⟩ := blkc ba
 replace h := h.mod0 M0
 have HT := nearBZ true true h hd hT hr cs ca hf
 simp only [Bool.not_true, Bool.not_false] at HT
 obtain ⟨o, ho⟩ : ∃ o, nearS true true (kx cs ca) L = o := ⟨_, rfl⟩
 rw [ho] at HT ⊢
 clear ho h hr hf hT hd
 go_enter Tryz.func99, Tryz.ntmps99
 go_wp2_with fail
 refine HT.mono ?_; rintro e w3 ⟨rfl, M3⟩
 clear HT d0 e0 d1 e1 ba hwa hw0
 have b3 := M3.heap b0 fun h => h
 replace M0 := M0.trans' M3
 clear M3 b0
 obtain ⟨d0, e0⟩ := blkc b3
 unfold optS
 obtain ⟨s, hs⟩ : ∃ s, oS o = s := ⟨_, rfl⟩
 rw [hs]
 go_wp2_with fail
 obtain ⟨b4, M4⟩ := store5 (a' := .int .i64 s.ls) (b' := .int .i64 s.la) (c' := .int .i64 s.hs) (d' := .int .i64 s.ha) (e' := .int .i64 s.v) b3 hg.out M0
 exact ret_row_tmp wa.heap.size [.int .i64 s.ls, .int .i64 s.la, .int .i64 s.hs, .int .i64 s.ha, .int .i64 s.v] rfl rfl b4 Tryz.underlying38 rfl (by kernel_rfl) rfl ⟨by first | rfl | (unfold optS; rw [hs]; rfl), M4⟩
set_option maxHeartbeats 1000000 in
theorem highBZ (h : MemB w tb ab lv fv σ free root deg room many S) (hd : d ≤ 64) (hT : PT d S root L) (hr : Row L) (hf : fit64 ca) :
  Calls Tryz.prog 106 #[.pointer (some ⟨tb, 0, none⟩), .agg #[.int .i64 cs, .int .i64 ca]] w fun e w' => e = .returned (optS (nearS true false (kx cs ca) L)) ∧ Mod (fun _ => False) w w' := by
 obtain ⟨wa, hwa, ba, Ma⟩ := boxC w cs ca
 obtain ⟨w0, hw0, b0, M0⟩ := boxZ wa
 have hg := hid Ma.size
 replace ba := M0.heap ba fun h => h
 replace M0 := Ma.trans' M0
 clear Ma
 obtain ⟨d0, e0⟩ := blkc b0
 obtain ⟨d1, e1⟩ := blkc ba
 replace h := h.mod0 M0
 have HT := nearBZ true false h hd hT hr cs ca hf
 simp only [Bool.not_true, Bool.not_false] at HT
 obtain ⟨o, ho⟩ : ∃ o, nearS true false (kx cs ca) L = o := ⟨_, rfl⟩
 rw [ho] at HT ⊢
 clear ho h hr hf hT hd
 go_enter Tryz.func106, Tryz.ntmps106
 go_wp2_with fail
 refine HT.mono ?_; rintro e w3 ⟨rfl, M3⟩
 clear HT d0 e0 d1 e1 ba hwa hw0
 have b3 := M3.heap b0 fun h => h
 replace M0 := M0.trans' M3
 clear M3 b0
 obtain ⟨d0, e0⟩ := blkc b3
 unfold optS
 obtain ⟨s, hs⟩ : ∃ s, oS o = s := ⟨_, rfl⟩
 rw [hs]
 go_wp2_with fail
 obtain ⟨b4, M4⟩ := store5 (a' := .int .i64 s.ls) (b' := .int .i64 s.la) (c' := .int .i64 s.hs) (d' := .int .i64 s.ha) (e' := .int .i64 s.v) b3 hg.out M0
 exact ret_row_tmp wa.heap.size [.int .i64 s.ls, .int .i64 s.la, .int .i64 s.hs, .int .i64 s.ha, .int .i64 s.v] rfl rfl b4 Tryz.underlying38 rfl (by kernel_rfl) rfl ⟨by first | rfl | (unfold optS; rw [hs]; rfl), M4⟩
theorem kx_first : kx (-1) 0 = -18446744073709551616 := by simp [kx]
theorem kx_last : kx 1 0 = 18446744073709551616 := by simp [kx]
theorem near_first (hr : Row L) : nearS true true (kx (-1) 0) L = L.head? := by
 rw [kx_first]
 unfold nearS
 rw [if_pos rfl, List.filter_eq_self.2]
 intro s hs
 obtain ⟨ho, hf⟩ := hr.2 s hs
 have h1 := (okKey_lt ho hf).2
 have h2 : ky s = -18446744073709551616 ∨ -18446744073709551616 < ky s := by
  rcases h1 with ⟨h1, h2⟩ | ⟨h1, h2, h3⟩
  ·left; unfold ky; rw [h1, h2, kx_first]
  ·right; unfold ky; rw [h3]; unfold fit64 at hf; omega
 rcases h2 with h2 | h2
 ·simp [fitB, h2]
 ·simp [fitB, h2]
theorem near_last (hr : Row L) : nearS false true (kx 1 0) L = L.getLast? := by
 rw [kx_last]
 unfold nearS
 rw [if_neg (by simp), List.filter_eq_self.2]
 intro s hs
 obtain ⟨ho, hf⟩ := hr.2 s hs
 have h1 : ky s < 18446744073709551616 := (okKey_lt ho hf).1
 simp [fitB, h1]
set_option maxHeartbeats 1000000 in
theorem firstBZ (h : MemB w tb ab lv fv σ free root deg room many S) (hd : d ≤ 64) (hT : PT d S root L) (hr : Row L) :
  Calls Tryz.prog 103 #[.pointer (some ⟨tb, 0, none⟩)] w fun e w' => e = .returned (optS (L.head?)) ∧ Mod (fun _ => False) w w' := by
 obtain ⟨o, ho⟩ : ∃ o, L.head? = o := ⟨_, rfl⟩
 rw [ho]
 replace ho := hid ho
 obtain ⟨w0, hw0, b0, M0⟩ := boxZ w
 obtain ⟨d0, e0⟩ := blkc b0
 have HC := firstZ w0
 go_enter Tryz.func103, Tryz.ntmps103
 go_wp2_with fail
 refine HC.mono ?_; rintro e w1 ⟨rfl, M1⟩
 clear HC d0 e0 hw0
 have hg := hid (Nat.le_refl w.heap.size)
 replace b0 := M1.heap b0 fun h => h
 replace M0 := M0.trans' M1
 have HT := ceilBZ (cs := -1) (ca := 0) (h.mod0 M0) hd hT hr (by unfold fit64; omega)
 rw [near_first hr, ho.out] at HT
 clear ho h hr hT hd M1
 obtain ⟨d0, e0⟩ := blkc b0
 go_wp2_with fail
 refine HT.mono ?_; rintro e w3 ⟨rfl, M3⟩
 clear HT d0 e0
 have b3 := M3.heap b0 fun h => h
 replace M0 := M0.trans' M3
 clear M3 b0
 obtain ⟨d0, e0⟩ := blkc b3
 unfold optS
 obtain ⟨s, hs⟩ : ∃ s, oS o = s := ⟨_, rfl⟩
 rw [hs]
 go_wp2_with fail
 obtain ⟨b4, M4⟩ := store5 (a' := .int .i64 s.ls) (b' := .int .i64 s.la) (c' := .int .i64 s.hs) (d' := .int .i64 s.ha) (e' := .int .i64 s.v) b3 hg.out M0
 exact ret_row_tmp w.heap.size [.int .i64 s.ls, .int .i64 s.la, .int .i64 s.hs, .int .i64 s.ha, .int .i64 s.v] rfl rfl b4 Tryz.underlying38 rfl (by kernel_rfl) rfl ⟨by first | rfl | (unfold optS; rw [hs]; rfl), M4⟩
set_option maxHeartbeats 1000000 in
theorem lastBZ (h : MemB w tb ab lv fv σ free root deg room many S) (hd : d ≤ 64) (hT : PT d S root L) (hr : Row L) :
  Calls Tryz.prog 107 #[.pointer (some ⟨tb, 0, none⟩)] w fun e w' => e = .returned (optS (L.getLast?)) ∧ Mod (fun _ => False) w w' := by
 obtain ⟨o, ho⟩ : ∃ o, L.getLast? = o := ⟨_, rfl⟩
 rw [ho]
 replace ho := hid ho
 obtain ⟨w0, hw0, b0, M0⟩ := boxZ w
 obtain ⟨d0, e0⟩ := blkc b0
 have HC := lastZ w0
 go_enter Tryz.func107, Tryz.ntmps107
 go_wp2_with fail
 refine HC.mono ?_; rintro e w1 ⟨rfl, M1⟩
 clear HC d0 e0 hw0
 have hg := hid (Nat.le_refl w.heap.size)
 replace b0 := M1.heap b0 fun h => h
 replace M0 := M0.trans' M1
 have HT := floorBZ (cs := 1) (ca := 0) (h.mod0 M0) hd hT hr (by unfold fit64; omega)
 rw [near_last hr, ho.out] at HT
 clear ho h hr hT hd M1
 obtain ⟨d0, e0⟩ := blkc b0
 go_wp2_with fail
 refine HT.mono ?_; rintro e w3 ⟨rfl, M3⟩
 clear HT d0 e0
 have b3 := M3.heap b0 fun h => h
 replace M0 := M0.trans' M3
 clear M3 b0
 obtain ⟨d0, e0⟩ := blkc b3
 unfold optS
 obtain ⟨s, hs⟩ : ∃ s, oS o = s := ⟨_, rfl⟩
 rw [hs]
 go_wp2_with fail
 obtain ⟨b4, M4⟩ := store5 (a' := .int .i64 s.ls) (b' := .int .i64 s.la) (c' := .int .i64 s.hs) (d' := .int .i64 s.ha) (e' := .int .i64 s.v) b3 hg.out M0
 exact ret_row_tmp w.heap.size [.int .i64 s.ls, .int .i64 s.la, .int .i64 s.hs, .int .i64 s.ha, .int .i64 s.v] rfl rfl b4 Tryz.underlying38 rfl (by kernel_rfl) rfl ⟨by first | rfl | (unfold optS; rw [hs]; rfl), M4⟩
theorem near_mem {dd own : Bool} {k : Int} {s : Sg} (h : nearS dd own k L = some s) : s ∈ L := by
 unfold nearS at h
 split at h
 ·exact (List.mem_filter.1 (List.mem_of_mem_head? h)).1
 ·exact (List.mem_filter.1 (List.mem_of_getLast? h)).1
theorem key_can {s : Sg} (h : KeyOK s) (hf : fit64 ca) : ky s = kx cs ca ↔ s.ls = canS cs ca ∧ s.la = canA cs ca := by
 obtain ⟨⟨h1, h2, h3⟩, hf2⟩ := h
 unfold ky
 rw [kx_inj hf2 hf, h1, h2]
theorem get_some (hr : Row L) (hf : fit64 ca) {s : Sg} (h : nearS false true (kx cs ca) L = some s) : getS (kx cs ca) L = if s.ls = canS cs ca ∧ s.la = canA cs ca then some s else none := by
 have hm := near_mem h
 by_cases hk : ky s = kx cs ca
 ·rw [if_pos ((key_can (hr.2 s hm) hf).1 hk)]
  obtain ⟨P, Q, rfl⟩ := List.append_of_mem hm
  have hP := (hr.1.app).1
  unfold getS
  rw [List.find?_append, List.find?_eq_none.2 (by intro x hx; have := hP x hx; simp; omega)]
  simp [hk]
 ·rw [if_neg fun e => hk ((key_can (hr.2 s hm) hf).2 e)]
  unfold getS
  rw [List.find?_eq_none]
  intro x hx e
  have e : ky x = kx cs ca := by simpa using e
  obtain ⟨P, Q, rfl⟩ := List.append_of_mem hx
  rw [near_own hr.1 e] at h
  injection h with h
  exact hk (h ▸ e)
theorem get_none (hr : Row L) (h : nearS false true (kx cs ca) L = none) : getS (kx cs ca) L = none := by
 unfold getS
 rw [List.find?_eq_none]
 intro x hx e
 have e : ky x = kx cs ca := by simpa using e
 obtain ⟨P, Q, rfl⟩ := List.append_of_mem hx
 rw [near_own hr.1 e] at h
 cases h
set_option maxHeartbeats 1000000 in
theorem getBZ (h : MemB w tb ab lv fv σ free root deg room many S) (hd : d ≤ 64) (hT : PT d S root L) (hr : Row L) (hf : fit64 ca) :
  Calls Tryz.prog 105 #[.pointer (some ⟨tb, 0, none⟩), .agg #[.int .i64 cs, .int .i64 ca]] w fun e w' => e = .returned (optS (getS (kx cs ca) L)) ∧ Mod (fun _ => False) w w' := by
 obtain ⟨wa, hwa, ba, Ma⟩ := boxC w cs ca
 obtain ⟨w0, hw0, b0, M0⟩ := boxZ wa
 have hg := hid Ma.size
 have hgb := hid (blkl b0)
 replace ba := M0.heap ba fun h => h
 replace M0 := Ma.trans' M0
 clear Ma
 obtain ⟨d0, e0⟩ := blkc b0
 obtain ⟨d1, e1⟩ := blkc ba
 replace h := h.mod0 M0
 have HF := floorBZ h hd hT hr (cs := cs) hf
 have HN := hid (get_none (cs := cs) (ca := ca) hr)
 have HS := hid (fun s => get_some (cs := cs) (ca := ca) (s := s) hr hf)
 go_enter Tryz.func105, Tryz.ntmps105
 go_wp2_with fail
 refine HF.mono ?_; rintro e w1 ⟨rfl, M1⟩
 clear HF d0 e0 d1 e1 hwa hw0 h hd hT hr
 obtain ⟨o, ho⟩ : ∃ o, nearS false true (kx cs ca) L = o := ⟨_, rfl⟩
 replace b0 := M1.heap b0 fun h => h
 replace ba := M1.heap ba fun h => h
 replace M0 := M0.trans' M1
 unfold optS
 rw [ho]
 obtain ⟨x, hx⟩ : ∃ x, oS o = x := ⟨_, rfl⟩
 rw [hx]
 obtain ⟨w2, hw2, b2, M2⟩ : ∃ w2, w1.alloc (.cells #[.int .i64 x.ls, .int .i64 x.la, .int .i64 x.hs, .int .i64 x.ha, .int .i64 x.v] 38) = w2 ∧ w2.heap[w1.heap.size]? = some (.cells #[.int .i64 x.ls, .int .i64 x.la, .int .i64 x.hs, .int .i64 x.ha, .int .i64 x.v] 38 (0, 0)) ∧ Mod (fun _ => False) w1 w2 := ⟨_, rfl, alloc_0 _ _, (Mod.refl _ _).alloc _⟩
 have HC := hid (fun (w' : World) (M : CM w2 w') => (canonZ cs ca w').mono fun e w'' ⟨h1, h2⟩ => (⟨h1, Mod.trans' M h2⟩ : e = Ending.returned (.agg #[.int .i64 (canS cs ca), .int .i64 (canA cs ca)]) ∧ CM w2 w''))
 have HB := hid (fun (w' : World) (M : CM w2 w') => And.intro (blkc (Mod.heap (M2.trans' M) ba fun h => h)) (blkc (Mod.heap M b2 fun h => h)))
 have HE := hid (fun (W : World) (M : Mod (fun _ => False) w2 W) => And.intro (M.heap (M2.heap b0 fun h => h) fun h => h) (M0.trans' (M2.trans' M)))
 cases o with
 | none =>
  have hres := hid (HN.out ho)
  clear HN HS ho
  go_wp2_with fail
  go_quiet (fail)
  obtain ⟨w3, hw3, M3⟩ : ∃ w3, w2.drewN nq = w3 ∧ Mod (fun _ => False) w2 w3 := ⟨_, rfl, (Mod.refl _ _).drewN _⟩
  rw [hw3]
  clear hw3
  obtain ⟨b3, MM⟩ := HE.out _ M3
  obtain ⟨t0, t1⟩ := blkc b3
  clear hw2
  go_wp2_with fail
  obtain ⟨b4, M4⟩ := store5 (a' := .int .i64 0) (b' := .int .i64 0) (c' := .int .i64 0) (d' := .int .i64 0) (e' := .int .i64 0) b3 hg.out MM
  exact ret_row_tmp wa.heap.size [.int .i64 0, .int .i64 0, .int .i64 0, .int .i64 0, .int .i64 0] rfl rfl b4 Tryz.underlying38 rfl (by kernel_rfl) rfl ⟨by rw [hres.out]; rfl, M4⟩
 | some s =>
  have hres := hid (HS.out s ho)
  obtain rfl : s = x := hx
  clear HN HS ho
  obtain ⟨xs, xa, xh, xg, xv⟩ := s
  dsimp only at hw2 b2 HB hres
  by_cases h1 : xs = canS cs ca
  ·subst h1
   by_cases h2 : xa = canA cs ca
   ·subst h2
    rw [if_pos ⟨rfl, rfl⟩] at hres
    go_wp2_with fail
    refine cq_region (by kernel_rfl) (by kernel_rfl) ?_
    iterate 10 (refine wpQuiet_step (fun K hK => ?_); go_simp; first | (refine hK _ ?_; clear hK K) | (refine ⟨_, fun _ _ => rfl, hK _ ?_⟩; clear hK K) | (apply Exists.intro; refine ⟨fun wq hq => ?_, hK _ ?_⟩; (focus (first | (go_at_call 58; exact HC.out _ hq) | (obtain ⟨⟨t1, t2⟩, t3, t4⟩ := HB.out _ hq; go_simp; try with_reducible rfl))); clear hK K))
    refine wpQuiet_nil ?_
    intro w3 M3
    obtain ⟨b3, MM⟩ := HE.out _ M3
    obtain ⟨t0, t1⟩ := blkc b3
    obtain ⟨⟨t5, t6⟩, t7, t8⟩ := HB.out _ M3
    clear hw2 HC HB
    go_wp2_with fail
    obtain ⟨b4, M4⟩ := store5 (a' := .int .i64 (canS cs ca)) (b' := .int .i64 (canA cs ca)) (c' := .int .i64 xh) (d' := .int .i64 xg) (e' := .int .i64 xv) b3 hg.out MM
    exact ret_row_tmp wa.heap.size [.int .i64 (canS cs ca), .int .i64 (canA cs ca), .int .i64 xh, .int .i64 xg, .int .i64 xv] rfl rfl b4 Tryz.underlying38 rfl (by kernel_rfl) rfl ⟨by rw [hres.out]; rfl, M4⟩
   ·rw [if_neg fun e => h2 e.2] at hres
    go_wp2_with fail
    refine cq_region (by kernel_rfl) (by kernel_rfl) ?_
    iterate 10 (refine wpQuiet_step (fun K hK => ?_); go_simp; first | (refine hK _ ?_; clear hK K) | (refine ⟨_, fun _ _ => rfl, hK _ ?_⟩; clear hK K) | (apply Exists.intro; refine ⟨fun wq hq => ?_, hK _ ?_⟩; (focus (first | (go_at_call 58; exact HC.out _ hq) | (obtain ⟨⟨t1, t2⟩, t3, t4⟩ := HB.out _ hq; go_simp; try with_reducible rfl))); clear hK K))
    refine wpQuiet_nil ?_
    intro w3 M3
    obtain ⟨b3, MM⟩ := HE.out _ M3
    obtain ⟨t0, t1⟩ := blkc b3
    obtain ⟨⟨t5, t6⟩, t7, t8⟩ := HB.out _ M3
    clear hw2 HC HB
    go_wp2_with fail
    obtain ⟨b4, M4⟩ := store5 (a' := .int .i64 0) (b' := .int .i64 0) (c' := .int .i64 0) (d' := .int .i64 0) (e' := .int .i64 0) b3 hg.out MM
    exact ret_row_tmp wa.heap.size [.int .i64 0, .int .i64 0, .int .i64 0, .int .i64 0, .int .i64 0] rfl rfl b4 Tryz.underlying38 rfl (by kernel_rfl) rfl ⟨by rw [hres.out]; rfl, M4⟩
  ·rw [if_neg fun e => h1 e.1] at hres
   go_wp2_with fail
   refine cq_region (by kernel_rfl) (by kernel_rfl) ?_
   iterate 10 (refine wpQuiet_step (fun K hK => ?_); go_simp; first | (refine hK _ ?_; clear hK K) | (refine ⟨_, fun _ _ => rfl, hK _ ?_⟩; clear hK K) | (apply Exists.intro; refine ⟨fun wq hq => ?_, hK _ ?_⟩; (focus (first | (go_at_call 58; exact HC.out _ hq) | (obtain ⟨⟨t1, t2⟩, t3, t4⟩ := HB.out _ hq; go_simp; try with_reducible rfl))); clear hK K))
   refine wpQuiet_nil ?_
   intro w3 M3
   obtain ⟨b3, MM⟩ := HE.out _ M3
   obtain ⟨t0, t1⟩ := blkc b3
   obtain ⟨⟨t5, t6⟩, t7, t8⟩ := HB.out _ M3
   clear hw2 HC HB
   go_wp2_with fail
   obtain ⟨b4, M4⟩ := store5 (a' := .int .i64 0) (b' := .int .i64 0) (c' := .int .i64 0) (d' := .int .i64 0) (e' := .int .i64 0) b3 hg.out MM
   exact ret_row_tmp wa.heap.size [.int .i64 0, .int .i64 0, .int .i64 0, .int .i64 0, .int .i64 0] rfl rfl b4 Tryz.underlying38 rfl (by kernel_rfl) rfl ⟨by rw [hres.out]; rfl, M4⟩
end
open Go Go.RowKit
def At9 (d : Nat) (S : StB') (L : List Sg) (H lo0 r0 : Nat) (k : Int) (g r : Nat) : Prop :=
 ∃ (A B Li : List Sg) (Fl Fr F : List Nat) (lo : Nat) (l : List Sg) (ks : List Nat), L = A ++ (Li ++ B) ∧ Alls S (Fl ++ (F ++ Fr)) ∧ (∀ x ∈ A, ky x < k) ∧ (∀ x ∈ B, k + 1 ≤ ky x) ∧ Sub d S g lo r Li F ∧ Hole d S H lo0 r0 A B Fl Fr g lo r ∧ S r = some (l, ks) ∧ l.length ≤ 2 * d - 2
theorem has_sub {k : Int} {l L : List Sg} (h : l.Sublist L) (hk : hasK k L = false) : hasK k l = false := by
 unfold hasK at *
 rw [List.any_eq_false] at *
 exact fun x hx => hk x (h.subset hx)
theorem At9.down {d : Nat} {S : StB'} {L A B Li l : List Sg} {Fl Fr F ks : List Nat} {H lo0 r0 : Nat} {k : Int} {g r lo : Nat} (hs : Sub d S (g + 1) lo r Li F) (hi : S r = some (l, ks)) (hr : Srt L) (hL : L = A ++ (Li ++ B)) (hA : ∀ x ∈ A, ky x < k) (hB : ∀ x ∈ B, k + 1 ≤ ky x) (hno : hasK k L = false)
  (hH : Hole d S H lo0 r0 A B Fl Fr (g + 1) lo r) (hAll : Alls S (Fl ++ (F ++ Fr))) {kt : Nat} {lt : List Sg} {kk : List Nat} (h1 : ks[posL k l]? = some kt) (h2 : S kt = some (lt, kk)) (h3 : lt.length ≤ 2 * d - 2) : At9 d S L H lo0 r0 k g kt := by
 subst hL
 have hsL : Srt Li := (List.pairwise_append.1 (List.pairwise_append.1 hr).2.1).1
 have hsub : l.Sublist (A ++ (Li ++ B)) := ((hs.row hi).trans (List.sublist_append_left _ _)).trans (List.sublist_append_right _ _)
 have hsl : Srt l := hr.sublist hsub
 have hnot := drop_gt hsl (has_sub hsub hno)
 have hlo := (posL_lo (k := k) hsl).1
 obtain ⟨ht2, P, Q, L', F', F1, F2, hS', rfl, part, rfl, hH'⟩ := hs.hole hi hsL (posL k l) (posL_le k l)
 have hP := part.lt _ hlo
 have hQ := part.ge _ hnot
 rw [List.getElem?_eq_getElem ht2] at h1
 obtain rfl : ks[posL k l] = kt := by injection h1
 exact ⟨A ++ P, Q ++ B, L', Fl ++ (r :: F1), F2 ++ Fr, F', d - 1, lt, kk, by simp, by simpa using hAll, fun x hx => (List.mem_append.1 hx).elim (hA x) (hP x), fun x hx => (List.mem_append.1 hx).elim (hQ x) (hB x), hS', hH.down hH', h2, h3⟩
theorem posL_up {k : Int} {l : List Sg} (up : Sg) (t : Nat) : posL k (l.take t ++ up :: l.drop t) = posL k l ∨ posL k (l.take t ++ up :: l.drop t) = posL k l + 1 := by
 have e : posL k l = ((l.take t).filter (fun x => decide (ky x < k))).length + ((l.drop t).filter (fun x => decide (ky x < k))).length := by
  unfold posL
  rw [← List.length_append, ← List.filter_append, List.take_append_drop]
 unfold posL at *
 rw [e, List.filter_append, List.filter_cons]
 split
 ·right; simp; omega
 ·left; simp
theorem At9.put {d : Nat} {S S' : StB'} {L : List Sg} {H lo0 r0 : Nat} {s : Sg} {r : Nat} {l : List Sg} {ks : List Nat} (h : At9 d S L H lo0 r0 (ky s) 0 r) (hr : Srt L) (hno : hasK (ky s) L = false) (hd : 1 ≤ d) (hi : S r = some (l, ks)) (h1 : S' r = some (l.take (posL (ky s) l) ++ s :: l.drop (posL (ky s) l), ks)) (h2 : ∀ x, x ≠ r → S' x = S x) (h0 : lo0 = 1 ∨ (H = 0 ∧ L = [])) :
  PT d S' r0 (insL s L) := by
 obtain ⟨A, B, Li, Fl, Fr, F, lo, l', ks', rfl, hAll, hA, hB, hS, hH, hSr, hl⟩ := h
 rw [hi] at hSr; cases hSr
 obtain ⟨q1, q2, q3, q4⟩ := hS
 rw [hi] at q1
 have e1 : l = Li := by injection q1 with q1; exact (Prod.mk.inj q1).1
 have e2 : ks = [] := by injection q1 with q1; exact (Prod.mk.inj q1).2
 subst e1 e2 q2
 have hsl : Srt l := (List.pairwise_append.1 (List.pairwise_append.1 hr).2.1).1
 have hno' : hasK (ky s) l = false := has_sub ((List.sublist_append_left _ _).trans (List.sublist_append_right _ _)) hno
 have hnot := drop_gt hsl hno'
 have hlo := (posL_lo (k := ky s) hsl).1
 have hlen : (l.take (posL (ky s) l) ++ s :: l.drop (posL (ky s) l)).length = l.length + 1 := by simp; have := posL_le (ky s) l; omega
 have s1 : Sub d S' 0 lo r (l.take (posL (ky s) l) ++ s :: l.drop (posL (ky s) l)) [r] := ⟨h1, rfl, by omega, by omega⟩
 obtain ⟨a1, a2⟩ := (Chg.mk (S := S) (S' := S') (F := [r]) (F' := [r]) (fun x hx _ => h2 x (by simpa using hx)) (by simp) (fun x hx => .inl hx) (fun x hx hx' => absurd hx hx')).all hAll (fun x hx => s1.live x hx)
 have s2 := hH S' _ _ a2 s1
 have hins : insL s (A ++ (l ++ B)) = A ++ ((l.take (posL (ky s) l) ++ s :: l.drop (posL (ky s) l)) ++ B) := by
  have e : A ++ (l ++ B) = (A ++ l.take (posL (ky s) l)) ++ (l.drop (posL (ky s) l) ++ B) := by
   rw [List.append_assoc, ← List.append_assoc (l.take _), List.take_append_drop]
  rw [e, ins_new]
  ·simp
  ·intro x hx
   rcases List.mem_append.1 hx with hx | hx
   ·exact hA x hx
   ·exact hlo x hx
  ·intro x hx
   rcases List.mem_append.1 hx with hx | hx
   ·have := hnot x hx; omega
   ·have := hB x hx; omega
 rw [hins]
 rcases h0 with rfl | ⟨rfl, e⟩
 ·exact .inr ⟨r0, H, _, rfl, s2, a1.1, a1.2⟩
 ·obtain ⟨u1, u2, u3, u4⟩ := s2
  exact .inr ⟨r0, 0, _, rfl, ⟨u1, u2, by simp; omega, u4⟩, a1.1, a1.2⟩
theorem Sub.raise {d : Nat} {S : StB'} {h lo lo' i : Nat} {L l : List Sg} {ks : List Nat} {F : List Nat} (hs : Sub d S h lo i L F) (hl : S i = some (l, ks)) (e : lo' ≤ l.length) : Sub d S h lo' i L F := by
 cases h with
 | zero =>
  obtain ⟨h1, h2, h3, h4⟩ := hs
  rw [hl] at h1; cases h1
  exact ⟨hl, h2, e, h4⟩
 | succ h =>
  obtain ⟨l', cs, h1, h2, h3, h4⟩ := hs
  rw [hl] at h1; cases h1
  exact ⟨l, cs, hl, e, h3, h4⟩
theorem Sub.above {d : Nat} {S S' : StB'} {h lo i j : Nat} {L l : List Sg} {ks : List Nat} {F : List Nat} (hs : Sub d S h lo i L F) (hl : S i = some (l, ks)) (e : d - 1 ≤ l.length) (hj : S' j = some ([], [i])) (hk : ∀ x ∈ F, S' x = S x) : Sub d S' (h + 1) 0 j L (j :: F) :=
 ⟨[], [⟨i, L, F⟩], hj, Nat.le_refl _, Nat.zero_le _, rfl, fun c hc => by
  have hc : c = ⟨i, L, F⟩ := by simpa using hc
  subst hc
  exact (hs.raise hl e).keep hk, by simp [inter, post], by simp⟩
theorem Alls.cons {S S' : StB'} {F : List Nat} (h : Alls S F) {j : Nat} (hj : S j = none) (h1 : S' j ≠ none) (h2 : ∀ x, x ≠ j → S' x = S x) : Alls S' (j :: F) := by
 refine ⟨List.nodup_cons.2 ⟨fun e => (h.2 j).1 e hj, h.1⟩, fun i => ?_⟩
 by_cases e : i = j
 ·subst e; exact ⟨fun _ => h1, fun _ => by simp⟩
 ·rw [h2 i e, ← h.2 i, List.mem_cons]
  exact ⟨fun h => h.resolve_left e, .inr⟩
theorem get_has (k : Int) (L : List Sg) : (getS k L).isSome = hasK k L := by
 unfold getS hasK
 rw [Bool.eq_iff_iff, List.find?_isSome, List.any_eq_true]
end Go.Proofs.Bo
