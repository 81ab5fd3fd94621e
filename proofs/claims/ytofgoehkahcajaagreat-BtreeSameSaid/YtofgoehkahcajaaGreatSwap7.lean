import Derived.Test.YtofgoehkahcajaaGreatMBG
import Derived.Test.YtofgoehkahcajaaGreatNear7
set_option linter.unusedVariables false
set_option linter.unusedSimpArgs false
namespace Go.Proofs.Bo
open Go Go.RowKit

theorem has_mid {k : Int} {P M Q : List Sg} (h1 : ∀ x ∈ P, ky x < k) (h2 : ∀ x ∈ Q, k + 1 ≤ ky x) : hasK k (P ++ (M ++ Q)) = hasK k M := by
  unfold hasK
  rw [List.any_append, List.any_append, List.any_eq_false.2 (by intro x hx; have := h1 x hx; simp; omega), show Q.any (fun x => decide (ky x = k)) = false from List.any_eq_false.2 (by intro x hx; have := h2 x hx; simp; omega)]
  simp
/-- What stands behind a key's place where it is none of the node's. -/
theorem drop_gt {k : Int} {l : List Sg} (h : Srt l) (hk : hasK k l = false) : ∀ x ∈ l.drop (posL k l), k + 1 ≤ ky x := by
  intro x hx
  have := (posL_lo (k := k) h).2 x hx
  have : ky x ≠ k := fun e => by
    have : hasK k l = true := by unfold hasK; exact List.any_eq_true.2 ⟨x, List.mem_of_mem_drop hx, by simpa using e⟩
    rw [hk] at this; cases this
  omega

section
variable {w w' : World} {tb ab : Nat} {lv fv : Value} {σ : List (Option Bn)} {free : List Int} {root deg room many : Int} {S : StB} {d : Nat} {L : List Sg}

/-- Where a way down stands: the subtree, and the hole it stands in. -/
def At8 (d : Nat) (S : StB) (L : List Sg) (F0 : List Nat) (H r0 : Nat) (k : Int) (g : Nat) (r : Nat) : Prop :=
  ∃ (A B Li : List Sg) (Fl Fr F : List Nat) (lo : Nat), L = A ++ (Li ++ B) ∧ F0 = Fl ++ (F ++ Fr) ∧ (∀ x ∈ A, ky x < k) ∧ (∀ x ∈ B, k + 1 ≤ ky x) ∧ Sub d S g lo r Li F ∧ Hole d S H 1 r0 A B Fl Fr g lo r
def SwapX (d : Nat) (S : StB) (w : World) (s : Sg) (L : List Sg) (F0 : List Nat) (H r0 : Nat) (g : Nat) (i : Value) (W : World) : Prop :=
  ∃ r : Nat, i = .int .i64 r ∧ At8 d S L F0 H r0 (ky s) g r ∧ Mod (fun _ => False) w W ∧ W.heap[w.heap.size]? = some (.cells #[.int .i64 s.ls, .int .i64 s.la, .int .i64 s.hs, .int .i64 s.ha, .int .i64 s.v] 39 (0, 0))


set_option maxHeartbeats 4000000 in
set_option maxRecDepth 100000 in
theorem swapBZ (h : MemB w tb ab lv fv σ free root deg room many S) (hd : d ≤ 64) (hT : PT d S root L) (hr : Row L) (s : Sg) (hf : fit64 s.la) (hk : hasK (ky s) L = true) :
    Calls Tryz.prog 51 #[.pointer (some ⟨tb, 0, none⟩), .agg #[.int .i64 s.ls, .int .i64 s.la, .int .i64 s.hs, .int .i64 s.ha, .int .i64 s.v]] w fun e w' => e = .returned (.tuple #[]) ∧
      ∃ S', MemB w' tb ab lv fv σ free root deg room many S' ∧ PT d S' root (insL s L) ∧ Mod (FootB tb ab lv fv σ) w w' := by
  rcases hT with ⟨_, rfl, _⟩ | ⟨r0, H, F0, rfl, hS0, hnd, hall⟩
  · simp [hasK] at hk
  obtain ⟨w0, hw0, b0, M0⟩ := boxS w s
  obtain ⟨d0, e0⟩ := blkc b0
  have h1 := h.mod0 M0
  obtain ⟨t0, t1⟩ := blkc h1.t
  have hAt := hid (show At8 d S L F0 H r0 (ky s) H r0 from ⟨[], [], L, [], [], F0, 1, by simp, by simp, by simp, by simp, hS0, Hole.root d S H 1 r0⟩)
  replace hnd := hid hnd
  replace hall := hid hall
  clear hS0
  go_enter Tryz.func51, Tryz.ntmps51
  go_wp2_with fail
  go_loopg [4] H (fun g i W => SwapX d S w s L F0 H r0 g i W)
  case atStart => exact ⟨r0, rfl, hAt.out, M0, b0⟩
  case round =>
    clear hAt b0 M0 t0 t1 d0 e0 h1 hw0
    obtain ⟨r, rfl, ⟨A, B, Li, Fl, Fr, F, lo, rfl, rfl, hA, hB, hS, hH⟩, M, c0⟩ := hrel
    rw [has_mid hA hB] at hk
    obtain ⟨l, ks, hSr, hl1, hl2, hks⟩ := hS.node
    have h1 := h.mod0 M
    obtain ⟨b, hb, hn⟩ := h1.live hSr
    obtain ⟨lb, c, rfl⟩ := h1.lbS hb
    have hsL : Srt Li := (List.pairwise_append.1 (List.pairwise_append.1 hr.1).2.1).1
    have hsub : l.Sublist (A ++ (Li ++ B)) := ((hS.row hSr).trans (List.sublist_append_left _ _)).trans (List.sublist_append_right _ _)
    have hrl : Row l := hr.sub hsub
    have PA := atM h1 hb
    have PP := placeM h1 hb hn hrl (by omega) s.ls s.la hf
    obtain ⟨q0, q1, q2, q3⟩ := h1.cells hb
    obtain ⟨s0, s1⟩ := blkc c0
    have hr0 : ((r : Int) != -1) = true := by simp
    have hpl := posL_le (ky s) l
    have hky : kx s.ls s.la = ky s := rfl
    rw [hky] at PP
    have hnb := hn.ln
    have hnk := hn.kn
    have HB := hid (fun (W : World) (m : Mod (fun _ => False) wr W) => And.intro (Mod.heap m c0 fun h => h) (And.intro (h1.mod0 m) (hn.keep fun x k e => m.block k (hn.lt e) fun h => h)))
    cases hK : hasK (ky s) l
    · have hnot := drop_gt hrl.1 hK
      have hlo := (posL_lo (k := ky s) hrl.1).1
      cases gk with
      | zero =>
        exfalso
        obtain ⟨_, e, _⟩ := hS.leaf hSr 0
        rw [e, hK] at hk
        cases hk
      | succ g =>
        obtain ⟨ht2, P, Q, L', F', F1, F2, hS', rfl, part, rfl, hH'⟩ := hS.hole hSr hsL (posL (ky s) l) hpl
        have hP := part.lt _ hlo
        have hQ := part.ge _ hnot
        have fin : ∀ W, Mod (fun _ => False) wr W → SwapX d S w s (A ++ ((P ++ (L' ++ Q)) ++ B)) (Fl ++ (((r :: F1) ++ (F' ++ F2)) ++ Fr)) H r0 g (.int .i64 (ks[posL (ky s) l] : Int)) W := fun W m =>
          ⟨_, rfl, ⟨A ++ P, Q ++ B, L', Fl ++ (r :: F1), F2 ++ Fr, F', d - 1, by simp, by simp, fun x hx => (List.mem_append.1 hx).elim (hA x) (hP x), fun x hx => (List.mem_append.1 hx).elim (hQ x) (hB x), hS', hH.down hH'⟩, M.trans' m, m.heap c0 fun h => h⟩
        replace fin := hid fin
        rw [hK] at PP
        have HKC := hid (fun (W : World) (m : Mod (fun _ => False) wr W) => ((HB.out W m).2.2).kidC ht2)
        have HCL := hid (fun (W : World) (m : Mod (fun _ => False) wr W) => ((HB.out W m).2.1).cells hb)
        clear hP hQ hA hB hS hH hH' hS' part hk hr hsL hsub hrl hnot hlo hall hnd h h1 hn hks
        generalize hpk : posL (ky s) l = k at *
        go_wp2_with fail
        refine PA.mono ?_; rintro e w2 ⟨rfl, hw2⟩; subst hw2
        go_wp2_with fail
        refine PP.mono ?_; rintro e w3 ⟨rfl, M3⟩
        obtain ⟨y0, y1, y2, y3⟩ := HCL.out _ M3
        obtain ⟨g2, hgk, yk⟩ := HKC.out _ M3
        rw [hnk, hgk] at y1
        have hkI : (k : Int) < ks.length := by omega
        replace fin := hid (fin.out _ M3)
        clear q0 q1 q2 q3 s0 s1
        go_wp2_with fail
        go_roundg g
        case measure => omega
        case rel => exact fin.out
    · obtain ⟨hp, hpe⟩ := (hasK_pos hrl.1).1 hK
      rw [hK] at PP
      have hres : ∃ (P Q : List Sg), A ++ (Li ++ B) = P ++ l[posL (ky s) l] :: Q ∧ PT d (S.set r (some (l.set (posL (ky s) l) s, ks))) r0 (P ++ s :: Q) := by
        have hndF : F.Nodup := (List.nodup_append.1 (List.nodup_append.1 hnd.out).2.1).1
        obtain ⟨P, Q, e, hsub2⟩ := hS.swap (S' := S.set r (some (l.set (posL (ky s) l) s, ks))) hSr hndF hp s (StB.set_self ..) (fun j hj => StB.set_ne _ _ hj)
        subst e
        have hne : ∀ j ∈ Fl ++ Fr, j ≠ r := by
          rintro j hj rfl
          have hn0 := hnd.out
          have hm := hS.mem
          rcases List.mem_append.1 hj with hj | hj
          · exact (List.nodup_append.1 hn0).2.2 j hj j (by simp [hm]) rfl
          · exact (List.nodup_append.1 (List.nodup_append.1 hn0).2.1).2.2 j hm j hj rfl
        have hroot := hH _ _ _ (fun j hj => StB.set_ne _ _ (hne j hj)) hsub2
        refine ⟨A ++ P, Q ++ B, by simp, .inr ⟨r0, H, _, rfl, by simpa using hroot, hnd.out, fun i => ?_⟩⟩
        by_cases hi : i = r
        · subst hi
          rw [StB.set_self]
          exact ⟨fun _ => by simp, fun _ => by simp [hS.mem]⟩
        · rw [StB.set_ne _ _ hi]
          exact hall.out i
      have hins : ∃ (P Q : List Sg), PT d (S.set r (some (l.set (posL (ky s) l) s, ks))) r0 (P ++ s :: Q) ∧ insL s (A ++ (Li ++ B)) = P ++ s :: Q := by
        obtain ⟨P, Q, e, hpt⟩ := hres
        refine ⟨P, Q, hpt, ?_⟩
        have hr2 := hr.1
        rw [e] at hr2 ⊢
        exact ins_old hpe (fun x hx => by have := hr2.app.1 x hx; omega) (fun x hx => by have := hr2.app.2 x hx; omega)
      have HF := hid (fun (W : World) (m : Mod (fun _ => False) wr W) (hx : MemB W tb ab (.slice (some ⟨lb, 0, none⟩) σ.length c) fv σ free (r0 : Int) deg room many S) (hy : NodeB W b l ks) => fun (g : Nat) (hg : b.la = some ⟨g, 0, none⟩) => by
        obtain ⟨z1, z2⟩ := hy.put5 hp s hg
        obtain ⟨z3, z4⟩ := hx.inRow hb z2 z1
        exact (And.intro z3 ((m.mono (T := FootB tb ab (.slice (some ⟨lb, 0, none⟩) σ.length c) fv σ) fun _ h => h.elim).trans' z4)))
      replace hins := hid hins
      generalize hpk : posL (ky s) l = k at *
      have HC := hid (fun (W : World) (m : CM wr W) => And.intro (blkc (Mod.heap m c0 fun h => h)) (((HB.out W m).2.1).cells hb))
      have HD := hid (fun (W : World) (m : CM wr W) => And.intro (HB.out W m).2.1 (HB.out W m).2.2)
      have hkI : (k : Int) < l.length := by omega
      obtain ⟨g2, hg2, -⟩ := hn.segC hp
      clear hres hpe hk hr hsL hsub hrl hH hA hB hS hnd hall h h1 HB hks
      go_wp2_with fail
      refine PA.mono ?_; rintro e w2 ⟨rfl, hw2⟩; subst hw2
      go_wp2_with fail
      refine PP.mono ?_; rintro e w3 ⟨rfl, M3⟩
      clear q0 q1 q2 q3 s0 s1 PA PP
      have HE := hid (fun (W : World) (m : CM w3 W) => HC.out W (M3.trans' m))
      rw [hnb, hg2] at HE
      go_wp2_with fail
      refine cq_tail 7 (by kernel_rfl) (by kernel_rfl) ?_
      simp only [List.take_succ_cons, List.take_zero, List.drop_succ_cons, List.drop_zero]
      iterate 7 (refine wpQuiet_step (fun K hK => ?_); go_simp; first | (refine hK _ ?_; clear hK K) | (refine ⟨_, fun _ _ => rfl, hK _ ?_⟩; clear hK K) | (apply Exists.intro; refine ⟨fun wq hq => ?_, hK _ ?_⟩; (focus (first  | (obtain ⟨⟨d1, e1⟩, t1, t2, t3, t4⟩ := HE.out _ hq; go_simp; try with_reducible rfl))); clear hK K))
      refine wpQuiet_nil ?_
      intro w4 M4
      obtain ⟨hx, hy⟩ := HD.out _ (M3.trans' M4)
      have hfr := hy.segF hp hg2
      obtain ⟨⟨v0, y0⟩, f0⟩ := hfr 0 (by omega)
      obtain ⟨⟨v1, y1⟩, f1⟩ := hfr 1 (by omega)
      obtain ⟨⟨v2, y2⟩, f2⟩ := hfr 2 (by omega)
      obtain ⟨⟨v3, y3⟩, f3⟩ := hfr 3 (by omega)
      obtain ⟨⟨v4, y4⟩, f4⟩ := hfr 4 (by omega)
      simp only [Nat.add_zero] at y0 f0
      replace HF := hid (HF.out _ (M3.trans' M4) hx hy g2 hg2)
      clear hx hy hn hfr
      go_wp2_with fail
      (try simp only [Exit.inBlock, Exit.then])
      refine bodyPost_ret (results_none rfl _ _ _) rfl ?_
      obtain ⟨P, Q, hpt, e⟩ := hins.out
      refine ⟨rfl, _, HF.out.1, by rw [e]; exact hpt, ?_⟩
      exact (M.mono (T := FootB tb ab (.slice (some ⟨lb, 0, none⟩) σ.length c) fv σ) fun _ h => h.elim).trans' HF.out.2
end
end Go.Proofs.Bo
