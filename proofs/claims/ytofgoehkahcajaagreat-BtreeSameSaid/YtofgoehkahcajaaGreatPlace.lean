import Derived.Test.YtofgoehkahcajaaGreatRFind
set_option linter.unusedVariables false
set_option linter.unusedSimpArgs false
namespace Go.Proofs.Bo
open Go Go.RowKit

/-- Where a key stands in a row, or would. -/
def posL (k : Int) (l : List Sg) : Nat := (l.filter (fun x => decide (ky x < k))).length

theorem cmp1Z (s : Sg) (cs ca : Int) (hs : fit64 s.la) (hf : fit64 ca) (w : World) : Calls Tryz.prog 88 #[.agg #[.int .i64 s.ls, .int .i64 s.la, .int .i64 s.hs, .int .i64 s.ha, .int .i64 s.v], .agg #[.int .i64 cs, .int .i64 ca]] w fun e w' => e = .returned (.int .i64 (cmpI (ky s) (kx cs ca))) ∧ Mod (fun _ => False) w w' := by
  obtain ⟨w0, hw0, b0, b1, M0⟩ : ∃ w0, (w.alloc (.cells #[.int .i64 s.ls, .int .i64 s.la, .int .i64 s.hs, .int .i64 s.ha, .int .i64 s.v] 39)).alloc (.cells #[.int .i64 cs, .int .i64 ca] 26) = w0 ∧
      w0.heap[w.heap.size]? = some (.cells #[.int .i64 s.ls, .int .i64 s.la, .int .i64 s.hs, .int .i64 s.ha, .int .i64 s.v] 39 (0, 0)) ∧ w0.heap[w.heap.size + 1]? = some (.cells #[.int .i64 cs, .int .i64 ca] 26 (0, 0)) ∧ Mod (fun _ => False) w w0 :=
    ⟨_, rfl, alloc2_0 _ _ _, alloc2_1 _ _ _, ((Mod.refl _ _).alloc _).alloc _⟩
  obtain ⟨d0, e0⟩ := blkc b0
  obtain ⟨d1, e1⟩ := blkc b1
  have HC := compareZ (s := s.ls) (s' := cs) hs hf w0
  go_enter Tryz.func88, Tryz.ntmps88
  go_wp2_with fail
  refine HC.mono ?_
  rintro e w1 ⟨rfl, M1⟩
  go_wp2_with fail
  go_ret
  exact ⟨rfl, M0.trans' M1⟩

theorem posL_le (k : Int) (l : List Sg) : posL k l ≤ l.length := List.length_filter_le _ _
/-- It is the place that parts the lesser keys from the others. -/
theorem posL_eq {k : Int} {l : List Sg} {i : Nat} (hi : i ≤ l.length) (h1 : ∀ j (hj : j < l.length), j < i → ky l[j] < k) (h2 : ∀ j (hj : j < l.length), i ≤ j → k ≤ ky l[j]) : posL k l = i := by
  unfold posL
  have e : l = l.take i ++ l.drop i := (List.take_append_drop i l).symm
  rw [e, List.filter_append, List.filter_eq_self.2, List.filter_eq_nil_iff.2]
  · simp [hi]
  · intro x hx
    obtain ⟨j, hj, rfl⟩ := List.mem_iff_getElem.1 hx
    have hj' : i + j < l.length := by simp at hj; omega
    rw [List.getElem_drop]
    have := h2 (i + j) hj' (by omega)
    simp; omega
  · intro x hx
    obtain ⟨j, hj, rfl⟩ := List.mem_iff_getElem.1 hx
    have hj2 : j < i ∧ j < l.length := by simp at hj; omega
    rw [List.getElem_take]
    simpa using h1 j hj2.2 hj2.1

set_option maxHeartbeats 2000000 in
set_option maxRecDepth 100000 in
theorem bsfZ {w : World} {v : Value} {l : List Sg} (h : RowV w v l) (hr : Row l) (hlen : l.length ≤ 65536) (cs ca : Int) (hf : fit64 ca) :
    Calls Tryz.prog 87 #[v, .agg #[.int .i64 cs, .int .i64 ca], .func (.func 88) #[] #[]] w fun e w' => e = .returned (.tuple #[.int .i64 (posL (kx cs ca) l), .bool (hasK (kx cs ca) l)]) ∧ Mod (fun _ => False) w w' := by
  obtain ⟨A, c, rfl, hA⟩ := h.slice
  obtain ⟨w0, hw0, b0, M0⟩ := boxC w cs ca
  replace h := h.keep M0
  go_enter Tryz.func87, Tryz.ntmps87
  go_wp2_with fail
  go_loopw [9, 10] (fun i j W => ∃ p q : Nat, p ≤ q ∧ q ≤ l.length ∧ i = .int .i64 p ∧ j = .int .i64 q ∧ Mod (fun _ => False) w0 W ∧ (∀ t (ht : t < l.length), t < p → ky l[t] < kx cs ca) ∧ (∀ t (ht : t < l.length), q ≤ t → kx cs ca ≤ ky l[t])) (fun i j _ => (intOf j - intOf i).toNat)
  case atStart => exact ⟨0, l.length, by omega, by omega, rfl, rfl, Mod.refl _ _, by omega, by omega⟩
  case round =>
    obtain ⟨p, q, hpq, hql, rfl, rfl, M1, h1, h2⟩ := hrel
    by_cases hlt : p < q
    · obtain ⟨g, rfl⟩ := hA (by omega)
      obtain ⟨m, hm⟩ : ∃ m, (p + q) / 2 = m := ⟨_, rfl⟩
      have hmp : p ≤ m ∧ m < q := by omega
      have hmq : (m : Int) < l.length := by omega
      have hml : m < l.length := by omega
      have hmI : ((p : Int) + q) / 2 = (m : Int) := by omega
      have hcs := fun (w' : World) (M : CM wr w') => (h.keep (M1.trans' M)).cells hml
      have hfm : fit64 l[m].la := (hr.2 l[m] (by simp)).2
      have hL : ky l[m] < kx cs ca → ∀ t (ht : t < l.length), t < m + 1 → ky l[t] < kx cs ca := fun e t ht htm => by
        by_cases e2 : t = m
        · subst e2; exact e
        · have := List.pairwise_iff_getElem.1 hr.1 t m ht hml (by omega); omega
      have hR : ¬ ky l[m] < kx cs ca → ∀ t (ht : t < l.length), m ≤ t → kx cs ca ≤ ky l[t] := fun e t ht htm => by
        by_cases e2 : t = m
        · subst e2; omega
        · have := List.pairwise_iff_getElem.1 hr.1 m t hml ht (by omega); omega
      generalize l[m] = s at hcs hfm hL hR
      have HC := hid (fun (w' : World) (M : CM wr w') => (cmp1Z s cs ca hfm hf w').mono fun e w'' ⟨h1, h2⟩ => (⟨h1, Mod.trans' M h2⟩ : e = Ending.returned (.int .i64 (cmpI (ky s) (kx cs ca))) ∧ CM wr w''))
      have HB := hid (fun (w' : World) (M : CM wr w') => And.intro (blkc (Mod.heap (M1.trans' M) b0 fun h => h)) (hcs w' M))
      have fin1 : ky s < kx cs ca → ∀ W, Mod (fun _ => False) wr W → ∃ p' q' : Nat, p' ≤ q' ∧ q' ≤ l.length ∧ Value.int .i64 ((m : Int) + 1) = .int .i64 p' ∧ Value.int .i64 (q : Int) = .int .i64 q' ∧ Mod (fun _ => False) w0 W ∧ (∀ t (ht : t < l.length), t < p' → ky l[t] < kx cs ca) ∧ (∀ t (ht : t < l.length), q' ≤ t → kx cs ca ≤ ky l[t]) :=
        fun e W M => ⟨m + 1, q, by omega, hql, by simp, rfl, M1.trans' M, hL e, h2⟩
      have fin2 : ¬ ky s < kx cs ca → ∀ W, Mod (fun _ => False) wr W → ∃ p' q' : Nat, p' ≤ q' ∧ q' ≤ l.length ∧ Value.int .i64 (p : Int) = .int .i64 p' ∧ Value.int .i64 (m : Int) = .int .i64 q' ∧ Mod (fun _ => False) w0 W ∧ (∀ t (ht : t < l.length), t < p' → ky l[t] < kx cs ca) ∧ (∀ t (ht : t < l.length), q' ≤ t → kx cs ca ≤ ky l[t]) :=
        fun e W M => ⟨p, m, by omega, by omega, rfl, rfl, M1.trans' M, h1, hR e⟩
      clear hcs hL hR h1 h2 hfm h M1
      replace hm := hid hm
      replace hr := hid hr
      obtain ⟨ls, la, hs, ha, sv⟩ := s
      by_cases e : ky ⟨ls, la, hs, ha, sv⟩ < kx cs ca
      · have fin := hid (fin1 e)
        rw [cmpI_lt e] at HC
        clear fin1 fin2 e
        go_wp2_with fail
        refine cq_region (by kernel_rfl) (by kernel_rfl) ?_
        iterate 8 (refine wpQuiet_step (fun K hK => ?_); go_simp; first | (refine hK _ ?_; clear hK K) | (refine ⟨_, fun _ _ => rfl, hK _ ?_⟩; clear hK K) | (apply Exists.intro; refine ⟨fun wq hq => ?_, hK _ ?_⟩; (focus (first | (go_at_call 88; exact HC.out _ hq) | (obtain ⟨⟨t1, t2⟩, t3, t4, t5, t6, t7⟩ := HB.out _ hq; go_simp; try with_reducible rfl))); clear hK K))
        refine wpQuiet_nil ?_
        intro w2 M2
        clear HB HC
        go_wp2_with fail
        go_roundw
        case rel => exact fin.out _ M2
        case measure => simp [intOf]; omega
      · have fin := hid (fin2 e)
        have e2 : ¬ cmpI (ky ⟨ls, la, hs, ha, sv⟩) (kx cs ca) < 0 := fun h => e (cmpI_neg.1 h)
        have e3 := cmpI_bd (ky ⟨ls, la, hs, ha, sv⟩) (kx cs ca)
        generalize cmpI (ky ⟨ls, la, hs, ha, sv⟩) (kx cs ca) = cv at HC e2 e3
        clear fin1 fin2 e
        go_wp2_with fail
        refine cq_region (by kernel_rfl) (by kernel_rfl) ?_
        iterate 8 (refine wpQuiet_step (fun K hK => ?_); go_simp; first | (refine hK _ ?_; clear hK K) | (refine ⟨_, fun _ _ => rfl, hK _ ?_⟩; clear hK K) | (apply Exists.intro; refine ⟨fun wq hq => ?_, hK _ ?_⟩; (focus (first | (go_at_call 88; exact HC.out _ hq) | (obtain ⟨⟨t1, t2⟩, t3, t4, t5, t6, t7⟩ := HB.out _ hq; go_simp; try with_reducible rfl))); clear hK K))
        refine wpQuiet_nil ?_
        intro w2 M2
        clear HB HC
        go_wp2_with fail
        go_roundw
        case rel => exact fin.out _ M2
        case measure => simp [intOf]; omega
    · obtain rfl : p = q := by omega
      have hp := posL_eq hql h1 h2
      by_cases hpl : p < l.length
      · obtain ⟨g, rfl⟩ := hA (by omega)
        have hcs := fun (w' : World) (M : CM wr w') => (h.keep (M1.trans' M)).cells hpl
        have hfm : fit64 l[p].la := (hr.2 l[p] (by simp)).2
        have hK : hasK (kx cs ca) l = decide (ky l[p] = kx cs ca) := by
          rw [Bool.eq_iff_iff]
          unfold hasK
          rw [List.any_eq_true]
          constructor
          · rintro ⟨x, hx, ex⟩
            obtain ⟨j, hj, rfl⟩ := List.mem_iff_getElem.1 hx
            have ex : ky l[j] = kx cs ca := by simpa using ex
            have : j = p := by
              rcases Nat.lt_trichotomy j p with e | e | e
              · have := h1 j hj e; omega
              · exact e
              · have := List.pairwise_iff_getElem.1 hr.1 p j hpl hj e
                have := h2 p hpl (Nat.le_refl _); omega
            subst this; simpa using ex
          · intro ex
            exact ⟨l[p], by simp, by simpa using ex⟩
        generalize l[p] = s at hcs hfm hK
        have HC := hid (fun (w' : World) (M : CM wr w') => (cmp1Z s cs ca hfm hf w').mono fun e w'' ⟨h1, h2⟩ => (⟨h1, Mod.trans' M h2⟩ : e = Ending.returned (.int .i64 (cmpI (ky s) (kx cs ca))) ∧ CM wr w''))
        have HB := hid (fun (w' : World) (M : CM wr w') => And.intro (blkc (Mod.heap (M1.trans' M) b0 fun h => h)) (hcs w' M))
        have hK2 : hasK (kx cs ca) l = (cmpI (ky s) (kx cs ca) == 0) := by
          rw [hK, Bool.eq_iff_iff]; simp [cmpI_zero]
        generalize cmpI (ky s) (kx cs ca) = cv at HC hK2
        have MM := M0.trans' M1
        clear hcs h1 h2 hfm h M1 hlt hql hpq hK hr
        replace hp := hid hp
        replace hK2 := hid hK2
        have hpI : (p : Int) < l.length := by omega
        obtain ⟨ls, la, hs, ha, sv⟩ := s
        go_wp2_with fail
        refine cq_region (by kernel_rfl) (by kernel_rfl) ?_
        iterate 16 (refine wpQuiet_step (fun K hK => ?_); go_simp; first | (refine hK _ ?_; clear hK K) | (refine ⟨_, fun _ _ => rfl, hK _ ?_⟩; clear hK K) | (apply Exists.intro; refine ⟨fun wq hq => ?_, hK _ ?_⟩; (focus (first | (go_at_call 88; exact HC.out _ hq) | (obtain ⟨⟨t1, t2⟩, t3, t4, t5, t6, t7⟩ := HB.out _ hq; go_simp; try with_reducible rfl))); clear hK K))
        refine wpQuiet_nil ?_
        intro w2 M2
        go_wp2_with fail
        go_ret2
        exact ⟨by rw [hp.out, hK2.out]; rfl, MM.trans' M2⟩
      · have hK : hasK (kx cs ca) l = false := by
          unfold hasK
          rw [List.any_eq_false]
          intro x hx
          obtain ⟨j, hj, rfl⟩ := List.mem_iff_getElem.1 hx
          have := h1 j hj (by omega)
          simp; omega
        have hpe : p = l.length := by omega
        have MM := M0.trans' M1
        clear h1 h2 h M1 hlt hql hpq hr
        replace hp := hid hp
        replace hK := hid hK
        subst hpe
        go_wp2_with fail
        go_quiet (fail)
        go_wp2_with fail
        go_ret2
        exact ⟨by rw [hp.out, hK.out]; rfl, MM.drewN _⟩
end Go.Proofs.Bo
