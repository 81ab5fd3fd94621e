import Derived.Test.YtofgoehkahcajaaRFind
set_option linter.unusedVariables false
set_option linter.unusedSimpArgs false
namespace Go.Proofs.Bo
open Go Go.RowKit

def whichI (d own : Bool) : Int := if d then (if own then 2 else 3) else (if own then 0 else 1)
theorem nearS_nil {d own : Bool} {k : Int} : nearS d own k [] = none := by cases d <;> rfl
theorem nearS_snoc_f {own : Bool} {k : Int} {l : List Sg} {x : Sg} : nearS false own k (l ++ [x]) = if fitB false own k (ky x) then some x else nearS false own k l := by
  unfold nearS
  by_cases h : fitB false own k (ky x) = true <;> simp [List.filter_append, h]
theorem nearS_snoc_t {own : Bool} {k : Int} {l : List Sg} {x : Sg} : nearS true own k (l ++ [x]) = if (nearS true own k l).isSome then nearS true own k l else if fitB true own k (ky x) then some x else none := by
  unfold nearS
  simp only [if_true, List.filter_append]
  cases h2 : List.filter (fun x => fitB true own k (ky x)) l with
  | nil => by_cases h : fitB true own k (ky x) = true <;> simp [h]
  | cons a b => simp

/-- The best one behind one more. -/
def nxtS (d own : Bool) (k : Int) (o : Option Sg) (x : Sg) : Option Sg := if d && o.isSome then o else if fitB d own k (ky x) then some x else o
theorem nearS_snoc {d own : Bool} {k : Int} {l : List Sg} {x : Sg} : nearS d own k (l ++ [x]) = nxtS d own k (nearS d own k l) x := by
  cases d
  · rw [nearS_snoc_f]; simp [nxtS]
  · rw [nearS_snoc_t]; unfold nxtS
    cases nearS true own k l <;> simp
def NearX (w w0 : World) (l : List Sg) (d own : Bool) (k0 : Int) (found i : Value) (W : World) : Prop :=
  ∃ k : Nat, k ≤ l.length ∧ i = .int .i64 k ∧ found = .bool (nearS d own k0 (l.take k)).isSome ∧ Mod (fun _ => False) w W ∧ Mod (fun j => j = w.heap.size + 1 + 1) w0 W ∧ W.heap[w.heap.size + 1 + 1]? = some (.cells (encS (oS (nearS d own k0 (l.take k)))).toArray 36 (0, 0)) ∧
   W.heap[w.heap.size + 1]? = some (.cells #[.int .i64 0, .int .i64 0, .int .i64 0, .int .i64 0, .int .i64 0] 36 (0, 0))

set_option maxHeartbeats 8000000 in
set_option maxRecDepth 100000 in
theorem nearR (d own : Bool) {w : World} {v : Value} {l : List Sg} (h : RowV w v l) (hr : Row l) (hlen : l.length ≤ 65536) (cs ca : Int) (hf : fit64 ca) :
    Calls Try.prog 28 #[v, .agg #[.int .i64 cs, .int .i64 ca], .int .i64 (whichI d own)] w fun e w' => e = .returned (optS (nearS d own (kx cs ca) l)) ∧ Mod (fun _ => False) w w' := by
  obtain ⟨A, c, rfl, hA⟩ := h.slice
  obtain ⟨w0, hw0, b0, b1, b2, M0⟩ : ∃ w0, ((w.alloc (.cells #[.int .i64 cs, .int .i64 ca] 32)).alloc (.cells #[.int .i64 0, .int .i64 0, .int .i64 0, .int .i64 0, .int .i64 0] 36)).alloc (.cells #[.int .i64 0, .int .i64 0, .int .i64 0, .int .i64 0, .int .i64 0] 36) = w0 ∧
    w0.heap[w.heap.size]? = some (.cells #[.int .i64 cs, .int .i64 ca] 32 (0, 0)) ∧ w0.heap[w.heap.size + 1]? = some (.cells #[.int .i64 0, .int .i64 0, .int .i64 0, .int .i64 0, .int .i64 0] 36 (0, 0)) ∧ w0.heap[w.heap.size + 1 + 1]? = some (.cells #[.int .i64 0, .int .i64 0, .int .i64 0, .int .i64 0, .int .i64 0] 36 (0, 0)) ∧ Mod (fun _ => False) w w0 :=
    ⟨_, rfl, alloc3_0 _ _ _ _, alloc3_1 _ _ _ _, alloc3_2 _ _ _ _, (((Mod.refl _ _).alloc _).alloc _).alloc _⟩
  have h0 := h
  replace h := h.keep M0
  obtain ⟨q, hq⟩ : ∃ q, whichI d own = q := ⟨_, rfl⟩
  rw [hq]
  have hd4 : (d = false ∧ own = true ∧ q = 0) ∨ (d = false ∧ own = false ∧ q = 1) ∨ (d = true ∧ own = true ∧ q = 2) ∨ (d = true ∧ own = false ∧ q = 3) := by
    rw [← hq]; cases d <;> cases own <;> simp [whichI]
  clear hq
  rcases hd4 with ⟨hdd, hoo, rfl⟩ | ⟨hdd, hoo, rfl⟩ | ⟨hdd, hoo, rfl⟩ | ⟨hdd, hoo, rfl⟩
  all_goals
    replace hdd := hid hdd
    replace hoo := hid hoo
    go_enter Try.func28, Try.ntmps28
    go_wp2_with fail
    go_loopw [9, 10] (fun found i W => NearX w w0 l d own (kx cs ca) found i W) (fun _ i _ => (l.length - intOf i).toNat)
    case atStart => exact ⟨0, by omega, rfl, by rw [List.take_zero, nearS_nil]; rfl, M0, Mod.refl _ _, by rw [List.take_zero, nearS_nil]; exact b2, b1⟩
    case round =>
      obtain ⟨k, hk, rfl, rfl, M1, M2, q2, q1⟩ := hrel
      have hr1 : RowV wr (.slice A l.length c) l := own_mod h M2 fun j hj e => by have := own_lt h0 hj; omega
      by_cases hlt : k < l.length
      · obtain ⟨g, rfl⟩ := hA (by omega)
        have hcs := fun (w' : World) (M : CM wr w') => (hr1.keep M).cells hlt
        have htk : l.take (k + 1) = l.take k ++ [l[k]] := by simp
        have hnx := congrArg (nearS d own (kx cs ca)) htk
        rw [nearS_snoc] at hnx
        have hmem : fit64 l[k].la := (hr.2 l[k] (by simp)).2
        have fin1 : nearS d own (kx cs ca) (l.take (k + 1)) = nearS d own (kx cs ca) (l.take k) → ∀ W, Mod (fun _ => False) wr W → NearX w w0 l d own (kx cs ca) (.bool (nearS d own (kx cs ca) (l.take k)).isSome) (.int .i64 ((k : Int) + 1)) W := fun e W M =>
          ⟨k + 1, by omega, by simp, by rw [e], M1.trans' M, M2.trans M fun _ h => h.elim, by rw [e]; exact M.heap q2 fun h => h, M.heap q1 fun h => h⟩
        have fin2 : nearS d own (kx cs ca) (l.take (k + 1)) = some l[k] → ∀ W, Mod (fun _ => False) wr W → NearX w w0 l d own (kx cs ca) (.bool true) (.int .i64 ((k : Int) + 1)) (((((W.setCell ⟨w.heap.size + 1 + 1, 0, none⟩ (.int .i64 l[k].ls)).setCell ⟨w.heap.size + 1 + 1, 1, none⟩ (.int .i64 l[k].la)).setCell ⟨w.heap.size + 1 + 1, 2, none⟩ (.int .i64 l[k].hs)).setCell ⟨w.heap.size + 1 + 1, 3, none⟩ (.int .i64 l[k].ha)).setCell ⟨w.heap.size + 1 + 1, 4, none⟩ (.int .i64 l[k].v)) := fun e W M => by
          have q2' := M.heap q2 fun h => h
          have q1' := M.heap q1 fun h => h
          refine ⟨k + 1, by omega, by simp, by rw [e]; rfl, ?_, ?_, ?_, ?_⟩
          · exact (store5 q2' (by omega) (M1.trans' M)).2
          · exact (((((M2.trans M fun _ h => h.elim).setCell (.inl rfl) _).setCell (.inl rfl) _).setCell (.inl rfl) _).setCell (.inl rfl) _).setCell (.inl rfl) _
          · rw [e]; exact (store5 q2' (by omega) (M1.trans' M)).1
          · rw [heap_set_ne (by simp), heap_set_ne (by simp), heap_set_ne (by simp), heap_set_ne (by simp), heap_set_ne (by simp)]; exact q1'
        have hkl : (k : Int) < l.length := by omega
        have hkb : (k : Int) < 65536 := by omega
        have HB := hid (fun (w' : World) (M : CM wr w') => And.intro (blkc (Mod.heap M (M2.heap b0 (by omega)) fun h => h)) (And.intro (blkc (Mod.heap M q2 fun h => h)) (hcs w' M)))
        generalize nearS d own (kx cs ca) (l.take k) = o, nearS d own (kx cs ca) (l.take (k + 1)) = o' at hnx fin1 fin2 q2 HB ⊢
        generalize l[k] = s at *
        have HK := hid (fun (w' : World) (M : CM wr w') => (keyR s w').mono fun e w'' ⟨h1, h2⟩ => (⟨h1, Mod.trans' M h2⟩ : e = Ending.returned (.agg #[.int .i64 s.ls, .int .i64 s.la]) ∧ CM wr w''))
        have HC := hid (fun (w' : World) (M : CM wr w') => (compareR (s := s.ls) (s' := cs) hmem hf w').mono fun e w'' ⟨h1, h2⟩ => (⟨h1, Mod.trans' M h2⟩ : e = Ending.returned (.int .i64 (cmpI (ky s) (kx cs ca))) ∧ CM wr w''))
        clear hr1 hcs htk hmem h h0 M1 M2 q1 q2 hr
        obtain ⟨ls, la, hs, ha, sv⟩ := s
        dsimp only at HK HC fin2
        dsimp only [encS] at HB
        rcases (show (ky ⟨ls, la, hs, ha, sv⟩ < kx cs ca ∧ ¬ ky ⟨ls, la, hs, ha, sv⟩ = kx cs ca ∧ ¬ kx cs ca < ky ⟨ls, la, hs, ha, sv⟩) ∨ (¬ ky ⟨ls, la, hs, ha, sv⟩ < kx cs ca ∧ ky ⟨ls, la, hs, ha, sv⟩ = kx cs ca ∧ ¬ kx cs ca < ky ⟨ls, la, hs, ha, sv⟩) ∨
          (¬ ky ⟨ls, la, hs, ha, sv⟩ < kx cs ca ∧ ¬ ky ⟨ls, la, hs, ha, sv⟩ = kx cs ca ∧ kx cs ca < ky ⟨ls, la, hs, ha, sv⟩) by omega) with ⟨e, n1, n2⟩ | ⟨e, n1, n2⟩ | ⟨e, n1, n2⟩
        all_goals
          simp only [cmpI, e, n2, if_true, if_false] at HC
          cases o
          all_goals
            simp [nxtS, fitB, hdd.out, hoo.out, e, n1, n2] at hnx
            subst hnx
            clear e n1 n2
            dsimp only [Option.isSome] at fin1 ⊢
            go_wp2_with fail
            refine cq_region (by kernel_rfl) (by kernel_rfl) ?_
            iterate 8 (refine wpQuiet_step (fun K hK => ?_); go_simp; first | (refine hK _ ?_; clear hK K) | (refine ⟨_, fun _ _ => rfl, hK _ ?_⟩; clear hK K) | (apply Exists.intro; refine ⟨fun wq hq => ?_, hK _ ?_⟩; (focus (first | (go_at_call 49; exact HK.out _ hq) | (go_at_call 52; exact HC.out _ hq) | (obtain ⟨⟨t1, t2⟩, ⟨t3, t4⟩, t5, t6, t7, t8, t9⟩ := HB.out _ hq; go_simp; try with_reducible rfl))); clear hK K))
            refine wpQuiet_nil ?_
            intro w2 M2
            obtain ⟨⟨t1, t2⟩, ⟨t3, t4⟩, t5, t6, t7, t8, t9⟩ := HB.out _ M2
            replace fin1 := hid (fun e => fin1 e w2 M2)
            replace fin2 := hid (fun e => fin2 e w2 M2)
            clear HB HK HC
            go_wp2_with fail
            go_roundw
            case rel => first | exact fin1.out rfl | exact fin1.out trivial | exact fin2.out rfl | exact fin2.out trivial
            case measure => simp [intOf]; omega
      · obtain rfl : k = l.length := by omega
        rw [List.take_length] at *
        obtain ⟨t3, t4⟩ := blkc q2
        obtain ⟨t5, t6⟩ := blkc q1
        clear hr1 h h0 hr
        obtain ⟨o, ho⟩ : ∃ o, nearS d own (kx cs ca) l = o := ⟨_, rfl⟩
        rw [ho] at q2 t3 ⊢
        replace ho := hid ho
        dsimp only [encS] at t3
        go_wp2_with fail
        obtain ⟨b3, M3⟩ := store5 (a' := .int .i64 (oS o).ls) (b' := .int .i64 (oS o).la) (c' := .int .i64 (oS o).hs) (d' := .int .i64 (oS o).ha) (e' := .int .i64 (oS o).v) q1 (by omega) M1
        exact ret_row_tmp (fn := Try.f28) (w.heap.size + 1) (encS (oS o)) rfl rfl b3 Try.underlying36 rfl (by kernel_rfl) rfl ⟨by rw [ho.out]; rfl, M3⟩
end Go.Proofs.Bo
