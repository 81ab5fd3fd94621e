import Derived.Test.YtofgoehkahcajaaGreatRef2
import Derived.Test.YtofgoehkahcajaaGreatBoG
set_option linter.unusedVariables false
set_option linter.unusedSimpArgs false
namespace Go.Proofs.Bo
open Go Go.RowKit

/-- A row of segments in memory. -/
def RowV (w : World) (v : Value) (l : List Sg) : Prop := w.ownsRow 0 39 5 v l.length (l.flatMap encS)
theorem RowV.keep {w w' : World} {v : Value} {l : List Sg} (h : RowV w v l) (m : Mod (fun _ => False) w w') : RowV w' v l := own_mod h m fun _ _ h => h
theorem RowV.nil (w : World) : RowV w (.slice none 0 0) [] := World.ownsRow_nil _ _ _ _
theorem RowV.slice {w : World} {v : Value} {l : List Sg} (h : RowV w v l) : ∃ A c, v = .slice A l.length c ∧ (0 < l.length → ∃ g, A = some ⟨g, 0, none⟩) := by
  rcases h.2 with ⟨rfl, e⟩ | ⟨g, cap, cur, rfl, _⟩
  · exact ⟨none, 0, by rw [e], fun h => by omega⟩
  · exact ⟨_, _, rfl, fun _ => ⟨g, rfl⟩⟩
theorem flat5 : ∀ (l : List Sg) (k j : Nat) (u : Value), (hk : k < l.length) → (encS l[k])[j]? = some u → (l.flatMap encS)[k * 5 + j]? = some u
  | x :: l, 0, j, u, _, h => by
    have hj : j < 5 := (List.getElem?_eq_some_iff.1 h).1
    simp only [List.flatMap_cons, Nat.zero_mul, Nat.zero_add]
    rw [List.getElem?_append_left (by simpa [encS] using hj)]
    exact h
  | x :: l, k + 1, j, u, hk, h => by
    simp only [List.flatMap_cons]
    rw [List.getElem?_append_right (by simp [encS]; omega)]
    have := flat5 l k j u (by simpa using hk) (by simpa using h)
    rw [show (k + 1) * 5 + j - (encS x).length = k * 5 + j by simp [encS]; omega]
    exact this
theorem RowV.cells {w : World} {g n c : Nat} {l : List Sg} (h : RowV w (.slice (some ⟨g, 0, none⟩) n c) l) {k : Nat} (hk : k < l.length) :
    w.cell? ⟨g, k * 5, none⟩ = some (.int .i64 l[k].ls) ∧ w.cell? ⟨g, k * 5 + 1, none⟩ = some (.int .i64 l[k].la) ∧ w.cell? ⟨g, k * 5 + 2, none⟩ = some (.int .i64 l[k].hs) ∧
    w.cell? ⟨g, k * 5 + 3, none⟩ = some (.int .i64 l[k].ha) ∧ w.cell? ⟨g, k * 5 + 4, none⟩ = some (.int .i64 l[k].v) := by
  have H : ∀ j u, (encS l[k])[j]? = some u → w.cell? ⟨g, k * 5 + j, none⟩ = some u := by
    intro j u hu
    have := World.ownsRow.cells h rfl (k * 5 + j) u (flat5 l k j u hk hu)
    rwa [show (⟨g, 0, none⟩ : Addr).add (k * 5 + j) = ⟨g, k * 5 + j, none⟩ by unfold Addr.add; split <;> simp_all] at this
  exact ⟨H 0 _ rfl, H 1 _ rfl, H 2 _ rfl, H 3 _ rfl, H 4 _ rfl⟩

/-- The number of the one of a key; -1: none. -/
def findI (k : Int) : List Sg → Int
  | [] => -1
  | x :: l => if ky x = k then 0 else if findI k l < 0 then -1 else findI k l + 1
theorem findI_pre {k : Int} {x : Sg} : ∀ (pre rest : List Sg), (∀ y ∈ pre, ky y ≠ k) → ky x = k → findI k (pre ++ x :: rest) = pre.length
  | [], rest, _, h => by simp [findI, h]
  | y :: pre, rest, h1, h => by
    have := findI_pre pre rest (fun z hz => h1 z (by simp [hz])) h
    simp only [List.cons_append, findI]
    rw [if_neg (h1 y (by simp)), this, if_neg (by omega)]
    simp
theorem findI_none {k : Int} : ∀ (l : List Sg), (∀ y ∈ l, ky y ≠ k) → findI k l = -1
  | [], _ => rfl
  | y :: l, h => by
    simp only [findI]
    rw [if_neg (h y (by simp)), findI_none l (fun z hz => h z (by simp [hz])), if_pos (by omega)]
theorem key_eq {s : Sg} {cs ca : Int} (h : KeyOK s) (hf : fit64 ca) : (s.ls = canS cs ca ∧ s.la = canA cs ca) ↔ ky s = kx cs ca := by
  have := can_lex (s := s.ls) (a := s.la) (s' := cs) (a' := ca) h.2 hf
  rw [h.1.1, h.1.2.1] at this
  unfold ky
  constructor
  · rintro ⟨h1, h2⟩
    rw [cmpI_eq h1, cmpI_eq h2] at this
    exact cmpI_zero.1 (by rw [this]; rfl)
  · intro e
    rw [cmpI_eq e] at this
    unfold orI at this
    by_cases h1 : cmpI s.ls (canS cs ca) = 0
    · rw [if_neg (by simpa using h1)] at this
      exact ⟨cmpI_zero.1 h1, cmpI_zero.1 this.symm⟩
    · rw [if_pos h1] at this
      exact absurd this.symm h1

set_option maxHeartbeats 1000000 in
set_option maxRecDepth 100000 in
theorem findR {w : World} {v : Value} {l : List Sg} (h : RowV w v l) (hr : Row l) (hlen : l.length ≤ 65536) (cs ca : Int) (hf : fit64 ca) :
    Calls Tryz.prog 77 #[v, .agg #[.int .i64 cs, .int .i64 ca]] w fun e w' => e = .returned (.int .i64 (findI (kx cs ca) l)) ∧ Mod (fun _ => False) w w' := by
  obtain ⟨A, c, rfl, hA⟩ := h.slice
  obtain ⟨w0, hw0, b0, M0⟩ := boxC w cs ca
  replace h := h.keep M0
  go_enter Tryz.func77, Tryz.ntmps77
  go_wp2_with fail
  go_loopw [5] (fun i W => ∃ k : Nat, k ≤ l.length ∧ i = .int .i64 k ∧ Mod (fun _ => False) w0 W ∧ ∀ j (hj : j < l.length), j < k → ky l[j] ≠ kx cs ca) (fun i _ => (l.length - intOf i).toNat)
  case atStart => exact ⟨0, by omega, rfl, Mod.refl _ _, by omega⟩
  case round =>
    obtain ⟨k, hk, rfl, M1, hno⟩ := hrel
    by_cases hlt : k < l.length
    · obtain ⟨g, rfl⟩ := hA (by omega)
      have hcs := fun (w' : World) (M : CM wr w') => (h.keep (M1.trans' M)).cells hlt
      have HE := key_eq (hr.2 l[k] (by simp)) hf (cs := cs)
      have hpre : ky l[k] = kx cs ca → findI (kx cs ca) l = k := by
        intro e
        have := findI_pre (x := l[k]) (l.take k) (l.drop (k + 1)) (fun y hy => by
          obtain ⟨j, hj, rfl⟩ := List.mem_iff_getElem.1 hy
          rw [List.getElem_take]
          have : j < k := by simp at hj; omega
          exact hno j (by omega) this) e
        rw [← List.drop_eq_getElem_cons hlt, List.take_append_drop] at this
        rw [this]; simp; omega
      have hno2 : ky l[k] ≠ kx cs ca → ∀ j (hj : j < l.length), j < k + 1 → ky l[j] ≠ kx cs ca := by
        intro e j hj hjk
        by_cases e2 : j = k
        · subst e2; exact e
        · exact hno j hj (by omega)
      generalize l[k] = s at hcs HE hpre hno2
      have HB := hid (fun (w' : World) (M : CM wr w') => And.intro (blkc (Mod.heap (M1.trans' M) b0 fun h => h)) (hcs w' M))
      have HK := hid (fun (w' : World) (M : CM wr w') => (keyR s w').mono fun e w'' ⟨h1, h2⟩ => (⟨h1, Mod.trans' M h2⟩ : e = Ending.returned (.agg #[.int .i64 s.ls, .int .i64 s.la]) ∧ CM wr w''))
      have HC := hid (fun (w' : World) (M : CM wr w') => (canonR cs ca w').mono fun e w'' ⟨h1, h2⟩ => (⟨h1, Mod.trans' M h2⟩ : e = Ending.returned (.agg #[.int .i64 (canS cs ca), .int .i64 (canA cs ca)]) ∧ CM wr w''))
      have hkb : (k : Int) < 65536 := by omega
      clear hno hcs
      generalize canS cs ca = p, canA cs ca = q at HC HE
      replace hpre := hid hpre
      replace hno2 := hid hno2
      replace hr := hid hr
      have fin : ky s ≠ kx cs ca → ∀ W, Mod (fun _ => False) wr W → ∃ k' : Nat, k' ≤ l.length ∧ Value.int .i64 ((k : Int) + 1) = .int .i64 k' ∧ Mod (fun _ => False) w0 W ∧ ∀ j (hj : j < l.length), j < k' → ky l[j] ≠ kx cs ca :=
        fun e W M => ⟨k + 1, by omega, by simp, M1.trans' M, hno2.out e⟩
      replace fin := hid fin
      obtain ⟨ls, la, hs, ha, sv⟩ := s
      by_cases e1 : ls = p
      · subst e1
        by_cases e2 : la = q
        · have hpre := hid (hpre.out (HE.1 ⟨rfl, e2⟩))
          clear HE fin
          subst e2
          go_wp2_with fail
          refine cq_region (by kernel_rfl) (by kernel_rfl) ?_
          iterate 8 (refine wpQuiet_step (fun K hK => ?_); go_simp; first | (refine hK _ ?_; clear hK K) | (refine ⟨_, fun _ _ => rfl, hK _ ?_⟩; clear hK K) | (apply Exists.intro; refine ⟨fun wq hq => ?_, hK _ ?_⟩; (focus (first | (go_at_call 48; exact HK.out _ hq) | (go_at_call 76; exact HC.out _ hq) | (obtain ⟨⟨t1, t2⟩, t3, t4, t5, t6, t7⟩ := HB.out _ hq; go_simp; try with_reducible rfl))); clear hK K))
          refine wpQuiet_nil ?_
          intro w2 M2
          clear HB HK HC
          go_wp2_with fail
          go_ret
          exact ⟨by rw [hpre.out]; rfl, M0.trans' (M1.trans' M2)⟩
        · have fin := hid (fin.out (fun e => e2 (HE.2 e).2))
          clear HE hpre
          go_wp2_with fail
          refine cq_region (by kernel_rfl) (by kernel_rfl) ?_
          iterate 8 (refine wpQuiet_step (fun K hK => ?_); go_simp; first | (refine hK _ ?_; clear hK K) | (refine ⟨_, fun _ _ => rfl, hK _ ?_⟩; clear hK K) | (apply Exists.intro; refine ⟨fun wq hq => ?_, hK _ ?_⟩; (focus (first | (go_at_call 48; exact HK.out _ hq) | (go_at_call 76; exact HC.out _ hq) | (obtain ⟨⟨t1, t2⟩, t3, t4, t5, t6, t7⟩ := HB.out _ hq; go_simp; try with_reducible rfl))); clear hK K))
          refine wpQuiet_nil ?_
          intro w2 M2
          clear HB HK HC
          go_wp2_with fail
          go_roundw
          case rel => exact fin.out _ M2
          case measure => simp [intOf]; omega
      · have fin := hid (fin.out (fun e => e1 (HE.2 e).1))
        clear HE hpre
        go_wp2_with fail
        refine cq_region (by kernel_rfl) (by kernel_rfl) ?_
        iterate 8 (refine wpQuiet_step (fun K hK => ?_); go_simp; first | (refine hK _ ?_; clear hK K) | (refine ⟨_, fun _ _ => rfl, hK _ ?_⟩; clear hK K) | (apply Exists.intro; refine ⟨fun wq hq => ?_, hK _ ?_⟩; (focus (first | (go_at_call 48; exact HK.out _ hq) | (go_at_call 76; exact HC.out _ hq) | (obtain ⟨⟨t1, t2⟩, t3, t4, t5, t6, t7⟩ := HB.out _ hq; go_simp; try with_reducible rfl))); clear hK K))
        refine wpQuiet_nil ?_
        intro w2 M2
        clear HB HK HC
        go_wp2_with fail
        go_roundw
        case rel => exact fin.out _ M2
        case measure => simp [intOf]; omega
    · obtain rfl : k = l.length := by omega
      have hf0 := findI_none l (fun y hy => by obtain ⟨j, hj, rfl⟩ := List.mem_iff_getElem.1 hy; exact hno j hj hj)
      replace hf0 := hid hf0
      clear hno
      go_wp2_with fail
      go_ret
      exact ⟨by rw [hf0.out]; rfl, M0.trans' M1⟩
end Go.Proofs.Bo
