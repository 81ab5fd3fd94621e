import Derived.Test.YtofgoehkahcajaaGreatPBG
import Derived.Test.YtofgoehkahcajaaGreatMBG
import Derived.Test.YtofgoehkahcajaaGreatSplit7b
set_option linter.unusedVariables false
set_option linter.unusedSimpArgs false
namespace Go.Proofs.Bo
open Go Go.RowKit
section
variable {w w' : World} {tb ab : Nat} {lv fv : Value} {σ : List (Option Bn)} {free : List Int} {root deg room many : Int} {S : StB}
theorem MemB.liveIff (h : MemB w tb ab lv fv σ free root deg room many S) (i : Nat) : S i ≠ none ↔ i < σ.length ∧ σ[i]? ≠ some none := by
  constructor
  · intro hs
    obtain ⟨⟨l, ks⟩, e⟩ := Option.ne_none_iff_exists'.1 hs
    obtain ⟨b, hb, _⟩ := h.live e
    exact ⟨(List.getElem?_eq_some_iff.1 hb).1, by rw [hb]; simp⟩
  · rintro ⟨hl, hn⟩ e
    cases hp : σ[i]? with
    | none => rw [List.getElem?_eq_none_iff] at hp; omega
    | some p =>
      cases p with
      | none => exact hn hp
      | some b =>
        obtain ⟨l, ks, q, _⟩ := h.node i b hp
        rw [e] at q; cases q
/-- How many nodes there are. -/
theorem MemB.count (h : MemB w tb ab lv fv σ free root deg room many S) {F : List Nat} (hA : Alls S F) : cntB σ free = F.length := by
  have ha := h.a.inv
  have hp : (F.map (fun i : Nat => (i : Int)) ++ free).Perm ((List.range σ.length).map (fun i : Nat => (i : Int))) := by
    rw [List.perm_ext_iff_of_nodup]
    · intro k
      rw [List.mem_append, List.mem_map, List.mem_map, ha.mem]
      constructor
      · rintro (⟨i, hi, rfl⟩ | ⟨i, rfl, hi⟩)
        · exact ⟨i, List.mem_range.2 ((h.liveIff i).1 ((hA.2 i).1 hi)).1, rfl⟩
        · exact ⟨i, List.mem_range.2 (List.getElem?_eq_some_iff.1 hi).1, rfl⟩
      · rintro ⟨i, hi, rfl⟩
        rw [List.mem_range] at hi
        by_cases hn : σ[i]? = some none
        · exact .inr ⟨i, rfl, hn⟩
        · exact .inl ⟨i, (hA.2 i).2 ((h.liveIff i).2 ⟨hi, hn⟩), rfl⟩
    · rw [List.nodup_append]
      refine ⟨?_, ha.nodup, ?_⟩
      · rw [List.nodup_iff_pairwise_ne, List.pairwise_map]
        exact List.Pairwise.imp (fun h e => h (by omega)) hA.1
      · rintro a h1 b h2 rfl
        obtain ⟨i, hi, rfl⟩ := List.mem_map.1 h1
        obtain ⟨j, e2, hj⟩ := (ha.mem _).1 h2
        obtain rfl : i = j := by omega
        exact ((h.liveIff i).1 ((hA.2 i).1 hi)).2 hj
    · rw [List.nodup_iff_pairwise_ne, List.pairwise_map]
      exact List.Pairwise.imp (fun h e => h (by omega)) List.nodup_range
  have := hp.length_eq
  rw [List.length_append, List.length_map, List.length_map, List.length_range] at this
  unfold cntB
  omega
end
end Go.Proofs.Bo
set_option linter.unusedVariables false
set_option linter.unusedSimpArgs false
namespace Go.Proofs.Bo
open Go Go.RowKit
theorem Sub.kidsLen {d : Nat} {S : StB'} {h lo i : Nat} {L l : List Sg} {ks : List Nat} {F : List Nat} (hs : Sub d S h lo i L F) (hl : S i = some (l, ks)) : (h = 0 → ks = []) ∧ (0 < h → ks.length = l.length + 1) := by
  cases h with
  | zero =>
    obtain ⟨q1, _⟩ := hs
    rw [hl] at q1; cases q1
    exact ⟨fun _ => rfl, fun h => by omega⟩
  | succ h =>
    obtain ⟨l', cs, h1, h2, h3, h4, _⟩ := hs
    rw [hl] at h1; cases h1
    exact ⟨fun h => by omega, fun _ => by simpa using h4⟩
section
variable {w w' : World} {tb ab : Nat} {lv fv : Value} {σ : List (Option Bn)} {free : List Int} {root room many : Int} {S : StB} {d : Nat} {L : List Sg}

/-- Behind a split. -/
def Split8Q (w : World) (tb ab : Nat) (lv fv : Value) (σ : List (Option Bn)) (root deg room many : Int) (S : StB) (d g lo i k : Nat) (L l : List Sg) (F : List Nat) (w' : World) : Prop :=
  ∃ (S' : StB) (lv' fv' : Value) (σ' : List (Option Bn)) (free' : List Int) (l' : List Sg) (ks' F' : List Nat) (up : Sg),
    MemB w' tb ab lv' fv' σ' free' root deg room many S' ∧ S' i = some (l', ks') ∧ l' = l.take k ++ up :: l.drop k ∧ Sub d S' (g + 1) (lo + 1) i L F' ∧ Chg S S' F F' ∧
    (∀ t, t = k ∨ t = k + 1 → ∃ kt lt kk, ks'[t]? = some kt ∧ S' kt = some (lt, kk) ∧ lt.length = d - 1) ∧ Mod (FootB tb ab lv fv σ) w w' ∧ (∀ x, FootB tb ab lv' fv' σ' x → FootB tb ab lv fv σ x ∨ w.heap.size ≤ x)

theorem splitBZ (h : MemB w tb ab lv fv σ free root (d : Int) room many S) (hd : 2 ≤ d ∧ d ≤ 64) {g lo i k kid : Nat} {l lk : List Sg} {ks kk F : List Nat} (hs : Sub d S (g + 1) lo i L F) (hi : S i = some (l, ks)) (hnd : F.Nodup) (hk : k ≤ l.length) (hkid : ks[k]? = some kid)
    (hkl : S kid = some (lk, kk)) (hfull : lk.length = 2 * d - 1) (hlen : l.length + 1 ≤ 2 * d - 1) (hroom : cntB σ free < 2 * room + 4) :
    Calls Tryz.prog 54 #[.pointer (some ⟨tb, 0, none⟩), .int .i64 i, .int .i64 k] w fun e w' => e = .returned (.tuple #[]) ∧ Split8Q w tb ab lv fv σ root d room many S d g lo i k L l F w' := by
  obtain ⟨m, rfl⟩ : ∃ m, d = m + 1 := ⟨d - 1, by omega⟩
  obtain ⟨C1, a, C2, q1, q2, q3, q4, q5, q6, q7, q8, q9, q10⟩ := hs.one hi k hk
  have hka : (C1.map Ch.i ++ a.i :: C2.map Ch.i)[k]? = some a.i := (take_mid (by simpa using q2)).2.2
  rw [q1, hka] at hkid
  obtain rfl : a.i = kid := by injection hkid
  obtain ⟨c1, c2⟩ := q5.kidsLen hkl
  obtain ⟨i1, i2⟩ := hs.kidsLen hi
  have i3 := i2 (by omega)
  have hne : a.i ≠ i := fun e => by
    rw [q8] at hnd
    refine (List.nodup_cons.1 hnd).1 ?_
    have := q5.mem
    rw [← e]
    simp [this]
  have hup : m < lk.length := by omega
  have e1 : lk = lk.take m ++ lk[m] :: lk.drop (m + 1) := by rw [← List.drop_eq_getElem_cons hup, List.take_append_drop]
  have hl1 : (lk.take m).length = m := by simp; omega
  have hl2 : (lk.drop (m + 1)).length = m := by simp; omega
  have hkk : k < ks.length := by omega
  have hkk2 : ks[k] = a.i := by
    have := hka
    rw [← q1, List.getElem?_eq_getElem hkk] at this
    injection this
  generalize lk.take m = l1 at e1 hl1
  generalize lk.drop (m + 1) = l2 at e1 hl2
  generalize lk[m] = up at e1
  subst e1
  have fin : ∀ (k1 k2 : List Nat), kk = k1 ++ k2 → (g = 0 → k1 = []) → (0 < g → k1.length = l1.length + 1) → ∀ w', (∃ (j : Nat) (lv' fv' : Value) (σ' : List (Option Bn)) (free' : List Int), S j = none ∧
    MemB w' tb ab lv' fv' σ' free' root ((m : Int) + 1) room many (((S.set a.i (some (l1, k1))).set j (some (l2, k2))).set i (some (l.take k ++ up :: l.drop k, ks.take (k + 1) ++ j :: ks.drop (k + 1)))) ∧
    Mod (FootB tb ab lv fv σ) w w' ∧ (∀ k, FootB tb ab lv' fv' σ' k → FootB tb ab lv fv σ k ∨ w.heap.size ≤ k) ∧ cntB σ' free' = cntB σ free + 1) → Split8Q w tb ab lv fv σ root ((m + 1 : Nat) : Int) room many S (m + 1) g lo i k L l F w' := by
    rintro k1 k2 rfl hk0 hk1 w' ⟨j, lv', fv', σ', free', hj, hm, M, Fo, _⟩
    have hji : j ≠ i := fun e => by rw [e, hi] at hj; cases hj
    have hja : j ≠ a.i := fun e => by rw [e, hkl] at hj; cases hj
    have E1 : (((S.set a.i (some (l1, k1))).set j (some (l2, k2))).set i (some (l.take k ++ up :: l.drop k, ks.take (k + 1) ++ j :: ks.drop (k + 1)))) a.i = some (l1, k1) := by rw [StB.set_ne _ _ hne, StB.set_ne _ _ (Ne.symm hja), StB.set_self]
    have E2 : (((S.set a.i (some (l1, k1))).set j (some (l2, k2))).set i (some (l.take k ++ up :: l.drop k, ks.take (k + 1) ++ j :: ks.drop (k + 1)))) j = some (l2, k2) := by rw [StB.set_ne _ _ hji, StB.set_self]
    obtain ⟨F', s1, s2⟩ := hs.split (S' := ((S.set a.i (some (l1, k1))).set j (some (l2, k2))).set i (some (l.take k ++ up :: l.drop k, ks.take (k + 1) ++ j :: ks.drop (k + 1)))) hi hnd hk (kid := a.i) (j := j) (by rw [q1]; exact hka) hkl hk1 hk0 (by omega) (by omega) hj hlen E1 E2 (StB.set_self ..) (fun x n1 n2 n3 => by rw [StB.set_ne _ _ n3, StB.set_ne _ _ n2, StB.set_ne _ _ n1])
    refine ⟨_, lv', fv', σ', free', _, _, F', up, hm, StB.set_self .., rfl, s1, s2, ?_, M, Fo⟩
    rintro t (rfl | rfl)
    · refine ⟨a.i, l1, k1, ?_, E1, by omega⟩
      rw [List.getElem?_append_left (by simp; omega), List.getElem?_take, if_pos (by omega), List.getElem?_eq_getElem hkk, hkk2]
    · refine ⟨j, l2, k2, ?_, E2, by omega⟩
      rw [List.getElem?_append_right (by simp; omega)]
      have : (ks.take (k + 1)).length = k + 1 := by simp; omega
      rw [this]; simp
  cases g with
  | zero =>
    obtain rfl := c1 rfl
    exact (splitBZ_leaf (m := m) (by simpa using h) ⟨by omega, by omega⟩ hi hkk hk hkk2 hkl hl1 hl2 hne (by omega) (by omega) hroom).mono fun e w' ⟨h1, h2⟩ => ⟨h1, fin [] [] rfl (fun _ => rfl) (fun h => by omega) w' h2⟩
  | succ g =>
    have c2 := c2 (by omega)
    simp only [List.length_append, List.length_cons] at c2
    exact (splitBZ_inner (m := m) (k1 := kk.take (m + 1)) (k2 := kk.drop (m + 1)) (by simpa using h) ⟨by omega, by omega⟩ hi hkk hk hkk2 (by rw [List.take_append_drop]; exact hkl) hl1 hl2 (by simp; omega) (by simp; omega) hne (by omega) (by omega) hroom).mono fun e w' ⟨h1, h2⟩ =>
      ⟨h1, fin _ _ (List.take_append_drop _ _).symm (fun h => by omega) (fun _ => by simp; omega) w' h2⟩
end
end Go.Proofs.Bo
