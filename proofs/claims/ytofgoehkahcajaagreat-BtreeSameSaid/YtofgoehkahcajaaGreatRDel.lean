import Derived.Test.YtofgoehkahcajaaGreatRFind
import Derived.Deep.RegionLaw
set_option linter.unusedVariables false
set_option linter.unusedSimpArgs false
namespace Go.Proofs.Bo
open Go Go.RowKit

/-- 'append(v, xs...)' as one step of a region: xs is read where it lies. -/
theorem step_appS {P : Program} {w : World} {ops : Array Oper} {o : Oper} {a : Act} {K : Act → World → Prop} {Q : Exit → Act → World → Prop} {E : Prop} (news : List Value) (v : Value) (n : Nat) (xs : List Value) (ad : Addr) (m c : Nat) (s x : Operand) (t e : TypeId) (z : Value) (size bytes : Nat) (hgd : o.guard = none)
    (ho : o.op = .call { callee := .builtin .append, args := #[s, x], argTypes := #[t, t] })
    (ht : P.underlying t = some (.slice e)) (hinfo : (P.info? e).map (fun i => (i.zero, i.size, i.bytes)) = some (some z, size, bytes)) (hz : z.cells.size = size) (hz0 : 0 < size) (hb0 : 0 < bytes)
    (hs : a.eval s = v) (hx : a.eval x = .slice (some ad) m c) (HO : w.ownsRow 0 e size v n xs) (hnews : ∀ j u, news[j]? = some u → w.cell? (ad.add j) = some u)
    (hnl : news.length = m * size) (h1 : ∀ u ∈ news, u.oneCell' = true) (hl : (n + m) * bytes ≤ 140737488355328)
    (h : ∀ v1 w1, w1.ownsRow 0 e size v1 (n + m) (xs ++ news) → w.grownBy w1 v.ownBlock → (∀ k, v1.ownBlock = some k → v.ownBlock = some k ∨ w.heap.size ≤ k) → K (a.put o.dst v1) w1) :
    if Region.wanted o (yielded ops a.tmps) = true then Oper.wp P o a w K Q else E := by
  have hw : Region.wanted o (yielded ops a.tmps) = true := by simp [Region.wanted, hgd]
  rw [if_pos hw]
  obtain ⟨i0, hi, hzz⟩ := Option.map_eq_some_iff.1 hinfo
  simp only [Prod.mk.injEq] at hzz
  obtain ⟨hz0', hz1, hz2⟩ := hzz
  have hlen : n + m ≤ 140737488355328 := Nat.le_trans (Nat.le_mul_of_pos_right _ hb0) hl
  obtain ⟨v', w', hr, h2, h3, _, h5⟩ := run_append_own_at (P := P) w 0 t o.type e i0 z size bytes ht hi hz0' hz1 hz2 hz hz0 v n xs HO ad m c news hnl hnews h1 (by simp only [maxLen]; omega) hl (by simp)
  unfold Oper.wp execOp
  simp only [ho, resolve, invoke, builtin, Sem.run_bind, Sem.run_pure, Result.andThen_ok, List.map_toArray, List.map_cons, List.map_nil, hs, hx, hr]
  refine h _ _ h2 h3 fun k hk => ?_
  rcases h5 with h5 | h5
  · exact .inl (h5 ▸ hk)
  · rw [h5] at hk; cases hk; exact .inr (Nat.le_refl _)

theorem infoSg : (Tryz.prog.info? 39).map (fun i => (i.zero, i.size, i.bytes)) = some (some (.agg #[.int .i64 0, .int .i64 0, .int .i64 0, .int .i64 0, .int .i64 0]), 5, 40) := by kernel_rfl
theorem one_seg (l : List Sg) : ∀ u ∈ l.flatMap encS, u.oneCell' = true := by
  intro u hu
  obtain ⟨s, _, h⟩ := List.mem_flatMap.1 hu
  simp only [encS, List.mem_cons, List.not_mem_nil, or_false] at h
  rcases h with rfl | rfl | rfl | rfl | rfl <;> rfl
theorem len_seg (l : List Sg) : (l.flatMap encS).length = l.length * 5 := by
  induction l with
  | nil => rfl
  | cons x l ih => simp [List.flatMap_cons, ih, encS]; omega
/-- A part of a row, where it lies. -/
theorem RowV.part {w : World} {g n c : Nat} {pre mid post : List Sg} (h : RowV w (.slice (some ⟨g, 0, none⟩) n c) (pre ++ (mid ++ post))) :
    ∀ j u, (mid.flatMap encS)[j]? = some u → w.cell? ((⟨g, pre.length * 5, none⟩ : Addr).add j) = some u := by
  intro j u hu
  have hj : j < (mid.flatMap encS).length := (List.getElem?_eq_some_iff.1 hu).1
  have h2 : ((pre ++ (mid ++ post)).flatMap encS)[pre.length * 5 + j]? = some u := by
    rw [List.flatMap_append, List.flatMap_append, List.getElem?_append_right (by rw [len_seg]; omega), len_seg, Nat.add_sub_cancel_left, List.getElem?_append_left hj]
    exact hu
  have := World.ownsRow.cells h rfl _ u h2
  have e : ∀ (o n : Nat), (⟨g, o, none⟩ : Addr).add n = ⟨g, o + n, none⟩ := by intro o n; unfold Addr.add; split <;> simp_all
  rw [e] at this ⊢
  simpa using this
theorem del_none {k : Int} {l : List Sg} (h : hasK k l = false) : delL k l = l := by
  unfold delL hasK at *
  rw [List.filter_eq_self]
  intro x hx
  simp only [List.any_eq_false] at h
  simpa using h x hx
theorem del_split {k : Int} {pre rest : List Sg} {x : Sg} (hr : Row (pre ++ x :: rest)) (hx : ky x = k) : delL k (pre ++ x :: rest) = pre ++ rest ∧ ∀ y ∈ pre, ky y ≠ k := by
  obtain ⟨h1, h2, h3⟩ := List.pairwise_append.1 hr.1
  have hp : ∀ y ∈ pre, ky y < k := fun y hy => hx ▸ h3 y hy x (by simp)
  have hq : ∀ y ∈ rest, k < ky y := fun y hy => hx ▸ (List.pairwise_cons.1 h2).1 y hy
  refine ⟨?_, fun y hy => by have := hp y hy; omega⟩
  unfold delL
  rw [List.filter_append, List.filter_cons_of_neg (by simpa using hx), List.filter_eq_self.2 (fun y hy => by have := hp y hy; simp; omega), List.filter_eq_self.2 (fun y hy => by have := hq y hy; simp; omega)]
theorem hasK_split {k : Int} {l : List Sg} (h : hasK k l = true) : ∃ pre x rest, l = pre ++ x :: rest ∧ ky x = k := by
  unfold hasK at h
  obtain ⟨x, hx, e⟩ := List.any_eq_true.1 h
  obtain ⟨pre, rest, rfl⟩ := List.append_of_mem hx
  exact ⟨pre, x, rest, rfl, by simpa using e⟩
theorem hasK_none {k : Int} {l : List Sg} (h : hasK k l = false) : ∀ y ∈ l, ky y ≠ k := by
  unfold hasK at h
  intro y hy e
  rw [List.any_eq_false] at h
  exact h y hy (by simpa using e)

/-- Where a row lies that was made of another one. -/
def Hence (w : World) (v v' : Value) : Prop := ∀ k, v'.ownBlock = some k → v.ownBlock = some k ∨ w.heap.size ≤ k
theorem Hence.refl (w : World) (v : Value) : Hence w v v := fun _ h => .inl h
theorem Hence.mono {w w' : World} {v v' : Value} (h : Hence w' v v') (hs : w.heap.size ≤ w'.heap.size) : Hence w v v' := fun k hk => (h k hk).imp id (Nat.le_trans hs)
def DelRP (w : World) (v : Value) (l : List Sg) (k : Int) (e : Ending) (w' : World) : Prop := ∃ v', e = .returned (.tuple #[v', .bool (hasK k l)]) ∧ RowV w' v' (delL k l) ∧ Mod (fun _ => False) w w' ∧ Hence w v v'

set_option maxHeartbeats 1000000 in
theorem delR {w : World} {v : Value} {l : List Sg} (h : RowV w v l) (hr : Row l) (hlen : l.length ≤ 65536) (cs ca : Int) (hf : fit64 ca) :
    Calls Tryz.prog 47 #[v, .agg #[.int .i64 cs, .int .i64 ca]] w fun e w' => DelRP w v l (kx cs ca) e w' := by
  obtain ⟨w0, hw0, b0, M0⟩ := boxC w cs ca
  obtain ⟨d0, e0⟩ := blkc b0
  replace h := h.keep M0
  have PF := findR h hr hlen cs ca hf
  unfold DelRP
  by_cases hk : hasK (kx cs ca) l = true
  · rw [hk]
    obtain ⟨pre, x, rest, rfl, hx⟩ := hasK_split hk
    obtain ⟨hd, hp⟩ := del_split hr hx
    rw [findI_pre pre rest hp hx] at PF
    rw [hd]
    obtain ⟨A, c, rfl, hA⟩ := h.slice
    obtain ⟨g, rfl⟩ := hA (by simp; omega)
    obtain ⟨n, hn⟩ : ∃ n, (pre ++ x :: rest).length = n := ⟨_, rfl⟩
    have hn2 : pre.length + (rest.length + 1) = n := by rw [← hn]; simp
    rw [hn] at h PF hlen ⊢
    obtain ⟨k, hkk⟩ : ∃ k, pre.length = k := ⟨_, rfl⟩
    rw [hkk] at PF hn2
    have hc : n ≤ c := by
      rcases h.2 with ⟨e, _⟩ | ⟨_, _, _, e, _, _, h3, _⟩
      · cases e
      · cases e; exact h3
    have hk1 : (0 : Int) ≤ k ∧ (k : Int) + 1 ≤ n ∧ (n : Int) ≤ 65536 := by omega
    have hnc : (n : Int) ≤ c := by omega
    clear hk hd hp
    replace hn := hid hn
    replace hkk := hid hkk
    replace hn2 := hid hn2
    go_enter Tryz.func47, Tryz.ntmps47
    go_wp2_with fail
    refine PF.mono ?_; rintro e w1 ⟨rfl, M1⟩
    clear PF d0 e0
    replace h := h.keep M1
    obtain ⟨w2, hw2, own2, M2⟩ : ∃ w2, w1.alloc (.cells #[] 39) = w2 ∧ w2.ownsRow 0 39 5 (.slice (some ⟨w1.heap.size, 0, none⟩) 0 0) 0 [] ∧ Mod (fun _ => False) w1 w2 :=
      ⟨_, rfl, ⟨by simp, .inr ⟨w1.heap.size, 0, #[], rfl, Nat.zero_le _, heap_alloc_new w1 _, Nat.le_refl _, by simp [maxLen], by simp, by simp⟩⟩, (Mod.refl _ _).alloc _⟩
    have h2 : RowV w2 (.slice (some ⟨g, 0, none⟩) n c) ([] ++ (pre ++ (x :: rest))) := h.keep M2
    have hg2 := M2.size
    have hgl : g < w1.heap.size := by
      rcases h.2 with ⟨e, _⟩ | ⟨_, _, _, e, _, e2, _⟩
      · cases e
      · cases e; exact (Array.getElem?_eq_some_iff.1 e2).1
    have MD : Mod (fun _ => False) w2 w2.drew := (Mod.refl _ _).drew
    have own2d := own_mod own2 MD fun _ _ h => h
    replace h2 := h2.keep MD
    have P1 := h2.part
    have hl1 : (pre.flatMap encS).length = k * 5 := by rw [len_seg, hkk.out]
    have hl2 : (rest.flatMap encS).length = rest.length * 5 := len_seg rest
    obtain ⟨m, hm⟩ : ∃ m, rest.length = m := ⟨_, rfl⟩
    rw [hm] at hl2
    have hm2 : n - (k + 1) = m := by have := hn2.out; omega
    have e1 : IntKind.i64.wrap ((k : Int) + 1) = (k : Int) + 1 := by rw [IntKind.wrap_i64]; omega
    have hkc : k ≤ c := by omega
    have hp0 : (0 : Int) ≤ (k : Int) + 1 := by omega
    have hkn : k + 1 ≤ n := by omega
    have hbk : (k + m) * 40 ≤ 140737488355328 := by omega
    replace hm := hid hm
    have G : ∀ {v3 : Value} {w3 : World}, w2.drew.grownBy w3 (some w1.heap.size) → Mod (fun _ => False) w1 w3 ∧ RowV w3 (.slice (some ⟨g, 0, none⟩) n c) ((pre ++ [x]) ++ (rest ++ [])) := by
      intro v3 w3 gr
      have M3 : Mod (fun j => j = w1.heap.size) w2.drew w3 := (Mod.of_grown gr).mono (by intro i h; cases h; exact .inl rfl)
      refine ⟨(M2.trans' MD).trans M3 (fun i h => .inr (by omega)), ?_⟩
      have := own_mod h2 M3 (fun j hj e => by cases hj; have e : g = w1.heap.size := e; omega)
      simpa [RowV] using this
    have D : ∀ {v4 : Value} {w3 w4 : World}, w4.ownsRow 0 39 5 v4 (k + m) (pre.flatMap encS ++ rest.flatMap encS) → RowV w4 v4 (pre ++ rest) := by
      intro v4 w3 w4 h
      unfold RowV
      rw [List.flatMap_append, List.length_append, hkk.out, hm.out]; exact h
    replace G := @G
    by_cases hkc2 : c = k + 1
    · subst hkc2
      obtain rfl : m = 0 := by omega
      have hp1 : (k : Int) ≤ (k : Int) + 1 := by omega
      go_wp2_with fail
      go_region_law (first
        | (refine step_appS (pre.flatMap encS) (.slice (some ⟨w1.heap.size, 0, none⟩) 0 0) 0 [] ⟨g, 0, none⟩ k (k + 1) (.tmp 13) (.tmp 16) 28 39 _ 5 40 rfl rfl Tryz.underlying28 infoSg rfl (by omega) (by omega) (by simp [Act.eval, Act.put]) (by simp [Act.eval, Act.put]) own2d (by simpa using P1) hl1 (one_seg _) (by omega) ?_
           intro v3 w3 own3 gr3 bl3
           simp only [Nat.zero_add, List.nil_append] at own3
           obtain ⟨M3, h3⟩ := G (v3 := v3) gr3
           have P2 := h3.part)
        | (refine step_appS (rest.flatMap encS) v3 k (pre.flatMap encS) ⟨g, 0, none⟩ 0 0 (.tmp 17) (.tmp 21) 28 39 _ 5 40 rfl rfl Tryz.underlying28 infoSg rfl (by omega) (by omega) (by simp [Act.eval, Act.put]) (by simp [Act.eval, Act.put]) own3 (fun j u hu => by have := (List.getElem?_eq_some_iff.1 hu).1; rw [hl2] at this; omega) hl2 (one_seg _) hbk ?_
           intro v4 w4 own4 gr4 bl4))
      all_goals go_wp2_with fail
      all_goals go_ret2
      all_goals exact ⟨v4, rfl, D (w3 := w3) own4, (((M0.trans' M1).trans' M3).trans (Mod.of_grown gr4) fun i hi => .inr (by
        have hgw : w.heap.size ≤ w1.heap.size := Nat.le_trans M0.size M1.size
        rcases bl3 i hi with e | e
        · cases e; exact hgw
        · have : w2.heap.size ≤ i := e
          omega)), fun i hi => .inr (by
        have hgw : w.heap.size ≤ w1.heap.size := Nat.le_trans M0.size M1.size
        have hz3 := M3.size
        rcases bl4 i hi with e | e
        · rcases bl3 i e with e | e
          · cases e; exact hgw
          · have : w2.heap.size ≤ i := e
            omega
        · omega)⟩
    · have hkc3 : ¬ c - (k + 1) = 0 := by omega
      go_wp2_with fail
      go_region_law (first
        | (refine step_appS (pre.flatMap encS) (.slice (some ⟨w1.heap.size, 0, none⟩) 0 0) 0 [] ⟨g, 0, none⟩ k c (.tmp 13) (.tmp 16) 28 39 _ 5 40 rfl rfl Tryz.underlying28 infoSg rfl (by omega) (by omega) (by simp [Act.eval, Act.put]) (by simp [Act.eval, Act.put]) own2d (by simpa using P1) hl1 (one_seg _) (by omega) ?_
           intro v3 w3 own3 gr3 bl3
           simp only [Nat.zero_add, List.nil_append] at own3
           obtain ⟨M3, h3⟩ := G (v3 := v3) gr3
           have P2 := h3.part)
        | (refine step_appS (rest.flatMap encS) v3 k (pre.flatMap encS) ⟨g, (k + 1) * 5, none⟩ m (c - (k + 1)) (.tmp 17) (.tmp 21) 28 39 _ 5 40 rfl rfl Tryz.underlying28 infoSg rfl (by omega) (by omega) (by simp [Act.eval, Act.put]) (by simp [Act.eval, Act.put]) own3 (by simpa [hkk.out] using P2) hl2 (one_seg _) hbk ?_
           intro v4 w4 own4 gr4 bl4))
      all_goals go_wp2_with fail
      all_goals go_ret2
      all_goals exact ⟨v4, rfl, D (w3 := w3) own4, (((M0.trans' M1).trans' M3).trans (Mod.of_grown gr4) fun i hi => .inr (by
        have hgw : w.heap.size ≤ w1.heap.size := Nat.le_trans M0.size M1.size
        rcases bl3 i hi with e | e
        · cases e; exact hgw
        · have : w2.heap.size ≤ i := e
          omega)), fun i hi => .inr (by
        have hgw : w.heap.size ≤ w1.heap.size := Nat.le_trans M0.size M1.size
        have hz3 := M3.size
        rcases bl4 i hi with e | e
        · rcases bl3 i e with e | e
          · cases e; exact hgw
          · have : w2.heap.size ≤ i := e
            omega
        · omega)⟩
  · replace hk : hasK (kx cs ca) l = false := by simpa using hk
    rw [hk, del_none hk]
    rw [findI_none l (hasK_none hk)] at PF
    go_enter Tryz.func47, Tryz.ntmps47
    go_wp2_with fail
    refine PF.mono ?_; rintro e w1 ⟨rfl, M1⟩
    go_wp2_with fail
    go_ret2
    exact ⟨_, rfl, h.keep M1, M0.trans' M1, Hence.refl _ _⟩
end Go.Proofs.Bo
