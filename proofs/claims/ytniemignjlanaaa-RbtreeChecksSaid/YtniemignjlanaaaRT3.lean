import Derived.Test.YtniemignjlanaaaRT2
set_option linter.unusedVariables false
namespace Go.Proofs.Bo

theorem nod_eq_of {σ : List (Option Nd)} {k : Int} {v w : Option Nd} (h : nod σ k = v) (e : v = w) : nod σ k = w := h.trans e

theorem Holds.rot {σ : List (Option Nd)} {root : Int} {c : Ctx} {d : Bool} {i u : Int} {ri ru : Bool} {si su : Sg} {A B C : T}
    (h : Holds σ root (plug c (T.mk d i ri si A (T.mk d u ru su B C)))) :
    Holds (rotS σ i u B.ix (cix c) (di d)) (hangR root u (cix c)) (plug c (T.mk d u ru su (T.mk d i ri si A B) C)) := by
  have hR := hangR_plug h (T.mk d u ru su (T.mk d i ri si A B) C)
  rw [ix_mk] at hR
  have hp := fun k => h.pos (k := k)
  have hj := h.just
  have hrep := h.rep
  rw [rep_plug, rep_mk, rep_mk, ix_mk, ix_mk] at hrep
  obtain ⟨rc, ri', rA, ru', rB, rC⟩ := hrep
  have hn := h.nodup
  rw [nodup_plug, (ids_mk ..).nodup_iff] at hn
  obtain ⟨nc, nt, nct⟩ := hn
  have hm : ∀ k, k ∈ (T.mk d i ri si A (T.mk d u ru su B C)).ids ↔ k = i ∨ k ∈ A.ids ∨ k = u ∨ k ∈ B.ids ∨ k ∈ C.ids := by
    intro k; rw [(ids_mk ..).mem_iff, List.mem_cons, List.mem_append, (ids_mk ..).mem_iff, List.mem_cons, List.mem_append]
  have hm' : ∀ k, k ∈ (T.mk d u ru su (T.mk d i ri si A B) C).ids ↔ k = i ∨ k ∈ A.ids ∨ k = u ∨ k ∈ B.ids ∨ k ∈ C.ids := by
    intro k; rw [(ids_mk ..).mem_iff, List.mem_cons, List.mem_append, (ids_mk ..).mem_iff, List.mem_cons, List.mem_append]; grind
  rw [List.nodup_cons, List.nodup_append, (ids_mk ..).nodup_iff, List.nodup_cons, List.nodup_append] at nt
  simp only [List.mem_append, (ids_mk ..).mem_iff, List.mem_cons] at nt
  obtain ⟨ni, nA, ⟨nu, nB, nC, nBC⟩, nAB⟩ := nt
  simp only [hm] at nct
  have hi0 : 0 ≤ i := hp i ((mem_plug ..).2 (.inr ((hm i).2 (.inl rfl))))
  have hu0 : 0 ≤ u := hp u ((mem_plug ..).2 (.inr ((hm u).2 (.inr (.inr (.inl rfl))))))
  have hiu : i ≠ u := fun e => ni (.inr (.inl e))
  have hic : i ∉ cids c := fun e => nct i e (.inl rfl)
  have huc : u ∉ cids c := fun e => nct u e (.inr (.inr (.inl rfl)))
  have hpi : cix c ≠ i := by
    rcases cix_mem (c := c) with ⟨e, _⟩ | e
    · omega
    · exact fun e2 => hic (e2 ▸ e)
  have hpu : cix c ≠ u := by
    rcases cix_mem (c := c) with ⟨e, _⟩ | e
    · omega
    · exact fun e2 => huc (e2 ▸ e)
  have hBi : B.ix ≠ i := ix_neg (fun e => ni (.inr (.inr (.inl e)))) hi0
  have hBu : B.ix ≠ u := ix_neg (fun e => nu (.inl e)) hu0
  -- the store then
  have gi : nod (rotS σ i u B.ix (cix c) (di d)) i = some ⟨si, if d then B.ix else A.ix, if d then A.ix else B.ix, u, ri⟩ := by
    unfold rotS hangS
    simp only [nod_modN, if_neg hBi.symm, if_neg hiu, if_neg hpi.symm, if_true, ri']
    cases d <;> simp [di, Nd.setKid, parN]
  have gu : nod (rotS σ i u B.ix (cix c) (di d)) u = some ⟨su, if d then C.ix else i, if d then i else C.ix, cix c, ru⟩ := by
    unfold rotS hangS
    simp only [nod_modN, if_neg hBu.symm, if_neg hiu.symm, if_neg hpu.symm, if_true, ru']
    cases d <;> simp [di, Nd.setKid, parN]
  have gB : B ≠ .E → nod (rotS σ i u B.ix (cix c) (di d)) B.ix = (nod σ B.ix).map (parN i) := by
    intro hB
    have : cix c ≠ B.ix := by
      rcases cix_mem (c := c) with ⟨e, _⟩ | e
      · have := hp B.ix ((mem_plug ..).2 (.inr ((hm _).2 (.inr (.inr (.inr (.inl (ix_mem hB)))))))); omega
      · exact fun e2 => nct _ e (.inr (.inr (.inr (.inl (e2 ▸ ix_mem hB)))))
    unfold rotS hangS
    simp only [nod_modN, if_neg hBi, if_neg hBu, if_neg this.symm, if_true]
  have gk : ∀ k, k ≠ i → k ≠ u → k ≠ B.ix → k ≠ cix c → nod (rotS σ i u B.ix (cix c) (di d)) k = nod σ k := by
    intro k h1 h2 h3 h4
    unfold rotS hangS
    simp only [nod_modN, if_neg h1, if_neg h2, if_neg h3, if_neg h4]
  have gc : ∀ a c', c = a :: c' → ∀ n, nod σ a.i = some n → nod (rotS σ i u B.ix (cix c) (di d)) a.i = some (n.setKid (di a.d) u) := by
    intro a c' e n hnn
    have hai : a.i = cix c := by subst e; rfl
    have haB : a.i ≠ B.ix := by
      by_cases hB : B = .E
      · subst hB; have := hp a.i ((mem_plug ..).2 (.inl (by subst e; simp [cids]))); simp [T.ix]; omega
      · exact fun e2 => nct a.i (by subst e; simp [cids]) (.inr (.inr (.inr (.inl (e2 ▸ ix_mem hB)))))
    have hh := hangK_hole (u := u) e rc hic hi0 n hnn
    unfold rotS hangS
    rw [hai] at haB hnn ⊢
    simp only [nod_modN, if_neg hpi, if_neg hpu, if_neg haB, if_true, hnn, Option.map_some, hh]
  have nin : ∀ (X : T), (∀ k, k ∈ X.ids → 0 ≤ k ∧ k ≠ i ∧ k ≠ u ∧ k ∉ B.ids ∧ k ∉ cids c) → ∀ k, k ∈ X.ids → nod (rotS σ i u B.ix (cix c) (di d)) k = nod σ k := by
    intro X hX k hk
    obtain ⟨h0, h1, h2, h3, h4⟩ := hX k hk
    refine gk k h1 h2 (ix_neg h3 h0).symm ?_
    rcases cix_mem (c := c) with ⟨e, e2⟩ | e
    · omega
    · rintro rfl; exact h4 e
  have wA : ∀ k, k ∈ A.ids → 0 ≤ k := fun k hk => hp k ((mem_plug ..).2 (.inr ((hm k).2 (.inr (.inl hk)))))
  have wC : ∀ k, k ∈ C.ids → 0 ≤ k := fun k hk => hp k ((mem_plug ..).2 (.inr ((hm k).2 (.inr (.inr (.inr (.inr hk)))))))
  have wB : ∀ k, k ∈ B.ids → 0 ≤ k := fun k hk => hp k ((mem_plug ..).2 (.inr ((hm k).2 (.inr (.inr (.inr (.inl hk)))))))
  have wc : ∀ k, k ∈ cids c → 0 ≤ k := fun k hk => hp k ((mem_plug ..).2 (.inl hk))
  refine ⟨hR, ?_, ?_, ?_⟩
  · rw [rep_plug, rep_mk, rep_mk, ix_mk, ix_mk]
    refine ⟨rc.hole nc gc fun k hk hne => gk k ?_ ?_ ?_ hne, gu, ⟨gi, rA.keep (nin A fun k hk => ?_), rB.par nB gB fun k hk hne => gk k ?_ ?_ hne ?_⟩, rC.keep (nin C fun k hk => ?_)⟩
    · rintro rfl; exact hic hk
    · rintro rfl; exact huc hk
    · rintro rfl
      by_cases hB : B = .E
      · subst hB; have := wc _ hk; simp [T.ix] at this
      · exact nct _ hk (.inr (.inr (.inr (.inl (ix_mem hB)))))
    · exact ⟨wA k hk, by rintro rfl; exact ni (.inl hk), by rintro rfl; exact nAB _ hk _ (.inl rfl) rfl, fun e => nAB _ hk _ (.inr (.inl e)) rfl, fun e => nct k e (.inr (.inl hk))⟩
    · rintro rfl; exact ni (.inr (.inr (.inl hk)))
    · rintro rfl; exact nu (.inl hk)
    · rcases cix_mem (c := c) with ⟨e, _⟩ | e
      · have := wB k hk; omega
      · rintro rfl; exact nct _ e (.inr (.inr (.inr (.inl hk))))
    · exact ⟨wC k hk, by rintro rfl; exact ni (.inr (.inr (.inr hk))), by rintro rfl; exact nu (.inr hk), fun e => nBC _ e _ hk rfl, fun e => nct k e (.inr (.inr (.inr (.inr hk))))⟩
  · rw [nodup_plug]
    refine ⟨nc, ?_, fun k hk => by rw [hm']; exact nct k hk⟩
    rw [(ids_mk ..).nodup_iff, List.nodup_cons, List.nodup_append, (ids_mk ..).nodup_iff, List.nodup_cons, List.nodup_append]
    simp only [List.mem_append, (ids_mk ..).mem_iff, List.mem_cons]
    grind
  · intro k n hk
    obtain ⟨m, hk'⟩ := rot_just hk
    have := hj k m hk'
    rw [mem_plug, hm] at this
    rw [mem_plug, hm']
    exact this
end Go.Proofs.Bo
