import Derived.Test.YtniemignjlanaaaRot
import Derived.Test.YtniemignjlanaaaRTG
import Derived.Deep.LoopGhost
set_option linter.unusedVariables false
namespace Go.Proofs.Bo
open Go Go.RowKit

/-- A tree in memory, with its nodes in their order. -/
def TS (w : World) (tb ab : Nat) (lv fv : Value) (room : Int) (N : Nat) (free : List Int) (t : T) : Prop :=
  ∃ root σ, TM w tb ab lv fv room root σ free ∧ Holds σ root t ∧ σ.length = N

section
variable {w w' : World} {tb ab N : Nat} {lv fv : Value} {room : Int} {free : List Int} {t : T}

abbrev TF (tb ab : Nat) (lv fv : Value) (i : Nat) : Prop := i = tb ∨ Foot ab lv fv i

theorem TS.drewN (h : TS w tb ab lv fv room N free t) (n : Nat) : TS (w.drewN n) tb ab lv fv room N free t := by
  obtain ⟨root, σ, a, b, c⟩ := h; exact ⟨root, σ, a.drewN n, b, c⟩
theorem TS.mod {S : Nat → Prop} (h : TS w tb ab lv fv room N free t) (hm : Mod S w w') (hs : ∀ k, TF tb ab lv fv k → ¬ S k) : TS w' tb ab lv fv room N free t := by
  obtain ⟨root, σ, a, b, c⟩ := h; exact ⟨root, σ, a.mod hm (hs _ (.inl rfl)) (fun k hk => hs k (.inr hk)), b, c⟩
theorem TS.mod0 (h : TS w tb ab lv fv room N free t) (hm : Mod (fun _ => False) w w') : TS w' tb ab lv fv room N free t := h.mod hm fun _ _ h => h
theorem TS.lt (h : TS w tb ab lv fv room N free t) {k : Nat} (hk : TF tb ab lv fv k) : k < w.heap.size := by
  obtain ⟨root, σ, a, b, c⟩ := h
  rcases hk with rfl | hk
  · exact blkl a.t
  · exact a.a.lt hk
theorem TS.lb (h : TS w tb ab lv fv room N free t) (ht : t ≠ .E) : ∃ lb c, lv = .slice (some ⟨lb, 0, none⟩) N c := by
  obtain ⟨root, σ, a, b, rfl⟩ := h
  obtain ⟨n, hn⟩ := b.ex (ix_mem ht)
  exact a.lb hn

/-- What the memory has of a node. -/
structure Node (w : World) (tb lb k : Nat) (s : Sg) (x y p : Int) (b : Bool) : Prop where
  at' : Calls Try.prog 46 #[.pointer (some ⟨tb, 0, none⟩), .int .i64 k] w fun e w' => e = .returned (.pointer (some ⟨lb, k * 10, none⟩)) ∧ w' = w
  c0 : w.cell? ⟨lb, k * 10, none⟩ = some (.int .i64 s.ls)
  c1 : w.cell? ⟨lb, k * 10 + 1, none⟩ = some (.int .i64 s.la)
  c2 : w.cell? ⟨lb, k * 10 + 2, none⟩ = some (.int .i64 s.hs)
  c3 : w.cell? ⟨lb, k * 10 + 3, none⟩ = some (.int .i64 s.ha)
  c4 : w.cell? ⟨lb, k * 10 + 4, none⟩ = some (.int .i64 s.v)
  c5 : w.cell? ⟨lb, k * 10 + 5, none⟩ = some (.int .i64 x)
  c6 : w.cell? ⟨lb, k * 10 + 6, none⟩ = some (.int .i64 y)
  c7 : w.cell? ⟨lb, k * 10 + 7, none⟩ = some (.int .i64 p)
  c8 : w.cell? ⟨lb, k * 10 + 8, none⟩ = some (.bool b)
  f5 : w.frozen? ⟨lb, k * 10 + 5, none⟩ = false
  f6 : w.frozen? ⟨lb, k * 10 + 6, none⟩ = false
  f7 : w.frozen? ⟨lb, k * 10 + 7, none⟩ = false
  f8 : w.frozen? ⟨lb, k * 10 + 8, none⟩ = false

theorem TM.node {lb n c k : Nat} {root : Int} {σ : List (Option Nd)} (h : TM w tb ab (.slice (some ⟨lb, 0, none⟩) n c) fv room root σ free) {v : Nd} (hv : nod σ k = some v) : Node w tb lb k v.s v.k0 v.k1 v.p v.red :=
  ⟨atT' h ⟨_, hv⟩, (h.cell' hv (j := 0) rfl).1, (h.cell' hv (j := 1) rfl).1, (h.cell' hv (j := 2) rfl).1, (h.cell' hv (j := 3) rfl).1, (h.cell' hv (j := 4) rfl).1, (h.cell' hv (j := 5) rfl).1, (h.cell' hv (j := 6) rfl).1, (h.cell' hv (j := 7) rfl).1, (h.cell' hv (j := 8) rfl).1,
    (h.cell' hv (j := 5) rfl).2, (h.cell' hv (j := 6) rfl).2, (h.cell' hv (j := 7) rfl).2, (h.cell' hv (j := 8) rfl).2⟩

theorem Holds.at {σ : List (Option Nd)} {root : Int} {c : Ctx} {i : Int} {b : Bool} {s : Sg} {l r : T} (h : Holds σ root (plug c (.N i b s l r))) : nod σ i = some ⟨s, l.ix, r.ix, cix c, b⟩ := by
  have := h.rep; rw [rep_plug] at this; exact this.2.1
theorem Holds.at_mk {σ : List (Option Nd)} {root : Int} {c : Ctx} {d : Bool} {i : Int} {b : Bool} {s : Sg} {x y : T} (h : Holds σ root (plug c (T.mk d i b s x y))) : nod σ i = some ⟨s, if d then y.ix else x.ix, if d then x.ix else y.ix, cix c, b⟩ := by
  have := h.rep; rw [rep_plug, rep_mk] at this; exact this.2.1

theorem TS.nat (h : TS w tb ab lv fv room N free t) {i : Int} (hi : i ∈ t.ids) : ∃ k : Nat, i = k := by
  obtain ⟨root, σ, a, b, c⟩ := h
  exact Int.eq_ofNat_of_zero_le (b.pos hi)

theorem TS.node {lb n cp k : Nat} {c : Ctx} {b : Bool} {s : Sg} {l r : T} (h : TS w tb ab (.slice (some ⟨lb, 0, none⟩) n cp) fv room N free (plug c (.N k b s l r))) : Node w tb lb k s l.ix r.ix (cix c) b := by
  obtain ⟨root, σ, a, hh, _⟩ := h; exact a.node hh.at
theorem TS.node_mk {lb n cp k : Nat} {c : Ctx} {d b : Bool} {s : Sg} {x y : T} (h : TS w tb ab (.slice (some ⟨lb, 0, none⟩) n cp) fv room N free (plug c (T.mk d k b s x y))) : Node w tb lb k s (if d then y.ix else x.ix) (if d then x.ix else y.ix) (cix c) b := by
  obtain ⟨root, σ, a, hh, _⟩ := h; exact a.node hh.at_mk

theorem TS.flip {a : Fr} {c : Ctx} {X : T} (h : TS w tb ab lv fv room N free (plug (a :: c) X)) : TS w tb ab lv fv room N free (plug (⟨!a.d, a.i, a.red, a.s, X⟩ :: c) a.o) := by
  rw [plug_flip] at h; exact h
/-- A colour is stored. -/
theorem TS.recol {lb n cp k : Nat} {c : Ctx} {b : Bool} {s : Sg} {l r : T} (h : TS w tb ab (.slice (some ⟨lb, 0, none⟩) n cp) fv room N free (plug c (.N k b s l r))) (b' : Bool) :
    TS (w.setCell ⟨lb, k * 10 + 8, none⟩ (.bool b')) tb ab (.slice (some ⟨lb, 0, none⟩) n cp) fv room N free (plug c (.N k b' s l r)) ∧ Mod (TF tb ab (.slice (some ⟨lb, 0, none⟩) n cp) fv) w (w.setCell ⟨lb, k * 10 + 8, none⟩ (.bool b')) := by
  obtain ⟨root, σ, a, hh, rfl⟩ := h
  obtain ⟨_, _, x, y⟩ := a.st ⟨_, hh.at⟩ 8 (.bool b') (redN b') (by omega) (fun _ => rfl)
  exact ⟨⟨_, _, x, hh.recol b', modN_length ..⟩, y⟩
theorem TS.recol_mk {lb n cp k : Nat} {c : Ctx} {d b : Bool} {s : Sg} {x y : T} (h : TS w tb ab (.slice (some ⟨lb, 0, none⟩) n cp) fv room N free (plug c (T.mk d k b s x y))) (b' : Bool) :
    TS (w.setCell ⟨lb, k * 10 + 8, none⟩ (.bool b')) tb ab (.slice (some ⟨lb, 0, none⟩) n cp) fv room N free (plug c (T.mk d k b' s x y)) ∧ Mod (TF tb ab (.slice (some ⟨lb, 0, none⟩) n cp) fv) w (w.setCell ⟨lb, k * 10 + 8, none⟩ (.bool b')) := by
  cases d <;> exact TS.recol h b'

/-- 'red' of what hangs somewhere. -/
theorem redZ {c : Ctx} {X : T} (h : TS w tb ab lv fv room N free (plug c X)) : Calls Try.prog 53 #[.pointer (some ⟨tb, 0, none⟩), .int .i64 X.ix] w fun e w' => e = .returned (.bool X.red) ∧ w' = w := by
  obtain ⟨root, σ, a, hh, rfl⟩ := h
  cases X with
  | E => exact redT_none w tb
  | N i b s l r =>
    obtain ⟨k, e, hk⟩ := nod_some hh.at
    obtain rfl : i = k := e
    exact redT a hk
/-- .. of the node above. -/
theorem redC {c : Ctx} {X : T} (h : TS w tb ab lv fv room N free (plug c X)) : Calls Try.prog 53 #[.pointer (some ⟨tb, 0, none⟩), .int .i64 (cix c)] w fun e w' => e = .returned (.bool (cred c)) ∧ w' = w := by
  cases c with
  | nil => exact redT_none w tb
  | cons a c =>
    have := redZ (c := c) (X := T.mk a.d a.i a.red a.s X a.o) h
    rw [ix_mk, red_mk] at this
    exact this
/-- 'side' of what hangs below a node. -/
theorem sideZ {a : Fr} {c : Ctx} {X : T} (h : TS w tb ab lv fv room N free (plug (a :: c) X)) (hX : X = .E → a.o ≠ .E) : Calls Try.prog 70 #[.pointer (some ⟨tb, 0, none⟩), .int .i64 X.ix, .int .i64 a.i] w fun e w' => e = .returned (.int .i64 (di a.d)) ∧ w' = w := by
  obtain ⟨root, σ, m, hh, rfl⟩ := h
  have hat := Holds.at_mk (c := c) (d := a.d) (i := a.i) (b := a.red) (s := a.s) (x := X) (y := a.o) hh
  obtain ⟨k, e, hk⟩ := nod_some hat
  rw [e]
  have := sideT m hk X.ix
  have hn := hh.nodup
  rw [nodup_plug] at hn
  have hne : a.o.ix ≠ X.ix := by
    by_cases hX0 : X = .E
    · subst hX0
      have := hh.pos (k := a.o.ix) ((mem_plug ..).2 (.inl (by simp [cids, ix_mem (hX rfl)])))
      show a.o.ix ≠ -1
      omega
    · by_cases ho : a.o = .E
      · rw [ho]
        have := hh.pos (k := X.ix) ((mem_plug ..).2 (.inr (ix_mem hX0)))
        show (-1 : Int) ≠ X.ix
        omega
      · intro e2; exact hn.2.2 a.o.ix (by simp [cids, ix_mem ho]) (e2 ▸ ix_mem hX0)
  cases hd : a.d <;> simp only [hd, di, if_true, if_false, Bool.false_eq_true, hne] at this ⊢ <;> exact this

/-- 'rotate'. -/
theorem rotZ {c : Ctx} {d : Bool} {i u : Int} {ri ru : Bool} {si su : Sg} {A B C : T} (h : TS w tb ab lv fv room N free (plug c (T.mk d i ri si A (T.mk d u ru su B C)))) :
    Calls Try.prog 71 #[.pointer (some ⟨tb, 0, none⟩), .int .i64 i, .int .i64 (di d)] w fun e w' => e = .returned (.tuple #[]) ∧ TS w' tb ab lv fv room N free (plug c (T.mk d u ru su (T.mk d i ri si A B) C)) ∧ Mod (TF tb ab lv fv) w w' := by
  obtain ⟨root, σ, m, hh, rfl⟩ := h
  have hi := hh.at_mk
  have hu : nod σ u = _ := Holds.at_mk (c := ⟨!d, i, ri, si, A⟩ :: c) (d := d) (i := u) (b := ru) (s := su) (x := B) (y := C) (by rw [mk_not] at hh; exact hh)
  have hm : ∀ k, k ∈ (T.mk d i ri si A (T.mk d u ru su B C)).ids ↔ k = i ∨ k ∈ A.ids ∨ k = u ∨ k ∈ B.ids ∨ k ∈ C.ids := by
    intro k; rw [(ids_mk ..).mem_iff, List.mem_cons, List.mem_append, (ids_mk ..).mem_iff, List.mem_cons, List.mem_append]
  have hB : Is1 σ B.ix := hh.is1 fun k hk => (mem_plug ..).2 (.inr ((hm k).2 (.inr (.inr (.inr (.inl hk))))))
  have hc : Is1 σ (cix c) := hh.is1c fun k hk => (mem_plug ..).2 (.inl hk)
  have hrot := hh.rot
  have hlen : (rotS σ i u B.ix (cix c) (di d)).length = σ.length := by
    unfold rotS hangS; simp only [modN_length]
  obtain ⟨k, rfl, _⟩ := nod_some hi
  obtain ⟨j, rfl, _⟩ := nod_some hu
  cases d
  · simp only [di, if_true, if_false, Bool.false_eq_true, ix_mk] at hi hu hrot hlen ⊢
    rcases hB with hB | ⟨nb, hB⟩
    · rw [hB] at hu hrot hlen
      have R := rotT_0_none m hi rfl hu hc rfl
      exact R.mono fun e w' ⟨h1, h2, h3⟩ => ⟨h1, ⟨_, _, h2, hrot, hlen⟩, h3⟩
    · obtain ⟨q, hq, _⟩ := nod_some hB
      rw [hq] at hu hrot hlen hB
      have R := rotT_0_some m hi rfl hu hc rfl ⟨_, hB⟩
      exact R.mono fun e w' ⟨h1, h2, h3⟩ => ⟨h1, ⟨_, _, h2, hrot, hlen⟩, h3⟩
  · simp only [di, if_true, if_false, Bool.false_eq_true, ix_mk] at hi hu hrot hlen ⊢
    rcases hB with hB | ⟨nb, hB⟩
    · rw [hB] at hu hrot hlen
      have R := rotT_1_none m hi rfl hu hc rfl
      exact R.mono fun e w' ⟨h1, h2, h3⟩ => ⟨h1, ⟨_, _, h2, hrot, hlen⟩, h3⟩
    · obtain ⟨q, hq, _⟩ := nod_some hB
      rw [hq] at hu hrot hlen hB
      have R := rotT_1_some m hi rfl hu hc rfl ⟨_, hB⟩
      exact R.mono fun e w' ⟨h1, h2, h3⟩ => ⟨h1, ⟨_, _, h2, hrot, hlen⟩, h3⟩
end
end Go.Proofs.Bo
