import Derived.Test.YtofgoehkahcajaaGreatRot
import Derived.Test.YtofgoehkahcajaaGreatRTG
import Derived.Deep.LoopGhost
set_option linter.unusedVariables false
set_option linter.unusedSimpArgs false
namespace Go.Proofs.Bo
open Go Go.RowKit

/-- A tree in memory, with its nodes in their order. -/
def TS (w : World) (tb ab : Nat) (lv fv : Value) (room : Int) (N : Nat) (free : List Int) (t : T) : Prop :=
  ∃ root σ, TM w tb ab lv fv room root σ free ∧ Holds σ root t ∧ σ.length = N

section
variable {w w' : World} {tb ab N : Nat} {lv fv : Value} {room : Int} {free : List Int} {t : T}

abbrev TF (tb ab : Nat) (lv fv : Value) (i : Nat) : Prop := i = tb ∨ Foot ab lv fv i

theorem TS.drewN (h : TS w tb ab lv fv room N free t) (n : Nat) : TS (w.drewN n) tb ab lv fv room N free t := by
  obtain ⟨root, σ, a, b, c⟩ := h; exact ⟨root, σ, a.drewN n, b, c⟩
theorem TS.mod {S : Nat → Prop} (h : TS w tb ab lv fv room N free t) (hm : Mod S w w') (hs : ∀ k, TF tb ab lv fv k → ¬ S k) : TS w' tb ab lv fv room N free t := by
  obtain ⟨root, σ, a, b, c⟩ := h; exact ⟨root, σ, a.mod hm (hs _ (.inl rfl)) (fun k hk => hs k (.inr hk)), b, c⟩
theorem TS.mod0 (h : TS w tb ab lv fv room N free t) (hm : Mod (fun _ => False) w w') : TS w' tb ab lv fv room N free t := h.mod hm fun _ _ h => h
theorem TS.lt (h : TS w tb ab lv fv room N free t) {k : Nat} (hk : TF tb ab lv fv k) : k < w.heap.size := by
  obtain ⟨root, σ, a, b, c⟩ := h
  rcases hk with rfl | hk
  · exact blkl a.t
  · exact a.a.lt hk
theorem TS.lb (h : TS w tb ab lv fv room N free t) (ht : t ≠ .E) : ∃ lb c, lv = .slice (some ⟨lb, 0, none⟩) N c := by
  obtain ⟨root, σ, a, b, rfl⟩ := h
  obtain ⟨n, hn⟩ := b.ex (ix_mem ht)
  exact a.lb hn

/-- What the memory has of a node. -/
structure Node (w : World) (tb lb k : Nat) (s : Sg) (x y p : Int) (b : Bool) : Prop where
  at' : Calls Tryz.prog 31 #[.pointer (some ⟨tb, 0, none⟩), .int .i64 k] w fun e w' => e = .returned (.pointer (some ⟨lb, k * 10, none⟩)) ∧ w' = w
  c0 : w.cell? ⟨lb, k * 10, none⟩ = some (.int .i64 s.ls)
  c1 : w.cell? ⟨lb, k * 10 + 1, none⟩ = some (.int .i64 s.la)
  c2 : w.cell? ⟨lb, k * 10 + 2, none⟩ = some (.int .i64 s.hs)
  c3 : w.cell? ⟨lb, k * 10 + 3, none⟩ = some (.int .i64 s.ha)
  c4 : w.cell? ⟨lb, k * 10 + 4, none⟩ = some (.int .i64 s.v)
  c5 : w.cell? ⟨lb, k * 10 + 5, none⟩ = some (.int .i64 x)
  c6 : w.cell? ⟨lb, k * 10 + 6, none⟩ = some (.int .i64 y)
  c7 : w.cell? ⟨lb, k * 10 + 7, none⟩ = some (.int .i64 p)
  c8 : w.cell? ⟨lb, k * 10 + 8, none⟩ = some (.bool b)
  f5 : w.frozen? ⟨lb, k * 10 + 5, none⟩ = false
  f6 : w.frozen? ⟨lb, k * 10 + 6, none⟩ = false
  f7 : w.frozen? ⟨lb, k * 10 + 7, none⟩ = false
  f8 : w.frozen? ⟨lb, k * 10 + 8, none⟩ = false

theorem TM.node {lb n c k : Nat} {root : Int} {σ : List (Option Nd)} (h : TM w tb ab (.slice (some ⟨lb, 0, none⟩) n c) fv room root σ free) {v : Nd} (hv : nod σ k = some v) : Node w tb lb k v.s v.k0 v.k1 v.p v.red :=
  ⟨atT' h ⟨_, hv⟩, (h.cell' hv (j := 0) rfl).1, (h.cell' hv (j := 1) rfl).1, (h.cell' hv (j := 2) rfl).1, (h.cell' hv (j := 3) rfl).1, (h.cell' hv (j := 4) rfl).1, (h.cell' hv (j := 5) rfl).1, (h.cell' hv (j := 6) rfl).1, (h.cell' hv (j := 7) rfl).1, (h.cell' hv (j := 8) rfl).1,
    (h.cell' hv (j := 5) rfl).2, (h.cell' hv (j := 6) rfl).2, (h.cell' hv (j := 7) rfl).2, (h.cell' hv (j := 8) rfl).2⟩

theorem Holds.at {σ : List (Option Nd)} {root : Int} {c : Ctx} {i : Int} {b : Bool} {s : Sg} {l r : T} (h : Holds σ root (plug c (.N i b s l r))) : nod σ i = some ⟨s, l.ix, r.ix, cix c, b⟩ := by
  have := h.rep; rw [rep_plug] at this; exact this.2.1
theorem Holds.at_mk {σ : List (Option Nd)} {root : Int} {c : Ctx} {d : Bool} {i : Int} {b : Bool} {s : Sg} {x y : T} (h : Holds σ root (plug c (T.mk d i b s x y))) : nod σ i = some ⟨s, if d then y.ix else x.ix, if d then x.ix else y.ix, cix c, b⟩ := by
  have := h.rep; rw [rep_plug, rep_mk] at this; exact this.2.1

theorem TS.nat (h : TS w tb ab lv fv room N free t) {i : Int} (hi : i ∈ t.ids) : ∃ k : Nat, i = k := by
  obtain ⟨root, σ, a, b, c⟩ := h
  exact Int.eq_ofNat_of_zero_le (b.pos hi)

theorem TS.node {lb n cp k : Nat} {c : Ctx} {b : Bool} {s : Sg} {l r : T} (h : TS w tb ab (.slice (some ⟨lb, 0, none⟩) n cp) fv room N free (plug c (.N k b s l r))) : Node w tb lb k s l.ix r.ix (cix c) b := by
  obtain ⟨root, σ, a, hh, _⟩ := h; exact a.node hh.at
theorem TS.node_mk {lb n cp k : Nat} {c : Ctx} {d b : Bool} {s : Sg} {x y : T} (h : TS w tb ab (.slice (some ⟨lb, 0, none⟩) n cp) fv room N free (plug c (T.mk d k b s x y))) : Node w tb lb k s (if d then y.ix else x.ix) (if d then x.ix else y.ix) (cix c) b := by
  obtain ⟨root, σ, a, hh, _⟩ := h; exact a.node hh.at_mk

theorem TS.flip {a : Fr} {c : Ctx} {X : T} (h : TS w tb ab lv fv room N free (plug (a :: c) X)) : TS w tb ab lv fv room N free (plug (⟨!a.d, a.i, a.red, a.s, X⟩ :: c) a.o) := by
  rw [plug_flip] at h; exact h
/-- A colour is stored. -/
theorem TS.recol {lb n cp k : Nat} {c : Ctx} {b : Bool} {s : Sg} {l r : T} (h : TS w tb ab (.slice (some ⟨lb, 0, none⟩) n cp) fv room N free (plug c (.N k b s l r))) (b' : Bool) :
    TS (w.setCell ⟨lb, k * 10 + 8, none⟩ (.bool b')) tb ab (.slice (some ⟨lb, 0, none⟩) n cp) fv room N free (plug c (.N k b' s l r)) ∧ Mod (TF tb ab (.slice (some ⟨lb, 0, none⟩) n cp) fv) w (w.setCell ⟨lb, k * 10 + 8, none⟩ (.bool b')) := by
  obtain ⟨root, σ, a, hh, rfl⟩ := h
  obtain ⟨_, _, x, y⟩ := a.st ⟨_, hh.at⟩ 8 (.bool b') (redN b') (by omega) (fun _ => rfl)
  exact ⟨⟨_, _, x, hh.recol b', modN_length ..⟩, y⟩
theorem TS.recol_mk {lb n cp k : Nat} {c : Ctx} {d b : Bool} {s : Sg} {x y : T} (h : TS w tb ab (.slice (some ⟨lb, 0, none⟩) n cp) fv room N free (plug c (T.mk d k b s x y))) (b' : Bool) :
    TS (w.setCell ⟨lb, k * 10 + 8, none⟩ (.bool b')) tb ab (.slice (some ⟨lb, 0, none⟩) n cp) fv room N free (plug c (T.mk d k b' s x y)) ∧ Mod (TF tb ab (.slice (some ⟨lb, 0, none⟩) n cp) fv) w (w.setCell ⟨lb, k * 10 + 8, none⟩ (.bool b')) := by
  cases d <;> exact TS.recol h b'

/-- 'red' of what hangs somewhere. -/
theorem redZ {c : Ctx} {X : T} (h : TS w tb ab lv fv room N free (plug c X)) : Calls Tryz.prog 38 #[.pointer (some ⟨tb, 0, none⟩), .int .i64 X.ix] w fun e w' => e = .returned (.bool X.red) ∧ w' = w := by
  obtain ⟨root, σ, a, hh, rfl⟩ := h
  cases X with
  | E => exact redT_none w tb
  | N i b s l r =>
    obtain ⟨k, e, hk⟩ := nod_some hh.at
    obtain rfl : i = k := e
    exact redT a hk
/-- .. of the node above. -/
theorem redC {c : Ctx} {X : T} (h : TS w tb ab lv fv room N free (plug c X)) : Calls Tryz.prog 38 #[.pointer (some ⟨tb, 0, none⟩), .int .i64 (cix c)] w fun e w' => e = .returned (.bool (cred c)) ∧ w' = w := by
  cases c with
  | nil => exact redT_none w tb
  | cons a c =>
    have := redZ (c := c) (X := T.mk a.d a.i a.red a.s X a.o) h
    rw [ix_mk, red_mk] at this
    exact this
/-- 'side' of what hangs below a node. -/
theorem sideZ {a : Fr} {c : Ctx} {X : T} (h : TS w tb ab lv fv room N free (plug (a :: c) X)) (hX : X = .E → a.o ≠ .E) : Calls Tryz.prog 67 #[.pointer (some ⟨tb, 0, none⟩), .int .i64 X.ix, .int .i64 a.i] w fun e w' => e = .returned (.int .i64 (di a.d)) ∧ w' = w := by
  obtain ⟨root, σ, m, hh, rfl⟩ := h
  have hat := Holds.at_mk (c := c) (d := a.d) (i := a.i) (b := a.red) (s := a.s) (x := X) (y := a.o) hh
  obtain ⟨k, e, hk⟩ := nod_some hat
  rw [e]
  have := sideT m hk X.ix
  have hn := hh.nodup
  rw [nodup_plug] at hn
  have hne : a.o.ix ≠ X.ix := by
    by_cases hX0 : X = .E
    · subst hX0
      have := hh.pos (k := a.o.ix) ((mem_plug ..).2 (.inl (by simp [cids, ix_mem (hX rfl)])))
      show a.o.ix ≠ -1
      omega
    · by_cases ho : a.o = .E
      · rw [ho]
        have := hh.pos (k := X.ix) ((mem_plug ..).2 (.inr (ix_mem hX0)))
        show (-1 : Int) ≠ X.ix
        omega
      · intro e2; exact hn.2.2 a.o.ix (by simp [cids, ix_mem ho]) (e2 ▸ ix_mem hX0)
  cases hd : a.d <;> simp only [hd, di, if_true, if_false, Bool.false_eq_true, hne] at this ⊢ <;> exact this

/-- 'rotate'. -/
theorem rotZ {c : Ctx} {d : Bool} {i u : Int} {ri ru : Bool} {si su : Sg} {A B C : T} (h : TS w tb ab lv fv room N free (plug c (T.mk d i ri si A (T.mk d u ru su B C)))) :
    Calls Tryz.prog 68 #[.pointer (some ⟨tb, 0, none⟩), .int .i64 i, .int .i64 (di d)] w fun e w' => e = .returned (.tuple #[]) ∧ TS w' tb ab lv fv room N free (plug c (T.mk d u ru su (T.mk d i ri si A B) C)) ∧ Mod (TF tb ab lv fv) w w' := by
  obtain ⟨root, σ, m, hh, rfl⟩ := h
  have hi := hh.at_mk
  have hu : nod σ u = _ := Holds.at_mk (c := ⟨!d, i, ri, si, A⟩ :: c) (d := d) (i := u) (b := ru) (s := su) (x := B) (y := C) (by rw [mk_not] at hh; exact hh)
  have hm : ∀ k, k ∈ (T.mk d i ri si A (T.mk d u ru su B C)).ids ↔ k = i ∨ k ∈ A.ids ∨ k = u ∨ k ∈ B.ids ∨ k ∈ C.ids := by
    intro k; rw [(ids_mk ..).mem_iff, List.mem_cons, List.mem_append, (ids_mk ..).mem_iff, List.mem_cons, List.mem_append]
  have hB : Is1 σ B.ix := hh.is1 fun k hk => (mem_plug ..).2 (.inr ((hm k).2 (.inr (.inr (.inr (.inl hk))))))
  have hc : Is1 σ (cix c) := hh.is1c fun k hk => (mem_plug ..).2 (.inl hk)
  have hrot := hh.rot
  have hlen : (rotS σ i u B.ix (cix c) (di d)).length = σ.length := by
    unfold rotS hangS; simp only [modN_length]
  obtain ⟨k, rfl, _⟩ := nod_some hi
  obtain ⟨j, rfl, _⟩ := nod_some hu
  cases d
  · simp only [di, if_true, if_false, Bool.false_eq_true, ix_mk] at hi hu hrot hlen ⊢
    rcases hB with hB | ⟨nb, hB⟩
    · rw [hB] at hu hrot hlen
      have R := rotT_0_none m hi rfl hu hc rfl
      exact R.mono fun e w' ⟨h1, h2, h3⟩ => ⟨h1, ⟨_, _, h2, hrot, hlen⟩, h3⟩
    · obtain ⟨q, hq, _⟩ := nod_some hB
      rw [hq] at hu hrot hlen hB
      have R := rotT_0_some m hi rfl hu hc rfl ⟨_, hB⟩
      exact R.mono fun e w' ⟨h1, h2, h3⟩ => ⟨h1, ⟨_, _, h2, hrot, hlen⟩, h3⟩
  · simp only [di, if_true, if_false, Bool.false_eq_true, ix_mk] at hi hu hrot hlen ⊢
    rcases hB with hB | ⟨nb, hB⟩
    · rw [hB] at hu hrot hlen
      have R := rotT_1_none m hi rfl hu hc rfl
      exact R.mono fun e w' ⟨h1, h2, h3⟩ => ⟨h1, ⟨_, _, h2, hrot, hlen⟩, h3⟩
    · obtain ⟨q, hq, _⟩ := nod_some hB
      rw [hq] at hu hrot hlen hB
      have R := rotT_1_some m hi rfl hu hc rfl ⟨_, hB⟩
      exact R.mono fun e w' ⟨h1, h2, h3⟩ => ⟨h1, ⟨_, _, h2, hrot, hlen⟩, h3⟩
end
end Go.Proofs.Bo
set_option linter.unusedVariables false
set_option linter.unusedSimpArgs false
namespace Go.Proofs.Bo
open Go Go.RowKit
section
variable {w w' : World} {tb ab N : Nat} {lv fv : Value} {room : Int} {free : List Int} {t : T}

/-- The tree as 'rise' has it: a red node, all else as it must be. -/
def RiseR (w0 : World) (tb ab : Nat) (lv fv : Value) (room : Int) (N : Nat) (free : List Int) (L : List Sg) (g : Nat) (vi : Value) (W : World) : Prop :=
  ∃ (c : Ctx) (n k : Nat) (s : Sg) (l r : T), g = c.length ∧ vi = .int .i64 k ∧ TS W tb ab lv fv room N free (plug c (.N k true s l r)) ∧ (RBT l n ∧ RBT r n ∧ l.red = false ∧ r.red = false ∧ RBC c n) ∧ (plug c (.N k true s l r)).toL = L ∧ Mod (TF tb ab lv fv) w0 W
def RiseQ (w0 : World) (tb ab : Nat) (lv fv : Value) (room : Int) (N : Nat) (free : List Int) (L : List Sg) (W : World) : Prop :=
  ∃ t, TS W tb ab lv fv room N free t ∧ Fine t ∧ t.toL = L ∧ Mod (TF tb ab lv fv) w0 W

/-- What 'rise' does when the uncle is black: two colours, a rotation. -/
structure RiseP (W : World) (tb ab : Nat) (lb cp : Nat) (fv : Value) (room : Int) (N : Nat) (free : List Int) (c : Ctx) (d : Bool) (p q : Nat) (sp sb : Sg) (o bo F : T) : Prop where
  ap : Calls Tryz.prog 31 #[.pointer (some ⟨tb, 0, none⟩), .int .i64 p] W fun e w' => e = .returned (.pointer (some ⟨lb, p * 10, none⟩)) ∧ w' = W
  aq : Calls Tryz.prog 31 #[.pointer (some ⟨tb, 0, none⟩), .int .i64 q] W fun e w' => e = .returned (.pointer (some ⟨lb, q * 10, none⟩)) ∧ w' = W
  p8 : W.cell? ⟨lb, p * 10 + 8, none⟩ = some (.bool true)
  fp : W.frozen? ⟨lb, p * 10 + 8, none⟩ = false
  q8 : (W.setCell ⟨lb, p * 10 + 8, none⟩ (.bool false)).cell? ⟨lb, q * 10 + 8, none⟩ = some (.bool false)
  fq : (W.setCell ⟨lb, p * 10 + 8, none⟩ (.bool false)).frozen? ⟨lb, q * 10 + 8, none⟩ = false
  rot : Calls Tryz.prog 68 #[.pointer (some ⟨tb, 0, none⟩), .int .i64 q, .int .i64 (di (!d))] ((W.setCell ⟨lb, p * 10 + 8, none⟩ (.bool false)).setCell ⟨lb, q * 10 + 8, none⟩ (.bool true))
    fun e w' => e = .returned (.tuple #[]) ∧ TS w' tb ab (.slice (some ⟨lb, 0, none⟩) N cp) fv room N free (plug (⟨d, p, false, sp, T.mk (!d) q true sb bo o⟩ :: c) F) ∧ Mod (TF tb ab (.slice (some ⟨lb, 0, none⟩) N cp) fv) W w'

theorem riseP {W : World} {lb cp : Nat} {c : Ctx} {d : Bool} {p q : Nat} {sp sb : Sg} {o bo F : T} (h : TS W tb ab (.slice (some ⟨lb, 0, none⟩) N cp) fv room N free (plug (⟨d, p, true, sp, o⟩ :: ⟨d, q, false, sb, bo⟩ :: c) F)) :
    RiseP W tb ab lb cp fv room N free c d p q sp sb o bo F := by
  have hP := TS.node_mk (c := ⟨d, q, false, sb, bo⟩ :: c) (d := d) (k := p) h
  have hQ := TS.node_mk (c := c) (d := d) (k := q) h
  obtain ⟨h1, M1⟩ := TS.recol_mk (c := ⟨d, q, false, sb, bo⟩ :: c) (d := d) h false
  have hQ1 := TS.node_mk (c := c) (d := d) (k := q) h1
  obtain ⟨h2, M2⟩ := TS.recol_mk (c := c) (d := d) (k := q) h1 true
  rw [mk_not, mk_not d] at h2
  have R := rotZ h2
  refine ⟨hP.at', hQ.at', hP.c8, hP.f8, hQ1.c8, hQ1.f8, R.mono ?_⟩
  rintro e w' ⟨rfl, h3, M3⟩
  refine ⟨rfl, ?_, (M1.trans' M2).trans' M3⟩
  rw [plug_cons]
  dsimp only
  rw [mk_not d]
  exact h3

/-- The uncle is red. -/
theorem riseE1 {c : Ctx} {ad bd : Bool} {k p q u n : Nat} {s sa sb us : Sg} {l r ao ul ur : T} {L : List Sg} {W : World} (b1 : RBT l n) (b2 : RBT r n) (b3 : l.red = false) (b4 : r.red = false)
    (b6 : RBT ao n) (b7 : ao.red = false) (b8 : RBT (.N u true us ul ur) n) (b9 : RBC c (n + 1))
    (h : TS W tb ab lv fv room N free (plug c (T.mk bd q true sb (T.mk ad p false sa (.N k true s l r) ao) (.N u false us ul ur))))
    (hL : (plug (⟨ad, p, true, sa, ao⟩ :: ⟨bd, q, false, sb, .N u true us ul ur⟩ :: c) (.N k true s l r)).toL = L) (w0 : World) (hM : Mod (TF tb ab lv fv) w0 W) :
    RiseR w0 tb ab lv fv room N free L c.length (.int .i64 q) W := by
  have hX : RBT (T.mk ad p false sa (.N k true s l r) ao) (n + 1) := by
    rw [rbt_mk]; simp only [Bool.false_eq_true, if_false]
    exact ⟨n, rfl, by simp only [RBT, if_true]; exact ⟨b3, b4, b1, b2⟩, b6⟩
  have hU : RBT (.N u false us ul ur) (n + 1) := by
    simp only [RBT, if_true] at b8
    simp only [RBT, Bool.false_eq_true, if_false]
    exact ⟨n, rfl, b8.2.2.1, b8.2.2.2⟩
  have hLL : (plug c (T.mk bd q true sb (T.mk ad p false sa (.N k true s l r) ao) (.N u false us ul ur))).toL = L := by
    rw [← hL]; simp only [toL_plug, cpre, cpost, toL_mk, T.toL]
    cases ad <;> cases bd <;> simp
  cases bd
  · exact ⟨c, n + 1, q, sb, _, _, rfl, rfl, h, ⟨hX, hU, by simp [red_mk], rfl, b9⟩, hLL, hM⟩
  · exact ⟨c, n + 1, q, sb, _, _, rfl, rfl, h, ⟨hU, hX, rfl, by simp [red_mk], b9⟩, hLL, hM⟩

/-- It is black, and the node on the outer side. -/
theorem riseE2 {c : Ctx} {d : Bool} {k p q n : Nat} {s sp sb : Sg} {l r o bo : T} {L : List Sg} {W0 W : World} (b1 : RBT l n) (b2 : RBT r n) (b3 : l.red = false) (b4 : r.red = false)
    (b6 : RBT o n) (b7 : o.red = false) (hu : bo.red = false) (b8 : RBT bo n) (b9 : RBC c (n + 1))
    (hL : (plug (⟨d, p, true, sp, o⟩ :: ⟨d, q, false, sb, bo⟩ :: c) (.N k true s l r)).toL = L) (hM : Mod (TF tb ab lv fv) W0 W) :
    ∀ w', TS w' tb ab lv fv room N free (plug (⟨d, p, false, sp, T.mk (!d) q true sb bo o⟩ :: c) (.N k true s l r)) → Mod (TF tb ab lv fv) W w' → RiseR W0 tb ab lv fv room N free L (c.length + 1) (.int .i64 k) w' := by
  intro w' h M
  refine ⟨⟨d, p, false, sp, T.mk (!d) q true sb bo o⟩ :: c, n, k, s, l, r, rfl, rfl, h, ⟨b1, b2, b3, b4, ?_⟩, ?_, hM.trans' M⟩
  · refine ⟨?_, ?_⟩
    · rw [rbt_mk]; simp only [if_true]; exact ⟨hu, b7, b8, b6⟩
    · simp only [Bool.false_eq_true, if_false]; exact b9
  · rw [← hL]; simp only [toL_plug, cpre, cpost, toL_mk, T.toL]
    cases d <;> simp

/-- .. on the inner side: it is turned outwards first. -/
theorem riseE3 {c : Ctx} {d : Bool} {k p q n : Nat} {s sp sb : Sg} {l r o bo : T} {L : List Sg} {W0 W : World} {lb cp : Nat} (b1 : RBT l n) (b2 : RBT r n) (b3 : l.red = false) (b4 : r.red = false)
    (b6 : RBT o n) (b7 : o.red = false) (hu : bo.red = false) (b8 : RBT bo n) (b9 : RBC c (n + 1))
    (hL : (plug (⟨!d, p, true, sp, o⟩ :: ⟨d, q, false, sb, bo⟩ :: c) (.N k true s l r)).toL = L) (hM : Mod (TF tb ab (.slice (some ⟨lb, 0, none⟩) N cp) fv) W0 W) :
    ∀ w1, TS w1 tb ab (.slice (some ⟨lb, 0, none⟩) N cp) fv room N free (plug (⟨d, q, false, sb, bo⟩ :: c) (T.mk d k true s (T.mk d p true sp o (if d then r else l)) (if d then l else r))) → Mod (TF tb ab (.slice (some ⟨lb, 0, none⟩) N cp) fv) W w1 →
      RiseP w1 tb ab lb cp fv room N free c d k q s sb (if d then l else r) bo (T.mk d p true sp o (if d then r else l)) ∧
      ∀ w', TS w' tb ab (.slice (some ⟨lb, 0, none⟩) N cp) fv room N free (plug (⟨d, k, false, s, T.mk (!d) q true sb bo (if d then l else r)⟩ :: c) (T.mk d p true sp o (if d then r else l))) → Mod (TF tb ab (.slice (some ⟨lb, 0, none⟩) N cp) fv) w1 w' → RiseR W0 tb ab (.slice (some ⟨lb, 0, none⟩) N cp) fv room N free L (c.length + 1) (.int .i64 p) w' := by
  intro w1 h1 M1
  refine ⟨riseP h1, fun w' h2 M2 => ?_⟩
  have hC : RBC (⟨d, k, false, s, T.mk (!d) q true sb bo (if d then l else r)⟩ :: c) n := by
    refine ⟨?_, ?_⟩
    · rw [rbt_mk]; simp only [if_true]; cases d <;> exact ⟨hu, by assumption, b8, by assumption⟩
    · simp only [Bool.false_eq_true, if_false]; exact b9
  have hLL : (plug (⟨d, k, false, s, T.mk (!d) q true sb bo (if d then l else r)⟩ :: c) (T.mk d p true sp o (if d then r else l))).toL = L := by
    rw [← hL]; simp only [toL_plug, cpre, cpost, toL_mk, T.toL]
    cases d <;> simp
  cases d
  · exact ⟨_, n, p, sp, _, _, rfl, rfl, h2, ⟨b6, b1, b7, b3, hC⟩, hLL, (hM.trans' M1).trans' M2⟩
  · exact ⟨_, n, p, sp, _, _, rfl, rfl, h2, ⟨b2, b6, b4, b7, hC⟩, hLL, (hM.trans' M1).trans' M2⟩

/-- The end. -/
theorem riseE4 {c : Ctx} {k n : Nat} {s s0 : Sg} {i0 : Int} {b0 : Bool} {l r l0 r0 : T} {L : List Sg} (b1 : RBT l n) (b2 : RBT r n) (b3 : l.red = false) (b4 : r.red = false) (b5 : RBC c n) (hc : cred c = false)
    (hL : (plug c (.N k true s l r)).toL = L) (hw : plug c (.N k true s l r) = .N i0 b0 s0 l0 r0) : Fine (.N i0 false s0 l0 r0) ∧ (T.N i0 false s0 l0 r0).toL = L := by
  have hX : RBT (.N k true s l r) n := by simp only [RBT, if_true]; exact ⟨b3, b4, b1, b2⟩
  refine ⟨?_, by rw [← hL, hw]; rfl⟩
  cases c with
  | nil =>
    cases hw
    exact ⟨rfl, n + 1, by simp only [RBT, Bool.false_eq_true, if_false]; exact ⟨n, rfl, b1, b2⟩⟩
  | cons a c =>
    have : Fine (plug (a :: c) (.N k true s l r)) := fine_plug (a :: c) _ n b5 hX (by rintro (e | e); rw [hc] at e; cases e; cases e)
    rw [hw] at this
    have hr := this.1
    simp only [T.red] at hr
    subst hr
    exact this
end
end Go.Proofs.Bo
set_option linter.unusedVariables false
set_option linter.unusedSimpArgs false
namespace Go.Proofs.Bo
open Go Go.RowKit

/-- A black node too few in X, or X is red and all right when it is black. -/
def SinkO (c : Ctx) (X : T) (n : Nat) : Prop := RBC c (n + 1) ∧ ((X.red = false ∧ RBT X n) ∨ (X.red = true ∧ RBT X.black (n + 1)))

theorem red_black (X : T) : X.black.red = false := by cases X <;> rfl
theorem toL_black (X : T) : X.black.toL = X.toL := by cases X <;> rfl
theorem sinkE0 {c : Ctx} {X : T} {n : Nat} (h : SinkO c X n) (hx : c = [] ∨ X.red = true) : Fine (plug c X.black) := by
  obtain ⟨h1, ⟨h2, h3⟩ | ⟨h2, h3⟩⟩ := h
  · rcases hx with rfl | hx
    · refine ⟨red_black X, ?_⟩
      have : X.black = X := by cases X with | E => rfl | N i b s l r => simp only [T.red] at h2; subst h2; rfl
      rw [show plug [] X.black = X.black from rfl, this]
      exact ⟨n, h3⟩
    · rw [h2] at hx; cases hx
  · exact fine_plug c _ (n + 1) h1 h3 fun _ => red_black X

/-- What is so when the sibling is black. -/
def SinkK (c1 : Ctx) (b : Bool) (A B X : T) (n : Nat) : Prop :=
  RBT A n ∧ RBT B n ∧ RBT X n ∧ X.red = false ∧ if b then c1 ≠ [] ∧ cred c1 = false ∧ RBC c1 (n + 1) else RBC c1 (n + 2)

theorem sink_sib {d b : Bool} {p : Int} {sp : Sg} {o X : T} {c : Ctx} {n : Nat} (h : SinkO (⟨d, p, b, sp, o⟩ :: c) X n) (hX : X.red = false) :
    RBT X n ∧ RBT o (n + 1) ∧ o ≠ .E ∧ if b then o.red = false ∧ c ≠ [] ∧ cred c = false ∧ RBC c (n + 1) else RBC c (n + 2) := by
  obtain ⟨⟨h1, h2⟩, ⟨h3, h4⟩ | ⟨h3, h4⟩⟩ := h
  · exact ⟨h4, h1, by rintro rfl; simp [RBT] at h1, h2⟩
  · rw [hX] at h3; cases h3

theorem sink_black {d b : Bool} {p w : Int} {sp sw : Sg} {A B X : T} {c : Ctx} {n : Nat} (h : SinkO (⟨d, p, b, sp, T.mk d w false sw A B⟩ :: c) X n) (hX : X.red = false) : SinkK c b A B X n := by
  obtain ⟨h1, h2, _, h4⟩ := sink_sib h hX
  rw [rbt_mk] at h2
  simp only [Bool.false_eq_true, if_false] at h2
  obtain ⟨m, e, h5, h6⟩ := h2
  obtain rfl : n = m := by omega
  refine ⟨h5, h6, h1, hX, ?_⟩
  cases b
  · simpa using h4
  · simp only [if_true] at h4 ⊢; exact h4.2
theorem sink_red {d b : Bool} {p w : Int} {sp sw : Sg} {A B X : T} {c : Ctx} {n : Nat} (h : SinkO (⟨d, p, b, sp, T.mk d w true sw A B⟩ :: c) X n) (hX : X.red = false) :
    b = false ∧ ∃ k s x y, A = T.mk d k false s x y ∧ SinkK (⟨d, w, false, sw, B⟩ :: c) true x y X n := by
  obtain ⟨h1, h2, _, h4⟩ := sink_sib h hX
  rw [rbt_mk] at h2
  simp only [if_true] at h2
  obtain ⟨h5, h6, h7, h8⟩ := h2
  cases b
  · refine ⟨rfl, ?_⟩
    cases A with
    | E => simp [RBT] at h7
    | N k b s l r =>
      simp only [T.red] at h5; subst h5
      refine ⟨k, s, _, _, T.N_mk _ _ _ _ _ d, ?_⟩
      simp only [RBT, Bool.false_eq_true, if_false] at h7
      obtain ⟨m, e, h9, h10⟩ := h7
      obtain rfl : n = m := by omega
      refine ⟨by cases d <;> assumption, by cases d <;> assumption, h1, hX, ?_⟩
      simp only [if_true]
      refine ⟨by simp, rfl, h8, ?_⟩
      simp only [Bool.false_eq_true, if_false] at h4 ⊢
      exact h4
  · simp only [if_true, red_mk] at h4; cases h4.1

theorem sink_1 {c : Ctx} {d b : Bool} {p w : Int} {sp sw : Sg} {A B X : T} {n : Nat} (h : SinkK c b A B X n) (hA : A.red = false) (hB : B.red = false) :
    ∃ m, SinkO c (T.mk d p b sp X (T.mk d w true sw A B)) m := by
  obtain ⟨h1, h2, h3, h4, h5⟩ := h
  have ho : RBT (T.mk d w true sw A B) n := by rw [rbt_mk]; simp only [if_true]; exact ⟨hA, hB, h1, h2⟩
  cases b
  · refine ⟨n + 1, by simpa using h5, .inl ⟨red_mk .., ?_⟩⟩
    rw [rbt_mk]; simp only [Bool.false_eq_true, if_false]; exact ⟨n, rfl, h3, ho⟩
  · simp only [if_true] at h5
    refine ⟨n, h5.2.2, .inr ⟨red_mk .., ?_⟩⟩
    have : (T.mk d p true sp X (T.mk d w true sw A B)).black = T.mk d p false sp X (T.mk d w true sw A B) := by cases d <;> rfl
    rw [this, rbt_mk]; simp only [Bool.false_eq_true, if_false]; exact ⟨n, rfl, h3, ho⟩
theorem sink_2 {c : Ctx} {d b : Bool} {a w : Int} {sa sw : Sg} {A1 A2 B X : T} {n : Nat} (h : SinkK c b (T.mk d a true sa A1 A2) B X n) (hB : B.red = false) :
    SinkK c b A1 (T.mk d w true sw A2 B) X n := by
  obtain ⟨h1, h2, h3, h4, h5⟩ := h
  rw [rbt_mk] at h1
  simp only [if_true] at h1
  refine ⟨h1.2.2.1, ?_, h3, h4, h5⟩
  rw [rbt_mk]; simp only [if_true]; exact ⟨h1.2.1, hB, h1.2.2.2, h2⟩
theorem sink_3 {c : Ctx} {d b : Bool} {p w f : Int} {sp sw sf : Sg} {A F1 F2 X : T} {n : Nat} (h : SinkK c b A (.N f true sf F1 F2) X n) :
    Fine (plug c (T.mk d w b sw (T.mk d p false sp X A) (.N f false sf F1 F2))) := by
  obtain ⟨h1, h2, h3, h4, h5⟩ := h
  simp only [RBT, if_true] at h2
  have hP : RBT (T.mk d p false sp X A) (n + 1) := by rw [rbt_mk]; simp only [Bool.false_eq_true, if_false]; exact ⟨n, rfl, h3, h1⟩
  have hF : RBT (.N f false sf F1 F2) (n + 1) := by simp only [RBT, Bool.false_eq_true, if_false]; exact ⟨n, rfl, h2.2.2.1, h2.2.2.2⟩
  cases b
  · refine fine_plug c _ (n + 2) (by simpa using h5) ?_ fun _ => red_mk ..
    rw [rbt_mk]; simp only [Bool.false_eq_true, if_false]; exact ⟨n + 1, rfl, hP, hF⟩
  · simp only [if_true] at h5
    refine fine_plug c _ (n + 1) h5.2.2 ?_ ?_
    · rw [rbt_mk]; simp only [if_true]; exact ⟨red_mk .., rfl, hP, hF⟩
    · rintro (e | e)
      · rw [h5.2.1] at e; cases e
      · exact absurd e h5.1

section
variable {w w' : World} {tb ab N : Nat} {lv fv : Value} {room : Int} {free : List Int} {t : T}

def SinkR (w0 : World) (tb ab : Nat) (lv fv : Value) (room : Int) (N : Nat) (free : List Int) (L : List Sg) (g : Nat) (v1 v2 : Value) (W : World) : Prop :=
  ∃ (c : Ctx) (X : T) (n : Nat), g = 2 * c.length + (if X.red then 0 else 1) ∧ v1 = .int .i64 X.ix ∧ v2 = .int .i64 (cix c) ∧ TS W tb ab lv fv room N free (plug c X) ∧ SinkO c X n ∧ (plug c X).toL = L ∧ Mod (TF tb ab lv fv) w0 W
def SinkC (w0 : World) (tb ab : Nat) (lv fv : Value) (room : Int) (N : Nat) (free : List Int) (L : List Sg) (g : Nat) (d : Bool) (p : Nat) (X : T) (v7 : Value) (W : World) : Prop :=
  ∃ (c : Ctx) (b : Bool) (sp : Sg) (k : Nat) (s : Sg) (A B : T) (n : Nat), 2 * c.length + (if b then 0 else 1) < g ∧ v7 = .int .i64 k ∧ TS W tb ab lv fv room N free (plug (⟨d, p, b, sp, T.mk d k false s A B⟩ :: c) X) ∧ SinkK c b A B X n ∧
    (plug (⟨d, p, b, sp, T.mk d k false s A B⟩ :: c) X).toL = L ∧ Mod (TF tb ab lv fv) w0 W

/-- The sibling is red: two colours, a rotation. -/
structure SinkP (W : World) (tb ab : Nat) (lb cp : Nat) (fv : Value) (room : Int) (N : Nat) (free : List Int) (c : Ctx) (d : Bool) (p k : Nat) (sp s : Sg) (A B X : T) : Prop where
  ak : Calls Tryz.prog 31 #[.pointer (some ⟨tb, 0, none⟩), .int .i64 k] W fun e w' => e = .returned (.pointer (some ⟨lb, k * 10, none⟩)) ∧ w' = W
  k8 : W.cell? ⟨lb, k * 10 + 8, none⟩ = some (.bool true)
  fk : W.frozen? ⟨lb, k * 10 + 8, none⟩ = false
  p8 : (W.setCell ⟨lb, k * 10 + 8, none⟩ (.bool false)).cell? ⟨lb, p * 10 + 8, none⟩ = some (.bool false)
  fp : (W.setCell ⟨lb, k * 10 + 8, none⟩ (.bool false)).frozen? ⟨lb, p * 10 + 8, none⟩ = false
  rot : Calls Tryz.prog 68 #[.pointer (some ⟨tb, 0, none⟩), .int .i64 p, .int .i64 (di d)] ((W.setCell ⟨lb, k * 10 + 8, none⟩ (.bool false)).setCell ⟨lb, p * 10 + 8, none⟩ (.bool true))
    fun e w' => e = .returned (.tuple #[]) ∧ TS w' tb ab (.slice (some ⟨lb, 0, none⟩) N cp) fv room N free (plug (⟨d, p, true, sp, A⟩ :: ⟨d, k, false, s, B⟩ :: c) X) ∧ Mod (TF tb ab (.slice (some ⟨lb, 0, none⟩) N cp) fv) W w'

theorem sinkP {W : World} {lb cp : Nat} {c : Ctx} {d : Bool} {p k : Nat} {sp s : Sg} {A B X : T} (h : TS W tb ab (.slice (some ⟨lb, 0, none⟩) N cp) fv room N free (plug (⟨d, p, false, sp, T.mk d k true s A B⟩ :: c) X)) :
    SinkP W tb ab lb cp fv room N free c d p k sp s A B X := by
  have hf := h.flip
  have hK := TS.node_mk (c := ⟨!d, p, false, sp, X⟩ :: c) (d := d) (k := k) hf
  obtain ⟨h1, M1⟩ := TS.recol_mk (c := ⟨!d, p, false, sp, X⟩ :: c) (d := d) (k := k) hf false
  have h1' := h1.flip
  simp only [Bool.not_not] at h1'
  have hP := TS.node_mk (c := c) (d := d) (k := p) h1'
  obtain ⟨h2, M2⟩ := TS.recol_mk (c := c) (d := d) (k := p) h1' true
  have R := rotZ h2
  refine ⟨hK.at', hK.c8, hK.f8, hP.c8, hP.f8, R.mono ?_⟩
  rintro e w' ⟨rfl, h3, M3⟩
  exact ⟨rfl, h3, (M1.trans' M2).trans' M3⟩

/-- The near nephew is red alone. -/
structure SinkG (W : World) (tb ab : Nat) (lb cp : Nat) (fv : Value) (room : Int) (N : Nat) (free : List Int) (c : Ctx) (d b : Bool) (p k a : Nat) (sp s sa : Sg) (A1 A2 B X : T) : Prop where
  aa : Calls Tryz.prog 31 #[.pointer (some ⟨tb, 0, none⟩), .int .i64 a] W fun e w' => e = .returned (.pointer (some ⟨lb, a * 10, none⟩)) ∧ w' = W
  ak : Calls Tryz.prog 31 #[.pointer (some ⟨tb, 0, none⟩), .int .i64 k] W fun e w' => e = .returned (.pointer (some ⟨lb, k * 10, none⟩)) ∧ w' = W
  a8 : W.cell? ⟨lb, a * 10 + 8, none⟩ = some (.bool true)
  fa : W.frozen? ⟨lb, a * 10 + 8, none⟩ = false
  k8 : (W.setCell ⟨lb, a * 10 + 8, none⟩ (.bool false)).cell? ⟨lb, k * 10 + 8, none⟩ = some (.bool false)
  fk : (W.setCell ⟨lb, a * 10 + 8, none⟩ (.bool false)).frozen? ⟨lb, k * 10 + 8, none⟩ = false
  rot : Calls Tryz.prog 68 #[.pointer (some ⟨tb, 0, none⟩), .int .i64 k, .int .i64 (di (!d))] ((W.setCell ⟨lb, a * 10 + 8, none⟩ (.bool false)).setCell ⟨lb, k * 10 + 8, none⟩ (.bool true))
    fun e w' => e = .returned (.tuple #[]) ∧ TS w' tb ab (.slice (some ⟨lb, 0, none⟩) N cp) fv room N free (plug (⟨d, p, b, sp, T.mk d a false sa A1 (T.mk d k true s A2 B)⟩ :: c) X) ∧ Mod (TF tb ab (.slice (some ⟨lb, 0, none⟩) N cp) fv) W w'

theorem sinkG {W : World} {lb cp : Nat} {c : Ctx} {d b : Bool} {p k a : Nat} {sp s sa : Sg} {A1 A2 B X : T} (h : TS W tb ab (.slice (some ⟨lb, 0, none⟩) N cp) fv room N free (plug (⟨d, p, b, sp, T.mk d k false s (T.mk d a true sa A1 A2) B⟩ :: c) X)) :
    SinkG W tb ab lb cp fv room N free c d b p k a sp s sa A1 A2 B X := by
  have hf := h.flip
  have hK := TS.node_mk (c := ⟨!d, p, b, sp, X⟩ :: c) (d := d) (k := k) hf
  have hA := TS.node_mk (c := ⟨d, k, false, s, B⟩ :: ⟨!d, p, b, sp, X⟩ :: c) (d := d) (k := a) hf
  obtain ⟨h1, M1⟩ := TS.recol_mk (c := ⟨d, k, false, s, B⟩ :: ⟨!d, p, b, sp, X⟩ :: c) (d := d) (k := a) hf false
  have hK1 := TS.node_mk (c := ⟨!d, p, b, sp, X⟩ :: c) (d := d) (k := k) h1
  obtain ⟨h2, M2⟩ := TS.recol_mk (c := ⟨!d, p, b, sp, X⟩ :: c) (d := d) (k := k) h1 true
  rw [mk_not, mk_not d] at h2
  have R := rotZ h2
  refine ⟨hA.at', hK.at', hA.c8, hA.f8, hK1.c8, hK1.f8, R.mono ?_⟩
  rintro e w' ⟨rfl, h3, M3⟩
  have h3' := h3.flip
  simp only [Bool.not_not] at h3'
  rw [mk_not (!d), Bool.not_not, mk_not (!d), Bool.not_not] at h3'
  exact ⟨rfl, h3', (M1.trans' M2).trans' M3⟩

/-- The far nephew is red: the last rotation. -/
structure SinkF (W : World) (tb ab : Nat) (lb cp : Nat) (fv : Value) (room : Int) (N : Nat) (free : List Int) (c : Ctx) (d b : Bool) (p k f : Nat) (sp s sf : Sg) (A F1 F2 X : T) : Prop where
  ak : Calls Tryz.prog 31 #[.pointer (some ⟨tb, 0, none⟩), .int .i64 k] W fun e w' => e = .returned (.pointer (some ⟨lb, k * 10, none⟩)) ∧ w' = W
  ap : Calls Tryz.prog 31 #[.pointer (some ⟨tb, 0, none⟩), .int .i64 p] W fun e w' => e = .returned (.pointer (some ⟨lb, p * 10, none⟩)) ∧ w' = W
  pb : W.cell? ⟨lb, p * 10 + 8, none⟩ = some (.bool b)
  k8 : W.cell? ⟨lb, k * 10 + 8, none⟩ = some (.bool false)
  fk : W.frozen? ⟨lb, k * 10 + 8, none⟩ = false
  ap1 : Calls Tryz.prog 31 #[.pointer (some ⟨tb, 0, none⟩), .int .i64 p] (W.setCell ⟨lb, k * 10 + 8, none⟩ (.bool b)) fun e w' => e = .returned (.pointer (some ⟨lb, p * 10, none⟩)) ∧ w' = W.setCell ⟨lb, k * 10 + 8, none⟩ (.bool b)
  af1 : Calls Tryz.prog 31 #[.pointer (some ⟨tb, 0, none⟩), .int .i64 f] (W.setCell ⟨lb, k * 10 + 8, none⟩ (.bool b)) fun e w' => e = .returned (.pointer (some ⟨lb, f * 10, none⟩)) ∧ w' = W.setCell ⟨lb, k * 10 + 8, none⟩ (.bool b)
  p8 : (W.setCell ⟨lb, k * 10 + 8, none⟩ (.bool b)).cell? ⟨lb, p * 10 + 8, none⟩ = some (.bool b)
  fp : (W.setCell ⟨lb, k * 10 + 8, none⟩ (.bool b)).frozen? ⟨lb, p * 10 + 8, none⟩ = false
  f8 : ((W.setCell ⟨lb, k * 10 + 8, none⟩ (.bool b)).setCell ⟨lb, p * 10 + 8, none⟩ (.bool false)).cell? ⟨lb, f * 10 + 8, none⟩ = some (.bool true)
  ff : ((W.setCell ⟨lb, k * 10 + 8, none⟩ (.bool b)).setCell ⟨lb, p * 10 + 8, none⟩ (.bool false)).frozen? ⟨lb, f * 10 + 8, none⟩ = false
  rot : Calls Tryz.prog 68 #[.pointer (some ⟨tb, 0, none⟩), .int .i64 p, .int .i64 (di d)] (((W.setCell ⟨lb, k * 10 + 8, none⟩ (.bool b)).setCell ⟨lb, p * 10 + 8, none⟩ (.bool false)).setCell ⟨lb, f * 10 + 8, none⟩ (.bool false))
    fun e w' => e = .returned (.tuple #[]) ∧ TS w' tb ab (.slice (some ⟨lb, 0, none⟩) N cp) fv room N free (plug c (T.mk d k b s (T.mk d p false sp X A) (.N f false sf F1 F2))) ∧ Mod (TF tb ab (.slice (some ⟨lb, 0, none⟩) N cp) fv) W w'

theorem sinkF {W : World} {lb cp : Nat} {c : Ctx} {d b : Bool} {p k f : Nat} {sp s sf : Sg} {A F1 F2 X : T} (h : TS W tb ab (.slice (some ⟨lb, 0, none⟩) N cp) fv room N free (plug (⟨d, p, b, sp, T.mk d k false s A (.N f true sf F1 F2)⟩ :: c) X)) :
    SinkF W tb ab lb cp fv room N free c d b p k f sp s sf A F1 F2 X := by
  have hP := TS.node_mk (c := c) (d := d) (k := p) h
  have hf := h.flip
  have hK := TS.node_mk (c := ⟨!d, p, b, sp, X⟩ :: c) (d := d) (k := k) hf
  obtain ⟨h1, M1⟩ := TS.recol_mk (c := ⟨!d, p, b, sp, X⟩ :: c) (d := d) (k := k) hf b
  have h1' := h1.flip
  simp only [Bool.not_not] at h1'
  have hP1 := TS.node_mk (c := c) (d := d) (k := p) h1'
  try dsimp only at h1
  rw [mk_not d k] at h1
  have hF1 := TS.node (c := ⟨!d, k, b, s, A⟩ :: ⟨!d, p, b, sp, X⟩ :: c) (k := f) h1
  obtain ⟨h2, M2⟩ := TS.recol_mk (c := c) (d := d) (k := p) h1' false
  have h2f := TS.flip (a := ⟨d, p, false, sp, T.mk d k b s A (.N f true sf F1 F2)⟩) (c := c) h2
  try dsimp only at h2f
  rw [mk_not d k] at h2f
  have hF2 := TS.node (c := ⟨!d, k, b, s, A⟩ :: ⟨!d, p, false, sp, X⟩ :: c) (k := f) h2f
  obtain ⟨h3, M3⟩ := TS.recol (c := ⟨!d, k, b, s, A⟩ :: ⟨!d, p, false, sp, X⟩ :: c) (k := f) h2f false
  have h3' := TS.flip (a := ⟨!d, p, false, sp, X⟩) (c := c) h3
  simp only [Bool.not_not] at h3'
  rw [← mk_not d k] at h3'
  have R := rotZ (c := c) (d := d) (i := p) (u := k) h3'
  refine ⟨hK.at', hP.at', hP.c8, hK.c8, hK.f8, hP1.at', hF1.at', hP1.c8, hP1.f8, hF2.c8, hF2.f8, R.mono ?_⟩
  rintro e w' ⟨rfl, h4, M4⟩
  exact ⟨rfl, h4, ((M1.trans' M2).trans' M3).trans' M4⟩

theorem toL_sinkA {c : Ctx} {d : Bool} {p k : Int} {b b' b1 b1' : Bool} {sp s : Sg} {A B X : T} :
    (plug (⟨d, p, b', sp, A⟩ :: ⟨d, k, b1', s, B⟩ :: c) X).toL = (plug (⟨d, p, b, sp, T.mk d k b1 s A B⟩ :: c) X).toL := by
  simp only [toL_plug, cpre, cpost, toL_mk]; cases d <;> simp
theorem toL_sinkG {c : Ctx} {d b b' : Bool} {b1 b2 b3 b4 : Bool} {p k a : Int} {sp s sa : Sg} {A1 A2 B X : T} :
    (plug (⟨d, p, b', sp, T.mk d a b1 sa A1 (T.mk d k b2 s A2 B)⟩ :: c) X).toL = (plug (⟨d, p, b, sp, T.mk d k b3 s (T.mk d a b4 sa A1 A2) B⟩ :: c) X).toL := by
  simp only [toL_plug, cpre, cpost, toL_mk]; cases d <;> simp
theorem toL_sinkF {c : Ctx} {d b b1 b2 b3 b4 b5 : Bool} {p k f : Int} {sp s sf : Sg} {A F1 F2 X : T} :
    (plug c (T.mk d k b1 s (T.mk d p b2 sp X A) (.N f b3 sf F1 F2))).toL = (plug (⟨d, p, b, sp, T.mk d k b4 s A (.N f b5 sf F1 F2)⟩ :: c) X).toL := by
  simp only [toL_plug, cpre, cpost, toL_mk, T.toL]; cases d <;> simp
end
end Go.Proofs.Bo
