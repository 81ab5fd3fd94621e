import Derived.Test.YtniemignjlanaaaTS
set_option linter.unusedVariables false
namespace Go.Proofs.Bo
open Go Go.RowKit
section
variable {w w' : World} {tb ab N : Nat} {lv fv : Value} {room : Int} {free : List Int} {t : T}

/-- The tree as 'rise' has it: a red node, all else as it must be. -/
def RiseR (w0 : World) (tb ab : Nat) (lv fv : Value) (room : Int) (N : Nat) (free : List Int) (L : List Sg) (g : Nat) (vi : Value) (W : World) : Prop :=
  ∃ (c : Ctx) (n k : Nat) (s : Sg) (l r : T), g = c.length ∧ vi = .int .i64 k ∧ TS W tb ab lv fv room N free (plug c (.N k true s l r)) ∧ (RBT l n ∧ RBT r n ∧ l.red = false ∧ r.red = false ∧ RBC c n) ∧ (plug c (.N k true s l r)).toL = L ∧ Mod (TF tb ab lv fv) w0 W
def RiseQ (w0 : World) (tb ab : Nat) (lv fv : Value) (room : Int) (N : Nat) (free : List Int) (L : List Sg) (W : World) : Prop :=
  ∃ t, TS W tb ab lv fv room N free t ∧ Fine t ∧ t.toL = L ∧ Mod (TF tb ab lv fv) w0 W

/-- What 'rise' does when the uncle is black: two colours, a rotation. -/
structure RiseP (W : World) (tb ab : Nat) (lb cp : Nat) (fv : Value) (room : Int) (N : Nat) (free : List Int) (c : Ctx) (d : Bool) (p q : Nat) (sp sb : Sg) (o bo F : T) : Prop where
  ap : Calls Try.prog 46 #[.pointer (some ⟨tb, 0, none⟩), .int .i64 p] W fun e w' => e = .returned (.pointer (some ⟨lb, p * 10, none⟩)) ∧ w' = W
  aq : Calls Try.prog 46 #[.pointer (some ⟨tb, 0, none⟩), .int .i64 q] W fun e w' => e = .returned (.pointer (some ⟨lb, q * 10, none⟩)) ∧ w' = W
  p8 : W.cell? ⟨lb, p * 10 + 8, none⟩ = some (.bool true)
  fp : W.frozen? ⟨lb, p * 10 + 8, none⟩ = false
  q8 : (W.setCell ⟨lb, p * 10 + 8, none⟩ (.bool false)).cell? ⟨lb, q * 10 + 8, none⟩ = some (.bool false)
  fq : (W.setCell ⟨lb, p * 10 + 8, none⟩ (.bool false)).frozen? ⟨lb, q * 10 + 8, none⟩ = false
  rot : Calls Try.prog 71 #[.pointer (some ⟨tb, 0, none⟩), .int .i64 q, .int .i64 (di (!d))] ((W.setCell ⟨lb, p * 10 + 8, none⟩ (.bool false)).setCell ⟨lb, q * 10 + 8, none⟩ (.bool true))
    fun e w' => e = .returned (.tuple #[]) ∧ TS w' tb ab (.slice (some ⟨lb, 0, none⟩) N cp) fv room N free (plug (⟨d, p, false, sp, T.mk (!d) q true sb bo o⟩ :: c) F) ∧ Mod (TF tb ab (.slice (some ⟨lb, 0, none⟩) N cp) fv) W w'

theorem riseP {W : World} {lb cp : Nat} {c : Ctx} {d : Bool} {p q : Nat} {sp sb : Sg} {o bo F : T} (h : TS W tb ab (.slice (some ⟨lb, 0, none⟩) N cp) fv room N free (plug (⟨d, p, true, sp, o⟩ :: ⟨d, q, false, sb, bo⟩ :: c) F)) :
    RiseP W tb ab lb cp fv room N free c d p q sp sb o bo F := by
  have hP := TS.node_mk (c := ⟨d, q, false, sb, bo⟩ :: c) (d := d) (k := p) h
  have hQ := TS.node_mk (c := c) (d := d) (k := q) h
  obtain ⟨h1, M1⟩ := TS.recol_mk (c := ⟨d, q, false, sb, bo⟩ :: c) (d := d) h false
  have hQ1 := TS.node_mk (c := c) (d := d) (k := q) h1
  obtain ⟨h2, M2⟩ := TS.recol_mk (c := c) (d := d) (k := q) h1 true
  rw [mk_not, mk_not d] at h2
  have R := rotZ h2
  refine ⟨hP.at', hQ.at', hP.c8, hP.f8, hQ1.c8, hQ1.f8, R.mono ?_⟩
  rintro e w' ⟨rfl, h3, M3⟩
  refine ⟨rfl, ?_, (M1.trans' M2).trans' M3⟩
  rw [plug_cons]
  dsimp only
  rw [mk_not d]
  exact h3

/-- The uncle is red. -/
theorem riseE1 {c : Ctx} {ad bd : Bool} {k p q u n : Nat} {s sa sb us : Sg} {l r ao ul ur : T} {L : List Sg} {W : World} (b1 : RBT l n) (b2 : RBT r n) (b3 : l.red = false) (b4 : r.red = false)
    (b6 : RBT ao n) (b7 : ao.red = false) (b8 : RBT (.N u true us ul ur) n) (b9 : RBC c (n + 1))
    (h : TS W tb ab lv fv room N free (plug c (T.mk bd q true sb (T.mk ad p false sa (.N k true s l r) ao) (.N u false us ul ur))))
    (hL : (plug (⟨ad, p, true, sa, ao⟩ :: ⟨bd, q, false, sb, .N u true us ul ur⟩ :: c) (.N k true s l r)).toL = L) (w0 : World) (hM : Mod (TF tb ab lv fv) w0 W) :
    RiseR w0 tb ab lv fv room N free L c.length (.int .i64 q) W := by
  have hX : RBT (T.mk ad p false sa (.N k true s l r) ao) (n + 1) := by
    rw [rbt_mk]; simp only [Bool.false_eq_true, if_false]
    exact ⟨n, rfl, by simp only [RBT, if_true]; exact ⟨b3, b4, b1, b2⟩, b6⟩
  have hU : RBT (.N u false us ul ur) (n + 1) := by
    simp only [RBT, if_true] at b8
    simp only [RBT, Bool.false_eq_true, if_false]
    exact ⟨n, rfl, b8.2.2.1, b8.2.2.2⟩
  have hLL : (plug c (T.mk bd q true sb (T.mk ad p false sa (.N k true s l r) ao) (.N u false us ul ur))).toL = L := by
    rw [← hL]; simp only [toL_plug, cpre, cpost, toL_mk, T.toL]
    cases ad <;> cases bd <;> simp
  cases bd
  · exact ⟨c, n + 1, q, sb, _, _, rfl, rfl, h, ⟨hX, hU, by simp [red_mk], rfl, b9⟩, hLL, hM⟩
  · exact ⟨c, n + 1, q, sb, _, _, rfl, rfl, h, ⟨hU, hX, rfl, by simp [red_mk], b9⟩, hLL, hM⟩

/-- It is black, and the node on the outer side. -/
theorem riseE2 {c : Ctx} {d : Bool} {k p q n : Nat} {s sp sb : Sg} {l r o bo : T} {L : List Sg} {W0 W : World} (b1 : RBT l n) (b2 : RBT r n) (b3 : l.red = false) (b4 : r.red = false)
    (b6 : RBT o n) (b7 : o.red = false) (hu : bo.red = false) (b8 : RBT bo n) (b9 : RBC c (n + 1))
    (hL : (plug (⟨d, p, true, sp, o⟩ :: ⟨d, q, false, sb, bo⟩ :: c) (.N k true s l r)).toL = L) (hM : Mod (TF tb ab lv fv) W0 W) :
    ∀ w', TS w' tb ab lv fv room N free (plug (⟨d, p, false, sp, T.mk (!d) q true sb bo o⟩ :: c) (.N k true s l r)) → Mod (TF tb ab lv fv) W w' → RiseR W0 tb ab lv fv room N free L (c.length + 1) (.int .i64 k) w' := by
  intro w' h M
  refine ⟨⟨d, p, false, sp, T.mk (!d) q true sb bo o⟩ :: c, n, k, s, l, r, rfl, rfl, h, ⟨b1, b2, b3, b4, ?_⟩, ?_, hM.trans' M⟩
  · refine ⟨?_, ?_⟩
    · rw [rbt_mk]; simp only [if_true]; exact ⟨hu, b7, b8, b6⟩
    · simp only [Bool.false_eq_true, if_false]; exact b9
  · rw [← hL]; simp only [toL_plug, cpre, cpost, toL_mk, T.toL]
    cases d <;> simp

/-- .. on the inner side: it is turned outwards first. -/
theorem riseE3 {c : Ctx} {d : Bool} {k p q n : Nat} {s sp sb : Sg} {l r o bo : T} {L : List Sg} {W0 W : World} {lb cp : Nat} (b1 : RBT l n) (b2 : RBT r n) (b3 : l.red = false) (b4 : r.red = false)
    (b6 : RBT o n) (b7 : o.red = false) (hu : bo.red = false) (b8 : RBT bo n) (b9 : RBC c (n + 1))
    (hL : (plug (⟨!d, p, true, sp, o⟩ :: ⟨d, q, false, sb, bo⟩ :: c) (.N k true s l r)).toL = L) (hM : Mod (TF tb ab (.slice (some ⟨lb, 0, none⟩) N cp) fv) W0 W) :
    ∀ w1, TS w1 tb ab (.slice (some ⟨lb, 0, none⟩) N cp) fv room N free (plug (⟨d, q, false, sb, bo⟩ :: c) (T.mk d k true s (T.mk d p true sp o (if d then r else l)) (if d then l else r))) → Mod (TF tb ab (.slice (some ⟨lb, 0, none⟩) N cp) fv) W w1 →
      RiseP w1 tb ab lb cp fv room N free c d k q s sb (if d then l else r) bo (T.mk d p true sp o (if d then r else l)) ∧
      ∀ w', TS w' tb ab (.slice (some ⟨lb, 0, none⟩) N cp) fv room N free (plug (⟨d, k, false, s, T.mk (!d) q true sb bo (if d then l else r)⟩ :: c) (T.mk d p true sp o (if d then r else l))) → Mod (TF tb ab (.slice (some ⟨lb, 0, none⟩) N cp) fv) w1 w' → RiseR W0 tb ab (.slice (some ⟨lb, 0, none⟩) N cp) fv room N free L (c.length + 1) (.int .i64 p) w' := by
  intro w1 h1 M1
  refine ⟨riseP h1, fun w' h2 M2 => ?_⟩
  have hC : RBC (⟨d, k, false, s, T.mk (!d) q true sb bo (if d then l else r)⟩ :: c) n := by
    refine ⟨?_, ?_⟩
    · rw [rbt_mk]; simp only [if_true]; cases d <;> exact ⟨hu, by assumption, b8, by assumption⟩
    · simp only [Bool.false_eq_true, if_false]; exact b9
  have hLL : (plug (⟨d, k, false, s, T.mk (!d) q true sb bo (if d then l else r)⟩ :: c) (T.mk d p true sp o (if d then r else l))).toL = L := by
    rw [← hL]; simp only [toL_plug, cpre, cpost, toL_mk, T.toL]
    cases d <;> simp
  cases d
  · exact ⟨_, n, p, sp, _, _, rfl, rfl, h2, ⟨b6, b1, b7, b3, hC⟩, hLL, (hM.trans' M1).trans' M2⟩
  · exact ⟨_, n, p, sp, _, _, rfl, rfl, h2, ⟨b2, b6, b4, b7, hC⟩, hLL, (hM.trans' M1).trans' M2⟩

/-- The end. -/
theorem riseE4 {c : Ctx} {k n : Nat} {s s0 : Sg} {i0 : Int} {b0 : Bool} {l r l0 r0 : T} {L : List Sg} (b1 : RBT l n) (b2 : RBT r n) (b3 : l.red = false) (b4 : r.red = false) (b5 : RBC c n) (hc : cred c = false)
    (hL : (plug c (.N k true s l r)).toL = L) (hw : plug c (.N k true s l r) = .N i0 b0 s0 l0 r0) : Fine (.N i0 false s0 l0 r0) ∧ (T.N i0 false s0 l0 r0).toL = L := by
  have hX : RBT (.N k true s l r) n := by simp only [RBT, if_true]; exact ⟨b3, b4, b1, b2⟩
  refine ⟨?_, by rw [← hL, hw]; rfl⟩
  cases c with
  | nil =>
    cases hw
    exact ⟨rfl, n + 1, by simp only [RBT, Bool.false_eq_true, if_false]; exact ⟨n, rfl, b1, b2⟩⟩
  | cons a c =>
    have : Fine (plug (a :: c) (.N k true s l r)) := fine_plug (a :: c) _ n b5 hX (by rintro (e | e); rw [hc] at e; cases e; cases e)
    rw [hw] at this
    have hr := this.1
    simp only [T.red] at hr
    subst hr
    exact this
end
end Go.Proofs.Bo
