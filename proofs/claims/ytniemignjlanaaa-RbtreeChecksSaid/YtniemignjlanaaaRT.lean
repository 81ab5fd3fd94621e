import Derived.Test.YtniemignjlanaaaSt
set_option linter.unusedVariables false
namespace Go.Proofs.Bo

/-! Red-black trees with their nodes' places; contexts; how a store holds them. -/

inductive T where
  | E
  | N (i : Int) (red : Bool) (s : Sg) (l r : T)
deriving Inhabited

namespace T
def ix : T → Int | E => -1 | N i _ _ _ _ => i
def ids : T → List Int | E => [] | N i _ _ l r => i :: (l.ids ++ r.ids)
def toL : T → List Sg | E => [] | N _ _ s l r => l.toL ++ s :: r.toL
def red : T → Bool | E => false | N _ b _ _ _ => b
def black : T → T | E => E | N i _ s l r => N i false s l r
/-- A node with a child on a side (0: left) and one on the other. -/
def mk (d : Bool) (i : Int) (b : Bool) (s : Sg) (x y : T) : T := if d then N i b s y x else N i b s x y
end T

def di (d : Bool) : Int := if d then 1 else 0
/-- Above a hole: on which side of a node it is (true: the right one), the node, its other child. -/
structure Fr where
  d : Bool
  i : Int
  red : Bool
  s : Sg
  o : T

abbrev Ctx := List Fr
def cix : Ctx → Int | [] => -1 | f :: _ => f.i
def cred : Ctx → Bool | [] => false | f :: _ => f.red
def cids : Ctx → List Int | [] => [] | f :: c => f.i :: (f.o.ids ++ cids c)
def plug : Ctx → T → T | [], t => t | f :: c, t => plug c (T.mk f.d f.i f.red f.s t f.o)

/-- What a store has for a tree's nodes. -/
def Rep (f : Int → Option Nd) : Int → T → Prop
  | _, .E => True
  | p, .N i b s l r => f i = some ⟨s, l.ix, r.ix, p, b⟩ ∧ Rep f i l ∧ Rep f i r
def RepC (f : Int → Option Nd) : Ctx → Int → Prop
  | [], _ => True
  | g :: c, h => f g.i = some ⟨g.s, if g.d then g.o.ix else h, if g.d then h else g.o.ix, cix c, g.red⟩ ∧ Rep f g.i g.o ∧ RepC f c g.i

theorem rep_mk {f : Int → Option Nd} {p : Int} {d : Bool} {i : Int} {b : Bool} {s : Sg} {x y : T} :
    Rep f p (T.mk d i b s x y) ↔ f i = some ⟨s, if d then y.ix else x.ix, if d then x.ix else y.ix, p, b⟩ ∧ Rep f i x ∧ Rep f i y := by
  cases d <;> simp [T.mk, Rep, and_comm]
theorem ids_mk (d : Bool) (i : Int) (b : Bool) (s : Sg) (x y : T) : ((T.mk d i b s x y).ids).Perm (i :: (x.ids ++ y.ids)) := by
  cases d <;> simp [T.mk, T.ids]
  exact List.perm_append_comm
theorem ix_mk (d : Bool) (i : Int) (b : Bool) (s : Sg) (x y : T) : (T.mk d i b s x y).ix = i := by cases d <;> rfl
theorem red_mk (d : Bool) (i : Int) (b : Bool) (s : Sg) (x y : T) : (T.mk d i b s x y).red = b := by cases d <;> rfl

theorem rep_plug {f : Int → Option Nd} : ∀ (c : Ctx) (t : T), Rep f (-1) (plug c t) ↔ RepC f c t.ix ∧ Rep f (cix c) t
  | [], t => by simp [plug, RepC, cix]
  | g :: c, t => by
    rw [plug, rep_plug c, rep_mk, ix_mk]
    simp only [RepC, cix]
    constructor
    · rintro ⟨a, b, c, d⟩; exact ⟨⟨b, d, a⟩, c⟩
    · rintro ⟨⟨b, d, a⟩, c⟩; exact ⟨a, b, c, d⟩
theorem ids_plug : ∀ (c : Ctx) (t : T), ((plug c t).ids).Perm (cids c ++ t.ids)
  | [], t => by simp [plug, cids]
  | g :: c, t => by
    refine (ids_plug c _).trans ?_
    refine ((ids_mk ..).append_left _).trans ?_
    simp only [cids]
    refine List.perm_middle.trans ?_
    simp only [List.cons_append, List.append_assoc]
    refine List.Perm.cons _ ?_
    refine (List.Perm.append_left _ List.perm_append_comm).trans ?_
    rw [← List.append_assoc, ← List.append_assoc]
    exact List.Perm.append_right _ List.perm_append_comm

theorem mem_plug (c : Ctx) (t : T) (k : Int) : k ∈ (plug c t).ids ↔ k ∈ cids c ∨ k ∈ t.ids := by
  rw [(ids_plug c t).mem_iff]; simp
theorem nodup_plug (c : Ctx) (t : T) : (plug c t).ids.Nodup ↔ (cids c).Nodup ∧ t.ids.Nodup ∧ ∀ k, k ∈ cids c → k ∉ t.ids := by
  rw [(ids_plug c t).nodup_iff, List.nodup_append]
  constructor
  · rintro ⟨a, b, c⟩; exact ⟨a, b, fun k h1 h2 => c k h1 k h2 rfl⟩
  · rintro ⟨a, b, c⟩; exact ⟨a, b, fun k h1 j h2 e => c k h1 (e ▸ h2)⟩

theorem Rep.keep {f g : Int → Option Nd} : ∀ {t : T} {p : Int}, Rep f p t → (∀ k, k ∈ t.ids → g k = f k) → Rep g p t
  | .E, _, _, _ => trivial
  | .N i b s l r, p, h, hk => ⟨(hk i (by simp [T.ids])).trans h.1, h.2.1.keep fun k h => hk k (by simp [T.ids, h]), h.2.2.keep fun k h => hk k (by simp [T.ids, h])⟩
theorem RepC.keep {f g : Int → Option Nd} : ∀ {c : Ctx} {h : Int}, RepC f c h → (∀ k, k ∈ cids c → g k = f k) → RepC g c h
  | [], _, _, _ => trivial
  | a :: c, _, h, hk => ⟨(hk a.i (by simp [cids])).trans h.1, h.2.1.keep fun k h => hk k (by simp [cids, h]), h.2.2.keep fun k h => hk k (by simp [cids, h])⟩
/-- A tree that hangs below another node. -/
theorem Rep.par {f g : Int → Option Nd} {t : T} {p q : Int} (h : Rep f p t) (hn : t.ids.Nodup) (hr : t ≠ .E → g t.ix = (f t.ix).map (parN q)) (hk : ∀ k, k ∈ t.ids → k ≠ t.ix → g k = f k) : Rep g q t := by
  cases t with
  | E => trivial
  | N i b s l r =>
    simp only [T.ids, List.nodup_cons, List.mem_append, not_or] at hn
    have := hr (by simp)
    simp only [T.ix] at this hk
    refine ⟨by rw [this, h.1]; rfl, h.2.1.keep fun k hk' => hk k (by simp [T.ids, hk']) (by rintro rfl; exact hn.1.1 hk'), h.2.2.keep fun k hk' => hk k (by simp [T.ids, hk']) (by rintro rfl; exact hn.1.2 hk')⟩
/-- A hole that has another tree. -/
theorem RepC.hole {f g : Int → Option Nd} {c : Ctx} {h h' : Int} (H : RepC f c h) (hn : (cids c).Nodup)
    (hr : ∀ a c', c = a :: c' → ∀ n, f a.i = some n → g a.i = some (n.setKid (di a.d) h')) (hk : ∀ k, k ∈ cids c → k ≠ cix c → g k = f k) : RepC g c h' := by
  cases c with
  | nil => trivial
  | cons a c =>
    simp only [cids, List.nodup_cons, List.mem_append, not_or] at hn
    simp only [cix] at hk
    refine ⟨?_, H.2.1.keep fun k hk' => hk k (by simp [cids, hk']) (by rintro rfl; exact hn.1.1 hk'), H.2.2.keep fun k hk' => hk k (by simp [cids, hk']) (by rintro rfl; exact hn.1.2 hk')⟩
    rw [hr a c rfl _ H.1]
    cases a.d <;> rfl
theorem cix_nil : cix [] = -1 := rfl
theorem cix_cons (a : Fr) (c : Ctx) : cix (a :: c) = a.i := rfl
end Go.Proofs.Bo
