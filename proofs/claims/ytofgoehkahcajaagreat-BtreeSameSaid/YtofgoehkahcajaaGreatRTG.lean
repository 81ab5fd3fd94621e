import Derived.Test.YtofgoehkahcajaaGreatNG
import Derived.Test.YtofgoehkahcajaaGreatBoG
set_option linter.unusedVariables false
set_option linter.unusedSimpArgs false
namespace Go.Proofs.Bo

/-! Red-black trees with their nodes' places; contexts; how a store holds them. -/

inductive T where
  | E
  | N (i : Int) (red : Bool) (s : Sg) (l r : T)
deriving Inhabited

namespace T
def ix : T → Int | E => -1 | N i _ _ _ _ => i
def ids : T → List Int | E => [] | N i _ _ l r => i :: (l.ids ++ r.ids)
def toL : T → List Sg | E => [] | N _ _ s l r => l.toL ++ s :: r.toL
def red : T → Bool | E => false | N _ b _ _ _ => b
def black : T → T | E => E | N i _ s l r => N i false s l r
/-- A node with a child on a side (0: left) and one on the other. -/
def mk (d : Bool) (i : Int) (b : Bool) (s : Sg) (x y : T) : T := if d then N i b s y x else N i b s x y
end T

def di (d : Bool) : Int := if d then 1 else 0
/-- Above a hole: on which side of a node it is (true: the right one), the node, its other child. -/
structure Fr where
  d : Bool
  i : Int
  red : Bool
  s : Sg
  o : T

abbrev Ctx := List Fr
def cix : Ctx → Int | [] => -1 | f :: _ => f.i
def cred : Ctx → Bool | [] => false | f :: _ => f.red
def cids : Ctx → List Int | [] => [] | f :: c => f.i :: (f.o.ids ++ cids c)
def plug : Ctx → T → T | [], t => t | f :: c, t => plug c (T.mk f.d f.i f.red f.s t f.o)

/-- What a store has for a tree's nodes. -/
def Rep (f : Int → Option Nd) : Int → T → Prop
  | _, .E => True
  | p, .N i b s l r => f i = some ⟨s, l.ix, r.ix, p, b⟩ ∧ Rep f i l ∧ Rep f i r
def RepC (f : Int → Option Nd) : Ctx → Int → Prop
  | [], _ => True
  | g :: c, h => f g.i = some ⟨g.s, if g.d then g.o.ix else h, if g.d then h else g.o.ix, cix c, g.red⟩ ∧ Rep f g.i g.o ∧ RepC f c g.i

theorem rep_mk {f : Int → Option Nd} {p : Int} {d : Bool} {i : Int} {b : Bool} {s : Sg} {x y : T} :
    Rep f p (T.mk d i b s x y) ↔ f i = some ⟨s, if d then y.ix else x.ix, if d then x.ix else y.ix, p, b⟩ ∧ Rep f i x ∧ Rep f i y := by
  cases d <;> simp [T.mk, Rep, and_comm]
theorem ids_mk (d : Bool) (i : Int) (b : Bool) (s : Sg) (x y : T) : ((T.mk d i b s x y).ids).Perm (i :: (x.ids ++ y.ids)) := by
  cases d <;> simp [T.mk, T.ids]
  exact List.perm_append_comm
theorem ix_mk (d : Bool) (i : Int) (b : Bool) (s : Sg) (x y : T) : (T.mk d i b s x y).ix = i := by cases d <;> rfl
theorem red_mk (d : Bool) (i : Int) (b : Bool) (s : Sg) (x y : T) : (T.mk d i b s x y).red = b := by cases d <;> rfl

theorem rep_plug {f : Int → Option Nd} : ∀ (c : Ctx) (t : T), Rep f (-1) (plug c t) ↔ RepC f c t.ix ∧ Rep f (cix c) t
  | [], t => by simp [plug, RepC, cix]
  | g :: c, t => by
    rw [plug, rep_plug c, rep_mk, ix_mk]
    simp only [RepC, cix]
    constructor
    · rintro ⟨a, b, c, d⟩; exact ⟨⟨b, d, a⟩, c⟩
    · rintro ⟨⟨b, d, a⟩, c⟩; exact ⟨a, b, c, d⟩
theorem ids_plug : ∀ (c : Ctx) (t : T), ((plug c t).ids).Perm (cids c ++ t.ids)
  | [], t => by simp [plug, cids]
  | g :: c, t => by
    refine (ids_plug c _).trans ?_
    refine ((ids_mk ..).append_left _).trans ?_
    simp only [cids]
    refine List.perm_middle.trans ?_
    simp only [List.cons_append, List.append_assoc]
    refine List.Perm.cons _ ?_
    refine (List.Perm.append_left _ List.perm_append_comm).trans ?_
    rw [← List.append_assoc, ← List.append_assoc]
    exact List.Perm.append_right _ List.perm_append_comm

theorem mem_plug (c : Ctx) (t : T) (k : Int) : k ∈ (plug c t).ids ↔ k ∈ cids c ∨ k ∈ t.ids := by
  rw [(ids_plug c t).mem_iff]; simp
theorem nodup_plug (c : Ctx) (t : T) : (plug c t).ids.Nodup ↔ (cids c).Nodup ∧ t.ids.Nodup ∧ ∀ k, k ∈ cids c → k ∉ t.ids := by
  rw [(ids_plug c t).nodup_iff, List.nodup_append]
  constructor
  · rintro ⟨a, b, c⟩; exact ⟨a, b, fun k h1 h2 => c k h1 k h2 rfl⟩
  · rintro ⟨a, b, c⟩; exact ⟨a, b, fun k h1 j h2 e => c k h1 (e ▸ h2)⟩

theorem Rep.keep {f g : Int → Option Nd} : ∀ {t : T} {p : Int}, Rep f p t → (∀ k, k ∈ t.ids → g k = f k) → Rep g p t
  | .E, _, _, _ => trivial
  | .N i b s l r, p, h, hk => ⟨(hk i (by simp [T.ids])).trans h.1, h.2.1.keep fun k h => hk k (by simp [T.ids, h]), h.2.2.keep fun k h => hk k (by simp [T.ids, h])⟩
theorem RepC.keep {f g : Int → Option Nd} : ∀ {c : Ctx} {h : Int}, RepC f c h → (∀ k, k ∈ cids c → g k = f k) → RepC g c h
  | [], _, _, _ => trivial
  | a :: c, _, h, hk => ⟨(hk a.i (by simp [cids])).trans h.1, h.2.1.keep fun k h => hk k (by simp [cids, h]), h.2.2.keep fun k h => hk k (by simp [cids, h])⟩
/-- A tree that hangs below another node. -/
theorem Rep.par {f g : Int → Option Nd} {t : T} {p q : Int} (h : Rep f p t) (hn : t.ids.Nodup) (hr : t ≠ .E → g t.ix = (f t.ix).map (parN q)) (hk : ∀ k, k ∈ t.ids → k ≠ t.ix → g k = f k) : Rep g q t := by
  cases t with
  | E => trivial
  | N i b s l r =>
    simp only [T.ids, List.nodup_cons, List.mem_append, not_or] at hn
    have := hr (by simp)
    simp only [T.ix] at this hk
    refine ⟨by rw [this, h.1]; rfl, h.2.1.keep fun k hk' => hk k (by simp [T.ids, hk']) (by rintro rfl; exact hn.1.1 hk'), h.2.2.keep fun k hk' => hk k (by simp [T.ids, hk']) (by rintro rfl; exact hn.1.2 hk')⟩
/-- A hole that has another tree. -/
theorem RepC.hole {f g : Int → Option Nd} {c : Ctx} {h h' : Int} (H : RepC f c h) (hn : (cids c).Nodup)
    (hr : ∀ a c', c = a :: c' → ∀ n, f a.i = some n → g a.i = some (n.setKid (di a.d) h')) (hk : ∀ k, k ∈ cids c → k ≠ cix c → g k = f k) : RepC g c h' := by
  cases c with
  | nil => trivial
  | cons a c =>
    simp only [cids, List.nodup_cons, List.mem_append, not_or] at hn
    simp only [cix] at hk
    refine ⟨?_, H.2.1.keep fun k hk' => hk k (by simp [cids, hk']) (by rintro rfl; exact hn.1.1 hk'), H.2.2.keep fun k hk' => hk k (by simp [cids, hk']) (by rintro rfl; exact hn.1.2 hk')⟩
    rw [hr a c rfl _ H.1]
    cases a.d <;> rfl
theorem cix_nil : cix [] = -1 := rfl
theorem cix_cons (a : Fr) (c : Ctx) : cix (a :: c) = a.i := rfl
end Go.Proofs.Bo
set_option linter.unusedVariables false
set_option linter.unusedSimpArgs false
namespace Go.Proofs.Bo

/-- A store with a root holds just this tree. -/
structure Holds (σ : List (Option Nd)) (root : Int) (t : T) : Prop where
  root : root = t.ix
  rep : Rep (nod σ) (-1) t
  nodup : t.ids.Nodup
  just : ∀ k n, nod σ k = some n → k ∈ t.ids


theorem Rep.pos {σ : List (Option Nd)} : ∀ {t : T} {p : Int}, Rep (nod σ) p t → ∀ k, k ∈ t.ids → 0 ≤ k ∧ ∃ n, nod σ k = some n
  | .N i b s l r, p, h, k, hk => by
    simp only [T.ids, List.mem_cons, List.mem_append] at hk
    rcases hk with rfl | hk | hk
    · obtain ⟨j, e, _⟩ := nod_some h.1
      exact ⟨by omega, _, h.1⟩
    · exact h.2.1.pos k hk
    · exact h.2.2.pos k hk
theorem Holds.pos {σ : List (Option Nd)} {root : Int} {t : T} (h : Holds σ root t) {k : Int} (hk : k ∈ t.ids) : 0 ≤ k := (h.rep.pos k hk).1
theorem Holds.ex {σ : List (Option Nd)} {root : Int} {t : T} (h : Holds σ root t) {k : Int} (hk : k ∈ t.ids) : ∃ n, nod σ k = some n := (h.rep.pos k hk).2
theorem ix_mem {t : T} (h : t ≠ .E) : t.ix ∈ t.ids := by cases t with | E => exact absurd rfl h | N => simp [T.ix, T.ids]
theorem Holds.is1 {σ : List (Option Nd)} {root : Int} {t : T} (h : Holds σ root t) {u : T} (hs : ∀ k, k ∈ u.ids → k ∈ t.ids) : Is1 σ u.ix := by
  by_cases e : u = .E
  · subst e; exact .inl rfl
  · exact .inr (h.ex (hs _ (ix_mem e)))
theorem ix_neg {t : T} {k : Int} (hk : k ∉ t.ids) (h0 : 0 ≤ k) : t.ix ≠ k := by
  cases t with
  | E => simp [T.ix]; omega
  | N i b s l r => simp [T.ix]; rintro rfl; exact hk (by simp [T.ids])
theorem cix_mem {c : Ctx} : cix c = -1 ∧ c = [] ∨ cix c ∈ cids c := by cases c <;> simp [cix, cids]
theorem Holds.is1c {σ : List (Option Nd)} {root : Int} {t : T} (h : Holds σ root t) {c : Ctx} (hs : ∀ k, k ∈ cids c → k ∈ t.ids) : Is1 σ (cix c) := by
  rcases cix_mem (c := c) with ⟨e, _⟩ | e
  · exact .inl e
  · exact .inr (h.ex (hs _ e))

theorem root_plug (c : Ctx) (t : T) : (plug c t).ix = if cix c = -1 ∧ c = [] then t.ix else (plug c t).ix := by
  cases c <;> simp [plug, cix]
/-- The root is above the hole, whatever hangs there. -/
theorem plug_ix : ∀ (c : Ctx) (hc : c ≠ []) (t u : T), (plug c t).ix = (plug c u).ix
  | [], h, _, _ => absurd rfl h
  | [a], _, t, u => by simp [plug, ix_mk]
  | a :: b :: c, _, t, u => by
    rw [plug, plug]; exact plug_ix (b :: c) (by simp) _ _
theorem hangR_plug {σ : List (Option Nd)} {root : Int} {c : Ctx} {t : T} (h : Holds σ root (plug c t)) (u : T) : hangR root u.ix (cix c) = (plug c u).ix := by
  unfold hangR
  rcases cix_mem (c := c) with ⟨e, rfl⟩ | e
  · simp [cix, plug]
  · have : cix c ≠ -1 := by have := h.pos ((mem_plug c t _).2 (.inl e)); omega
    rw [if_neg this, h.root]
    exact plug_ix c (by rintro rfl; simp [cids] at e) _ _

/-- A changed hole's parent's child. -/
theorem hangK_hole {c : Ctx} {a : Fr} {c' : Ctx} {σ : List (Option Nd)} {i u : Int} (hc : c = a :: c') (H : RepC (nod σ) c i) (hi : i ∉ cids c) (h0 : 0 ≤ i) (n : Nd) (hn : nod σ a.i = some n) :
    hangK i u n = n.setKid (di a.d) u := by
  subst hc
  have := H.1
  rw [hn] at this
  injection this with this
  subst this
  have hne : a.o.ix ≠ i := ix_neg (by simp [cids] at hi; exact hi.2.1) h0
  cases hd : a.d <;> simp [hangK, hne, di]

theorem rot_just {σ : List (Option Nd)} {a b c e f : Int} {k : Int} {n : Nd} (h : nod (rotS σ a b c e f) k = some n) : ∃ m, nod σ k = some m := by
  unfold rotS hangS at h
  simp only [nod_modN] at h
  cases hk : nod σ k with
  | none => simp [hk] at h
  | some m => exact ⟨m, rfl⟩
end Go.Proofs.Bo
set_option linter.unusedVariables false
set_option linter.unusedSimpArgs false
namespace Go.Proofs.Bo

theorem nod_eq_of {σ : List (Option Nd)} {k : Int} {v w : Option Nd} (h : nod σ k = v) (e : v = w) : nod σ k = w := h.trans e

theorem Holds.rot {σ : List (Option Nd)} {root : Int} {c : Ctx} {d : Bool} {i u : Int} {ri ru : Bool} {si su : Sg} {A B C : T}
    (h : Holds σ root (plug c (T.mk d i ri si A (T.mk d u ru su B C)))) :
    Holds (rotS σ i u B.ix (cix c) (di d)) (hangR root u (cix c)) (plug c (T.mk d u ru su (T.mk d i ri si A B) C)) := by
  have hR := hangR_plug h (T.mk d u ru su (T.mk d i ri si A B) C)
  rw [ix_mk] at hR
  have hp := fun k => h.pos (k := k)
  have hj := h.just
  have hrep := h.rep
  rw [rep_plug, rep_mk, rep_mk, ix_mk, ix_mk] at hrep
  obtain ⟨rc, ri', rA, ru', rB, rC⟩ := hrep
  have hn := h.nodup
  rw [nodup_plug, (ids_mk ..).nodup_iff] at hn
  obtain ⟨nc, nt, nct⟩ := hn
  have hm : ∀ k, k ∈ (T.mk d i ri si A (T.mk d u ru su B C)).ids ↔ k = i ∨ k ∈ A.ids ∨ k = u ∨ k ∈ B.ids ∨ k ∈ C.ids := by
    intro k; rw [(ids_mk ..).mem_iff, List.mem_cons, List.mem_append, (ids_mk ..).mem_iff, List.mem_cons, List.mem_append]
  have hm' : ∀ k, k ∈ (T.mk d u ru su (T.mk d i ri si A B) C).ids ↔ k = i ∨ k ∈ A.ids ∨ k = u ∨ k ∈ B.ids ∨ k ∈ C.ids := by
    intro k; rw [(ids_mk ..).mem_iff, List.mem_cons, List.mem_append, (ids_mk ..).mem_iff, List.mem_cons, List.mem_append]; grind
  rw [List.nodup_cons, List.nodup_append, (ids_mk ..).nodup_iff, List.nodup_cons, List.nodup_append] at nt
  simp only [List.mem_append, (ids_mk ..).mem_iff, List.mem_cons] at nt
  obtain ⟨ni, nA, ⟨nu, nB, nC, nBC⟩, nAB⟩ := nt
  simp only [hm] at nct
  have hi0 : 0 ≤ i := hp i ((mem_plug ..).2 (.inr ((hm i).2 (.inl rfl))))
  have hu0 : 0 ≤ u := hp u ((mem_plug ..).2 (.inr ((hm u).2 (.inr (.inr (.inl rfl))))))
  have hiu : i ≠ u := fun e => ni (.inr (.inl e))
  have hic : i ∉ cids c := fun e => nct i e (.inl rfl)
  have huc : u ∉ cids c := fun e => nct u e (.inr (.inr (.inl rfl)))
  have hpi : cix c ≠ i := by
    rcases cix_mem (c := c) with ⟨e, _⟩ | e
    · omega
    · exact fun e2 => hic (e2 ▸ e)
  have hpu : cix c ≠ u := by
    rcases cix_mem (c := c) with ⟨e, _⟩ | e
    · omega
    · exact fun e2 => huc (e2 ▸ e)
  have hBi : B.ix ≠ i := ix_neg (fun e => ni (.inr (.inr (.inl e)))) hi0
  have hBu : B.ix ≠ u := ix_neg (fun e => nu (.inl e)) hu0
  -- the store then
  have gi : nod (rotS σ i u B.ix (cix c) (di d)) i = some ⟨si, if d then B.ix else A.ix, if d then A.ix else B.ix, u, ri⟩ := by
    unfold rotS hangS
    simp only [nod_modN, if_neg hBi.symm, if_neg hiu, if_neg hpi.symm, if_true, ri']
    cases d <;> simp [di, Nd.setKid, parN]
  have gu : nod (rotS σ i u B.ix (cix c) (di d)) u = some ⟨su, if d then C.ix else i, if d then i else C.ix, cix c, ru⟩ := by
    unfold rotS hangS
    simp only [nod_modN, if_neg hBu.symm, if_neg hiu.symm, if_neg hpu.symm, if_true, ru']
    cases d <;> simp [di, Nd.setKid, parN]
  have gB : B ≠ .E → nod (rotS σ i u B.ix (cix c) (di d)) B.ix = (nod σ B.ix).map (parN i) := by
    intro hB
    have : cix c ≠ B.ix := by
      rcases cix_mem (c := c) with ⟨e, _⟩ | e
      · have := hp B.ix ((mem_plug ..).2 (.inr ((hm _).2 (.inr (.inr (.inr (.inl (ix_mem hB)))))))); omega
      · exact fun e2 => nct _ e (.inr (.inr (.inr (.inl (e2 ▸ ix_mem hB)))))
    unfold rotS hangS
    simp only [nod_modN, if_neg hBi, if_neg hBu, if_neg this.symm, if_true]
  have gk : ∀ k, k ≠ i → k ≠ u → k ≠ B.ix → k ≠ cix c → nod (rotS σ i u B.ix (cix c) (di d)) k = nod σ k := by
    intro k h1 h2 h3 h4
    unfold rotS hangS
    simp only [nod_modN, if_neg h1, if_neg h2, if_neg h3, if_neg h4]
  have gc : ∀ a c', c = a :: c' → ∀ n, nod σ a.i = some n → nod (rotS σ i u B.ix (cix c) (di d)) a.i = some (n.setKid (di a.d) u) := by
    intro a c' e n hnn
    have hai : a.i = cix c := by subst e; rfl
    have haB : a.i ≠ B.ix := by
      by_cases hB : B = .E
      · subst hB; have := hp a.i ((mem_plug ..).2 (.inl (by subst e; simp [cids]))); simp [T.ix]; omega
      · exact fun e2 => nct a.i (by subst e; simp [cids]) (.inr (.inr (.inr (.inl (e2 ▸ ix_mem hB)))))
    have hh := hangK_hole (u := u) e rc hic hi0 n hnn
    unfold rotS hangS
    rw [hai] at haB hnn ⊢
    simp only [nod_modN, if_neg hpi, if_neg hpu, if_neg haB, if_true, hnn, Option.map_some, hh]
  have nin : ∀ (X : T), (∀ k, k ∈ X.ids → 0 ≤ k ∧ k ≠ i ∧ k ≠ u ∧ k ∉ B.ids ∧ k ∉ cids c) → ∀ k, k ∈ X.ids → nod (rotS σ i u B.ix (cix c) (di d)) k = nod σ k := by
    intro X hX k hk
    obtain ⟨h0, h1, h2, h3, h4⟩ := hX k hk
    refine gk k h1 h2 (ix_neg h3 h0).symm ?_
    rcases cix_mem (c := c) with ⟨e, e2⟩ | e
    · omega
    · rintro rfl; exact h4 e
  have wA : ∀ k, k ∈ A.ids → 0 ≤ k := fun k hk => hp k ((mem_plug ..).2 (.inr ((hm k).2 (.inr (.inl hk)))))
  have wC : ∀ k, k ∈ C.ids → 0 ≤ k := fun k hk => hp k ((mem_plug ..).2 (.inr ((hm k).2 (.inr (.inr (.inr (.inr hk)))))))
  have wB : ∀ k, k ∈ B.ids → 0 ≤ k := fun k hk => hp k ((mem_plug ..).2 (.inr ((hm k).2 (.inr (.inr (.inr (.inl hk)))))))
  have wc : ∀ k, k ∈ cids c → 0 ≤ k := fun k hk => hp k ((mem_plug ..).2 (.inl hk))
  refine ⟨hR, ?_, ?_, ?_⟩
  · rw [rep_plug, rep_mk, rep_mk, ix_mk, ix_mk]
    refine ⟨rc.hole nc gc fun k hk hne => gk k ?_ ?_ ?_ hne, gu, ⟨gi, rA.keep (nin A fun k hk => ?_), rB.par nB gB fun k hk hne => gk k ?_ ?_ hne ?_⟩, rC.keep (nin C fun k hk => ?_)⟩
    · rintro rfl; exact hic hk
    · rintro rfl; exact huc hk
    · rintro rfl
      by_cases hB : B = .E
      · subst hB; have := wc _ hk; simp [T.ix] at this
      · exact nct _ hk (.inr (.inr (.inr (.inl (ix_mem hB)))))
    · exact ⟨wA k hk, by rintro rfl; exact ni (.inl hk), by rintro rfl; exact nAB _ hk _ (.inl rfl) rfl, fun e => nAB _ hk _ (.inr (.inl e)) rfl, fun e => nct k e (.inr (.inl hk))⟩
    · rintro rfl; exact ni (.inr (.inr (.inl hk)))
    · rintro rfl; exact nu (.inl hk)
    · rcases cix_mem (c := c) with ⟨e, _⟩ | e
      · have := wB k hk; omega
      · rintro rfl; exact nct _ e (.inr (.inr (.inr (.inl hk))))
    · exact ⟨wC k hk, by rintro rfl; exact ni (.inr (.inr (.inr hk))), by rintro rfl; exact nu (.inr hk), fun e => nBC _ e _ hk rfl, fun e => nct k e (.inr (.inr (.inr (.inr hk))))⟩
  · rw [nodup_plug]
    refine ⟨nc, ?_, fun k hk => by rw [hm']; exact nct k hk⟩
    rw [(ids_mk ..).nodup_iff, List.nodup_cons, List.nodup_append, (ids_mk ..).nodup_iff, List.nodup_cons, List.nodup_append]
    simp only [List.mem_append, (ids_mk ..).mem_iff, List.mem_cons]
    grind
  · intro k n hk
    obtain ⟨m, hk'⟩ := rot_just hk
    have := hj k m hk'
    rw [mem_plug, hm] at this
    rw [mem_plug, hm']
    exact this
end Go.Proofs.Bo
set_option linter.unusedVariables false
set_option linter.unusedSimpArgs false
namespace Go.Proofs.Bo

/-- A node that has another colour, or another segment. -/
theorem Holds.upd {σ : List (Option Nd)} {root : Int} {c : Ctx} {i : Int} {b b' : Bool} {s s' : Sg} {l r : T} (h : Holds σ root (plug c (.N i b s l r))) {f : Nd → Nd}
    (hf : f ⟨s, l.ix, r.ix, cix c, b⟩ = ⟨s', l.ix, r.ix, cix c, b'⟩) : Holds (modN σ i f) root (plug c (.N i b' s' l r)) := by
  have hrep := h.rep
  rw [rep_plug] at hrep
  obtain ⟨rc, ri, rl, rr⟩ := hrep
  have hn := h.nodup
  rw [nodup_plug] at hn
  obtain ⟨nc, nt, nct⟩ := hn
  simp only [T.ids, List.nodup_cons, List.mem_append, not_or] at nt
  refine ⟨?_, ?_, ?_, ?_⟩
  · rw [h.root]; cases c with
    | nil => rfl
    | cons a c => exact plug_ix _ (by simp) _ _
  · rw [rep_plug]
    refine ⟨rc.keep fun k hk => ?_, ?_, rl.keep fun k hk => ?_, rr.keep fun k hk => ?_⟩
    · rw [nod_modN, if_neg]; rintro rfl; exact nct _ hk (by simp [T.ids])
    · rw [nod_modN, if_pos rfl, ri]; simp [hf]
    · rw [nod_modN, if_neg]; rintro rfl; exact nt.1.1 hk
    · rw [nod_modN, if_neg]; rintro rfl; exact nt.1.2 hk
  · rw [nodup_plug]; exact ⟨nc, by simpa only [T.ids, List.nodup_cons, List.mem_append, not_or] using nt, nct⟩
  · intro k n hk
    rw [nod_modN] at hk
    have := h.just k
    split at hk
    · rename_i e
      cases hx : nod σ k with
      | none => rw [hx] at hk; cases hk
      | some m => have := this m hx; rw [mem_plug] at this ⊢; exact this
    · have := this n hk; rw [mem_plug] at this ⊢; exact this

theorem Holds.recol {σ : List (Option Nd)} {root : Int} {c : Ctx} {i : Int} {b : Bool} {s : Sg} {l r : T} (h : Holds σ root (plug c (.N i b s l r))) (b' : Bool) :
    Holds (modN σ i (redN b')) root (plug c (.N i b' s l r)) := h.upd rfl
theorem Holds.recol_mk {σ : List (Option Nd)} {root : Int} {c : Ctx} {d : Bool} {i : Int} {b : Bool} {s : Sg} {x y : T} (h : Holds σ root (plug c (T.mk d i b s x y))) (b' : Bool) :
    Holds (modN σ i (redN b')) root (plug c (T.mk d i b' s x y)) := by cases d <;> exact h.recol b'
def sN (s : Sg) (n : Nd) : Nd := { n with s := s }
theorem Holds.reseg {σ : List (Option Nd)} {root : Int} {c : Ctx} {i : Int} {b : Bool} {s : Sg} {l r : T} (h : Holds σ root (plug c (.N i b s l r))) (s' : Sg) :
    Holds (modN σ i (sN s')) root (plug c (.N i b s' l r)) := h.upd rfl

theorem T.red_N (i : Int) (b : Bool) (s : Sg) (l r : T) : (T.N i b s l r).red = b := rfl
theorem T.ix_N (i : Int) (b : Bool) (s : Sg) (l r : T) : (T.N i b s l r).ix = i := rfl
theorem T.ix_E : T.E.ix = -1 := rfl
theorem T.red_E : T.E.red = false := rfl
/-- A frame seen from its other child. -/
def Fr.flip (a : Fr) (t : T) : Fr := { a with d := !a.d, o := t }
theorem plug_flip (a : Fr) (c : Ctx) (t : T) : plug (a :: c) t = plug (a.flip t :: c) a.o := by
  simp only [plug, Fr.flip]; cases a.d <;> rfl
theorem plug_cons (a : Fr) (c : Ctx) (t : T) : plug (a :: c) t = plug c (T.mk a.d a.i a.red a.s t a.o) := rfl
theorem mk_plug (c : Ctx) (d : Bool) (i : Int) (b : Bool) (s : Sg) (x y : T) : plug c (T.mk d i b s x y) = plug (⟨d, i, b, s, y⟩ :: c) x := rfl
theorem mk_not (d : Bool) (i : Int) (b : Bool) (s : Sg) (x y : T) : T.mk d i b s x y = T.mk (!d) i b s y x := by cases d <;> rfl
theorem T.N_mk (i : Int) (b : Bool) (s : Sg) (l r : T) (d : Bool) : T.N i b s l r = T.mk d i b s (if d then r else l) (if d then l else r) := by cases d <;> rfl

/-- The store when a new node is hung below a place's parent. -/
def leafS (σ : List (Option Nd)) (c : Ctx) (k : Int) : List (Option Nd) := match c with
  | [] => σ
  | a :: _ => modN σ a.i (fun n => n.setKid (di a.d) k)
/-- A new leaf where a tree ends. -/
theorem Holds.leaf {σ σ' : List (Option Nd)} {root : Int} {c : Ctx} {k : Int} {s : Sg} (h : Holds σ root (plug c .E)) (hk : 0 ≤ k) (hf : nod σ k = none)
    (hσ : ∀ j, nod σ' j = if j = k then some ⟨s, -1, -1, cix c, true⟩ else nod σ j) :
    Holds (leafS σ' c k) (hangR root k (cix c)) (plug c (.N k true s .E .E)) := by
  have hR := hangR_plug h (.N k true s .E .E)
  have hrep := h.rep
  rw [rep_plug] at hrep
  obtain ⟨rc, -⟩ := hrep
  have hn := h.nodup
  rw [nodup_plug] at hn
  have hkm : k ∉ (plug c .E).ids := fun e => by obtain ⟨n, hx⟩ := h.ex e; rw [hf] at hx; cases hx
  have hkc : k ∉ cids c := fun e => hkm ((mem_plug ..).2 (.inl e))
  have g : ∀ j, j ≠ k → j ≠ cix c → nod (leafS σ' c k) j = nod σ j := by
    intro j h1 h2
    cases c with
    | nil => simp [leafS, hσ, h1]
    | cons a c => simp only [cix] at h2; simp only [leafS, nod_modN, hσ, if_neg h1, if_neg h2]
  have gk : nod (leafS σ' c k) k = some ⟨s, -1, -1, cix c, true⟩ := by
    cases c with
    | nil => simp [leafS, hσ]
    | cons a c =>
      have : k ≠ a.i := by rintro rfl; exact hkc (by simp [cids])
      simp only [leafS, nod_modN, hσ, if_neg this, if_true]
  have ga : ∀ a c', c = a :: c' → nod (leafS σ' c k) a.i = (nod σ a.i).map (fun n => n.setKid (di a.d) k) := by
    rintro a c' rfl
    have : a.i ≠ k := by rintro rfl; exact hkc (by simp [cids])
    simp only [leafS, nod_modN, hσ, if_neg this, if_true]
  have c0 : ∀ j, j ∈ cids c → j ≠ k := by rintro j hj rfl; exact hkc hj
  refine ⟨hR, ?_, ?_, ?_⟩
  · rw [rep_plug]
    refine ⟨rc.hole hn.1 ?_ fun j hj hne => g j (c0 j hj) hne, gk, trivial, trivial⟩
    intro a c' e n hx
    rw [ga a c' e, hx]; rfl
  · rw [nodup_plug]; exact ⟨hn.1, by simp [T.ids], by simp only [T.ids, List.append_nil, List.mem_cons, List.not_mem_nil, or_false]; exact c0⟩
  · intro j n hj
    rw [mem_plug]
    by_cases e : j = k
    · subst e; exact .inr (by simp [T.ids])
    · rcases cix_mem (c := c) with ⟨e2, rfl⟩ | e2
      · by_cases e3 : j = -1
        · subst e3; rw [nod_neg] at hj; cases hj
        · rw [g j e (by simpa [cix] using e3)] at hj
          have := h.just j n hj
          rw [mem_plug] at this; exact this.imp id (by simp [T.ids])
      · by_cases e3 : j = cix c
        · subst e3; exact .inl e2
        · rw [g j e e3] at hj
          have := h.just j n hj
          rw [mem_plug] at this; exact this.imp id (by simp [T.ids])

/-- A node that has a child at the most is taken away. -/
theorem Holds.cut {σ σ' : List (Option Nd)} {root : Int} {c : Ctx} {i : Int} {b : Bool} {s : Sg} {d : Bool} {X : T} (h : Holds σ root (plug c (T.mk d i b s X .E)))
    (hσ : ∀ j, nod σ' j = if j = i then none else nod (hangS σ X.ix (cix c) i) j) : Holds σ' (hangR root X.ix (cix c)) (plug c X) := by
  have hR := hangR_plug h X
  have hrep := h.rep
  rw [rep_plug, rep_mk, ix_mk] at hrep
  obtain ⟨rc, ri, rX, -⟩ := hrep
  have hn := h.nodup
  rw [nodup_plug, (ids_mk ..).nodup_iff] at hn
  obtain ⟨nc, nt, nct⟩ := hn
  simp only [(ids_mk ..).mem_iff] at nct
  simp only [T.ids, List.append_nil, List.nodup_cons, List.mem_cons] at nt nct
  have hp := fun k => h.pos (k := k)
  simp only [mem_plug, (ids_mk ..).mem_iff, T.ids, List.append_nil, List.mem_cons] at hp
  have hi0 := hp i (.inr (.inl rfl))
  have hic : i ∉ cids c := fun e => nct i e (.inl rfl)
  refine ⟨hR, ?_, ?_, ?_⟩
  · rw [rep_plug]
    refine ⟨rc.hole nc ?_ fun j hj hne => ?_, rX.par nt.2 ?_ fun j hj hne => ?_⟩
    · rintro a c' rfl n hx
      have hh := hangK_hole (u := X.ix) rfl rc hic hi0 n hx
      have h1 : a.i ≠ i := by rintro rfl; exact hic (by simp [cids])
      have h2 : a.i ≠ X.ix := by
        by_cases hX : X = .E
        · subst hX; have := hp a.i (.inl (by simp [cids])); simp [T.ix]; omega
        · intro e; exact nct a.i (by simp [cids]) (.inr (e ▸ ix_mem hX))
      rw [hσ, if_neg h1]
      unfold hangS
      simp only [nod_modN, if_neg h2, cix, if_true, hx, Option.map_some, hh]
    · have h1 : j ≠ i := by rintro rfl; exact hic hj
      have h2 : j ≠ X.ix := by
        by_cases hX : X = .E
        · subst hX; have := hp j (.inl hj); simp [T.ix]; omega
        · intro e; exact nct j hj (.inr (e ▸ ix_mem hX))
      rw [hσ, if_neg h1]
      unfold hangS
      simp only [nod_modN, if_neg h2, if_neg hne]
    · intro hX
      have h1 : X.ix ≠ i := ix_neg nt.1 hi0
      have h2 : X.ix ≠ cix c := by
        rcases cix_mem (c := c) with ⟨e, _⟩ | e
        · have := hp X.ix (.inr (.inr (ix_mem hX))); omega
        · intro e2; exact nct _ e (.inr (e2 ▸ ix_mem hX))
      rw [hσ, if_neg h1]
      unfold hangS
      simp only [nod_modN, if_neg h2, if_true]
    · have h1 : j ≠ i := by rintro rfl; exact nt.1 hj
      have h2 : j ≠ cix c := by
        rcases cix_mem (c := c) with ⟨e, _⟩ | e
        · have := hp j (.inr (.inr hj)); omega
        · rintro rfl; exact nct _ e (.inr hj)
      rw [hσ, if_neg h1]
      unfold hangS
      simp only [nod_modN, if_neg hne, if_neg h2]
  · rw [nodup_plug]; exact ⟨nc, nt.2, fun k hk e => nct k hk (.inr e)⟩
  · intro j n hj
    rw [hσ] at hj
    split at hj
    · cases hj
    · rename_i hne
      have : ∃ m, nod σ j = some m := by
        unfold hangS at hj
        simp only [nod_modN] at hj
        cases hx : nod σ j with
        | none => simp [hx] at hj
        | some m => exact ⟨m, rfl⟩
      obtain ⟨m, hm⟩ := this
      have := h.just j m hm
      simp only [mem_plug, (ids_mk ..).mem_iff, T.ids, List.append_nil, List.mem_cons] at this ⊢
      rcases this with h | h | h
      · exact .inl h
      · exact absurd h hne
      · exact .inr h

theorem toL_mk (d : Bool) (i : Int) (b : Bool) (s : Sg) (x y : T) : (T.mk d i b s x y).toL = if d then y.toL ++ s :: x.toL else x.toL ++ s :: y.toL := by cases d <;> rfl
/-- What is told of a hole's tree alone: the segments ahead, and behind. -/
def cpre : Ctx → List Sg | [] => [] | a :: c => cpre c ++ if a.d then a.o.toL ++ [a.s] else []
def cpost : Ctx → List Sg | [] => [] | a :: c => (if a.d then [] else a.s :: a.o.toL) ++ cpost c
theorem toL_plug : ∀ (c : Ctx) (t : T), (plug c t).toL = cpre c ++ t.toL ++ cpost c
  | [], t => by simp [plug, cpre, cpost]
  | a :: c, t => by
    rw [plug, toL_plug c, toL_mk, cpre, cpost]
    cases a.d <;> simp
theorem toL_congr (c : Ctx) {t u : T} (h : t.toL = u.toL) : (plug c t).toL = (plug c u).toL := by rw [toL_plug, toL_plug, h]
theorem toL_rot (d : Bool) (i u : Int) (ri ru ri' ru' : Bool) (si su : Sg) (A B C : T) :
    (T.mk d u ru' su (T.mk d i ri' si A B) C).toL = (T.mk d i ri si A (T.mk d u ru su B C)).toL := by
  simp only [toL_mk]; cases d <;> simp

/-- A red-black tree of black height n (its root may be red). -/
def RBT : T → Nat → Prop
  | .E, n => n = 0
  | .N _ b _ l r, n => if b then l.red = false ∧ r.red = false ∧ RBT l n ∧ RBT r n else ∃ m, n = m + 1 ∧ RBT l m ∧ RBT r m
/-- A place for a tree of black height n. -/
def RBC : Ctx → Nat → Prop
  | [], _ => True
  | a :: c, n => RBT a.o n ∧ if a.red then a.o.red = false ∧ c ≠ [] ∧ cred c = false ∧ RBC c n else RBC c (n + 1)
theorem rbt_mk (d : Bool) (i : Int) (b : Bool) (s : Sg) (x y : T) (n : Nat) : RBT (T.mk d i b s x y) n ↔ if b then x.red = false ∧ y.red = false ∧ RBT x n ∧ RBT y n else ∃ m, n = m + 1 ∧ RBT x m ∧ RBT y m := by
  cases d <;> cases b <;> simp only [T.mk, RBT, Bool.false_eq_true, if_false, if_true] <;> constructor <;> grind
/-- A whole tree as it must be. -/
def Fine (t : T) : Prop := t.red = false ∧ ∃ n, RBT t n

theorem red_plug_cons : ∀ (a : Fr) (c : Ctx) (t u : T), (plug (a :: c) t).red = (plug (a :: c) u).red
  | a, [], t, u => by simp [plug, red_mk]
  | a, b :: c, t, u => by rw [plug, plug_cons a]; exact red_plug_cons b c _ _
/-- A tree that fits into a place. -/
theorem fine_plug : ∀ (c : Ctx) (t : T) (n : Nat), RBC c n → RBT t n → (cred c = true ∨ c = [] → t.red = false) → Fine (plug c t)
  | [], t, n, _, h, hr => ⟨hr (.inr rfl), n, h⟩
  | a :: c, t, n, hc, h, hr => by
    obtain ⟨h1, h2⟩ := hc
    rw [plug]
    simp only [cred] at hr
    cases ha : a.red with
    | true =>
      rw [ha] at h2 hr
      simp only [if_true] at h2
      exact fine_plug c _ n h2.2.2.2 ((rbt_mk ..).2 (by simp only [if_true]; exact ⟨hr (.inl rfl), h2.1, h, h1⟩)) (by rintro (e | e); rw [h2.2.2.1] at e; cases e; exact absurd e h2.2.1)
    | false =>
      rw [ha] at h2
      simp only [Bool.false_eq_true, if_false] at h2
      exact fine_plug c _ (n + 1) h2 ((rbt_mk ..).2 (by simp only [Bool.false_eq_true, if_false]; exact ⟨n, rfl, h, h1⟩)) (fun _ => red_mk ..)
theorem fine_split : ∀ (c : Ctx) (t : T), Fine (plug c t) → ∃ n, RBC c n ∧ RBT t n ∧ (cred c = true ∨ c = [] → t.red = false)
  | [], t, ⟨h, n, hn⟩ => ⟨n, trivial, hn, fun _ => h⟩
  | a :: c, t, h => by
    rw [plug] at h
    obtain ⟨n, h1, h2, h3⟩ := fine_split c _ h
    rw [rbt_mk] at h2
    rw [red_mk] at h3
    cases ha : a.red with
    | true =>
      rw [ha] at h2 h3
      simp only [if_true] at h2
      refine ⟨n, ⟨h2.2.2.2, ?_⟩, h2.2.2.1, fun _ => h2.1⟩
      rw [ha]; simp only [if_true]
      refine ⟨h2.2.1, ?_, ?_, h1⟩
      · intro e; have := h3 (.inr e); cases this
      · cases hc : cred c with
        | false => rfl
        | true => have := h3 (.inl hc); cases this
    | false =>
      rw [ha] at h2
      simp only [Bool.false_eq_true, if_false] at h2
      obtain ⟨m, rfl, h4, h5⟩ := h2
      refine ⟨m, ⟨h5, ?_⟩, h4, ?_⟩
      · rw [ha]; simpa using h1
      · simp [cred, ha]
end Go.Proofs.Bo
set_option linter.unusedVariables false
set_option linter.unusedSimpArgs false
namespace Go.Proofs.Bo

def T.size : T → Nat | .E => 0 | .N _ _ _ l r => l.size + r.size + 1
theorem size_toL : ∀ t : T, t.toL.length = t.size
  | .E => rfl
  | .N _ _ _ l r => by simp [T.toL, T.size, size_toL l, size_toL r]; omega
theorem size_ids : ∀ t : T, t.ids.length = t.size
  | .E => rfl
  | .N _ _ _ l r => by simp [T.ids, T.size, size_ids l, size_ids r]
theorem size_mk (d : Bool) (i : Int) (b : Bool) (s : Sg) (x y : T) : (T.mk d i b s x y).size = x.size + y.size + 1 := by cases d <;> simp [T.mk, T.size]; omega
theorem size_plug_le : ∀ (c : Ctx) (t : T), c.length + t.size ≤ (plug c t).size
  | [], t => by simp [plug]
  | a :: c, t => by
    have := size_plug_le c (T.mk a.d a.i a.red a.s t a.o)
    rw [size_mk] at this
    rw [plug]; simp only [List.length_cons]; omega

def cside : Ctx → Int | [] => 0 | a :: _ => di a.d

theorem toL_focus (c : Ctx) (i : Int) (b : Bool) (s : Sg) (l r : T) : (plug c (.N i b s l r)).toL = (cpre c ++ l.toL) ++ s :: (r.toL ++ cpost c) := by
  rw [toL_plug]; simp [T.toL]
theorem toL_sub {c : Ctx} {t : T} {s : Sg} (h : s ∈ t.toL) : s ∈ (plug c t).toL := by rw [toL_plug]; simp [h]
theorem cpre_sub {c : Ctx} {t : T} {s : Sg} (h : s ∈ cpre c) : s ∈ (plug c t).toL := by rw [toL_plug]; simp [h]
theorem cpost_sub {c : Ctx} {t : T} {s : Sg} (h : s ∈ cpost c) : s ∈ (plug c t).toL := by rw [toL_plug]; simp [h]
theorem Row.focus {c : Ctx} {i : Int} {b : Bool} {s : Sg} {l r : T} (h : Row (plug c (.N i b s l r)).toL) : (∀ x ∈ cpre c ++ l.toL, ky x < ky s) ∧ ∀ x ∈ r.toL ++ cpost c, ky s < ky x := by
  have := h.1; rw [toL_focus] at this; exact this.app
end Go.Proofs.Bo
set_option linter.unusedVariables false
set_option linter.unusedSimpArgs false
namespace Go.Proofs.Bo
/-! How deep a node lies; black nodes above. -/
def T.height : T → Nat | .E => 0 | .N _ _ _ l r => max l.height r.height + 1
def dep : T → Int → Nat
  | .E, _ => 0
  | .N i _ _ l r, k => if k = i then 1 else if k ∈ l.ids then dep l k + 1 else dep r k + 1
theorem dep_mk (d : Bool) (i : Int) (b : Bool) (s : Sg) (x y : T) (k : Int) (hk : k ∈ x.ids) (hn : (T.mk d i b s x y).ids.Nodup) : dep (T.mk d i b s x y) k = dep x k + 1 := by
  have hp := ids_mk d i b s x y
  rw [hp.nodup_iff] at hn
  simp only [List.nodup_cons, List.mem_append, not_or, List.nodup_append] at hn
  obtain ⟨⟨h1, h2⟩, h3, h4, h5⟩ := hn
  have hki : k ≠ i := by rintro rfl; exact h1 hk
  have hky : k ∉ y.ids := fun e => h5 k hk k e rfl
  cases d <;> simp [T.mk, dep, hki, hk, hky]
theorem dep_plug : ∀ (c : Ctx) (t : T) (k : Int), k ∈ t.ids → (plug c t).ids.Nodup → dep (plug c t) k = c.length + dep t k
  | [], t, k, _, _ => by simp [plug]
  | a :: c, t, k, hk, hn => by
    rw [plug] at hn ⊢
    rw [dep_plug c _ k ((ids_mk ..).mem_iff.2 (by simp [hk])) hn]
    rw [nodup_plug] at hn
    rw [dep_mk _ _ _ _ _ _ _ hk hn.2.1]
    simp only [List.length_cons]; omega
theorem dep_at {c : Ctx} {i : Int} {b : Bool} {s : Sg} {l r : T} (hn : (plug c (.N i b s l r)).ids.Nodup) : dep (plug c (.N i b s l r)) i = c.length + 1 := by
  rw [dep_plug c _ i (by simp [T.ids]) hn]; simp [dep]
theorem dep_le : ∀ (t : T) (k : Int), dep t k ≤ t.height
  | .E, _ => Nat.le_refl _
  | .N i b s l r, k => by
    have h1 := dep_le l k
    have h2 := dep_le r k
    simp only [dep, T.height]
    split
    · omega
    · split <;> omega
theorem dep_max : ∀ (t : T), t.ids.Nodup → t ≠ .E → ∃ k, k ∈ t.ids ∧ dep t k = t.height
  | .E, _, h => absurd rfl h
  | .N i b s l r, hn, _ => by
    simp only [T.ids, List.nodup_cons, List.mem_append, not_or, List.nodup_append] at hn
    obtain ⟨⟨h1, h2⟩, h3, h4, h5⟩ := hn
    by_cases hl : l = .E
    · by_cases hr : r = .E
      · subst hl; subst hr; exact ⟨i, by simp [T.ids], by simp [dep, T.height]⟩
      · obtain ⟨k, hk, e⟩ := dep_max r h4 hr
        subst hl
        refine ⟨k, by simp [T.ids, hk], ?_⟩
        have : k ≠ i := by rintro rfl; exact h2 hk
        simp [dep, this, T.ids, T.height, e]
    · obtain ⟨k1, hk1, e1⟩ := dep_max l h3 hl
      by_cases hr : r.height ≤ l.height
      · refine ⟨k1, by simp [T.ids, hk1], ?_⟩
        have : k1 ≠ i := by rintro rfl; exact h1 hk1
        simp only [dep, this, if_false, hk1, if_true, T.height, e1]; omega
      · have hrE : r ≠ .E := by rintro rfl; simp [T.height] at hr
        obtain ⟨k, hk, e⟩ := dep_max r h4 hrE
        refine ⟨k, by simp [T.ids, hk], ?_⟩
        have h6 : k ≠ i := by rintro rfl; exact h2 hk
        have h7 : k ∉ l.ids := fun e => h5 k e k hk rfl
        simp only [dep, h6, if_false, h7, T.height, e]; omega
/-- The greatest depth of some. -/
def maxD (t : T) (ks : List Int) : Nat := ks.foldl (fun m k => max m (dep t k)) 0
theorem maxD_snoc (t : T) (ks : List Int) (k : Int) : maxD t (ks ++ [k]) = max (maxD t ks) (dep t k) := by simp [maxD]
theorem maxD_le (t : T) : ∀ (ks : List Int) (m : Nat), m ≤ t.height → ks.foldl (fun m k => max m (dep t k)) m ≤ t.height
  | [], m, h => h
  | k :: ks, m, h => maxD_le t ks _ (by have := dep_le t k; show max m (dep t k) ≤ t.height; omega)
theorem maxD_ge (t : T) : ∀ (ks : List Int) (m : Nat), m ≤ ks.foldl (fun m k => max m (dep t k)) m ∧ ∀ k ∈ ks, dep t k ≤ ks.foldl (fun m k => max m (dep t k)) m
  | [], m => ⟨Nat.le_refl _, by simp⟩
  | k :: ks, m => by
    obtain ⟨h1, h2⟩ := maxD_ge t ks (max m (dep t k))
    refine ⟨by simp only [List.foldl_cons]; omega, ?_⟩
    intro j hj
    rcases List.mem_cons.1 hj with rfl | hj
    · simp only [List.foldl_cons]; omega
    · exact h2 j hj
theorem maxD_all (t : T) (hn : t.ids.Nodup) (ks : List Int) (hk : ∀ k ∈ t.ids, k ∈ ks) : maxD t ks = t.height := by
  refine Nat.le_antisymm (maxD_le t ks 0 (Nat.zero_le _)) ?_
  by_cases ht : t = .E
  · subst ht; exact Nat.zero_le _
  · obtain ⟨k, h1, h2⟩ := dep_max t hn ht
    rw [← h2]
    exact (maxD_ge t ks 0).2 k (hk k h1)
theorem mem_path : ∀ (t : T) (k : Int), k ∈ t.ids → ∃ c b s l r, t = plug c (.N k b s l r)
  | .E, k, h => by simp [T.ids] at h
  | .N i b s l r, k, h => by
    simp only [T.ids, List.mem_cons, List.mem_append] at h
    rcases h with rfl | h | h
    · exact ⟨[], b, s, l, r, rfl⟩
    · obtain ⟨c, b', s', l', r', rfl⟩ := mem_path l k h
      refine ⟨c ++ [⟨false, i, b, s, r⟩], b', s', l', r', ?_⟩
      have : ∀ (F : Ctx) (c : Ctx) (x : T), plug (F ++ c) x = plug c (plug F x) := by
        intro F; induction F with
        | nil => intro c x; rfl
        | cons a F ih => intro c x; simp only [List.cons_append, plug]; exact ih c _
      rw [this]; rfl
    · obtain ⟨c, b', s', l', r', rfl⟩ := mem_path r k h
      refine ⟨c ++ [⟨true, i, b, s, l⟩], b', s', l', r', ?_⟩
      have : ∀ (F : Ctx) (c : Ctx) (x : T), plug (F ++ c) x = plug c (plug F x) := by
        intro F; induction F with
        | nil => intro c x; rfl
        | cons a F ih => intro c x; simp only [List.cons_append, plug]; exact ih c _
      rw [this]; rfl
/-- Black nodes on the way to a place. -/
def cblk : Ctx → Nat | [] => 0 | a :: c => (if a.red then 0 else 1) + cblk c
def nblk (b : Bool) : Nat := if b then 0 else 1
theorem rbt_split : ∀ (c : Ctx) (t : T) (n : Nat), RBT (plug c t) n → ∃ m, RBT t m ∧ m + cblk c = n
  | [], t, n, h => ⟨n, h, rfl⟩
  | a :: c, t, n, h => by
    obtain ⟨m, h1, h2⟩ := rbt_split c _ n h
    rw [rbt_mk] at h1
    simp only [cblk]
    cases ha : a.red
    · rw [ha] at h1
      simp only [Bool.false_eq_true, if_false] at h1 ⊢
      obtain ⟨k, rfl, h3, _⟩ := h1
      exact ⟨k, h3, by omega⟩
    · rw [ha] at h1
      simp only [if_true] at h1 ⊢
      exact ⟨m, h1.2.2.1, by omega⟩
/-- A node that lacks a child: as many black ones as with any other such one. -/
theorem rbt_leaf {c : Ctx} {i : Int} {b : Bool} {s : Sg} {l r : T} {n : Nat} (h : RBT (plug c (.N i b s l r)) n) (hl : l = .E ∨ r = .E) : cblk c + nblk b = n := by
  obtain ⟨m, h1, h2⟩ := rbt_split c _ n h
  cases b
  · simp only [RBT, Bool.false_eq_true, if_false] at h1
    obtain ⟨k, rfl, h3, h4⟩ := h1
    have : k = 0 := by rcases hl with rfl | rfl <;> assumption
    simp only [nblk, Bool.false_eq_true, if_false]; omega
  · simp only [RBT, if_true] at h1
    have : m = 0 := by rcases hl with rfl | rfl; exact h1.2.2.1; exact h1.2.2.2
    simp only [nblk, if_true]; omega
/-- A red-black tree is not too high. -/
theorem rbt_height : ∀ (t : T) (n : Nat), RBT t n → t.height ≤ 2 * n + (if t.red then 1 else 0) ∧ 2 ^ n ≤ t.size + 1
  | .E, n, h => by simp only [RBT] at h; subst h; simp [T.height, T.size]
  | .N i b s l r, n, h => by
    cases b
    · simp only [RBT, Bool.false_eq_true, if_false] at h
      obtain ⟨m, rfl, h1, h2⟩ := h
      obtain ⟨a1, a2⟩ := rbt_height l m h1
      obtain ⟨b1, b2⟩ := rbt_height r m h2
      simp only [T.height, T.size, T.red, Bool.false_eq_true, if_false]
      have : (if l.red then 1 else 0) ≤ 1 := by split <;> omega
      have : (if r.red then 1 else 0) ≤ 1 := by split <;> omega
      refine ⟨by omega, by rw [Nat.pow_succ]; omega⟩
    · simp only [RBT, if_true] at h
      obtain ⟨h1, h2, h3, h4⟩ := h
      obtain ⟨a1, a2⟩ := rbt_height l n h3
      obtain ⟨b1, b2⟩ := rbt_height r n h4
      rw [h1] at a1
      rw [h2] at b1
      simp only [T.height, T.size, T.red, if_true, Bool.false_eq_true, if_false] at *
      omega
theorem fine_kids {c : Ctx} {i : Int} {b : Bool} {s : Sg} {l r : T} (h : Fine (plug c (.N i b s l r))) (hb : b = true) : l.red = false ∧ r.red = false := by
  obtain ⟨n, _, h2, _⟩ := fine_split c _ h
  subst hb
  simp only [RBT, if_true] at h2
  exact ⟨h2.1, h2.2.1⟩
end Go.Proofs.Bo
set_option linter.unusedVariables false
set_option linter.unusedSimpArgs false
namespace Go.Proofs.Bo

/-! How many nodes; rows with a segment put, taken. -/
theorem nod_isSome {σ : List (Option Nd)} {k : Int} : (∃ n, nod σ k = some n) ↔ ∃ i : Nat, k = i ∧ i < σ.length ∧ σ[i]? ≠ some none := by
  constructor
  · rintro ⟨n, h⟩
    obtain ⟨i, e, hi⟩ := nod_some h
    refine ⟨i, e, (List.getElem?_eq_some_iff.1 hi).1, ?_⟩
    rw [hi]; simp
  · rintro ⟨i, rfl, hl, hn⟩
    cases hp : σ[i]? with
    | none => rw [List.getElem?_eq_none_iff] at hp; omega
    | some p =>
      cases p with
      | none => exact absurd hp hn
      | some n => exact ⟨n, nod_of hp⟩

theorem Holds.count {σ : List (Option Nd)} {root room : Int} {free : List Int} {t : T} (h : Holds σ root t) (ha : ArInv room σ free) : (t.size : Int) = (σ.length : Int) - free.length := by
  have hp : (t.ids ++ free).Perm ((List.range σ.length).map (fun i : Nat => (i : Int))) := by
    rw [List.perm_ext_iff_of_nodup]
    · intro k
      rw [List.mem_append, List.mem_map, ha.mem]
      constructor
      · rintro (hk | ⟨i, rfl, hi⟩)
        · obtain ⟨i, rfl, hl, _⟩ := nod_isSome.1 (h.ex hk)
          exact ⟨i, List.mem_range.2 hl, rfl⟩
        · exact ⟨i, List.mem_range.2 (List.getElem?_eq_some_iff.1 hi).1, rfl⟩
      · rintro ⟨i, hi, rfl⟩
        rw [List.mem_range] at hi
        by_cases hn : σ[i]? = some none
        · exact .inr ⟨i, rfl, hn⟩
        · obtain ⟨n, hx⟩ := nod_isSome.2 ⟨i, rfl, hi, hn⟩
          exact .inl (h.just _ n hx)
    · rw [List.nodup_append]
      refine ⟨h.nodup, ha.nodup, ?_⟩
      rintro a h1 b h2 rfl
      obtain ⟨i, e, hl, hn⟩ := nod_isSome.1 (h.ex h1)
      obtain ⟨j, e2, hj⟩ := (ha.mem _).1 h2
      obtain rfl : i = j := by omega
      exact hn hj
    · rw [List.nodup_iff_pairwise_ne, List.pairwise_map]
      exact List.Pairwise.imp (fun h e => h (by omega)) List.nodup_range
  have := hp.length_eq
  rw [List.length_append, List.length_map, List.length_range, size_ids] at this
  omega

theorem nod_app {σ : List (Option Nd)} (n : Nd) (j : Int) : nod (σ ++ [some n]) j = if j = (σ.length : Int) then some n else nod σ j := by
  unfold nod
  by_cases h0 : 0 ≤ j
  · obtain ⟨k, rfl⟩ := Int.eq_ofNat_of_zero_le h0
    simp only [h0, if_true, Int.toNat_natCast]
    by_cases e : k = σ.length
    · subst e; simp
    · rw [if_neg (by omega)]
      by_cases hl : k < σ.length
      · rw [List.getElem?_append_left hl]
      · rw [List.getElem?_eq_none (by simp; omega), List.getElem?_eq_none (by omega)]
  · rw [if_neg h0, if_neg (by omega), if_neg h0]
theorem nod_set {σ : List (Option Nd)} {k : Nat} (hk : k < σ.length) (p : Option Nd) (j : Int) : nod (σ.set k p) j = if j = (k : Int) then p else nod σ j := by
  unfold nod
  by_cases h0 : 0 ≤ j
  · obtain ⟨i, rfl⟩ := Int.eq_ofNat_of_zero_le h0
    simp only [h0, if_true, Int.toNat_natCast]
    by_cases e : i = k
    · subst e; rw [List.getElem?_set_self hk]; simp
    · rw [if_neg (by omega), List.getElem?_set_ne (Ne.symm e)]
  · rw [if_neg h0, if_neg (by omega), if_neg h0]

theorem modN_modN (σ : List (Option Nd)) (k : Int) (f g : Nd → Nd) : modN (modN σ k f) k g = modN σ k (fun n => g (f n)) := by
  cases h : nod σ k with
  | none => unfold modN; simp [h]
  | some n =>
    have h2 : nod (pnod σ k (f n)) k = some (f n) := by rw [nod_pnod h, if_pos rfl]
    rw [modN_some h, modN_some h, modN_some h2]
    unfold pnod; rw [List.set_set]
end Go.Proofs.Bo
