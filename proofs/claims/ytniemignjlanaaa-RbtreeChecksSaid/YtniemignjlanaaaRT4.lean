import Derived.Test.YtniemignjlanaaaRT3
set_option linter.unusedVariables false
namespace Go.Proofs.Bo

/-- A node that has another colour, or another segment. -/
theorem Holds.upd {σ : List (Option Nd)} {root : Int} {c : Ctx} {i : Int} {b b' : Bool} {s s' : Sg} {l r : T} (h : Holds σ root (plug c (.N i b s l r))) {f : Nd → Nd}
    (hf : f ⟨s, l.ix, r.ix, cix c, b⟩ = ⟨s', l.ix, r.ix, cix c, b'⟩) : Holds (modN σ i f) root (plug c (.N i b' s' l r)) := by
  have hrep := h.rep
  rw [rep_plug] at hrep
  obtain ⟨rc, ri, rl, rr⟩ := hrep
  have hn := h.nodup
  rw [nodup_plug] at hn
  obtain ⟨nc, nt, nct⟩ := hn
  simp only [T.ids, List.nodup_cons, List.mem_append, not_or] at nt
  refine ⟨?_, ?_, ?_, ?_⟩
  · rw [h.root]; cases c with
    | nil => rfl
    | cons a c => exact plug_ix _ (by simp) _ _
  · rw [rep_plug]
    refine ⟨rc.keep fun k hk => ?_, ?_, rl.keep fun k hk => ?_, rr.keep fun k hk => ?_⟩
    · rw [nod_modN, if_neg]; rintro rfl; exact nct _ hk (by simp [T.ids])
    · rw [nod_modN, if_pos rfl, ri]; simp [hf]
    · rw [nod_modN, if_neg]; rintro rfl; exact nt.1.1 hk
    · rw [nod_modN, if_neg]; rintro rfl; exact nt.1.2 hk
  · rw [nodup_plug]; exact ⟨nc, by simpa only [T.ids, List.nodup_cons, List.mem_append, not_or] using nt, nct⟩
  · intro k n hk
    rw [nod_modN] at hk
    have := h.just k
    split at hk
    · rename_i e
      cases hx : nod σ k with
      | none => rw [hx] at hk; cases hk
      | some m => have := this m hx; rw [mem_plug] at this ⊢; exact this
    · have := this n hk; rw [mem_plug] at this ⊢; exact this

theorem Holds.recol {σ : List (Option Nd)} {root : Int} {c : Ctx} {i : Int} {b : Bool} {s : Sg} {l r : T} (h : Holds σ root (plug c (.N i b s l r))) (b' : Bool) :
    Holds (modN σ i (redN b')) root (plug c (.N i b' s l r)) := h.upd rfl
theorem Holds.recol_mk {σ : List (Option Nd)} {root : Int} {c : Ctx} {d : Bool} {i : Int} {b : Bool} {s : Sg} {x y : T} (h : Holds σ root (plug c (T.mk d i b s x y))) (b' : Bool) :
    Holds (modN σ i (redN b')) root (plug c (T.mk d i b' s x y)) := by cases d <;> exact h.recol b'
def sN (s : Sg) (n : Nd) : Nd := { n with s := s }
theorem Holds.reseg {σ : List (Option Nd)} {root : Int} {c : Ctx} {i : Int} {b : Bool} {s : Sg} {l r : T} (h : Holds σ root (plug c (.N i b s l r))) (s' : Sg) :
    Holds (modN σ i (sN s')) root (plug c (.N i b s' l r)) := h.upd rfl

theorem T.red_N (i : Int) (b : Bool) (s : Sg) (l r : T) : (T.N i b s l r).red = b := rfl
theorem T.ix_N (i : Int) (b : Bool) (s : Sg) (l r : T) : (T.N i b s l r).ix = i := rfl
theorem T.ix_E : T.E.ix = -1 := rfl
theorem T.red_E : T.E.red = false := rfl
/-- A frame seen from its other child. -/
def Fr.flip (a : Fr) (t : T) : Fr := { a with d := !a.d, o := t }
theorem plug_flip (a : Fr) (c : Ctx) (t : T) : plug (a :: c) t = plug (a.flip t :: c) a.o := by
  simp only [plug, Fr.flip]; cases a.d <;> rfl
theorem plug_cons (a : Fr) (c : Ctx) (t : T) : plug (a :: c) t = plug c (T.mk a.d a.i a.red a.s t a.o) := rfl
theorem mk_plug (c : Ctx) (d : Bool) (i : Int) (b : Bool) (s : Sg) (x y : T) : plug c (T.mk d i b s x y) = plug (⟨d, i, b, s, y⟩ :: c) x := rfl
theorem mk_not (d : Bool) (i : Int) (b : Bool) (s : Sg) (x y : T) : T.mk d i b s x y = T.mk (!d) i b s y x := by cases d <;> rfl
theorem T.N_mk (i : Int) (b : Bool) (s : Sg) (l r : T) (d : Bool) : T.N i b s l r = T.mk d i b s (if d then r else l) (if d then l else r) := by cases d <;> rfl

/-- The store when a new node is hung below a place's parent. -/
def leafS (σ : List (Option Nd)) (c : Ctx) (k : Int) : List (Option Nd) := match c with
  | [] => σ
  | a :: _ => modN σ a.i (fun n => n.setKid (di a.d) k)
/-- A new leaf where a tree ends. -/
theorem Holds.leaf {σ σ' : List (Option Nd)} {root : Int} {c : Ctx} {k : Int} {s : Sg} (h : Holds σ root (plug c .E)) (hk : 0 ≤ k) (hf : nod σ k = none)
    (hσ : ∀ j, nod σ' j = if j = k then some ⟨s, -1, -1, cix c, true⟩ else nod σ j) :
    Holds (leafS σ' c k) (hangR root k (cix c)) (plug c (.N k true s .E .E)) := by
  have hR := hangR_plug h (.N k true s .E .E)
  have hrep := h.rep
  rw [rep_plug] at hrep
  obtain ⟨rc, -⟩ := hrep
  have hn := h.nodup
  rw [nodup_plug] at hn
  have hkm : k ∉ (plug c .E).ids := fun e => by obtain ⟨n, hx⟩ := h.ex e; rw [hf] at hx; cases hx
  have hkc : k ∉ cids c := fun e => hkm ((mem_plug ..).2 (.inl e))
  have g : ∀ j, j ≠ k → j ≠ cix c → nod (leafS σ' c k) j = nod σ j := by
    intro j h1 h2
    cases c with
    | nil => simp [leafS, hσ, h1]
    | cons a c => simp only [cix] at h2; simp only [leafS, nod_modN, hσ, if_neg h1, if_neg h2]
  have gk : nod (leafS σ' c k) k = some ⟨s, -1, -1, cix c, true⟩ := by
    cases c with
    | nil => simp [leafS, hσ]
    | cons a c =>
      have : k ≠ a.i := by rintro rfl; exact hkc (by simp [cids])
      simp only [leafS, nod_modN, hσ, if_neg this, if_true]
  have ga : ∀ a c', c = a :: c' → nod (leafS σ' c k) a.i = (nod σ a.i).map (fun n => n.setKid (di a.d) k) := by
    rintro a c' rfl
    have : a.i ≠ k := by rintro rfl; exact hkc (by simp [cids])
    simp only [leafS, nod_modN, hσ, if_neg this, if_true]
  have c0 : ∀ j, j ∈ cids c → j ≠ k := by rintro j hj rfl; exact hkc hj
  refine ⟨hR, ?_, ?_, ?_⟩
  · rw [rep_plug]
    refine ⟨rc.hole hn.1 ?_ fun j hj hne => g j (c0 j hj) hne, gk, trivial, trivial⟩
    intro a c' e n hx
    rw [ga a c' e, hx]; rfl
  · rw [nodup_plug]; exact ⟨hn.1, by simp [T.ids], by simp only [T.ids, List.append_nil, List.mem_cons, List.not_mem_nil, or_false]; exact c0⟩
  · intro j n hj
    rw [mem_plug]
    by_cases e : j = k
    · subst e; exact .inr (by simp [T.ids])
    · rcases cix_mem (c := c) with ⟨e2, rfl⟩ | e2
      · by_cases e3 : j = -1
        · subst e3; rw [nod_neg] at hj; cases hj
        · rw [g j e (by simpa [cix] using e3)] at hj
          have := h.just j n hj
          rw [mem_plug] at this; exact this.imp id (by simp [T.ids])
      · by_cases e3 : j = cix c
        · subst e3; exact .inl e2
        · rw [g j e e3] at hj
          have := h.just j n hj
          rw [mem_plug] at this; exact this.imp id (by simp [T.ids])

/-- A node that has a child at the most is taken away. -/
theorem Holds.cut {σ σ' : List (Option Nd)} {root : Int} {c : Ctx} {i : Int} {b : Bool} {s : Sg} {d : Bool} {X : T} (h : Holds σ root (plug c (T.mk d i b s X .E)))
    (hσ : ∀ j, nod σ' j = if j = i then none else nod (hangS σ X.ix (cix c) i) j) : Holds σ' (hangR root X.ix (cix c)) (plug c X) := by
  have hR := hangR_plug h X
  have hrep := h.rep
  rw [rep_plug, rep_mk, ix_mk] at hrep
  obtain ⟨rc, ri, rX, -⟩ := hrep
  have hn := h.nodup
  rw [nodup_plug, (ids_mk ..).nodup_iff] at hn
  obtain ⟨nc, nt, nct⟩ := hn
  simp only [(ids_mk ..).mem_iff] at nct
  simp only [T.ids, List.append_nil, List.nodup_cons, List.mem_cons] at nt nct
  have hp := fun k => h.pos (k := k)
  simp only [mem_plug, (ids_mk ..).mem_iff, T.ids, List.append_nil, List.mem_cons] at hp
  have hi0 := hp i (.inr (.inl rfl))
  have hic : i ∉ cids c := fun e => nct i e (.inl rfl)
  refine ⟨hR, ?_, ?_, ?_⟩
  · rw [rep_plug]
    refine ⟨rc.hole nc ?_ fun j hj hne => ?_, rX.par nt.2 ?_ fun j hj hne => ?_⟩
    · rintro a c' rfl n hx
      have hh := hangK_hole (u := X.ix) rfl rc hic hi0 n hx
      have h1 : a.i ≠ i := by rintro rfl; exact hic (by simp [cids])
      have h2 : a.i ≠ X.ix := by
        by_cases hX : X = .E
        · subst hX; have := hp a.i (.inl (by simp [cids])); simp [T.ix]; omega
        · intro e; exact nct a.i (by simp [cids]) (.inr (e ▸ ix_mem hX))
      rw [hσ, if_neg h1]
      unfold hangS
      simp only [nod_modN, if_neg h2, cix, if_true, hx, Option.map_some, hh]
    · have h1 : j ≠ i := by rintro rfl; exact hic hj
      have h2 : j ≠ X.ix := by
        by_cases hX : X = .E
        · subst hX; have := hp j (.inl hj); simp [T.ix]; omega
        · intro e; exact nct j hj (.inr (e ▸ ix_mem hX))
      rw [hσ, if_neg h1]
      unfold hangS
      simp only [nod_modN, if_neg h2, if_neg hne]
    · intro hX
      have h1 : X.ix ≠ i := ix_neg nt.1 hi0
      have h2 : X.ix ≠ cix c := by
        rcases cix_mem (c := c) with ⟨e, _⟩ | e
        · have := hp X.ix (.inr (.inr (ix_mem hX))); omega
        · intro e2; exact nct _ e (.inr (e2 ▸ ix_mem hX))
      rw [hσ, if_neg h1]
      unfold hangS
      simp only [nod_modN, if_neg h2, if_true]
    · have h1 : j ≠ i := by rintro rfl; exact nt.1 hj
      have h2 : j ≠ cix c := by
        rcases cix_mem (c := c) with ⟨e, _⟩ | e
        · have := hp j (.inr (.inr hj)); omega
        · rintro rfl; exact nct _ e (.inr hj)
      rw [hσ, if_neg h1]
      unfold hangS
      simp only [nod_modN, if_neg hne, if_neg h2]
  · rw [nodup_plug]; exact ⟨nc, nt.2, fun k hk e => nct k hk (.inr e)⟩
  · intro j n hj
    rw [hσ] at hj
    split at hj
    · cases hj
    · rename_i hne
      have : ∃ m, nod σ j = some m := by
        unfold hangS at hj
        simp only [nod_modN] at hj
        cases hx : nod σ j with
        | none => simp [hx] at hj
        | some m => exact ⟨m, rfl⟩
      obtain ⟨m, hm⟩ := this
      have := h.just j m hm
      simp only [mem_plug, (ids_mk ..).mem_iff, T.ids, List.append_nil, List.mem_cons] at this ⊢
      rcases this with h | h | h
      · exact .inl h
      · exact absurd h hne
      · exact .inr h

theorem toL_mk (d : Bool) (i : Int) (b : Bool) (s : Sg) (x y : T) : (T.mk d i b s x y).toL = if d then y.toL ++ s :: x.toL else x.toL ++ s :: y.toL := by cases d <;> rfl
/-- What is told of a hole's tree alone: the segments ahead, and behind. -/
def cpre : Ctx → List Sg | [] => [] | a :: c => cpre c ++ if a.d then a.o.toL ++ [a.s] else []
def cpost : Ctx → List Sg | [] => [] | a :: c => (if a.d then [] else a.s :: a.o.toL) ++ cpost c
theorem toL_plug : ∀ (c : Ctx) (t : T), (plug c t).toL = cpre c ++ t.toL ++ cpost c
  | [], t => by simp [plug, cpre, cpost]
  | a :: c, t => by
    rw [plug, toL_plug c, toL_mk, cpre, cpost]
    cases a.d <;> simp
theorem toL_congr (c : Ctx) {t u : T} (h : t.toL = u.toL) : (plug c t).toL = (plug c u).toL := by rw [toL_plug, toL_plug, h]
theorem toL_rot (d : Bool) (i u : Int) (ri ru ri' ru' : Bool) (si su : Sg) (A B C : T) :
    (T.mk d u ru' su (T.mk d i ri' si A B) C).toL = (T.mk d i ri si A (T.mk d u ru su B C)).toL := by
  simp only [toL_mk]; cases d <;> simp

/-- A red-black tree of black height n (its root may be red). -/
def RBT : T → Nat → Prop
  | .E, n => n = 0
  | .N _ b _ l r, n => if b then l.red = false ∧ r.red = false ∧ RBT l n ∧ RBT r n else ∃ m, n = m + 1 ∧ RBT l m ∧ RBT r m
/-- A place for a tree of black height n. -/
def RBC : Ctx → Nat → Prop
  | [], _ => True
  | a :: c, n => RBT a.o n ∧ if a.red then a.o.red = false ∧ c ≠ [] ∧ cred c = false ∧ RBC c n else RBC c (n + 1)
theorem rbt_mk (d : Bool) (i : Int) (b : Bool) (s : Sg) (x y : T) (n : Nat) : RBT (T.mk d i b s x y) n ↔ if b then x.red = false ∧ y.red = false ∧ RBT x n ∧ RBT y n else ∃ m, n = m + 1 ∧ RBT x m ∧ RBT y m := by
  cases d <;> cases b <;> simp only [T.mk, RBT, Bool.false_eq_true, if_false, if_true] <;> constructor <;> grind
/-- A whole tree as it must be. -/
def Fine (t : T) : Prop := t.red = false ∧ ∃ n, RBT t n

theorem red_plug_cons : ∀ (a : Fr) (c : Ctx) (t u : T), (plug (a :: c) t).red = (plug (a :: c) u).red
  | a, [], t, u => by simp [plug, red_mk]
  | a, b :: c, t, u => by rw [plug, plug_cons a]; exact red_plug_cons b c _ _
/-- A tree that fits into a place. -/
theorem fine_plug : ∀ (c : Ctx) (t : T) (n : Nat), RBC c n → RBT t n → (cred c = true ∨ c = [] → t.red = false) → Fine (plug c t)
  | [], t, n, _, h, hr => ⟨hr (.inr rfl), n, h⟩
  | a :: c, t, n, hc, h, hr => by
    obtain ⟨h1, h2⟩ := hc
    rw [plug]
    simp only [cred] at hr
    cases ha : a.red with
    | true =>
      rw [ha] at h2 hr
      simp only [if_true] at h2
      exact fine_plug c _ n h2.2.2.2 ((rbt_mk ..).2 (by simp only [if_true]; exact ⟨hr (.inl rfl), h2.1, h, h1⟩)) (by rintro (e | e); rw [h2.2.2.1] at e; cases e; exact absurd e h2.2.1)
    | false =>
      rw [ha] at h2
      simp only [Bool.false_eq_true, if_false] at h2
      exact fine_plug c _ (n + 1) h2 ((rbt_mk ..).2 (by simp only [Bool.false_eq_true, if_false]; exact ⟨n, rfl, h, h1⟩)) (fun _ => red_mk ..)
theorem fine_split : ∀ (c : Ctx) (t : T), Fine (plug c t) → ∃ n, RBC c n ∧ RBT t n ∧ (cred c = true ∨ c = [] → t.red = false)
  | [], t, ⟨h, n, hn⟩ => ⟨n, trivial, hn, fun _ => h⟩
  | a :: c, t, h => by
    rw [plug] at h
    obtain ⟨n, h1, h2, h3⟩ := fine_split c _ h
    rw [rbt_mk] at h2
    rw [red_mk] at h3
    cases ha : a.red with
    | true =>
      rw [ha] at h2 h3
      simp only [if_true] at h2
      refine ⟨n, ⟨h2.2.2.2, ?_⟩, h2.2.2.1, fun _ => h2.1⟩
      rw [ha]; simp only [if_true]
      refine ⟨h2.2.1, ?_, ?_, h1⟩
      · intro e; have := h3 (.inr e); cases this
      · cases hc : cred c with
        | false => rfl
        | true => have := h3 (.inl hc); cases this
    | false =>
      rw [ha] at h2
      simp only [Bool.false_eq_true, if_false] at h2
      obtain ⟨m, rfl, h4, h5⟩ := h2
      refine ⟨m, ⟨h5, ?_⟩, h4, ?_⟩
      · rw [ha]; simpa using h1
      · simp [cred, ha]
end Go.Proofs.Bo
