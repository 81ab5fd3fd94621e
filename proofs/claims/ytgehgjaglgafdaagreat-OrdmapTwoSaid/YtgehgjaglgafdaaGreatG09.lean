import Derived.Test.YtgehgjaglgafdaaGreatG08
import Derived.Deep.LoopGhost
set_option linter.unusedVariables false
set_option linter.unusedSimpArgs false
namespace Go.Proofs.Bo
theorem Holds.upd {σ : List (Option Nd)} {root : Int} {c : Ctx} {i : Int} {b b' : Bool} {s s' : Sg} {l r : T} (h : Holds σ root (plug c (.N i b s l r))) {f : Nd → Nd}
  (hf : f ⟨s, l.ix, r.ix, cix c, b⟩ = ⟨s', l.ix, r.ix, cix c, b'⟩) : Holds (modN σ i f) root (plug c (.N i b' s' l r)) := by
 have hrep := h.rep
 rw [rep_plug] at hrep
 obtain ⟨rc, ri, rl, rr⟩ := hrep
 have hn := h.nodup
 rw [nodup_plug] at hn
 obtain ⟨nc, nt, nct⟩ := hn
 simp only [T.ids, List.nodup_cons, List.mem_append, not_or] at nt
 refine ⟨?_, ?_, ?_, ?_⟩
 ·rw [h.root]; cases c with
  | nil => rfl
  | cons a c => exact plug_ix _ (by simp) _ _
 ·rw [rep_plug]
  refine ⟨rc.keep fun k hk => ?_, ?_, rl.keep fun k hk => ?_, rr.keep fun k hk => ?_⟩
  ·rw [nod_modN, if_neg]; rintro rfl; exact nct _ hk (by simp [T.ids])
  ·rw [nod_modN, if_pos rfl, ri]; simp [hf]
  ·rw [nod_modN, if_neg]; rintro rfl; exact nt.1.1 hk
  ·rw [nod_modN, if_neg]; rintro rfl; exact nt.1.2 hk
 ·rw [nodup_plug]; exact ⟨nc, by simpa only [T.ids, List.nodup_cons, List.mem_append, not_or] using nt, nct⟩
 ·intro k n hk
  rw [nod_modN] at hk
  have := h.just k
  split at hk
  ·rename_i e
   cases hx : nod σ k with
   | none => rw [hx] at hk; cases hk
   | some m => have := this m hx; rw [mem_plug] at this ⊢; exact this
  ·have := this n hk; rw [mem_plug] at this ⊢; exact this
theorem Holds.recol {σ : List (Option Nd)} {root : Int} {c : Ctx} {i : Int} {b : Bool} {s : Sg} {l r : T} (h : Holds σ root (plug c (.N i b s l r))) (b' : Bool) :
  Holds (modN σ i (redN b')) root (plug c (.N i b' s l r)) := h.upd rfl
def sN (s : Sg) (n : Nd) : Nd := { n with s := s }
theorem Holds.reseg {σ : List (Option Nd)} {root : Int} {c : Ctx} {i : Int} {b : Bool} {s : Sg} {l r : T} (h : Holds σ root (plug c (.N i b s l r))) (s' : Sg) :
  Holds (modN σ i (sN s')) root (plug c (.N i b s' l r)) := h.upd rfl
theorem T.red_N (i : Int) (b : Bool) (s : Sg) (l r : T) : (T.N i b s l r).red = b := rfl
theorem T.ix_N (i : Int) (b : Bool) (s : Sg) (l r : T) : (T.N i b s l r).ix = i := rfl
theorem T.ix_E : T.E.ix = -1 := rfl
def Fr.flip (a : Fr) (t : T) : Fr := { a with d := !a.d, o := t }
theorem plug_flip (a : Fr) (c : Ctx) (t : T) : plug (a :: c) t = plug (a.flip t :: c) a.o := by
 simp only [plug, Fr.flip]; cases a.d <;> rfl
theorem plug_cons (a : Fr) (c : Ctx) (t : T) : plug (a :: c) t = plug c (T.mk a.d a.i a.red a.s t a.o) := rfl
theorem mk_plug (c : Ctx) (d : Bool) (i : Int) (b : Bool) (s : Sg) (x y : T) : plug c (T.mk d i b s x y) = plug (⟨d, i, b, s, y⟩ :: c) x := rfl
theorem mk_not (d : Bool) (i : Int) (b : Bool) (s : Sg) (x y : T) : T.mk d i b s x y = T.mk (!d) i b s y x := by cases d <;> rfl
theorem T.N_mk (i : Int) (b : Bool) (s : Sg) (l r : T) (d : Bool) : T.N i b s l r = T.mk d i b s (if d then r else l) (if d then l else r) := by cases d <;> rfl
def leafS (σ : List (Option Nd)) (c : Ctx) (k : Int) : List (Option Nd) := match c with
 | [] => σ
 | a :: _ => modN σ a.i (fun n => n.setKid (di a.d) k)
theorem Holds.leaf {σ σ' : List (Option Nd)} {root : Int} {c : Ctx} {k : Int} {s : Sg} (h : Holds σ root (plug c .E)) (hk : 0 ≤ k) (hf : nod σ k = none)
  (hσ : ∀ j, nod σ' j = if j = k then some ⟨s, -1, -1, cix c, true⟩ else nod σ j) :
  Holds (leafS σ' c k) (hangR root k (cix c)) (plug c (.N k true s .E .E)) := by
 have hR := hangR_plug h (.N k true s .E .E)
 have hrep := h.rep
 rw [rep_plug] at hrep
 obtain ⟨rc, -⟩ := hrep
 have hn := h.nodup
 rw [nodup_plug] at hn
 have hkm : k ∉ (plug c .E).ids := fun e => by obtain ⟨n, hx⟩ := h.ex e; rw [hf] at hx; cases hx
 have hkc : k ∉ cids c := fun e => hkm ((mem_plug ..).2 (.inl e))
 have g : ∀ j, j ≠ k → j ≠ cix c → nod (leafS σ' c k) j = nod σ j := by
  intro j h1 h2
  cases c with
  | nil => simp [leafS, hσ, h1]
  | cons a c => simp only [cix] at h2; simp only [leafS, nod_modN, hσ, if_neg h1, if_neg h2]
 have gk : nod (leafS σ' c k) k = some ⟨s, -1, -1, cix c, true⟩ := by
  cases c with
  | nil => simp [leafS, hσ]
  | cons a c =>
   have : k ≠ a.i := by rintro rfl; exact hkc (by simp [cids])
   simp only [leafS, nod_modN, hσ, if_neg this, if_true]
 have ga : ∀ a c', c = a :: c' → nod (leafS σ' c k) a.i = (nod σ a.i).map (fun n => n.setKid (di a.d) k) := by
  rintro a c' rfl
  have : a.i ≠ k := by rintro rfl; exact hkc (by simp [cids])
  simp only [leafS, nod_modN, hσ, if_neg this, if_true]
 have c0 : ∀ j, j ∈ cids c → j ≠ k := by rintro j hj rfl; exact hkc hj
 refine ⟨hR, ?_, ?_, ?_⟩
 ·rw [rep_plug]
  refine ⟨rc.hole hn.1 ?_ fun j hj hne => g j (c0 j hj) hne, gk, trivial, trivial⟩
  intro a c' e n hx
  rw [ga a c' e, hx]; rfl
 ·rw [nodup_plug]; exact ⟨hn.1, by simp [T.ids], by simp only [T.ids, List.append_nil, List.mem_cons, List.not_mem_nil, or_false]; exact c0⟩
 ·intro j n hj
  rw [mem_plug]
  by_cases e : j = k
  ·subst e; exact .inr (by simp [T.ids])
  ·rcases cix_mem (c := c) with ⟨e2, rfl⟩ | e2
   ·by_cases e3 : j = -1
    ·subst e3; rw [nod_neg] at hj; cases hj
    ·rw [g j e (by simpa [cix] using e3)] at hj
     have := h.just j n hj
     rw [mem_plug] at this; exact this.imp id (by simp [T.ids])
   ·by_cases e3 : j = cix c
    ·subst e3; exact .inl e2
    ·rw [g j e e3] at hj
     have := h.just j n hj
     rw [mem_plug] at this; exact this.imp id (by simp [T.ids])
theorem Holds.cut {σ σ' : List (Option Nd)} {root : Int} {c : Ctx} {i : Int} {b : Bool} {s : Sg} {d : Bool} {X : T} (h : Holds σ root (plug c (T.mk d i b s X .E)))
  (hσ : ∀ j, nod σ' j = if j = i then none else nod (hangS σ X.ix (cix c) i) j) : Holds σ' (hangR root X.ix (cix c)) (plug c X) := by
 have hR := hangR_plug h X
 have hrep := h.rep
 rw [rep_plug, rep_mk, ix_mk] at hrep
 obtain ⟨rc, ri, rX, -⟩ := hrep
 have hn := h.nodup
 rw [nodup_plug, (ids_mk ..).nodup_iff] at hn
 obtain ⟨nc, nt, nct⟩ := hn
 simp only [(ids_mk ..).mem_iff] at nct
 simp only [T.ids, List.append_nil, List.nodup_cons, List.mem_cons] at nt nct
 have hp := fun k => h.pos (k := k)
 simp only [mem_plug, (ids_mk ..).mem_iff, T.ids, List.append_nil, List.mem_cons] at hp
 have hi0 := hp i (.inr (.inl rfl))
 have hic : i ∉ cids c := fun e => nct i e (.inl rfl)
 refine ⟨hR, ?_, ?_, ?_⟩
 ·rw [rep_plug]
  refine ⟨rc.hole nc ?_ fun j hj hne => ?_, rX.par nt.2 ?_ fun j hj hne => ?_⟩
  ·rintro a c' rfl n hx
   have hh := hangK_hole (u := X.ix) rfl rc hic hi0 n hx
   have h1 : a.i ≠ i := by rintro rfl; exact hic (by simp [cids])
   have h2 : a.i ≠ X.ix := by
    by_cases hX : X = .E
    ·subst hX; have := hp a.i (.inl (by simp [cids])); simp [T.ix]; omega
    ·intro e; exact nct a.i (by simp [cids]) (.inr (e ▸ ix_mem hX))
   rw [hσ, if_neg h1]
   unfold hangS
   simp only [nod_modN, if_neg h2, cix, if_true, hx, Option.map_some, hh]
  ·have h1 : j ≠ i := by rintro rfl; exact hic hj
   have h2 : j ≠ X.ix := by
    by_cases hX : X = .E
    ·subst hX; have := hp j (.inl hj); simp [T.ix]; omega
    ·intro e; exact nct j hj (.inr (e ▸ ix_mem hX))
   rw [hσ, if_neg h1]
   unfold hangS
   simp only [nod_modN, if_neg h2, if_neg hne]
  ·intro hX
   have h1 : X.ix ≠ i := ix_neg nt.1 hi0
   have h2 : X.ix ≠ cix c := by
    rcases cix_mem (c := c) with ⟨e, _⟩ | e
    ·have := hp X.ix (.inr (.inr (ix_mem hX))); omega
    ·intro e2; exact nct _ e (.inr (e2 ▸ ix_mem hX))
   rw [hσ, if_neg h1]
   unfold hangS
   simp only [nod_modN, if_neg h2, if_true]
  ·have h1 : j ≠ i := by rintro rfl; exact nt.1 hj
   have h2 : j ≠ cix c := by
    rcases cix_mem (c := c) with ⟨e, _⟩ | e
    ·have := hp j (.inr (.inr hj)); omega
    ·rintro rfl; exact nct _ e (.inr hj)
   rw [hσ, if_neg h1]
   unfold hangS
   simp only [nod_modN, if_neg hne, if_neg h2]
 ·rw [nodup_plug]; exact ⟨nc, nt.2, fun k hk e => nct k hk (.inr e)⟩
 ·intro j n hj
  rw [hσ] at hj
  split at hj
  ·cases hj
  ·rename_i hne
   have : ∃ m, nod σ j = some m := by
    unfold hangS at hj
    simp only [nod_modN] at hj
    cases hx : nod σ j with
    | none => simp [hx] at hj
    | some m => exact ⟨m, rfl⟩
   obtain ⟨m, hm⟩ := this
   have := h.just j m hm
   simp only [mem_plug, (ids_mk ..).mem_iff, T.ids, List.append_nil, List.mem_cons] at this ⊢
   rcases this with h | h | h
   ·exact .inl h
   ·exact absurd h hne
   ·exact .inr h
theorem toL_mk (d : Bool) (i : Int) (b : Bool) (s : Sg) (x y : T) : (T.mk d i b s x y).toL = if d then y.toL ++ s :: x.toL else x.toL ++ s :: y.toL := by cases d <;> rfl
def cpre : Ctx → List Sg | [] => [] | a :: c => cpre c ++ if a.d then a.o.toL ++ [a.s] else []
def cpost : Ctx → List Sg | [] => [] | a :: c => (if a.d then [] else a.s :: a.o.toL) ++ cpost c
theorem toL_plug : ∀ (c : Ctx) (t : T), (plug c t).toL = cpre c ++ t.toL ++ cpost c
 | [], t => by simp [plug, cpre, cpost]
 | a :: c, t => by
  rw [plug, toL_plug c, toL_mk, cpre, cpost]
  cases a.d <;> simp
theorem toL_congr (c : Ctx) {t u : T} (h : t.toL = u.toL) : (plug c t).toL = (plug c u).toL := by rw [toL_plug, toL_plug, h]
def RBT : T → Nat → Prop
 | .E, n => n = 0
 | .N _ b _ l r, n => if b then l.red = false ∧ r.red = false ∧ RBT l n ∧ RBT r n else ∃ m, n = m + 1 ∧ RBT l m ∧ RBT r m
def RBC : Ctx → Nat → Prop
 | [], _ => True
 | a :: c, n => RBT a.o n ∧ if a.red then a.o.red = false ∧ c ≠ [] ∧ cred c = false ∧ RBC c n else RBC c (n + 1)
theorem rbt_mk (d : Bool) (i : Int) (b : Bool) (s : Sg) (x y : T) (n : Nat) : RBT (T.mk d i b s x y) n ↔ if b then x.red = false ∧ y.red = false ∧ RBT x n ∧ RBT y n else ∃ m, n = m + 1 ∧ RBT x m ∧ RBT y m := by
 cases d <;> cases b <;> simp only [T.mk, RBT, Bool.false_eq_true, if_false, if_true] <;> constructor <;> grind
def Fine (t : T) : Prop := t.red = false ∧ ∃ n, RBT t n
theorem fine_plug : ∀ (c : Ctx) (t : T) (n : Nat), RBC c n → RBT t n → (cred c = true ∨ c = [] → t.red = false) → Fine (plug c t)
 | [], t, n, _, h, hr => ⟨hr (.inr rfl), n, h⟩
 | a :: c, t, n, hc, h, hr => by
  obtain ⟨h1, h2⟩ := hc
  rw [plug]
  simp only [cred] at hr
  cases ha : a.red with
  | true =>
   rw [ha] at h2 hr
   simp only [if_true] at h2
   exact fine_plug c _ n h2.2.2.2 ((rbt_mk ..).2 (by simp only [if_true]; exact ⟨hr (.inl rfl), h2.1, h, h1⟩)) (by rintro (e | e); rw [h2.2.2.1] at e; cases e; exact absurd e h2.2.1)
  | false =>
   rw [ha] at h2
   simp only [Bool.false_eq_true, if_false] at h2
   exact fine_plug c _ (n + 1) h2 ((rbt_mk ..).2 (by simp only [Bool.false_eq_true, if_false]; exact ⟨n, rfl, h, h1⟩)) (fun _ => red_mk ..)
theorem fine_split : ∀ (c : Ctx) (t : T), Fine (plug c t) → ∃ n, RBC c n ∧ RBT t n ∧ (cred c = true ∨ c = [] → t.red = false)
 | [], t, ⟨h, n, hn⟩ => ⟨n, trivial, hn, fun _ => h⟩
 | a :: c, t, h => by
  rw [plug] at h
  obtain ⟨n, h1, h2, h3⟩ := fine_split c _ h
  rw [rbt_mk] at h2
  rw [red_mk] at h3
  cases ha : a.red with
  | true =>
   rw [ha] at h2 h3
   simp only [if_true] at h2
   refine ⟨n, ⟨h2.2.2.2, ?_⟩, h2.2.2.1, fun _ => h2.1⟩
   rw [ha]; simp only [if_true]
   refine ⟨h2.2.1, ?_, ?_, h1⟩
   ·intro e; have := h3 (.inr e); cases this
   ·cases hc : cred c with
    | false => rfl
    | true => have := h3 (.inl hc); cases this
  | false =>
   rw [ha] at h2
   simp only [Bool.false_eq_true, if_false] at h2
   obtain ⟨m, rfl, h4, h5⟩ := h2
   refine ⟨m, ⟨h5, ?_⟩, h4, ?_⟩
   ·rw [ha]; simpa using h1
   ·simp [cred, ha]
open Go Go.RowKit
def TS (w : World) (tb ab : Nat) (lv fv : Value) (room : Int) (N : Nat) (free : List Int) (t : T) : Prop :=
 ∃ root σ, TM w tb ab lv fv room root σ free ∧ Holds σ root t ∧ σ.length = N
section
variable {w w' : World} {tb ab N : Nat} {lv fv : Value} {room : Int} {free : List Int} {t : T}
abbrev TF (tb ab : Nat) (lv fv : Value) (i : Nat) : Prop := i = tb ∨ Foot ab lv fv i
theorem TS.drewN (h : TS w tb ab lv fv room N free t) (n : Nat) : TS (w.drewN n) tb ab lv fv room N free t := by
 obtain ⟨root, σ, a, b, c⟩ := h; exact ⟨root, σ, a.drewN n, b, c⟩
theorem TS.mod {S : Nat → Prop} (h : TS w tb ab lv fv room N free t) (hm : Mod S w w') (hs : ∀ k, TF tb ab lv fv k → ¬ S k) : TS w' tb ab lv fv room N free t := by
 obtain ⟨root, σ, a, b, c⟩ := h; exact ⟨root, σ, a.mod hm (hs _ (.inl rfl)) (fun k hk => hs k (.inr hk)), b, c⟩
theorem TS.mod0 (h : TS w tb ab lv fv room N free t) (hm : Mod (fun _ => False) w w') : TS w' tb ab lv fv room N free t := h.mod hm fun _ _ h => h
theorem TS.lt (h : TS w tb ab lv fv room N free t) {k : Nat} (hk : TF tb ab lv fv k) : k < w.heap.size := by
 obtain ⟨root, σ, a, b, c⟩ := h
 rcases hk with rfl | hk
 ·exact blkl a.t
 ·exact a.a.lt hk
theorem TS.lb (h : TS w tb ab lv fv room N free t) (ht : t ≠ .E) : ∃ lb c, lv = .slice (some ⟨lb, 0, none⟩) N c := by
 obtain ⟨root, σ, a, b, rfl⟩ := h
 obtain ⟨n, hn⟩ := b.ex (ix_mem ht)
 exact a.lb hn
structure Node (w : World) (tb lb k : Nat) (s : Sg) (x y p : Int) (b : Bool) : Prop where
 at' : Calls Tryz.prog 169 #[.pointer (some ⟨tb, 0, none⟩), .int .i64 k] w fun e w' => e = .returned (.pointer (some ⟨lb, k * 10, none⟩)) ∧ w' = w
 c0 : w.cell? ⟨lb, k * 10, none⟩ = some (.int .i64 s.ls)
 c1 : w.cell? ⟨lb, k * 10 + 1, none⟩ = some (.int .i64 s.la)
 c2 : w.cell? ⟨lb, k * 10 + 2, none⟩ = some (.int .i64 s.hs)
 c3 : w.cell? ⟨lb, k * 10 + 3, none⟩ = some (.int .i64 s.ha)
 c4 : w.cell? ⟨lb, k * 10 + 4, none⟩ = some (.int .i64 s.v)
 c5 : w.cell? ⟨lb, k * 10 + 5, none⟩ = some (.int .i64 x)
 c6 : w.cell? ⟨lb, k * 10 + 6, none⟩ = some (.int .i64 y)
 c7 : w.cell? ⟨lb, k * 10 + 7, none⟩ = some (.int .i64 p)
 c8 : w.cell? ⟨lb, k * 10 + 8, none⟩ = some (.bool b)
 f5 : w.frozen? ⟨lb, k * 10 + 5, none⟩ = false
 f6 : w.frozen? ⟨lb, k * 10 + 6, none⟩ = false
 f7 : w.frozen? ⟨lb, k * 10 + 7, none⟩ = false
 f8 : w.frozen? ⟨lb, k * 10 + 8, none⟩ = false
theorem TM.node {lb n c k : Nat} {root : Int} {σ : List (Option Nd)} (h : TM w tb ab (.slice (some ⟨lb, 0, none⟩) n c) fv room root σ free) {v : Nd} (hv : nod σ k = some v) : Node w tb lb k v.s v.k0 v.k1 v.p v.red :=
 ⟨atT' h ⟨_, hv⟩, (h.cell' hv (j := 0) rfl).1, (h.cell' hv (j := 1) rfl).1, (h.cell' hv (j := 2) rfl).1, (h.cell' hv (j := 3) rfl).1, (h.cell' hv (j := 4) rfl).1, (h.cell' hv (j := 5) rfl).1, (h.cell' hv (j := 6) rfl).1, (h.cell' hv (j := 7) rfl).1, (h.cell' hv (j := 8) rfl).1,
  (h.cell' hv (j := 5) rfl).2, (h.cell' hv (j := 6) rfl).2, (h.cell' hv (j := 7) rfl).2, (h.cell' hv (j := 8) rfl).2⟩
theorem Holds.at {σ : List (Option Nd)} {root : Int} {c : Ctx} {i : Int} {b : Bool} {s : Sg} {l r : T} (h : Holds σ root (plug c (.N i b s l r))) : nod σ i = some ⟨s, l.ix, r.ix, cix c, b⟩ := by
 have := h.rep; rw [rep_plug] at this; exact this.2.1
theorem Holds.at_mk {σ : List (Option Nd)} {root : Int} {c : Ctx} {d : Bool} {i : Int} {b : Bool} {s : Sg} {x y : T} (h : Holds σ root (plug c (T.mk d i b s x y))) : nod σ i = some ⟨s, if d then y.ix else x.ix, if d then x.ix else y.ix, cix c, b⟩ := by
 have := h.rep; rw [rep_plug, rep_mk] at this; exact this.2.1
theorem TS.nat (h : TS w tb ab lv fv room N free t) {i : Int} (hi : i ∈ t.ids) : ∃ k : Nat, i = k := by
 obtain ⟨root, σ, a, b, c⟩ := h
 exact Int.eq_ofNat_of_zero_le (b.pos hi)
theorem TS.node {lb n cp k : Nat} {c : Ctx} {b : Bool} {s : Sg} {l r : T} (h : TS w tb ab (.slice (some ⟨lb, 0, none⟩) n cp) fv room N free (plug c (.N k b s l r))) : Node w tb lb k s l.ix r.ix (cix c) b := by
 obtain ⟨root, σ, a, hh, _⟩ := h; exact a.node hh.at
theorem TS.node_mk {lb n cp k : Nat} {c : Ctx} {d b : Bool} {s : Sg} {x y : T} (h : TS w tb ab (.slice (some ⟨lb, 0, none⟩) n cp) fv room N free (plug c (T.mk d k b s x y))) : Node w tb lb k s (if d then y.ix else x.ix) (if d then x.ix else y.ix) (cix c) b := by
 obtain ⟨root, σ, a, hh, _⟩ := h; exact a.node hh.at_mk
theorem TS.flip {a : Fr} {c : Ctx} {X : T} (h : TS w tb ab lv fv room N free (plug (a :: c) X)) : TS w tb ab lv fv room N free (plug (⟨!a.d, a.i, a.red, a.s, X⟩ :: c) a.o) := by
 rw [plug_flip] at h; exact h
theorem TS.recol {lb n cp k : Nat} {c : Ctx} {b : Bool} {s : Sg} {l r : T} (h : TS w tb ab (.slice (some ⟨lb, 0, none⟩) n cp) fv room N free (plug c (.N k b s l r))) (b' : Bool) :
  TS (w.setCell ⟨lb, k * 10 + 8, none⟩ (.bool b')) tb ab (.slice (some ⟨lb, 0, none⟩) n cp) fv room N free (plug c (.N k b' s l r)) ∧ Mod (TF tb ab (.slice (some ⟨lb, 0, none⟩) n cp) fv) w (w.setCell ⟨lb, k * 10 + 8, none⟩ (.bool b')) := by
 obtain ⟨root, σ, a, hh, rfl⟩ := h
 obtain ⟨_, _, x, y⟩ := a.st ⟨_, hh.at⟩ 8 (.bool b') (redN b') (by omega) (fun _ => rfl)
 exact ⟨⟨_, _, x, hh.recol b', modN_length ..⟩, y⟩
theorem TS.recol_mk {lb n cp k : Nat} {c : Ctx} {d b : Bool} {s : Sg} {x y : T} (h : TS w tb ab (.slice (some ⟨lb, 0, none⟩) n cp) fv room N free (plug c (T.mk d k b s x y))) (b' : Bool) :
  TS (w.setCell ⟨lb, k * 10 + 8, none⟩ (.bool b')) tb ab (.slice (some ⟨lb, 0, none⟩) n cp) fv room N free (plug c (T.mk d k b' s x y)) ∧ Mod (TF tb ab (.slice (some ⟨lb, 0, none⟩) n cp) fv) w (w.setCell ⟨lb, k * 10 + 8, none⟩ (.bool b')) := by
 cases d <;> exact TS.recol h b'
theorem redZ {c : Ctx} {X : T} (h : TS w tb ab lv fv room N free (plug c X)) : Calls Tryz.prog 165 #[.pointer (some ⟨tb, 0, none⟩), .int .i64 X.ix] w fun e w' => e = .returned (.bool X.red) ∧ w' = w := by
 obtain ⟨root, σ, a, hh, rfl⟩ := h
 cases X with
 | E => exact redT_none w tb
 | N i b s l r =>
  obtain ⟨k, e, hk⟩ := nod_some hh.at
  obtain rfl : i = k := e
  exact redT a hk
theorem redC {c : Ctx} {X : T} (h : TS w tb ab lv fv room N free (plug c X)) : Calls Tryz.prog 165 #[.pointer (some ⟨tb, 0, none⟩), .int .i64 (cix c)] w fun e w' => e = .returned (.bool (cred c)) ∧ w' = w := by
 cases c with
 | nil => exact redT_none w tb
 | cons a c =>
  have := redZ (c := c) (X := T.mk a.d a.i a.red a.s X a.o) h
  rw [ix_mk, red_mk] at this
  exact this
theorem sideZ {a : Fr} {c : Ctx} {X : T} (h : TS w tb ab lv fv room N free (plug (a :: c) X)) (hX : X = .E → a.o ≠ .E) : Calls Tryz.prog 187 #[.pointer (some ⟨tb, 0, none⟩), .int .i64 X.ix, .int .i64 a.i] w fun e w' => e = .returned (.int .i64 (di a.d)) ∧ w' = w := by
 obtain ⟨root, σ, m, hh, rfl⟩ := h
 have hat := Holds.at_mk (c := c) (d := a.d) (i := a.i) (b := a.red) (s := a.s) (x := X) (y := a.o) hh
 obtain ⟨k, e, hk⟩ := nod_some hat
 rw [e]
 have := sideT m hk X.ix
 have hn := hh.nodup
 rw [nodup_plug] at hn
 have hne : a.o.ix ≠ X.ix := by
  by_cases hX0 : X = .E
  ·subst hX0
   have := hh.pos (k := a.o.ix) ((mem_plug ..).2 (.inl (by simp [cids, ix_mem (hX rfl)])))
   show a.o.ix ≠ -1
   omega
  ·by_cases ho : a.o = .E
   ·rw [ho]
    have := hh.pos (k := X.ix) ((mem_plug ..).2 (.inr (ix_mem hX0)))
    show (-1 : Int) ≠ X.ix
    omega
   ·intro e2; exact hn.2.2 a.o.ix (by simp [cids, ix_mem ho]) (e2 ▸ ix_mem hX0)
 cases hd : a.d <;> simp only [hd, di, if_true, if_false, Bool.false_eq_true, hne] at this ⊢ <;> exact this
theorem rotZ {c : Ctx} {d : Bool} {i u : Int} {ri ru : Bool} {si su : Sg} {A B C : T} (h : TS w tb ab lv fv room N free (plug c (T.mk d i ri si A (T.mk d u ru su B C)))) :
  Calls Tryz.prog 188 #[.pointer (some ⟨tb, 0, none⟩), .int .i64 i, .int .i64 (di d)] w fun e w' => e = .returned (.tuple #[]) ∧ TS w' tb ab lv fv room N free (plug c (T.mk d u ru su (T.mk d i ri si A B) C)) ∧ Mod (TF tb ab lv fv) w w' := by
 obtain ⟨root, σ, m, hh, rfl⟩ := h
 have hi := hh.at_mk
 have hu : nod σ u = _ := Holds.at_mk (c := ⟨!d, i, ri, si, A⟩ :: c) (d := d) (i := u) (b := ru) (s := su) (x := B) (y := C) (by rw [mk_not] at hh; exact hh)
 have hm : ∀ k, k ∈ (T.mk d i ri si A (T.mk d u ru su B C)).ids ↔ k = i ∨ k ∈ A.ids ∨ k = u ∨ k ∈ B.ids ∨ k ∈ C.ids := by
  intro k; rw [(ids_mk ..).mem_iff, List.mem_cons, List.mem_append, (ids_mk ..).mem_iff, List.mem_cons, List.mem_append]
 have hB : Is1 σ B.ix := hh.is1 fun k hk => (mem_plug ..).2 (.inr ((hm k).2 (.inr (.inr (.inr (.inl hk))))))
 have hc : Is1 σ (cix c) := hh.is1c fun k hk => (mem_plug ..).2 (.inl hk)
 have hrot := hh.rot
 have hlen : (rotS σ i u B.ix (cix c) (di d)).length = σ.length := by
  unfold rotS hangS; simp only [modN_length]
 obtain ⟨k, rfl, _⟩ := nod_some hi
 obtain ⟨j, rfl, _⟩ := nod_some hu
 cases d
 ·simp only [di, if_true, if_false, Bool.false_eq_true, ix_mk] at hi hu hrot hlen ⊢
  rcases hB with hB | ⟨nb, hB⟩
  ·rw [hB] at hu hrot hlen
   have R := rotT_0_none m hi rfl hu hc rfl
   exact R.mono fun e w' ⟨h1, h2, h3⟩ => ⟨h1, ⟨_, _, h2, hrot, hlen⟩, h3⟩
  ·obtain ⟨q, hq, _⟩ := nod_some hB
   rw [hq] at hu hrot hlen hB
   have R := rotT_0_some m hi rfl hu hc rfl ⟨_, hB⟩
   exact R.mono fun e w' ⟨h1, h2, h3⟩ => ⟨h1, ⟨_, _, h2, hrot, hlen⟩, h3⟩
 ·simp only [di, if_true, if_false, Bool.false_eq_true, ix_mk] at hi hu hrot hlen ⊢
  rcases hB with hB | ⟨nb, hB⟩
  ·rw [hB] at hu hrot hlen
   have R := rotT_1_none m hi rfl hu hc rfl
   exact R.mono fun e w' ⟨h1, h2, h3⟩ => ⟨h1, ⟨_, _, h2, hrot, hlen⟩, h3⟩
  ·obtain ⟨q, hq, _⟩ := nod_some hB
   rw [hq] at hu hrot hlen hB
   have R := rotT_1_some m hi rfl hu hc rfl ⟨_, hB⟩
   exact R.mono fun e w' ⟨h1, h2, h3⟩ => ⟨h1, ⟨_, _, h2, hrot, hlen⟩, h3⟩
end
open Go Go.RowKit
section
variable {w w' : World} {tb ab N : Nat} {lv fv : Value} {room : Int} {free : List Int} {t : T}
def RiseR (w0 : World) (tb ab : Nat) (lv fv : Value) (room : Int) (N : Nat) (free : List Int) (L : List Sg) (g : Nat) (vi : Value) (W : World) : Prop :=
 ∃ (c : Ctx) (n k : Nat) (s : Sg) (l r : T), g = c.length ∧ vi = .int .i64 k ∧ TS W tb ab lv fv room N free (plug c (.N k true s l r)) ∧ (RBT l n ∧ RBT r n ∧ l.red = false ∧ r.red = false ∧ RBC c n) ∧ (plug c (.N k true s l r)).toL = L ∧ Mod (TF tb ab lv fv) w0 W
def RiseQ (w0 : World) (tb ab : Nat) (lv fv : Value) (room : Int) (N : Nat) (free : List Int) (L : List Sg) (W : World) : Prop :=
 ∃ t, TS W tb ab lv fv room N free t ∧ Fine t ∧ t.toL = L ∧ Mod (TF tb ab lv fv) w0 W
structure RiseP (W : World) (tb ab : Nat) (lb cp : Nat) (fv : Value) (room : Int) (N : Nat) (free : List Int) (c : Ctx) (d : Bool) (p q : Nat) (sp sb : Sg) (o bo F : T) : Prop where
 ap : Calls Tryz.prog 169 #[.pointer (some ⟨tb, 0, none⟩), .int .i64 p] W fun e w' => e = .returned (.pointer (some ⟨lb, p * 10, none⟩)) ∧ w' = W
 aq : Calls Tryz.prog 169 #[.pointer (some ⟨tb, 0, none⟩), .int .i64 q] W fun e w' => e = .returned (.pointer (some ⟨lb, q * 10, none⟩)) ∧ w' = W
 p8 : W.cell? ⟨lb, p * 10 + 8, none⟩ = some (.bool true)
 fp : W.frozen? ⟨lb, p * 10 + 8, none⟩ = false
 q8 : (W.setCell ⟨lb, p * 10 + 8, none⟩ (.bool false)).cell? ⟨lb, q * 10 + 8, none⟩ = some (.bool false)
 fq : (W.setCell ⟨lb, p * 10 + 8, none⟩ (.bool false)).frozen? ⟨lb, q * 10 + 8, none⟩ = false
 rot : Calls Tryz.prog 188 #[.pointer (some ⟨tb, 0, none⟩), .int .i64 q, .int .i64 (di (!d))] ((W.setCell ⟨lb, p * 10 + 8, none⟩ (.bool false)).setCell ⟨lb, q * 10 + 8, none⟩ (.bool true))
  fun e w' => e = .returned (.tuple #[]) ∧ TS w' tb ab (.slice (some ⟨lb, 0, none⟩) N cp) fv room N free (plug (⟨d, p, false, sp, T.mk (!d) q true sb bo o⟩ :: c) F) ∧ Mod (TF tb ab (.slice (some ⟨lb, 0, none⟩) N cp) fv) W w'
theorem riseP {W : World} {lb cp : Nat} {c : Ctx} {d : Bool} {p q : Nat} {sp sb : Sg} {o bo F : T} (h : TS W tb ab (.slice (some ⟨lb, 0, none⟩) N cp) fv room N free (plug (⟨d, p, true, sp, o⟩ :: ⟨d, q, false, sb, bo⟩ :: c) F)) :
  RiseP W tb ab lb cp fv room N free c d p q sp sb o bo F := by
 have hP := TS.node_mk (c := ⟨d, q, false, sb, bo⟩ :: c) (d := d) (k := p) h
 have hQ := TS.node_mk (c := c) (d := d) (k := q) h
 obtain ⟨h1, M1⟩ := TS.recol_mk (c := ⟨d, q, false, sb, bo⟩ :: c) (d := d) h false
 have hQ1 := TS.node_mk (c := c) (d := d) (k := q) h1
 obtain ⟨h2, M2⟩ := TS.recol_mk (c := c) (d := d) (k := q) h1 true
 rw [mk_not, mk_not d] at h2
 have R := rotZ h2
 refine ⟨hP.at', hQ.at', hP.c8, hP.f8, hQ1.c8, hQ1.f8, R.mono ?_⟩
 rintro e w' ⟨rfl, h3, M3⟩
 refine ⟨rfl, ?_, (M1.trans' M2).trans' M3⟩
 rw [plug_cons]
 dsimp only
 rw [mk_not d]
 exact h3
theorem riseE1 {c : Ctx} {ad bd : Bool} {k p q u n : Nat} {s sa sb us : Sg} {l r ao ul ur : T} {L : List Sg} {W : World} (b1 : RBT l n) (b2 : RBT r n) (b3 : l.red = false) (b4 : r.red = false)
  (b6 : RBT ao n) (b7 : ao.red = false) (b8 : RBT (.N u true us ul ur) n) (b9 : RBC c (n + 1))
  (h : TS W tb ab lv fv room N free (plug c (T.mk bd q true sb (T.mk ad p false sa (.N k true s l r) ao) (.N u false us ul ur))))
  (hL : (plug (⟨ad, p, true, sa, ao⟩ :: ⟨bd, q, false, sb, .N u true us ul ur⟩ :: c) (.N k true s l r)).toL = L) (w0 : World) (hM : Mod (TF tb ab lv fv) w0 W) :
  RiseR w0 tb ab lv fv room N free L c.length (.int .i64 q) W := by
 have hX : RBT (T.mk ad p false sa (.N k true s l r) ao) (n + 1) := by
  rw [rbt_mk]; simp only [Bool.false_eq_true, if_false]
  exact ⟨n, rfl, by simp only [RBT, if_true]; exact ⟨b3, b4, b1, b2⟩, b6⟩
 have hU : RBT (.N u false us ul ur) (n + 1) := by
  simp only [RBT, if_true] at b8
  simp only [RBT, Bool.false_eq_true, if_false]
  exact ⟨n, rfl, b8.2.2.1, b8.2.2.2⟩
 have hLL : (plug c (T.mk bd q true sb (T.mk ad p false sa (.N k true s l r) ao) (.N u false us ul ur))).toL = L := by
  rw [← hL]; simp only [toL_plug, cpre, cpost, toL_mk, T.toL]
  cases ad <;> cases bd <;> simp
 cases bd
 ·exact ⟨c, n + 1, q, sb, _, _, rfl, rfl, h, ⟨hX, hU, by simp [red_mk], rfl, b9⟩, hLL, hM⟩
 ·exact ⟨c, n + 1, q, sb, _, _, rfl, rfl, h, ⟨hU, hX, rfl, by simp [red_mk], b9⟩, hLL, hM⟩
theorem riseE2 {c : Ctx} {d : Bool} {k p q n : Nat} {s sp sb : Sg} {l r o bo : T} {L : List Sg} {W0 W : World} (b1 : RBT l n) (b2 : RBT r n) (b3 : l.red = false) (b4 : r.red = false)
  (b6 : RBT o n) (b7 : o.red = false) (hu : bo.red = false) (b8 : RBT bo n) (b9 : RBC c (n + 1))
  (hL : (plug (⟨d, p, true, sp, o⟩ :: ⟨d, q, false, sb, bo⟩ :: c) (.N k true s l r)).toL = L) (hM : Mod (TF tb ab lv fv) W0 W) :
  ∀ w', TS w' tb ab lv fv room N free (plug (⟨d, p, false, sp, T.mk (!d) q true sb bo o⟩ :: c) (.N k true s l r)) → Mod (TF tb ab lv fv) W w' → RiseR W0 tb ab lv fv room N free L (c.length + 1) (.int .i64 k) w' := by
 intro w' h M
 refine ⟨⟨d, p, false, sp, T.mk (!d) q true sb bo o⟩ :: c, n, k, s, l, r, rfl, rfl, h, ⟨b1, b2, b3, b4, ?_⟩, ?_, hM.trans' M⟩
 ·refine ⟨?_, ?_⟩
  ·rw [rbt_mk]; simp only [if_true]; exact ⟨hu, b7, b8, b6⟩
  ·simp only [Bool.false_eq_true, if_false]; exact b9
 ·rw [← hL]; simp only [toL_plug, cpre, cpost, toL_mk, T.toL]
  cases d <;> simp
theorem riseE3 {c : Ctx} {d : Bool} {k p q n : Nat} {s sp sb : Sg} {l r o bo : T} {L : List Sg} {W0 W : World} {lb cp : Nat} (b1 : RBT l n) (b2 : RBT r n) (b3 : l.red = false) (b4 : r.red = false)
  (b6 : RBT o n) (b7 : o.red = false) (hu : bo.red = false) (b8 : RBT bo n) (b9 : RBC c (n + 1))
  (hL : (plug (⟨!d, p, true, sp, o⟩ :: ⟨d, q, false, sb, bo⟩ :: c) (.N k true s l r)).toL = L) (hM : Mod (TF tb ab (.slice (some ⟨lb, 0, none⟩) N cp) fv) W0 W) :
  ∀ w1, TS w1 tb ab (.slice (some ⟨lb, 0, none⟩) N cp) fv room N free (plug (⟨d, q, false, sb, bo⟩ :: c) (T.mk d k true s (T.mk d p true sp o (if d then r else l)) (if d then l else r))) → Mod (TF tb ab (.slice (some ⟨lb, 0, none⟩) N cp) fv) W w1 →
   RiseP w1 tb ab lb cp fv room N free c d k q s sb (if d then l else r) bo (T.mk d p true sp o (if d then r else l)) ∧
   ∀ w', TS w' tb ab (.slice (some ⟨lb, 0, none⟩) N cp) fv room N free (plug (⟨d, k, false, s, T.mk (!d) q true sb bo (if d then l else r)⟩ :: c) (T.mk d p true sp o (if d then r else l))) → Mod (TF tb ab (.slice (some ⟨lb, 0, none⟩) N cp) fv) w1 w' → RiseR W0 tb ab (.slice (some ⟨lb, 0, none⟩) N cp) fv room N free L (c.length + 1) (.int .i64 p) w' := by
 intro w1 h1 M1
 refine ⟨riseP h1, fun w' h2 M2 => ?_⟩
 have hC : RBC (⟨d, k, false, s, T.mk (!d) q true sb bo (if d then l else r)⟩ :: c) n := by
  refine ⟨?_, ?_⟩
  ·rw [rbt_mk]; simp only [if_true]; cases d <;> exact ⟨hu, by assumption, b8, by assumption⟩
  ·simp only [Bool.false_eq_true, if_false]; exact b9
 have hLL : (plug (⟨d, k, false, s, T.mk (!d) q true sb bo (if d then l else r)⟩ :: c) (T.mk d p true sp o (if d then r else l))).toL = L := by
  rw [← hL]; simp only [toL_plug, cpre, cpost, toL_mk, T.toL]
  cases d <;> simp
 cases d
 ·exact ⟨_, n, p, sp, _, _, rfl, rfl, h2, ⟨b6, b1, b7, b3, hC⟩, hLL, (hM.trans' M1).trans' M2⟩
 ·exact ⟨_, n, p, sp, _, _, rfl, rfl, h2, ⟨b2, b6, b4, b7, hC⟩, hLL, (hM.trans' M1).trans' M2⟩
theorem riseE4 {c : Ctx} {k n : Nat} {s s0 : Sg} {i0 : Int} {b0 : Bool} {l r l0 r0 : T} {L : List Sg} (b1 : RBT l n) (b2 : RBT r n) (b3 : l.red = false) (b4 : r.red = false) (b5 : RBC c n) (hc : cred c = false)
  (hL : (plug c (.N k true s l r)).toL = L) (hw : plug c (.N k true s l r) = .N i0 b0 s0 l0 r0) : Fine (.N i0 false s0 l0 r0) ∧ (T.N i0 false s0 l0 r0).toL = L := by
 have hX : RBT (.N k true s l r) n := by simp only [RBT, if_true]; exact ⟨b3, b4, b1, b2⟩
 refine ⟨?_, by rw [← hL, hw]; rfl⟩
 cases c with
 | nil =>
  cases hw
  exact ⟨rfl, n + 1, by simp only [RBT, Bool.false_eq_true, if_false]; exact ⟨n, rfl, b1, b2⟩⟩
 | cons a c =>
  have : Fine (plug (a :: c) (.N k true s l r)) := fine_plug (a :: c) _ n b5 hX (by rintro (e | e); rw [hc] at e; cases e; cases e)
  rw [hw] at this
  have hr := this.1
  simp only [T.red] at hr
  subst hr
  exact this
end
open Go Go.RowKit
section
variable {w w' : World} {tb ab N : Nat} {lv fv : Value} {room : Int} {free : List Int} {t : T}
theorem TS.root (h : TS w tb ab lv fv room N free t) : w.cell? ⟨tb, 1, none⟩ = some (.int .i64 t.ix) ∧ w.cell? ⟨tb, 0, none⟩ = some (.pointer (some ⟨ab, 0, none⟩)) ∧ w.frozen? ⟨tb, 1, none⟩ = false := by
 obtain ⟨root, σ, m, hh, _⟩ := h
 obtain ⟨a, b⟩ := blkc m.t
 rw [hh.root] at a
 exact ⟨by rw [a]; rfl, by rw [a]; rfl, b 1⟩
theorem Fine.root {t : T} (h : Fine t) : t.black = t := by
 cases t with
 | E => rfl
 | N i b s l r => have := h.1; simp only [T.red] at this; subst this; rfl
set_option maxHeartbeats 2000000 in
set_option maxRecDepth 100000 in
theorem riseZ {c : Ctx} {n k : Nat} {s : Sg} {l r : T} {lb cp : Nat} (h : TS w tb ab (.slice (some ⟨lb, 0, none⟩) N cp) fv room N free (plug c (.N k true s l r))) (hb : RBT l n ∧ RBT r n ∧ l.red = false ∧ r.red = false ∧ RBC c n) :
  Calls Tryz.prog 179 #[.pointer (some ⟨tb, 0, none⟩), .int .i64 k] w fun e w' => e = .returned (.tuple #[]) ∧ RiseQ w tb ab (.slice (some ⟨lb, 0, none⟩) N cp) fv room N free (plug c (.N k true s l r)).toL w' := by
 obtain ⟨L, hL⟩ : ∃ L, (plug c (.N k true s l r)).toL = L := ⟨_, rfl⟩
 rw [hL]
 replace hL := hid hL
 go_enter Tryz.func179, Tryz.ntmps179
 go_wp2_with fail
 go_loopg [1] c.length (fun g vi W => RiseR w tb ab (.slice (some ⟨lb, 0, none⟩) N cp) fv room N free L g vi W)
 case atStart => exact ⟨c, n, k, s, l, r, rfl, rfl, h, hb, hL.out, Mod.refl _ _⟩
 case round =>
  clear hL hb h
  clear n s l r
  obtain ⟨c, n, k, s, l, r, rfl, rfl, h, ⟨b1, b2, b3, b4, b5⟩, hL, hM⟩ := hrel
  replace b3 := hid b3
  replace b4 := hid b4
  replace hL := hid hL
  have hN := h.node
  have nd1 := hN
  have A := nd1.at'
  have c7 := nd1.c7
  clear nd1 hN
  have R := redC h
  go_wp2_with fail
  refine A.mono ?_; rintro e w' ⟨rfl, hw⟩; subst hw
  go_wp2_with fail
  refine R.mono ?_; rintro e w' ⟨rfl, hw⟩; subst hw
  by_cases hc : cred c = true
  ·match c, hc with
   | ⟨ad, p, ared, sa, ao⟩ :: c, hc =>
   obtain rfl : ared = true := hc
   match c, b5 with
   | [], b5 => exact absurd rfl b5.2.2.1
   | ⟨bd, q, bred, sb, bo⟩ :: c, b5 =>
   obtain ⟨b6, b7⟩ := b5
   simp only [if_true, cred] at b7
   obtain ⟨b7, _, rfl, b8⟩ := b7
   obtain ⟨b8, b9⟩ := b8
   simp only [Bool.false_eq_true, if_false] at b8 b9
   replace b7 := hid b7
   obtain ⟨kp, rfl⟩ := h.nat (i := p) ((mem_plug ..).2 (.inl (by simp [cids])))
   obtain ⟨kq, rfl⟩ := h.nat (i := q) ((mem_plug ..).2 (.inl (by simp [cids])))
   have hP := h.node_mk (c := ⟨bd, kq, false, sb, bo⟩ :: c) (d := ad) (k := kp)
   have hQ := h.node_mk (c := c) (d := bd) (k := kq)
   have nd2 := hP
   have AP := nd2.at'
   have p7 := nd2.c7
   have p8 := nd2.c8
   have fp := nd2.f8
   clear nd2 hP
   have nd3 := hQ
   have AQ := nd3.at'
   have q5 := nd3.c5
   have q6 := nd3.c6
   have fq := nd3.f8
   clear nd3 hQ
   have S := sideZ (a := ⟨bd, kq, false, sb, bo⟩) (c := c) (X := T.mk ad kp true sa (.N k true s l r) ao) h (by cases ad <;> simp [T.mk])
   have RU := redZ (c := ⟨!bd, kq, false, sb, T.mk ad kp true sa (.N k true s l r) ao⟩ :: c) (X := bo) (TS.flip (a := ⟨bd, kq, false, sb, bo⟩) (c := c) (X := T.mk ad kp true sa (.N k true s l r) ao) h)
   simp only [ix_mk] at S
   simp only [cix] at c7 p7
   by_cases hu : bo.red = true
   ·obtain ⟨u, us, ul, ur, rfl⟩ : ∃ u us ul ur, bo = .N u true us ul ur := by
     cases bo with
     | E => cases hu
     | N u b us ul ur => simp only [T.red] at hu; subst hu; exact ⟨_, _, _, _, rfl⟩
    obtain ⟨ku, rfl⟩ := h.nat (i := u) ((mem_plug ..).2 (.inl (by simp [cids, T.ids])))
    clear hu
    have AU := (TS.node (TS.flip (a := ⟨bd, kq, false, sb, .N ku true us ul ur⟩) (c := c) h)).at'
    obtain ⟨h1, M1⟩ := TS.recol_mk (c := ⟨bd, kq, false, sb, .N ku true us ul ur⟩ :: c) (d := ad) h false
    have h1' := TS.flip (a := ⟨bd, kq, false, sb, .N ku true us ul ur⟩) (c := c) h1
    have nd4 := h1'.node
    have u8 := nd4.c8
    have fu := nd4.f8
    clear nd4
    obtain ⟨h2, M2⟩ := h1'.recol false
    have h2' := TS.flip (a := ⟨!bd, kq, false, sb, T.mk ad kp false sa (.N k true s l r) ao⟩) (c := c) h2
    simp only [Bool.not_not] at h2'
    have nd5 := TS.node_mk (c := c) (d := bd) h2'
    have g8 := nd5.c8
    have fg := nd5.f8
    clear nd5
    obtain ⟨h3, M3⟩ := TS.recol_mk (c := c) (d := bd) h2' true
    have hE := hid (riseE1 (c := c) (ad := ad) (bd := bd) (p := kp) (q := kq) (sa := sa) (sb := sb) b1 b2 b3.out b4.out b6 b7.out b8 b9 h3 hL.out)
    have hMM := ((hM.trans' M1).trans' M2).trans' M3
    clear h1 h1' h2 h2' h3 M1 M2 M3 hM b1 b2 b5 b6 b8 b9 h
    cases bd
    all_goals
     simp only [di, if_true, if_false, Bool.false_eq_true] at q5 q6 S
     go_wp2_with fail
     refine A.mono ?_; rintro e w' ⟨rfl, hw⟩; subst hw
     go_wp2_with fail
     refine AP.mono ?_; rintro e w' ⟨rfl, hw⟩; subst hw
     go_wp2_with fail
     refine S.mono ?_; rintro e w' ⟨rfl, hw⟩; subst hw
     go_wp2_with fail
     refine AQ.mono ?_; rintro e w' ⟨rfl, hw⟩; subst hw
     go_wp2_with fail
     refine RU.mono ?_; rintro e w' ⟨rfl, hw⟩; subst hw
     simp only [T.red, T.ix]
     go_wp2_with fail
     refine AP.mono ?_; rintro e w' ⟨rfl, hw⟩; subst hw
     go_wp2_with fail
     refine AU.mono ?_; rintro e w' ⟨rfl, hw⟩; subst hw
     go_wp2_with fail
     refine AQ.mono ?_; rintro e w' ⟨rfl, hw⟩; subst hw
     go_wp2_with fail
     go_roundg c.length
     case measure => simp only [List.length_cons]; omega
     case rel => exact hE.out _ hMM
   ·have hu : bo.red = false := by simpa using hu
    have S2 := sideZ (a := ⟨ad, kp, true, sa, ao⟩) (c := ⟨bd, kq, false, sb, bo⟩ :: c) (X := .N k true s l r) h (by intro e; cases e)
    by_cases had : ad = bd
    ·subst had
     have P := riseP h
     obtain ⟨P1, P2, P3, P4, P5, P6, P7⟩ := P
     have hE := hid (riseE2 (N := N) (room := room) (free := free) (c := c) (d := ad) (p := kp) (q := kq) (sp := sa) (sb := sb) b1 b2 b3.out b4.out b6 b7.out hu b8 b9 hL.out hM)
     clear h hM b1 b2 b5 b6 b8 b9 p8 fp fq
     cases ad
     all_goals
      simp only [di, if_true, if_false, Bool.false_eq_true, Bool.not_false, Bool.not_true] at q5 q6 S S2 P7
      go_wp2_with fail
      refine A.mono ?_; rintro e w' ⟨rfl, hw⟩; subst hw
      go_wp2_with fail
      refine AP.mono ?_; rintro e w' ⟨rfl, hw⟩; subst hw
      go_wp2_with fail
      refine S.mono ?_; rintro e w' ⟨rfl, hw⟩; subst hw
      go_wp2_with fail
      refine AQ.mono ?_; rintro e w' ⟨rfl, hw⟩; subst hw
      go_wp2_with fail
      refine RU.mono ?_; rintro e w' ⟨rfl, hw⟩; subst hw
      rw [hu]
      go_wp2_with fail
      refine S2.mono ?_; rintro e w' ⟨rfl, hw⟩; subst hw
      go_wp2_with fail
      refine P1.mono ?_; rintro e w' ⟨rfl, hw⟩; subst hw
      go_wp2_with fail
      refine P2.mono ?_; rintro e w' ⟨rfl, hw⟩; subst hw
      go_wp2_with fail
      refine P7.mono ?_; rintro e w' ⟨rfl, h4, M4⟩
      go_wp2_with fail
      go_roundg (c.length + 1)
      case measure => simp only [List.length_cons]; omega
      case rel => exact hE.out _ h4 M4
    ·obtain rfl : ad = !bd := by cases ad <;> cases bd <;> first | rfl | exact absurd rfl had
     have h' := h
     rw [plug_cons] at h'
     dsimp only at h'
     rw [mk_not, Bool.not_not, T.N_mk _ _ _ _ _ bd] at h'
     have R2 := rotZ h'
     have hE := hid (riseE3 (N := N) (room := room) (free := free) (c := c) (d := bd) (k := k) (p := kp) (q := kq) (s := s) (sp := sa) (sb := sb) b1 b2 b3.out b4.out b6 b7.out hu b8 b9 hL.out hM)
     clear h h' hM b1 b2 b5 b6 b8 b9 p8 fp fq
     cases bd
     all_goals
      simp only [di, if_true, if_false, Bool.false_eq_true, Bool.not_false, Bool.not_true] at q5 q6 S S2 R2 hE
      go_wp2_with fail
      refine A.mono ?_; rintro e w' ⟨rfl, hw⟩; subst hw
      go_wp2_with fail
      refine AP.mono ?_; rintro e w' ⟨rfl, hw⟩; subst hw
      go_wp2_with fail
      refine S.mono ?_; rintro e w' ⟨rfl, hw⟩; subst hw
      go_wp2_with fail
      refine AQ.mono ?_; rintro e w' ⟨rfl, hw⟩; subst hw
      go_wp2_with fail
      refine RU.mono ?_; rintro e w' ⟨rfl, hw⟩; subst hw
      rw [hu]
      go_wp2_with fail
      refine S2.mono ?_; rintro e w' ⟨rfl, hw⟩; subst hw
      go_wp2_with fail
      refine R2.mono ?_; rintro e w' ⟨rfl, h4, M4⟩
      obtain ⟨⟨P1, P2, P3, P4, P5, P6, P7⟩, hF⟩ := hE.out _ h4 M4
      replace hF := hid hF
      clear hE h4 M4 AP AQ S RU S2 R2
      go_wp2_with fail
      refine P1.mono ?_; rintro e w' ⟨rfl, hw⟩; subst hw
      go_wp2_with fail
      refine P2.mono ?_; rintro e w' ⟨rfl, hw⟩; subst hw
      go_wp2_with fail
      refine P7.mono ?_; rintro e w' ⟨rfl, h4, M4⟩
      go_wp2_with fail
      go_roundg (c.length + 1)
      case measure => simp only [List.length_cons]; omega
      case rel => exact hF.out _ h4 M4
  ·have hc : cred c = false := by simpa using hc
   obtain ⟨i0, b0, s0, l0, r0, hw0⟩ : ∃ i1 b1 s1 l1 r1, plug c (.N k true s l r) = .N i1 b1 s1 l1 r1 := by
    rcases hp : plug c (.N k true s l r) with _ | ⟨i, b, s', l', r'⟩
    ·have := toL_plug c (.N k true s l r); rw [hp] at this; simp [T.toL] at this
    ·exact ⟨i, b, s', l', r', rfl⟩
   have hfin := hid (riseE4 b1 b2 b3.out b4.out b5 hc hL.out hw0)
   rw [hw0] at h
   replace hw0 := hid hw0
   obtain ⟨k0, rfl⟩ := h.nat (i := i0) (by simp [T.ids])
   obtain ⟨d1, _, e1⟩ := h.root
   have nd6 := TS.node (c := []) h
   have A0 := nd6.at'
   have r8 := nd6.c8
   have f8 := nd6.f8
   clear nd6
   obtain ⟨h2, M2⟩ := TS.recol (c := []) h false
   simp only [T.ix] at d1
   clear h b1 b2 b5
   go_wp2_with fail
   refine A0.mono ?_; rintro e w' ⟨rfl, hw⟩; subst hw
   go_wp2_with fail
   go_end0
   exact ⟨rfl, _, h2, hfin.out.1, hfin.out.2, hM.trans' M2⟩
end
end Go.Proofs.Bo
