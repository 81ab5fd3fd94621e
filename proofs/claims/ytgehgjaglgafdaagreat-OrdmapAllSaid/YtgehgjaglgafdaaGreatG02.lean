import Derived.Test.YtgehgjaglgafdaaGreatG01
import Derived.ProofKit
import Derived.OpenShut
import Derived.ShutString
import Derived.ChangeOld
import Derived.SizedLaws
import Derived.Deep.Slices
import Derived.Deep.Fields
import Derived.ChangeSlices
import Derived.Test.YtgehgjaglgafdaaGreatProg
import Derived.Deep.RegionHeld3
import Derived.Deep.RegionWith
import Derived.Deep.DeepCutAuto
import Derived.BigQuiet
set_option linter.unusedVariables false
set_option linter.unusedSimpArgs false
namespace Go.Proofs.Bo
open Go Go.RowKit Go.ChangeShapes Go.WideShapes Go.ChangeAt Go.Deep
inductive Fl where
 | int (k : IntKind)
 | bool
def Fl.Is : Fl → Value → Prop
 | .int k, v => ∃ n, v = .int k n ∧ (Lit.int k n).wf = true
 | .bool, v => ∃ b, v = .bool b
inductive Fit : List Fl → List Value → Prop
 | nil : Fit [] []
 | cons {k : Fl} {v : Value} {ks : List Fl} {vs : List Value} : k.Is v → Fit ks vs → Fit (k :: ks) (v :: vs)
theorem Fit.append {a b : List Fl} {x y : List Value} (h : Fit a x) (k : Fit b y) : Fit (a ++ b) (x ++ y) := by
 induction h with
 | nil => exact k
 | cons h1 _ ih => exact .cons h1 ih
theorem Fit.length {a : List Fl} {x : List Value} (h : Fit a x) : x.length = a.length := by
 induction h with
 | nil => rfl
 | cons _ _ ih => simp [ih]
theorem Fit.cons_inv {k : Fl} {ks : List Fl} {x : List Value} (h : Fit (k :: ks) x) : ∃ v vs, x = v :: vs ∧ k.Is v ∧ Fit ks vs := by
 cases h with | cons h1 h2 => exact ⟨_, _, rfl, h1, h2⟩
theorem Fit.nil_inv {x : List Value} (h : Fit [] x) : x = [] := by cases h; rfl
def flatFs (P : Program) (f : TypeId → Option (List Fl)) : List Field → Nat → Option (List Fl)
 | [], _ => some []
 | fd :: fs, o => if fd.offset = o then
   match f fd.type with
   | some ks => if P.cellsOf fd.type = ks.length then (flatFs P f fs (o + ks.length)).map (ks ++ ·) else none
   | none => none
  else none
def flat (P : Program) : Nat → TypeId → Option (List Fl)
 | 0, _ => none
 | n + 1, t => match P.underlying t with
  | some (.int k) => some [.int k]
  | some .bool => some [.bool]
  | some (.struct fs) => (flatFs P (flat P n) fs.toList 0).filter fun ks => P.cellsOf t == ks.length
  | some (.array m e) => match flat P n e with
   | some ks => if P.cellsOf e = ks.length ∧ P.cellsOf t = m * ks.length then some (List.replicate m ks).flatten else none
   | none => none
  | _ => none
section
variable {H : Type} {enc : TypeId × Value → H} {P : Program} {w : World} {base : Nat} {spare : Nat → Bool} {held : Bool}
theorem flatFs_fit {f : TypeId → Option (List Fl)} {cs : List Value} (hf : ∀ t ks cs, f t = some ks → (∃ m x, DataW.trod enc P w base spare held m t cs = some x) → Fit ks cs) :
  ∀ (fs : List Field) (o : Nat) (ks : List Fl), flatFs P f fs o = some ks → (∀ (i : Nat) fd, fs[i]? = some fd → ∃ m x, DataW.trod enc P w base spare held m fd.type ((cs.drop fd.offset).take (P.cellsOf fd.type)) = some x) → o + ks.length ≤ cs.length →
   Fit ks ((cs.drop o).take ks.length)
 | [], o, ks, h, _, _ => by simp [flatFs] at h; subst h; simp; exact .nil
 | fd :: fs, o, ks, h, ht, hl => by
  simp only [flatFs] at h
  split at h
  ·rename_i ho
   split at h
   ·rename_i k1 hk1
    split at h
    ·rename_i hc
     obtain ⟨k2, hk2, rfl⟩ := Option.map_eq_some_iff.1 h
     have h0 := hf _ _ _ hk1 (ht 0 fd rfl)
     rw [hc, ho] at h0
     have h1 := flatFs_fit hf fs (o + k1.length) k2 hk2 (fun i fd' hi => ht (i + 1) fd' (by simpa using hi)) (by simp at hl; omega)
     have := h0.append h1
     rw [List.length_append, List.take_add, List.drop_drop]
     exact this
    ·cases h
   ·cases h
  ·cases h
theorem flat_fit : ∀ (n : Nat) (t : TypeId) (ks : List Fl) (cs : List Value), flat P n t = some ks → (∃ m x, DataW.trod enc P w base spare held m t cs = some x) → Fit ks cs
 | 0, _, _, _, h, _ => by simp [flat] at h
 | n + 1, t, ks, cs, h, ⟨m, x, ht⟩ => by
  simp only [flat] at h
  split at h
  ·rename_i k hu
   simp at h; subst h
   obtain ⟨v, rfl, _, hw⟩ := DataW.trod_int hu ht
   exact .cons ⟨v, rfl, hw⟩ .nil
  ·rename_i hu
   simp at h; subst h
   obtain ⟨v, rfl, _⟩ := DataW.trod_bool hu ht
   exact .cons ⟨v, rfl⟩ .nil
  ·rename_i fs hu
   obtain ⟨h1, h2⟩ := Option.filter_eq_some_iff.1 h
   simp at h2
   obtain ⟨xs, n', _, _, hlen, hxl, hg⟩ := DataW.trod_struct hu ht
   have := flatFs_fit (cs := cs) (fun t ks cs h1 h2 => flat_fit n t ks cs h1 h2) fs.toList 0 ks h1 (fun i fd hi => by
    have hi' : fs[i]? = some fd := by simpa using hi
    have hil : i < xs.length := by rw [hxl]; exact (Array.getElem?_eq_some_iff.1 hi').1
    exact ⟨n', xs[i], by rw [hg i fd hi']; simp [hil]⟩) (by omega)
   rw [List.drop_zero, List.take_of_length_le (by omega)] at this
   exact this
  ·rename_i q e hu
   split at h
   ·rename_i k1 hk1
    split at h
    ·rename_i hc
     simp at h; subst h
     obtain ⟨xs, n', _, _, hlen, hxl, hg⟩ := DataW.trod_array hu ht
     have key : ∀ j, j ≤ q → Fit (List.replicate j k1).flatten (cs.take (j * k1.length)) := by
      intro j
      induction j with
      | zero => intro _; simp; exact .nil
      | succ j ih =>
       intro hj
       have h1 := flat_fit n e k1 _ hk1 ⟨n', xs[j]'(by omega), by rw [hg j (by omega)]; simp [show j < xs.length by omega]⟩
       have h2 := (ih (by omega)).append h1
       rw [hc.1] at h2
       rw [List.replicate_succ', List.flatten_concat, Nat.succ_mul, List.take_add]
       exact h2
     have := key q (Nat.le_refl _)
     rwa [List.take_of_length_le (by rw [hlen, hc.2]; exact Nat.le_refl _)] at this
    ·cases h
   ·cases h
  ·cases h
theorem open_flat {n : Nat} {t : TypeId} {ks : List Fl} {v : Value} {d : DataW H} {ps : List MemPlace} (hk : flat P n t = some ks) (h : DataW.Trod enc P w base spare held t v d ps) : Fit ks v.cells.toList := by
 obtain ⟨m, hm⟩ := h; exact flat_fit n t ks _ hk ⟨m, _, hm⟩
theorem open_flat_slice {β : Type} {n : Nat} {t e : TypeId} {ks : List Fl} {a : Option Addr} {len cap : Nat} {d : DataW H} {ps : List MemPlace} {f : β → List Value} {G : β → Prop} (hu : P.underlying t = some (.slice e)) (hk : flat P n e = some ks) (hc : P.cellsOf e = ks.length) (h0 : 0 < ks.length)
  (hf : ∀ cs, Fit ks cs → ∃ b, f b = cs ∧ G b) (hlen : ∀ b, (f b).length = ks.length) (h : DataW.Trod enc P w base spare held t (.slice a len cap) d ps)
  {ts : List TypeId} {ds : List (DataW H)} {j : Nat} (hsz : (DataW.weightsEach P ts ds).all (· ≤ reachBytes) = true) (ht : ts[j]? = some t) (hd : ds[j]? = some d) :
  ∃ zs : List β, RdS f ks.length w a len zs ∧ (∀ z ∈ zs, G z) ∧ len * P.bytesOf e ≤ 140737488351232 := by
 obtain ⟨fuel, hfu⟩ := h
 rcases open_slice hu hfu with ⟨hcs, _⟩ | ⟨a', l', c', m, n', D, Pl, hcs, _, hl, _, hm, hx, hi⟩
 ·simp [Value.cells] at hcs
  obtain ⟨rfl, rfl, rfl⟩ := hcs
  exact ⟨[], ⟨rfl, hlen, fun h => absurd h (by omega)⟩, by simp, by simp⟩
 ·simp [Value.cells] at hcs
  obtain ⟨rfl, rfl, rfl⟩ := hcs
  have hml : len ≤ m := by rw [hm]; split; exact hl; exact Nat.le_refl _
  have each : ∀ i, i < len → ∃ b : β, G b ∧ ∀ j, j < ks.length → w.cell? ((a'.add (i * ks.length)).add j) = (f b)[j]? := by
   intro i hil
   obtain ⟨cs', h1, h2⟩ := hi i (by omega)
   have hfit := flat_fit n e ks cs' hk ⟨_, _, h2⟩
   obtain ⟨b, hb, hG⟩ := hf _ hfit
   obtain ⟨_, _, h4⟩ := World.cells?_some h1
   rw [hc] at h4
   exact ⟨b, hG, fun j hj => by rw [h4 j hj, hb]⟩
  have hch : ∃ zs : List β, zs.length = len ∧ ∀ i b, zs[i]? = some b → G b ∧ ∀ j, j < ks.length → w.cell? ((a'.add (i * ks.length)).add j) = (f b)[j]? := by
   have key : ∀ q, q ≤ len → ∃ zs : List β, zs.length = q ∧ ∀ i b, zs[i]? = some b → G b ∧ ∀ j, j < ks.length → w.cell? ((a'.add (i * ks.length)).add j) = (f b)[j]? := by
    intro q
    induction q with
    | zero => exact fun _ => ⟨[], rfl, by simp⟩
    | succ q ih =>
     intro hq
     obtain ⟨zs, hz, hzs⟩ := ih (by omega)
     obtain ⟨b, hb⟩ := each q (by omega)
     refine ⟨zs ++ [b], by simp [hz], fun i b' hb' => ?_⟩
     rw [List.getElem?_append] at hb'
     split at hb'
     ·exact hzs i b' hb'
     ·rename_i hn
      have : i = q := by
       rcases Nat.lt_trichotomy i q with h | h | h
       ·omega
       ·exact h
       ·rw [List.getElem?_eq_none (by simp; omega)] at hb'; cases hb'
      subst this
      rw [hz, Nat.sub_self] at hb'
      simp at hb'; subst hb'; exact hb
   exact key len (Nat.le_refl _)
  obtain ⟨zs, hz, hzs⟩ := hch
  refine ⟨zs, ⟨hz, hlen, fun h1 => ?_⟩, fun z hzm => ?_, ?_⟩
  ·obtain ⟨b, o, s⟩ := a'
   have hz0 : zs[0]? = some (zs[0]'(by omega)) := by simp [show 0 < zs.length by omega]
   obtain ⟨_, h2⟩ := hzs 0 _ hz0
   have h3 := h2 0 h0
   have hs : s = none := by
    cases s with
    | none => rfl
    | some q =>
     exfalso
     have h4 : w.cell? ⟨b, o, some q⟩ = none := by
      simp only [World.cell?]
      split <;> simp
     rw [Nat.zero_mul, Addr.add, if_pos rfl, Addr.add, if_pos rfl, h4] at h3
     have := hlen (zs[0]'(by omega))
     rw [eq_comm, List.getElem?_eq_none_iff] at h3
     omega
   subst hs
   refine ⟨b, o, rfl, fun i z hz' j u hu' => ?_⟩
   obtain ⟨_, h5⟩ := hzs i z hz'
   have hj : j < ks.length := by have := (List.getElem?_eq_some_iff.1 hu').1; rw [hlen] at this; exact this
   have h6 := h5 j hj
   rw [Addr.add_lit, Addr.add_lit, hu'] at h6
   exact h6
  ·obtain ⟨i, hi', rfl⟩ := List.getElem_of_mem hzm
   exact (hzs i _ (by simp [hi'])).1
  ·have hx1 := (Prod.mk.inj hx).1
   subst hx1
   have z := sized_slice hsz ht hd hu
   simp at z
   have : len * P.bytesOf e ≤ (len + (m - len)) * P.bytesOf e := Nat.mul_le_mul_right _ (by omega)
   exact Nat.le_trans this z
end
open Go Go.RowKit
theorem wf64 {a : Int} (h : (Lit.int .i64 a).wf = true) : fit64 a := by
 simp [Lit.wf, IntKind.min, IntKind.max, IntKind.bits, IntKind.signed] at h
 unfold fit64
 omega
def GOp6 (o : Op6) : Prop := fit64 o.k ∧ fit64 o.s.ls ∧ fit64 o.s.la ∧ fit64 o.s.hs ∧ fit64 o.s.ha ∧ fit64 o.s.v
theorem fitOp6 (cs : List Value) (h : Fit [.int .i64, .int .i64, .int .i64, .int .i64, .int .i64, .int .i64] cs) : ∃ b, encO6 b = cs ∧ GOp6 b := by
 obtain ⟨v, vs, rfl, ⟨n, rfl, hn⟩, h2⟩ := h.cons_inv
 obtain ⟨v2, vs2, rfl, ⟨n2, rfl, hn2⟩, h3⟩ := h2.cons_inv
 obtain ⟨v3, vs3, rfl, ⟨n3, rfl, hn3⟩, h4⟩ := h3.cons_inv
 obtain ⟨v4, vs4, rfl, ⟨n4, rfl, hn4⟩, h5⟩ := h4.cons_inv
 obtain ⟨v5, vs5, rfl, ⟨n5, rfl, hn5⟩, h6⟩ := h5.cons_inv
 obtain ⟨v6, vs6, rfl, ⟨n6, rfl, hn6⟩, h7⟩ := h6.cons_inv
 obtain rfl := h7.nil_inv
 exact ⟨⟨n, n2, n3, n4, n5, n6⟩, rfl, wf64 hn, wf64 hn2, wf64 hn3, wf64 hn4, wf64 hn5, wf64 hn6⟩
theorem RdS.op6 {w W : World} {b o : Nat} {zs : List Op6} {k : Nat} (hc : ∀ i z, zs[i]? = some z → ∀ j u, (encO6 z)[j]? = some u → w.cell? ⟨b, o + i * 6 + j, none⟩ = some u) (B : Below w.heap.size w W) (hk : k < zs.length) :
  W.cell? ⟨b, o + k * 6, none⟩ = some (.int .i64 zs[k].k) ∧ W.cell? ⟨b, o + k * 6 + 1, none⟩ = some (.int .i64 zs[k].s.ls) ∧ W.cell? ⟨b, o + k * 6 + 2, none⟩ = some (.int .i64 zs[k].s.la) ∧
  W.cell? ⟨b, o + k * 6 + 3, none⟩ = some (.int .i64 zs[k].s.hs) ∧ W.cell? ⟨b, o + k * 6 + 4, none⟩ = some (.int .i64 zs[k].s.ha) ∧ W.cell? ⟨b, o + k * 6 + 5, none⟩ = some (.int .i64 zs[k].s.v) := by
 have h : ∀ j u, (encO6 zs[k])[j]? = some u → w.cell? ⟨b, o + k * 6 + j, none⟩ = some u := fun j u hu => hc k zs[k] (by simp [hk]) j u hu
 have g : ∀ j u, (encO6 zs[k])[j]? = some u → W.cell? ⟨b, o + k * 6 + j, none⟩ = some u := fun j u hu =>
  (B.cell (p := ⟨b, o + k * 6 + j, none⟩) (World.block_lt_of_cell? w _ (h j u hu))).trans (h j u hu)
 exact ⟨g 0 _ rfl, g 1 _ rfl, g 2 _ rfl, g 3 _ rfl, g 4 _ rfl, g 5 _ rfl⟩
open Go Go.RowKit
structure Op8 where
 k : Int
 n : Int
 s : Sg
def encO8 (o : Op8) : List Value := [.int .i64 o.k, .int .i64 o.n, .int .i64 o.s.ls, .int .i64 o.s.la, .int .i64 o.s.hs, .int .i64 o.s.ha, .int .i64 o.s.v]
def Op8.six (o : Op8) : Op6 := ⟨o.k, o.s⟩
structure Cu where
 on : Bool
 s : Int
 a : Int
def Cu.z : Cu := ⟨false, 0, 0⟩
def Cu.key (c : Cu) : Int := kx c.s c.a
def standC (r : Option Sg) : Cu := ⟨r.isSome, (oS r).ls, (oS r).la⟩
def curC (c : Cu) (r : Option Sg) : Cu := if c.on then standC r else c
def rightD (n : Int) : Bool := decide (n = 0) || (decide (2 ≤ n) && decide (n ≤ 64))
def do8L (room : Int) (o : Op8) (l : List Sg) : List Sg := do6L room o.six l
def do8C (o : Op8) (l : List Sg) (c : Cu) : Cu :=
 if o.k = 3 then standC (nearS true true (ky o.s) l) else if o.k = 4 then curC c (nearS true false c.key l) else if o.k = 5 then curC c (nearS false false c.key l) else c
def do8S (o : Op8) (l : List Sg) (c : Cu) : Option Sg := if o.k = 6 then (if c.on then getS c.key l else none) else none
def do8B (o : Op8) (l : List Sg) (c : Cu) : Bool :=
 if o.k = 3 then (nearS true true (ky o.s) l).isSome else if o.k = 4 then c.on && (nearS true false c.key l).isSome else if o.k = 5 then c.on && (nearS false false c.key l).isSome else
 if o.k = 6 then c.on && (getS c.key l).isSome else do6B o.six l
def do8E (room : Int) (o : Op8) (l : List Sg) : Int := if o.k = 7 then (if rightD o.n then 0 else 1) else do6E room o.six l
def do8D (o : Op8) (d : Nat) : Nat := if o.k = 7 then (if rightD o.n then o.n.toNat else d) else d
def ansL (s : Sg) (b : Bool) (e : Int) : List Value := [.int .i64 s.ls, .int .i64 s.la, .int .i64 s.hs, .int .i64 s.ha, .int .i64 s.v, .bool b, .int .i64 e]
def ans8 (room : Int) (o : Op8) (l : List Sg) (c : Cu) : List Value := ansL (oS (do8S o l c)) (do8B o l c) (do8E room o l)
theorem boxO8 (w : World) (o : Op8) : ∃ w0, w.alloc (.cells (encO8 o).toArray 59) = w0 ∧ w0.heap[w.heap.size]? = some (.cells (encO8 o).toArray 59 (0, 0)) ∧ Mod (fun _ => False) w w0 :=
 ⟨_, rfl, alloc_0 _ _, (Mod.refl _ _).alloc _⟩
def GOp8 (o : Op8) : Prop := fit64 o.k ∧ fit64 o.n ∧ GOp6 o.six
theorem fitOp8 (cs : List Value) (h : Fit [.int .i64, .int .i64, .int .i64, .int .i64, .int .i64, .int .i64, .int .i64] cs) : ∃ b, encO8 b = cs ∧ GOp8 b := by
 obtain ⟨v, vs, rfl, ⟨n, rfl, hn⟩, h2⟩ := h.cons_inv
 obtain ⟨v0, vs0, rfl, ⟨n0, rfl, hn0⟩, g2⟩ := h2.cons_inv
 obtain ⟨v2, vs2, rfl, ⟨n2, rfl, hn2⟩, h3⟩ := g2.cons_inv
 obtain ⟨v3, vs3, rfl, ⟨n3, rfl, hn3⟩, h4⟩ := h3.cons_inv
 obtain ⟨v4, vs4, rfl, ⟨n4, rfl, hn4⟩, h5⟩ := h4.cons_inv
 obtain ⟨v5, vs5, rfl, ⟨n5, rfl, hn5⟩, h6⟩ := h5.cons_inv
 obtain ⟨v6, vs6, rfl, ⟨n6, rfl, hn6⟩, h7⟩ := h6.cons_inv
 obtain rfl := h7.nil_inv
 exact ⟨⟨n, n0, n2, n3, n4, n5, n6⟩, rfl, wf64 hn, wf64 hn0, wf64 hn, wf64 hn2, wf64 hn3, wf64 hn4, wf64 hn5, wf64 hn6⟩
theorem RdS.op8 {w W : World} {b o : Nat} {zs : List Op8} {k : Nat} (hc : ∀ i z, zs[i]? = some z → ∀ j u, (encO8 z)[j]? = some u → w.cell? ⟨b, o + i * 7 + j, none⟩ = some u) (B : Below w.heap.size w W) (hk : k < zs.length) :
  W.cell? ⟨b, o + k * 7, none⟩ = some (.int .i64 zs[k].k) ∧ W.cell? ⟨b, o + k * 7 + 1, none⟩ = some (.int .i64 zs[k].n) ∧ W.cell? ⟨b, o + k * 7 + 2, none⟩ = some (.int .i64 zs[k].s.ls) ∧ W.cell? ⟨b, o + k * 7 + 3, none⟩ = some (.int .i64 zs[k].s.la) ∧
  W.cell? ⟨b, o + k * 7 + 4, none⟩ = some (.int .i64 zs[k].s.hs) ∧ W.cell? ⟨b, o + k * 7 + 5, none⟩ = some (.int .i64 zs[k].s.ha) ∧ W.cell? ⟨b, o + k * 7 + 6, none⟩ = some (.int .i64 zs[k].s.v) := by
 have h : ∀ j u, (encO8 zs[k])[j]? = some u → w.cell? ⟨b, o + k * 7 + j, none⟩ = some u := fun j u hu => hc k zs[k] (by simp [hk]) j u hu
 have g : ∀ j u, (encO8 zs[k])[j]? = some u → W.cell? ⟨b, o + k * 7 + j, none⟩ = some u := fun j u hu =>
  (B.cell (p := ⟨b, o + k * 7 + j, none⟩) (World.block_lt_of_cell? w _ (h j u hu))).trans (h j u hu)
 exact ⟨g 0 _ rfl, g 1 _ rfl, g 2 _ rfl, g 3 _ rfl, g 4 _ rfl, g 5 _ rfl, g 6 _ rfl⟩
theorem nearS_mem {d own : Bool} {k : Int} {l : List Sg} {s : Sg} (h : nearS d own k l = some s) : s ∈ l := by
 unfold nearS at h
 split at h
 ·exact (List.mem_filter.1 (List.mem_of_mem_head? (by simpa using h))).1
 ·exact (List.mem_filter.1 (List.mem_of_getLast? h)).1
theorem stand_fit {l : List Sg} (hr : Row l) {d own : Bool} {k : Int} : fit64 (standC (nearS d own k l)).a := by
 unfold standC
 cases h : nearS d own k l with
 | none => unfold oS zSg fit64; decide
 | some s => exact (hr.2 s (nearS_mem h)).2
theorem do8C_fit {l : List Sg} (hr : Row l) (o : Op8) {c : Cu} (hc : fit64 c.a) : fit64 (do8C o l c).a := by
 unfold do8C curC
 split
 ·exact stand_fit hr
 ·split
  ·split
   ·exact stand_fit hr
   ·exact hc
  ·split
   ·split
    ·exact stand_fit hr
    ·exact hc
   ·exact hc
open Go Go.RowKit
theorem nanZ (x : Int) (w : World) : Calls Tryz.prog 74 #[.int .i64 x] w fun e w' => e = .returned (.bool false) ∧ w' = w := by
 go_enter Tryz.func74, Tryz.ntmps74
 go_wp2
 go_ret
 exact ⟨by simp, rfl⟩
theorem nan64Z (x : Int) (w : World) : Calls Tryz.prog 75 #[.int .i64 x] w fun e w' => e = .returned (.bool false) ∧ w' = w := by
 go_enter Tryz.func75, Tryz.ntmps75
 go_wp2
 go_ret
 exact ⟨by simp, rfl⟩
theorem cmpIZ (x y : Int) (w : World) : Calls Tryz.prog 60 #[.int .i64 x, .int .i64 y] w fun e w' => e = .returned (.int .i64 (cmpI x y)) ∧ w' = w := by
 have H1 := nanZ x w
 have H2 := nanZ y w
 rcases Int.lt_trichotomy x y with h | h | h
 ·rw [show cmpI x y = -1 by unfold cmpI; rw [if_pos h]]
  go_enter Tryz.func60, Tryz.ntmps60
  go_wp2_with fail
  refine H1.mono ?_; rintro e w' ⟨rfl, hw⟩; subst hw
  go_wp2_with fail
  refine H2.mono ?_; rintro e w' ⟨rfl, hw⟩; subst hw
  go_wp2_with fail
  go_ret
  exact ⟨rfl, rfl⟩
 ·subst h
  rw [show cmpI x x = 0 by unfold cmpI; simp]
  go_enter Tryz.func60, Tryz.ntmps60
  go_wp2_with fail
  refine H1.mono ?_; rintro e w' ⟨rfl, hw⟩; subst hw
  go_wp2_with fail
  refine H2.mono ?_; rintro e w' ⟨rfl, hw⟩; subst hw
  go_wp2_with fail
  go_ret
  exact ⟨rfl, rfl⟩
 ·rw [show cmpI x y = 1 by unfold cmpI; rw [if_neg (by omega), if_pos h]]
  have h' : ¬ x < y := by omega
  go_enter Tryz.func60, Tryz.ntmps60
  go_wp2_with fail
  refine H1.mono ?_; rintro e w' ⟨rfl, hw⟩; subst hw
  go_wp2_with fail
  refine H2.mono ?_; rintro e w' ⟨rfl, hw⟩; subst hw
  go_wp2_with fail
  go_ret
  exact ⟨rfl, rfl⟩
theorem cmpLZ (x y : Int) (w : World) : Calls Tryz.prog 61 #[.int .i64 x, .int .i64 y] w fun e w' => e = .returned (.int .i64 (cmpI x y)) ∧ w' = w := by
 have H1 := nan64Z x w
 have H2 := nan64Z y w
 rcases Int.lt_trichotomy x y with h | h | h
 ·rw [show cmpI x y = -1 by unfold cmpI; rw [if_pos h]]
  go_enter Tryz.func61, Tryz.ntmps61
  go_wp2_with fail
  refine H1.mono ?_; rintro e w' ⟨rfl, hw⟩; subst hw
  go_wp2_with fail
  refine H2.mono ?_; rintro e w' ⟨rfl, hw⟩; subst hw
  go_wp2_with fail
  go_ret
  exact ⟨rfl, rfl⟩
 ·subst h
  rw [show cmpI x x = 0 by unfold cmpI; simp]
  go_enter Tryz.func61, Tryz.ntmps61
  go_wp2_with fail
  refine H1.mono ?_; rintro e w' ⟨rfl, hw⟩; subst hw
  go_wp2_with fail
  refine H2.mono ?_; rintro e w' ⟨rfl, hw⟩; subst hw
  go_wp2_with fail
  go_ret
  exact ⟨rfl, rfl⟩
 ·rw [show cmpI x y = 1 by unfold cmpI; rw [if_neg (by omega), if_pos h]]
  have h' : ¬ x < y := by omega
  go_enter Tryz.func61, Tryz.ntmps61
  go_wp2_with fail
  refine H1.mono ?_; rintro e w' ⟨rfl, hw⟩; subst hw
  go_wp2_with fail
  refine H2.mono ?_; rintro e w' ⟨rfl, hw⟩; subst hw
  go_wp2_with fail
  go_ret
  exact ⟨rfl, rfl⟩
theorem firstZ (w : World) : Calls Tryz.prog 72 #[] w fun e w' => e = .returned (.agg #[.int .i64 (-1), .int .i64 0]) ∧ Mod (fun _ => False) w w' := by
 go_enter Tryz.func72, Tryz.ntmps72
 go_wp2
 exact ret_row w.heap.size [.int .i64 (-1), .int .i64 0] rfl rfl (alloc_0 _ _) Tryz.underlying34 rfl (by kernel_rfl) rfl ⟨rfl, (Mod.refl _ _).alloc _⟩
theorem lastZ (w : World) : Calls Tryz.prog 73 #[] w fun e w' => e = .returned (.agg #[.int .i64 1, .int .i64 0]) ∧ Mod (fun _ => False) w w' := by
 go_enter Tryz.func73, Tryz.ntmps73
 go_wp2
 exact ret_row w.heap.size [.int .i64 1, .int .i64 0] rfl rfl (alloc_0 _ _) Tryz.underlying34 rfl (by kernel_rfl) rfl ⟨rfl, (Mod.refl _ _).alloc _⟩
theorem box2 (w : World) (x y u v : Value) (t t' : TypeId) : ∃ w0, (w.alloc (.cells #[x, y] t)).alloc (.cells #[u, v] t') = w0 ∧ w0.heap[w.heap.size]? = some (.cells #[x, y] t (0, 0)) ∧ w0.heap[w.heap.size + 1]? = some (.cells #[u, v] t' (0, 0)) ∧ Mod (fun _ => False) w w0 :=
 ⟨_, rfl, alloc2_0 _ _ _, alloc2_1 _ _ _, ((Mod.refl _ _).alloc _).alloc _⟩
set_option maxHeartbeats 1000000 in
theorem canonZ (s a : Int) (w : World) : Calls Tryz.prog 58 #[.agg #[.int .i64 s, .int .i64 a]] w fun e w' => e = .returned (.agg #[.int .i64 (canS s a), .int .i64 (canA s a)]) ∧ Mod (fun _ => False) w w' := by
 obtain ⟨w0, hw0, b0, b1, M0⟩ := box2 w (.int .i64 s) (.int .i64 a) (.int .i64 0) (.int .i64 0) 34 34
 obtain ⟨d0, e0⟩ := blkc b0
 obtain ⟨d1, e1⟩ := blkc b1
 by_cases h1 : s < 0 ∨ (s = 0 ∧ a = least64)
 ·rw [show canS s a = -1 by unfold canS; rw [if_pos h1], show canA s a = 0 by unfold canA; rw [if_pos h1]]
  have H := firstZ w0
  have fin : ∀ w', Mod (fun _ => False) w0 w' → ((w'.setCell ⟨w.heap.size + 1, 0, none⟩ (.int .i64 (-1))).setCell ⟨w.heap.size + 1, 1, none⟩ (.int .i64 0)).heap[w.heap.size + 1]? = some (.cells #[.int .i64 (-1), .int .i64 0] 34 (0, 0)) :=
   fun w' M => setL_whole (cs := [.int .i64 0, .int .i64 0]) (us := [.int .i64 (-1), .int .i64 0]) (M.heap b1 fun h => h) rfl
  replace fin := hid fin
  rcases h1 with h1 | ⟨rfl, rfl⟩
  ·go_enter Tryz.func58, Tryz.ntmps58
   go_wp2_with fail
   refine H.mono ?_; rintro e w' ⟨rfl, M1⟩
   obtain ⟨d2, e2⟩ := blkc (M1.heap b1 fun h => h)
   go_wp2_with fail
   exact ret_row (w.heap.size + 1) [.int .i64 (-1), .int .i64 0] rfl rfl (fin.out _ M1) Tryz.underlying34 rfl (by kernel_rfl) rfl ⟨rfl, ((M0.trans' M1).setCell (.inr (by simp)) _).setCell (.inr (by simp)) _⟩
  ·unfold least64 at hw0 d0 ⊢
   go_enter Tryz.func58, Tryz.ntmps58
   go_wp2_with fail
   refine H.mono ?_; rintro e w' ⟨rfl, M1⟩
   obtain ⟨d2, e2⟩ := blkc (M1.heap b1 fun h => h)
   go_wp2_with fail
   exact ret_row (w.heap.size + 1) [.int .i64 (-1), .int .i64 0] rfl rfl (fin.out _ M1) Tryz.underlying34 rfl (by kernel_rfl) rfl ⟨rfl, ((M0.trans' M1).setCell (.inr (by simp)) _).setCell (.inr (by simp)) _⟩
 ·by_cases h2 : 0 < s
  ·rw [show canS s a = 1 by unfold canS; rw [if_neg h1, if_pos h2], show canA s a = 0 by unfold canA; rw [if_neg h1, if_pos h2]]
   have H := lastZ w0
   have fin : ∀ w', Mod (fun _ => False) w0 w' → ((w'.setCell ⟨w.heap.size + 1, 0, none⟩ (.int .i64 1)).setCell ⟨w.heap.size + 1, 1, none⟩ (.int .i64 0)).heap[w.heap.size + 1]? = some (.cells #[.int .i64 1, .int .i64 0] 34 (0, 0)) :=
    fun w' M => setL_whole (cs := [.int .i64 0, .int .i64 0]) (us := [.int .i64 1, .int .i64 0]) (M.heap b1 fun h => h) rfl
   replace fin := hid fin
   have h3 : ¬ s < 0 := by omega
   have h4 : ¬ s = 0 := by omega
   have h5 : (s == 0) = false := by simpa using h4
   clear h1
   go_enter Tryz.func58, Tryz.ntmps58
   go_wp2_with fail
   refine H.mono ?_; rintro e w' ⟨rfl, M1⟩
   obtain ⟨d2, e2⟩ := blkc (M1.heap b1 fun h => h)
   go_wp2_with fail
   exact ret_row (w.heap.size + 1) [.int .i64 1, .int .i64 0] rfl rfl (fin.out _ M1) Tryz.underlying34 rfl (by kernel_rfl) rfl ⟨rfl, ((M0.trans' M1).setCell (.inr (by simp)) _).setCell (.inr (by simp)) _⟩
  ·obtain rfl : s = 0 := by omega
   have h3 : ¬ a = least64 := fun e => h1 (.inr ⟨rfl, e⟩)
   rw [show canS 0 a = 0 by unfold canS; rw [if_neg h1, if_neg h2], show canA 0 a = a by unfold canA; rw [if_neg h1, if_neg h2]]
   have fin : ((w0.setCell ⟨w.heap.size + 1, 0, none⟩ (.int .i64 0)).setCell ⟨w.heap.size + 1, 1, none⟩ (.int .i64 a)).heap[w.heap.size + 1]? = some (.cells #[.int .i64 0, .int .i64 a] 34 (0, 0)) :=
    setL_whole (cs := [.int .i64 0, .int .i64 0]) (us := [.int .i64 0, .int .i64 a]) b1 rfl
   replace fin := hid fin
   unfold least64 at h3
   have h5 : (a == -9223372036854775808) = false := by simpa using h3
   clear h1 h2
   go_enter Tryz.func58, Tryz.ntmps58
   go_wp2_with fail
   exact ret_row (w.heap.size + 1) [.int .i64 0, .int .i64 a] rfl rfl fin.out Tryz.underlying34 rfl (by kernel_rfl) rfl ⟨rfl, (M0.setCell (.inr (by simp)) _).setCell (.inr (by simp)) _⟩
set_option maxHeartbeats 1000000 in
theorem rightZ (s a : Int) (w : World) : Calls Tryz.prog 122 #[.agg #[.int .i64 s, .int .i64 a]] w fun e w' => e = .returned (.bool (decide (canS s a = s ∧ canA s a = a))) ∧ Mod (fun _ => False) w w' := by
 have b0 := alloc_0 w (.cells #[.int .i64 s, .int .i64 a] 34)
 have M0 : Mod (fun _ => False) w (w.alloc (.cells #[.int .i64 s, .int .i64 a] 34)) := (Mod.refl _ _).alloc _
 obtain ⟨w0, hw0⟩ : ∃ w0, w.alloc (.cells #[.int .i64 s, .int .i64 a] 34) = w0 := ⟨_, rfl⟩
 rw [hw0] at b0 M0
 obtain ⟨d0, e0⟩ := blkc b0
 obtain ⟨s', hs⟩ : ∃ s', canS s a = s' := ⟨_, rfl⟩
 obtain ⟨a', ha⟩ : ∃ a', canA s a = a' := ⟨_, rfl⟩
 have CZ := fun w => canonZ s a w
 rw [hs, ha] at CZ ⊢
 clear hs ha
 by_cases h1 : s' = s
 ·subst h1
  by_cases h2 : a' = a
  ·subst h2
   go_enter Tryz.func122, Tryz.ntmps122
   go_wp2_with fail
   go_region_held3 (fun w' => w'.cell? ⟨w.heap.size, 0, none⟩ = some (.int .i64 s') ∧ w'.cell? ⟨w.heap.size, 1, none⟩ = some (.int .i64 a')) (first | exact ⟨d1 0, d1 1⟩ | exact ⟨d0 0, d0 1⟩)
    (first
    | (go_at_call 58; refine (CZ _).mono ?_; rintro e w1 ⟨rfl, M1⟩; replace M1 := M1.of_drew; obtain ⟨d1, e1⟩ := blkc (M1.heap b0 fun h => h)))
   go_wp2_with fail
   go_ret
   exact ⟨by simp, M0.trans' M1⟩
  ·have h3 : (a' == a) = false := by simpa using h2
   go_enter Tryz.func122, Tryz.ntmps122
   go_wp2_with fail
   go_region_held3 (fun w' => w'.cell? ⟨w.heap.size, 0, none⟩ = some (.int .i64 s') ∧ w'.cell? ⟨w.heap.size, 1, none⟩ = some (.int .i64 a)) (first | exact ⟨d1 0, d1 1⟩ | exact ⟨d0 0, d0 1⟩)
    (first
    | (go_at_call 58; refine (CZ _).mono ?_; rintro e w1 ⟨rfl, M1⟩; replace M1 := M1.of_drew; obtain ⟨d1, e1⟩ := blkc (M1.heap b0 fun h => h)))
   go_wp2_with fail
   go_ret
   exact ⟨by simp [h2], M0.trans' M1⟩
 ·have h3 : (s' == s) = false := by simpa using h1
  go_enter Tryz.func122, Tryz.ntmps122
  go_wp2_with fail
  go_region_held3 (fun w' => w'.cell? ⟨w.heap.size, 0, none⟩ = some (.int .i64 s) ∧ w'.cell? ⟨w.heap.size, 1, none⟩ = some (.int .i64 a)) (first | exact ⟨d1 0, d1 1⟩ | exact ⟨d0 0, d0 1⟩)
   (first
   | (go_at_call 58; refine (CZ _).mono ?_; rintro e w1 ⟨rfl, M1⟩; replace M1 := M1.of_drew; obtain ⟨d1, e1⟩ := blkc (M1.heap b0 fun h => h)))
  go_wp2_with fail
  go_ret
  exact ⟨by simp [h1], M0.trans' M1⟩
theorem orZ (x y : Int) (w : World) (g : Nat) (t : TypeId) (h : w.heap[g]? = some (.cells #[.int .i64 x, .int .i64 y] t (0, 0))) :
  Calls Tryz.prog 59 #[.slice (some ⟨g, 0, none⟩) 2 2] w fun e w' => e = .returned (.int .i64 (orI x y)) ∧ w' = w := by
 obtain ⟨d0, e0⟩ := blkc h
 have d00 := d0 0
 have d01 := d0 1
 clear h d0
 by_cases hx : x = 0
 ·subst hx
  by_cases hy : y = 0
  ·subst hy
   go_enter Tryz.func59, Tryz.ntmps59
   go_wp2_with fail
   go_loop [8] (fun k => ∃ n : Nat, n ≤ 2 ∧ k = .int .i64 n) (fun k => 2 - (intOf k).toNat)
   case atStart => exact ⟨0, by omega, rfl⟩
   case round =>
    obtain ⟨n, hn, rfl⟩ := hrel
    have : n = 0 ∨ n = 1 ∨ n = 2 := by omega
    rcases this with rfl | rfl | rfl
    ·go_wp2_with fail
     go_round
     case rel => exact ⟨1, by omega, rfl⟩
     case measure => simp [intOf]
    ·go_wp2_with fail
     go_round
     case rel => exact ⟨2, by omega, rfl⟩
     case measure => simp [intOf]
    ·go_wp2_with fail
     go_ret
     exact ⟨rfl, rfl⟩
  ·rw [show orI 0 y = y by simp [orI]]
   have hy' : (y != 0) = true := by simpa using hy
   go_enter Tryz.func59, Tryz.ntmps59
   go_wp2_with fail
   go_loop [8] (fun k => ∃ n : Nat, n ≤ 1 ∧ k = .int .i64 n) (fun k => 2 - (intOf k).toNat)
   case atStart => exact ⟨0, by omega, rfl⟩
   case round =>
    obtain ⟨n, hn, rfl⟩ := hrel
    have : n = 0 ∨ n = 1 := by omega
    rcases this with rfl | rfl
    ·go_wp2_with fail
     go_round
     case rel => exact ⟨1, by omega, rfl⟩
     case measure => simp [intOf]
    ·go_wp2_with fail
     go_ret
     exact ⟨rfl, rfl⟩
 ·rw [show orI x y = x by simp [orI, hx]]
  have hx' : (x != 0) = true := by simpa using hx
  go_enter Tryz.func59, Tryz.ntmps59
  go_wp2_with fail
  go_loop [8] (fun k => k = .int .i64 0) (fun k => 2 - (intOf k).toNat)
  case atStart => rfl
  case round =>
   obtain rfl := hrel
   go_wp2_with fail
   go_ret
   exact ⟨rfl, rfl⟩
theorem store22 {w W : World} {g : Nat} {x y u v p q p' q' : Value} {t t' : TypeId} (b0 : W.heap[g]? = some (.cells #[x, y] t (0, 0))) (b1 : W.heap[g + 1]? = some (.cells #[u, v] t' (0, 0))) (hg : w.heap.size ≤ g) (M : Mod (fun _ => False) w W) :
  (fun W' : World => W'.heap[g]? = some (.cells #[p, q] t (0, 0)) ∧ W'.heap[g + 1]? = some (.cells #[p', q'] t' (0, 0)) ∧ Mod (fun _ => False) w W') ((((W.setCell ⟨g, 0, none⟩ p).setCell ⟨g, 1, none⟩ q).setCell ⟨g + 1, 0, none⟩ p').setCell ⟨g + 1, 1, none⟩ q') := by
 refine ⟨?_, ?_, ?_⟩
 ·rw [heap_set_ne (by simp), heap_set_ne (by simp)]
  exact setL_whole (cs := [x, y]) (us := [p, q]) b0 rfl
 ·refine setL_whole (cs := [u, v]) (us := [p', q']) ?_ rfl
  rw [heap_set_ne (by simp), heap_set_ne (by simp)]; exact b1
 ·exact (((M.setCell (.inr hg) _).setCell (.inr hg) _).setCell (.inr (by simp; omega)) _).setCell (.inr (by simp; omega)) _
set_option maxHeartbeats 1000000 in
theorem compareZ {s a s' a' : Int} (hf : fit64 a) (hf' : fit64 a') (w : World) : Calls Tryz.prog 50 #[.agg #[.int .i64 s, .int .i64 a], .agg #[.int .i64 s', .int .i64 a']] w fun e w' => e = .returned (.int .i64 (cmpI (kx s a) (kx s' a'))) ∧ Mod (fun _ => False) w w' := by
 rw [can_lex hf hf']
 obtain ⟨w0, hw0, b0, b1, M0⟩ := box2 w (.int .i64 s) (.int .i64 a) (.int .i64 s') (.int .i64 a') 34 34
 obtain ⟨d0, e0⟩ := blkc b0
 obtain ⟨d1, e1⟩ := blkc b1
 have HC := hid (fun (w1 : World) => canonZ s a w1)
 have HD := hid (fun (w1 : World) => canonZ s' a' w1)
 generalize canS s a = p, canA s a = q, canS s' a' = p', canA s' a' = q' at HC HD ⊢
 have HC := hid (fun (w1 : World) (M : Mod (fun _ => False) w0 w1) => (HC.out w1).mono fun e w' ⟨h1, M2⟩ => (⟨h1, M.trans' M2⟩ : e = Ending.returned (.agg #[.int .i64 p, .int .i64 q]) ∧ Mod (fun _ => False) w0 w'))
 have HD := hid (fun (w1 : World) (M : Mod (fun _ => False) w0 w1) => (HD.out w1).mono fun e w' ⟨h1, M2⟩ => (⟨h1, M.trans' M2⟩ : e = Ending.returned (.agg #[.int .i64 p', .int .i64 q']) ∧ Mod (fun _ => False) w0 w'))
 have HB := hid (fun (w1 : World) (M : Mod (fun _ => False) w0 w1) => And.intro (blkc (M.heap b0 fun h => h)) (blkc (M.heap b1 fun h => h)))
 have HE := hid (fun (w1 : World) (M : Mod (fun _ => False) w0 w1) => store22 (p := .int .i64 p) (q := .int .i64 q) (p' := .int .i64 p') (q' := .int .i64 q') (M.heap b0 fun h => h) (M.heap b1 fun h => h) (Nat.le_refl _) (M0.trans' M))
 have ME : Mod (fun _ => False) w0 w0.drew := (Mod.refl _ _).drew
 go_enter Tryz.func50, Tryz.ntmps50
 go_upto_region 1 with fail
 go_cut [] (fun W => W.heap[w.heap.size]? = some (.cells #[.int .i64 p, .int .i64 q] 34 (0, 0)) ∧ W.heap[w.heap.size + 1]? = some (.cells #[.int .i64 p', .int .i64 q'] 34 (0, 0)) ∧ Mod (fun _ => False) w W)
 case first =>
  go_region_with (first
   | (go_at_call_of 58 (Value.agg #[.int .i64 s, .int .i64 a]); refine (HC.out _ (by assumption)).mono ?_; rintro e w1 ⟨rfl, M1⟩; obtain ⟨⟨d2, e2⟩, d4, e4⟩ := HB.out _ M1)
   | (go_at_call_of 58 (Value.agg #[.int .i64 s', .int .i64 a']); refine (HD.out _ (by assumption)).mono ?_; rintro e w2 ⟨rfl, M2⟩; obtain ⟨⟨d3, e3⟩, d5, e5⟩ := HB.out _ M2))
  all_goals go_wp2_with fail
  all_goals go_meet
  all_goals exact HE.out _ (by assumption)
 case rest =>
  obtain ⟨b2, b3, M3⟩ := hcut
  clear HB HC HD HE ME M0 d0 d1 e0 e1 b0 b1 hw0
  obtain ⟨d0, e0⟩ := blkc b2
  obtain ⟨d1, e1⟩ := blkc b3
  have H1 := cmpIZ p p'
  have H2 := cmpLZ q q'
  go_wp2_with fail
  refine wp_region_quiet_tail 10 (by kernel_rfl) (by kernel_rfl) ?_
  simp only [List.take_succ_cons, List.take_zero, List.drop_succ_cons, List.drop_zero]
  repeat (any_goals (first | go_big_quiet_step ((first | (go_at_call 60; exact Calls.quiet_of_same (H1 _)) | (go_at_call 61; exact Calls.quiet_of_same (H2 _)))) | quiet_step ((first | (go_at_call 60; exact Calls.quiet_of_same (H1 _)) | (go_at_call 61; exact Calls.quiet_of_same (H2 _))))))
  refine wpQuiet_nil ?_
  rintro W6 ⟨nq, rfl⟩
  clear H1 H2 d0 d1 e0 e1
  go_wp2_with fail
  refine (orZ _ _ _ wc.heap.size _ (alloc_0 (wc.drewN nq) _)).mono ?_
  rintro e w' ⟨rfl, hw⟩; subst hw
  go_wp2_with fail
  go_ret
  exact ⟨rfl, (M3.drewN nq).alloc _⟩
end Go.Proofs.Bo
