import Derived.WalkKit
import Derived.Deep.QuietTactic
import Derived.BigQuiet
import Derived.Maps.AppendAt
import Derived.Deep.AppendLies
import Derived.Laws.AppendOwnNone
import Derived.Laws.ResultCell
import Derived.StillTail
import Derived.Deep.Quiet
import Derived.ProofKit
import Derived.OpenShut
import Derived.ShutString
import Derived.ChangeOld
import Derived.SizedLaws
import Derived.Deep.Slices
import Derived.Deep.Fields
import Derived.ChangeSlices
set_option linter.unusedVariables false
set_option linter.unusedSimpArgs false
namespace Go.Proofs.Bo
open Go Go.RowKit

/-- What has changed: blocks of S alone, and new ones. -/
structure Mod (S : Nat → Prop) (w w' : World) : Prop where
  os : w'.os = w.os
  tape : w'.tape = w.tape
  output : w'.output = w.output
  size : w.heap.size ≤ w'.heap.size
  block : ∀ k, k < w.heap.size → ¬ S k → w'.heap[k]? = w.heap[k]?

theorem Mod.refl (S : Nat → Prop) (w : World) : Mod S w w := ⟨rfl, rfl, rfl, Nat.le_refl _, fun _ _ _ => rfl⟩
theorem Mod.trans {S T : Nat → Prop} {a b c : World} (h : Mod S a b) (k : Mod T b c) (hs : ∀ i, T i → S i ∨ a.heap.size ≤ i) : Mod S a c :=
  ⟨k.os.trans h.os, k.tape.trans h.tape, k.output.trans h.output, Nat.le_trans h.size k.size, fun i hi hn => (k.block i (Nat.lt_of_lt_of_le hi h.size) (fun ht => by rcases hs i ht with h1 | h1; exact hn h1; omega)).trans (h.block i hi hn)⟩
theorem Mod.trans' {S : Nat → Prop} {a b c : World} (h : Mod S a b) (k : Mod S b c) : Mod S a c := h.trans k fun _ h => .inl h
theorem Mod.mono {S T : Nat → Prop} {a b : World} (h : Mod S a b) (hs : ∀ i, S i → T i ∨ a.heap.size ≤ i) : Mod T a b :=
  ⟨h.os, h.tape, h.output, h.size, fun i hi hn => h.block i hi (fun h1 => by rcases hs i h1 with h2 | h2; exact hn h2; omega)⟩
theorem Mod.of_below {S : Nat → Prop} {w w' : World} (h : Below w.heap.size w w') : Mod S w w' := ⟨h.os, h.tape, h.output, h.size, fun k hk _ => h.block k hk⟩
theorem Mod.to_below {S : Nat → Prop} {B : Nat} {w w' : World} (h : Mod S w w') (hB : B ≤ w.heap.size) (hs : ∀ k, S k → B ≤ k) : Below B w w' :=
  ⟨h.os, h.tape, h.output, h.size, fun k hk => h.block k (by omega) (fun h1 => by have := hs k h1; omega)⟩
theorem Mod.alloc {S : Nat → Prop} {a w : World} (h : Mod S a w) (o : Obj) : Mod S a (w.alloc o) :=
  h.trans (T := fun _ => False) ⟨rfl, rfl, rfl, by simp, fun k hk _ => Below.heap_alloc _ _ _ hk⟩ (fun _ h => h.elim)
theorem Mod.drew {S : Nat → Prop} {a w : World} (h : Mod S a w) : Mod S a w.drew := ⟨h.os, h.tape, h.output, h.size, h.block⟩
theorem Mod.drewN {S : Nat → Prop} {a w : World} (h : Mod S a w) (n : Nat) : Mod S a (w.drewN n) := ⟨h.os, h.tape, h.output, h.size, h.block⟩
theorem Mod.setCell {S : Nat → Prop} {a w : World} (h : Mod S a w) {p : Addr} (hp : S p.block ∨ a.heap.size ≤ p.block) (u : Value) : Mod S a (w.setCell p u) :=
  h.trans (T := fun k => k = p.block) ⟨rfl, rfl, rfl, by simp [World.setCell], fun k hk hn => Below.heap_setCell _ _ _ _ hn⟩ (fun i hi => by subst hi; exact hp)
theorem Mod.grown {S : Nat → Prop} {a w w' : World} {row : Option Nat} (h : Mod S a w) (hg : w.grownBy w' row) (hr : ∀ k, row = some k → S k ∨ a.heap.size ≤ k) : Mod S a w' :=
  h.trans (T := fun k => row = some k) ⟨hg.os, hg.tape, hg.output, hg.size, fun k hk hn => hg.block k hk (fun e => hn e.symm)⟩ hr
theorem Mod.heap {S : Nat → Prop} {w w' : World} (h : Mod S w w') {k : Nat} {o : Obj} (ho : w.heap[k]? = some o) (hn : ¬ S k) : w'.heap[k]? = some o :=
  (h.block k (Array.getElem?_eq_some_iff.1 ho).1 hn).trans ho
theorem Mod.cell {S : Nat → Prop} {w w' : World} (h : Mod S w w') {a : Addr} {v : Value} (ho : w.cell? a = some v) (hn : ¬ S a.block) : w'.cell? a = some v :=
  (World.cell?_of_block (h.block a.block (World.block_lt_of_cell? w a ho) hn)).trans ho

/-- A row that is owned depends on its own block alone. -/
theorem own_keep {w w' : World} {base : Nat} {e : TypeId} {size : Nat} {v : Value} {n : Nat} {xs : List Value} (h : w.ownsRow base e size v n xs)
    (hk : ∀ k, v.ownBlock = some k → w'.heap[k]? = w.heap[k]?) : w'.ownsRow base e size v n xs := by
  refine ⟨h.1, ?_⟩
  rcases h.2 with h2 | ⟨g, cap, cur, hv, hg, hh, r⟩
  · exact .inl h2
  · exact .inr ⟨g, cap, cur, hv, hg, (hk g (by rw [hv]; rfl)).trans hh, r⟩

theorem own_lt {w : World} {base : Nat} {e : TypeId} {size : Nat} {v : Value} {n : Nat} {xs : List Value} (h : w.ownsRow base e size v n xs) {k : Nat} (hk : v.ownBlock = some k) : k < w.heap.size := (h.lt k hk).2

theorem own_mod {S : Nat → Prop} {w w' : World} {base : Nat} {e : TypeId} {size : Nat} {v : Value} {n : Nat} {xs : List Value} (h : w.ownsRow base e size v n xs) (hm : Mod S w w')
    (hk : ∀ k, v.ownBlock = some k → ¬ S k) : w'.ownsRow base e size v n xs := own_keep h fun k e => hm.block k (own_lt h e) (hk k e)

/-- What a row's block is. -/
theorem own_type {w : World} {base : Nat} {e : TypeId} {size : Nat} {v : Value} {n : Nat} {xs : List Value} (h : w.ownsRow base e size v n xs) {k : Nat} (hk : v.ownBlock = some k) : ∃ cs, w.heap[k]? = some (.cells cs e (0, 0)) := by
  rcases h.2 with ⟨rfl, _⟩ | ⟨g, cap, cur, rfl, hg, hh, r⟩
  · simp [Value.ownBlock] at hk
  · simp [Value.ownBlock] at hk; subst hk; exact ⟨_, hh⟩

theorem own_slice {w : World} {base : Nat} {e : TypeId} {size : Nat} {v : Value} {n : Nat} {xs : List Value} (h : w.ownsRow base e size v n xs) :
    (∃ A c, v = .slice A n c ∧ n ≤ c ∧ c ≤ maxLen ∧ (0 < n → ∃ g, A = some ⟨g, 0, none⟩)) := by
  rcases h.2 with ⟨rfl, rfl⟩ | ⟨g, cap, cur, rfl, hg, hh, r, r2, _⟩
  · exact ⟨none, 0, rfl, Nat.le_refl _, by unfold maxLen; omega, fun h => by omega⟩
  · exact ⟨_, cap, rfl, r, r2, fun _ => ⟨g, rfl⟩⟩

/-- A cell of a row. -/
theorem own_cell {w : World} {base g n c : Nat} {e : TypeId} {size : Nat} {xs : List Value} (h : w.ownsRow base e size (.slice (some ⟨g, 0, none⟩) n c) n xs) {j : Nat} {u : Value} (hu : xs[j]? = some u) :
    w.cell? ⟨g, j, none⟩ = some u ∧ w.frozen? ⟨g, j, none⟩ = false := by
  rcases h.2 with ⟨h1, _⟩ | ⟨g', cap, cur, hv, _, hh, _, _, _, ht⟩
  · cases h1
  · injection hv with h1 h2 h3
    injection h1 with h1
    injection h1 with h1
    subst h1
    refine ⟨?_, frozen_of_row w g j cur e hh⟩
    rw [cell_of_row w g j cur e (0, 0) hh]
    rw [← ht, List.getElem?_take] at hu
    split at hu
    · simpa using hu
    · cases hu

/-- A store into a row. -/
theorem own_set {w : World} {base g n c : Nat} {e : TypeId} {size : Nat} {xs : List Value} (h : w.ownsRow base e size (.slice (some ⟨g, 0, none⟩) n c) n xs) (j : Nat) (hj : j < xs.length) (u : Value) :
    (w.setCell ⟨g, j, none⟩ u).ownsRow base e size (.slice (some ⟨g, 0, none⟩) n c) n (xs.set j u) := by
  refine ⟨by simpa using h.1, ?_⟩
  rcases h.2 with ⟨h1, _⟩ | ⟨g', cap, cur, hv, hb, hh, h3, h4, h5, ht⟩
  · cases h1
  · injection hv with h1 h2 h3'
    injection h1 with h1
    injection h1 with h1
    subst h1; subst h3'
    refine .inr ⟨g, c, cur.setIfInBounds j u, rfl, hb, heap_setCell_same w g j cur e u hh, h3, h4, by simpa using h5, ?_⟩
    simp only [Array.toList_setIfInBounds]
    rw [List.take_set, ht]

/-- A row cut short. -/
theorem own_take {w : World} {base n c : Nat} {A : Option Addr} {e : TypeId} {size : Nat} {xs : List Value} (h : w.ownsRow base e size (.slice A n c) n xs) (m : Nat) (hm : m ≤ n) :
    w.ownsRow base e size (.slice A m c) m (xs.take (m * size)) := by
  have h1 := h.1
  have hle : m * size ≤ n * size := Nat.mul_le_mul_right _ hm
  refine ⟨by rw [List.length_take]; omega, ?_⟩
  rcases h.2 with ⟨h2, h3⟩ | ⟨g', cap, cur, hv, hb, hh, h3, h4, h5, ht⟩
  · cases h2; exact .inl ⟨by rw [show m = 0 by omega], by omega⟩
  · cases hv
    refine .inr ⟨g', c, cur, rfl, hb, hh, by omega, h4, h5, ?_⟩
    rw [← ht, List.take_take]
    congr 1
    omega

theorem drewN_heap (w : World) (n : Nat) : (w.drewN n).heap = w.heap := rfl
theorem own_drewN {w : World} {base : Nat} {e : TypeId} {size : Nat} {v : Value} {n : Nat} {xs : List Value} (h : w.ownsRow base e size v n xs) (m : Nat) : (w.drewN m).ownsRow base e size v n xs := own_keep h fun _ _ => rfl

end Go.Proofs.Bo
namespace Go.Proofs.Bo
open Go Go.RowKit
theorem Mod.of_drewN {S : Nat → Prop} {w w' : World} {n : Nat} (h : Mod S (w.drewN n) w') : Mod S w w' := ⟨h.os, h.tape, h.output, h.size, h.block⟩
theorem Mod.of_drew {S : Nat → Prop} {w w' : World} (h : Mod S w.drew w') : Mod S w w' := ⟨h.os, h.tape, h.output, h.size, h.block⟩
theorem Mod.lt {S : Nat → Prop} {w w' : World} (h : Mod S w w') {k : Nat} (hk : k < w.heap.size) : k < w'.heap.size := Nat.lt_of_lt_of_le hk h.size
end Go.Proofs.Bo
namespace Go.Proofs.Bo
open Go Go.RowKit
theorem pw_below_drewN' {B : Nat} {w W : World} (h : Below B w W) (n : Nat) : Below B w (W.drewN n) := ⟨h.os, h.tape, h.output, h.size, h.block⟩
end Go.Proofs.Bo
namespace Go.Proofs.Bo
open Go Go.RowKit
theorem alloc_0 (w : World) (A : Obj) : (w.alloc A).heap[w.heap.size]? = some A := heap_alloc_new w A
theorem alloc2_0 (w : World) (A B : Obj) : ((w.alloc A).alloc B).heap[w.heap.size]? = some A := heap_alloc2_old w A B
theorem alloc2_1 (w : World) (A B : Obj) : ((w.alloc A).alloc B).heap[w.heap.size + 1]? = some B := heap_alloc2_new w A B
theorem alloc3_0 (w : World) (A B C : Obj) : (((w.alloc A).alloc B).alloc C).heap[w.heap.size]? = some A := (Below.heap_alloc _ _ _ (by simp; omega)).trans (alloc2_0 w A B)
theorem alloc3_1 (w : World) (A B C : Obj) : (((w.alloc A).alloc B).alloc C).heap[w.heap.size + 1]? = some B := (Below.heap_alloc _ _ _ (by simp)).trans (alloc2_1 w A B)
theorem alloc3_2 (w : World) (A B C : Obj) : (((w.alloc A).alloc B).alloc C).heap[w.heap.size + 1 + 1]? = some C := by
  have := heap_alloc2_new (w.alloc A) B C; rwa [World.size_alloc] at this
/-- A block that is known: its cells as the walk asks for them. -/
theorem blkc {w : World} {g : Nat} {cs : Array Value} {t : TypeId} (h : w.heap[g]? = some (.cells cs t (0, 0))) : (∀ j, w.cell? ⟨g, j, none⟩ = cs[j]?) ∧ (∀ j, w.frozen? ⟨g, j, none⟩ = false) :=
  ⟨fun j => cell_of_row w g j cs t (0, 0) h, fun j => frozen_of_row w g j cs t h⟩
end Go.Proofs.Bo
namespace Go.Proofs.Bo
open Go Go.RowKit
theorem hid {p : Prop} (h : p) : Hid p := h
theorem blkl {w : World} {g : Nat} {o : Obj} (h : w.heap[g]? = some o) : g < w.heap.size := (Array.getElem?_eq_some_iff.1 h).1
end Go.Proofs.Bo
set_option linter.unusedVariables false
set_option linter.unusedSimpArgs false
namespace Go.Proofs.Bo
open Go Go.RowKit

/-- The cells of a place: a thing and 'true', or zeros. -/
def encP {α : Type} (enc : α → List Value) (z : List Value) : Option α → List Value
  | none => z ++ [.bool false]
  | some v => enc v ++ [.bool true]

/-- An arena's things and free places. -/
structure ArInv {α : Type} (room : Int) (l : List (Option α)) (free : List Int) : Prop where
  room0 : 0 ≤ room
  room1 : room ≤ 65536
  fl : free.length ≤ l.length
  lr : (l.length : Int) ≤ room
  nodup : free.Nodup
  mem : ∀ i : Int, i ∈ free ↔ ∃ k : Nat, i = k ∧ l[k]? = some none

/-- An arena in memory. ta: the type of its struct; tp: of its places. -/
structure Ar {α : Type} (enc : α → List Value) (z : List Value) (ta tp ti : TypeId) (w : World) (ab : Nat) (lv fv : Value) (room : Int) (l : List (Option α)) (free : List Int) : Prop where
  blk : w.heap[ab]? = some (.cells #[.int .i64 room, lv, fv] ta (0, 0))
  row : w.ownsRow 0 tp (z.length + 1) lv l.length (l.flatMap (encP enc z))
  fre : w.ownsRow 0 ti 1 fv free.length (free.map (.int .i64))
  encl : ∀ v, (enc v).length = z.length
  inv : ArInv room l free

section
variable {α : Type} {enc : α → List Value} {z : List Value} {ta tp ti : TypeId} {w w' : World} {ab : Nat} {lv fv : Value} {room : Int} {l : List (Option α)} {free : List Int}

/-- The blocks of an arena. -/
def Foot (ab : Nat) (lv fv : Value) (k : Nat) : Prop := k = ab ∨ lv.ownBlock = some k ∨ fv.ownBlock = some k

theorem Ar.keep (h : Ar enc z ta tp ti w ab lv fv room l free) (hk : ∀ k, Foot ab lv fv k → w'.heap[k]? = w.heap[k]?) : Ar enc z ta tp ti w' ab lv fv room l free :=
  ⟨(hk _ (.inl rfl)).trans h.blk, own_keep h.row fun _ e => hk _ (.inr (.inl e)), own_keep h.fre fun _ e => hk _ (.inr (.inr e)), h.encl, h.inv⟩
theorem Ar.drewN (h : Ar enc z ta tp ti w ab lv fv room l free) (n : Nat) : Ar enc z ta tp ti (w.drewN n) ab lv fv room l free := h.keep fun _ _ => rfl
theorem Ar.lt (h : Ar enc z ta tp ti w ab lv fv room l free) {k : Nat} (hk : Foot ab lv fv k) : k < w.heap.size := by
  rcases hk with rfl | hk | hk
  · exact (Array.getElem?_eq_some_iff.1 h.blk).1
  · exact own_lt h.row hk
  · exact own_lt h.fre hk
theorem Ar.mod {S : Nat → Prop} (h : Ar enc z ta tp ti w ab lv fv room l free) (hm : Mod S w w') (hs : ∀ k, Foot ab lv fv k → ¬ S k) : Ar enc z ta tp ti w' ab lv fv room l free :=
  h.keep fun k hk => hm.block k (h.lt hk) (hs k hk)

theorem Ar.c0 (h : Ar enc z ta tp ti w ab lv fv room l free) : w.cell? ⟨ab, 0, none⟩ = some (.int .i64 room) := by simp [World.cell?, h.blk]
theorem Ar.c1 (h : Ar enc z ta tp ti w ab lv fv room l free) : w.cell? ⟨ab, 1, none⟩ = some lv := by simp [World.cell?, h.blk]
theorem Ar.c2 (h : Ar enc z ta tp ti w ab lv fv room l free) : w.cell? ⟨ab, 2, none⟩ = some fv := by simp [World.cell?, h.blk]
theorem Ar.fr (h : Ar enc z ta tp ti w ab lv fv room l free) (j : Nat) : w.frozen? ⟨ab, j, none⟩ = false := by simp [World.frozen?, h.blk]
theorem Ar.flen (h : Ar enc z ta tp ti w ab lv fv room l free) : free.length ≤ l.length ∧ l.length ≤ 65536 := by
  have := h.inv.fl; have := h.inv.lr; have := h.inv.room1; omega

theorem encP_length (he : ∀ v, (enc v).length = z.length) (p : Option α) : (encP enc z p).length = z.length + 1 := by
  cases p <;> simp [encP, he]

/-- A cell of the place of a row that is made of pieces of one length. -/
theorem flat_get {β : Type} (f : β → List Value) (m : Nat) (hf : ∀ b, (f b).length = m) (l : List β) (i j : Nat) (hj : j < m) : (l.flatMap f)[i * m + j]? = (l[i]?).bind fun b => (f b)[j]? := by
  induction l generalizing i with
  | nil => simp
  | cons b l ih =>
    rw [List.flatMap_cons]
    cases i with
    | zero => rw [List.getElem?_append_left (by rw [hf]; omega)]; simp
    | succ i =>
      rw [List.getElem?_append_right (by rw [hf, Nat.succ_mul]; omega), hf, show (i + 1) * m + j - m = i * m + j by rw [Nat.succ_mul]; omega, ih]
      simp

theorem flat_set {β : Type} (f : β → List Value) (m : Nat) (hf : ∀ b, (f b).length = m) (l : List β) (i j : Nat) (hj : j < m) (u : Value) (b b' : β) (hb : l[i]? = some b) (hb' : f b' = (f b).set j u) :
    (l.flatMap f).set (i * m + j) u = (l.set i b').flatMap f := by
  induction l generalizing i with
  | nil => simp at hb
  | cons c l ih =>
    cases i with
    | zero =>
      simp at hb; subst hb
      simp only [Nat.zero_mul, Nat.zero_add, List.flatMap_cons, List.set_cons_zero, hb']
      rw [List.set_append_left _ _ (by rw [hf]; omega)]
    | succ i =>
      simp only [List.flatMap_cons, List.set_cons_succ]
      rw [List.set_append_right _ _ (by rw [hf, Nat.succ_mul]; omega), hf, show (i + 1) * m + j - m = i * m + j by rw [Nat.succ_mul]; omega]
      rw [ih i (by simpa using hb)]

theorem flat_length {β : Type} (f : β → List Value) (m : Nat) (hf : ∀ b, (f b).length = m) (l : List β) : (l.flatMap f).length = l.length * m := by
  induction l with
  | nil => simp
  | cons b l ih => rw [List.flatMap_cons, List.length_append, ih, hf, List.length_cons, Nat.succ_mul]; omega

/-- The row's address, where a place is. -/
theorem Ar.place (h : Ar enc z ta tp ti w ab lv fv room l free) (hp : 0 < l.length) : ∃ lb c, lv = .slice (some ⟨lb, 0, none⟩) l.length c ∧ l.length ≤ c ∧ c ≤ maxLen := by
  obtain ⟨A, c, rfl, h1, h2, h3⟩ := own_slice h.row
  obtain ⟨g, rfl⟩ := h3 hp
  exact ⟨g, c, rfl, h1, h2⟩

theorem Ar.cell {lb n c : Nat} (h : Ar enc z ta tp ti w ab (.slice (some ⟨lb, 0, none⟩) n c) fv room l free) {i : Nat} {p : Option α} (hi : l[i]? = some p) {j : Nat} {u : Value} (hu : (encP enc z p)[j]? = some u) :
    w.cell? ⟨lb, i * (z.length + 1) + j, none⟩ = some u ∧ w.frozen? ⟨lb, i * (z.length + 1) + j, none⟩ = false := by
  have hr := h.row
  obtain ⟨A, c', e, _, _, _⟩ := own_slice hr
  cases e
  refine own_cell hr ?_
  rw [flat_get (encP enc z) (z.length + 1) (encP_length h.encl) l i j (by have := (List.getElem?_eq_some_iff.1 hu).1; rw [encP_length h.encl] at this; exact this), hi]
  exact hu
end
end Go.Proofs.Bo
set_option linter.unusedVariables false
set_option linter.unusedSimpArgs false
namespace Go.Proofs.Bo
open Go Go.RowKit
section
variable {P : Program} {ops : Array Oper} {rest : List Oper} {o : Oper} {a : Act} {Q : Exit → Act → World → Prop}
/-- 'append(v, x)', x laid in a new block by the statement itself. -/
theorem app_one {W : World} (news : List Value) (v : Value) (n : Nat) (xs : List Value) (s x : Operand) (t e : TypeId) (z : Value) (size bytes : Nat) (hgd : o.guard = none)
    (ho : o.op = .call { callee := .builtin .append, args := #[s, x], argTypes := #[t, t] })
    (ht : P.underlying t = some (.slice e)) (hinfo : (P.info? e).map (fun i => (i.zero, i.size, i.bytes)) = some (some z, size, bytes)) (hz : z.cells.size = size) (hz0 : 0 < size) (hb0 : 0 < bytes)
    (hs : a.eval s = v) (hx : a.eval x = .slice (some ⟨W.heap.size, 0, none⟩) 1 1)
    (HO : W.ownsRow 0 e size v n xs) (hnl : news.length = size) (h1 : ∀ u ∈ news, u.oneCell' = true) (hl : (n + 1) * bytes ≤ 140737488355328)
    (h : ∀ v1 w1, w1.ownsRow 0 e size v1 (n + 1) (xs ++ news) → W.grownBy w1 v.ownBlock → (∀ k, v1.ownBlock = some k → v.ownBlock = some k ∨ W.heap.size ≤ k) → wpList P ops Q rest (a.put o.dst v1) w1) :
    wpList P ops Q (o :: rest) a (W.alloc (.cells news.toArray e)) := by
  obtain ⟨i0, hi, hzz⟩ := Option.map_eq_some_iff.1 hinfo
  simp only [Prod.mk.injEq] at hzz
  obtain ⟨hz0', hz1, hz2⟩ := hzz
  have hlen : n + 1 ≤ 140737488355328 := Nat.le_trans (Nat.le_mul_of_pos_right _ hb0) hl
  refine wpList_append_own_at (W.alloc (.cells news.toArray e)) hgd s x t ho 0 e i0 z size bytes ht hi hz0' hz1 hz2 hz hz0 v n xs hs (HO.alloc _) ⟨W.heap.size, 0, none⟩ 1 1 news hx (by omega)
    (World.news_of_block (cs := news.toArray) (t := e) (fr := (0, 0)) (heap_alloc_new W _)) h1 (by simp only [maxLen]; omega) hl (by simp) ?_
  intro v1 w1 hown hg _ hat
  have hg0 : W.grownBy (W.alloc (.cells news.toArray e)) v.ownBlock := World.grownBy_alloc W _ _
  refine h v1 w1 hown ⟨hg.os.trans hg0.os, hg.tape.trans hg0.tape, hg.output.trans hg0.output, Nat.le_trans hg0.size hg.size, fun k hk hn => (hg.block k (Nat.lt_of_lt_of_le hk hg0.size) hn).trans (hg0.block k hk hn)⟩ ?_
  intro k hk
  rcases hat with hat | hat
  · exact .inl (hat ▸ hk)
  · rw [hat] at hk; cases hk; exact .inr (by simp)
end

/-- A row of different numbers from 0 on below n is no longer than n. -/
theorem nodup_bound : ∀ (n : Nat) (l : List Int), l.Nodup → (∀ a ∈ l, 0 ≤ a ∧ a < (n : Int)) → l.length ≤ n
  | 0, l, _, h => by cases l with | nil => simp | cons a l => have := h a (by simp); omega
  | n + 1, l, hd, h => by
    have h1 : (l.erase (n : Int)).length ≤ n := nodup_bound n _ (hd.erase _) (fun a ha => by
      have ha' := List.mem_of_mem_erase ha
      have hne : a ≠ n := fun e => by subst e; exact (hd.not_mem_erase) ha
      have := h a ha'; omega)
    have h2 := List.length_erase (a := (n : Int)) (l := l)
    split at h2 <;> omega

theorem ArInv.put_new {α : Type} {room : Int} {l : List (Option α)} (h : ArInv room l []) (hr : (l.length : Int) < room) (v : α) : ArInv room (l ++ [some v]) [] := by
  refine ⟨h.room0, h.room1, by simp, by simp; omega, h.nodup, fun i => ?_⟩
  rw [h.mem i]
  constructor
  · rintro ⟨k, rfl, hk⟩; exact ⟨k, rfl, by rw [List.getElem?_append_left (List.getElem?_eq_some_iff.1 hk).1]; exact hk⟩
  · rintro ⟨k, rfl, hk⟩
    refine ⟨k, rfl, ?_⟩
    rw [List.getElem?_append] at hk
    split at hk
    · exact hk
    · rename_i hn
      rcases Nat.eq_zero_or_pos (k - l.length) with h0 | h0
      · rw [h0] at hk; simp at hk
      · rw [List.getElem?_eq_none (by simp; omega)] at hk; cases hk

theorem ArInv.put_old {α : Type} {room : Int} {l : List (Option α)} {free : List Int} {k : Nat} (h : ArInv room l (free ++ [(k : Int)])) (v : α) : ArInv room (l.set k (some v)) free := by
  have hl : l[k]? = some none := by
    obtain ⟨k', e, hk'⟩ := (h.mem k).1 (by simp)
    have : k = k' := by omega
    subst this; exact hk'
  have hnd := h.nodup
  rw [List.nodup_append] at hnd
  refine ⟨h.room0, h.room1, ?_, by simpa using h.lr, hnd.1, fun i => ?_⟩
  · have := h.fl; simp at this ⊢; omega
  · constructor
    · intro hi
      obtain ⟨k', rfl, hk'⟩ := (h.mem i).1 (by simp [hi])
      have hne : k ≠ k' := by rintro rfl; exact hnd.2.2 _ hi _ (by simp) rfl
      exact ⟨k', rfl, by rw [List.getElem?_set_ne hne]; exact hk'⟩
    · rintro ⟨k', rfl, hk'⟩
      have hne : k ≠ k' := by
        rintro rfl
        rw [List.getElem?_set_self (List.getElem?_eq_some_iff.1 hl).1] at hk'
        simp at hk'
      rw [List.getElem?_set_ne hne] at hk'
      have := (h.mem k').2 ⟨k', rfl, hk'⟩
      simp at this
      rcases this with h1 | h1
      · exact h1
      · exact absurd h1 (by omega)

theorem ArInv.free {α : Type} {room : Int} {l : List (Option α)} {free : List Int} {k : Nat} {v : α} (h : ArInv room l free) (hk : l[k]? = some (some v)) : ArInv room (l.set k none) (free ++ [(k : Int)]) := by
  have hni : (k : Int) ∉ free := by
    intro hi
    obtain ⟨k', e, hk'⟩ := (h.mem k).1 hi
    have : k = k' := by omega
    subst this; rw [hk] at hk'; simp at hk'
  have hkl := (List.getElem?_eq_some_iff.1 hk).1
  refine ⟨h.room0, h.room1, ?_, by simpa using h.lr, ?_, fun i => ?_⟩
  · have hnd : (free ++ [(k : Int)]).Nodup := by
      rw [List.nodup_append]; exact ⟨h.nodup, by simp, fun a ha b hb => by simp at hb; subst hb; rintro rfl; exact hni ha⟩
    have := nodup_bound l.length _ hnd (fun a ha => by
      simp at ha
      rcases ha with ha | rfl
      · obtain ⟨k', rfl, hk'⟩ := (h.mem a).1 ha
        have := (List.getElem?_eq_some_iff.1 hk').1; omega
      · omega)
    simpa using this
  · rw [List.nodup_append]; exact ⟨h.nodup, by simp, fun a ha b hb => by simp at hb; subst hb; rintro rfl; exact hni ha⟩
  · constructor
    · intro hi
      simp at hi
      rcases hi with hi | rfl
      · obtain ⟨k', rfl, hk'⟩ := (h.mem i).1 hi
        refine ⟨k', rfl, ?_⟩
        by_cases e : k = k'
        · subst e; rw [List.getElem?_set_self hkl]
        · rw [List.getElem?_set_ne e]; exact hk'
      · exact ⟨k, rfl, by rw [List.getElem?_set_self hkl]⟩
    · rintro ⟨k', rfl, hk'⟩
      by_cases e : k = k'
      · subst e; simp
      · rw [List.getElem?_set_ne e] at hk'
        have := (h.mem k').2 ⟨k', rfl, hk'⟩
        simp [this]
theorem ArInv.set {α : Type} {room : Int} {l : List (Option α)} {free : List Int} {k : Nat} {v : α} (h : ArInv room l free) (hk : l[k]? = some (some v)) (u : α) : ArInv room (l.set k (some u)) free := by
  have hkl := (List.getElem?_eq_some_iff.1 hk).1
  refine ⟨h.room0, h.room1, by simpa using h.fl, by simpa using h.lr, h.nodup, fun i => ?_⟩
  rw [h.mem i]
  constructor
  · rintro ⟨k', rfl, hk'⟩
    refine ⟨k', rfl, ?_⟩
    have : k ≠ k' := by rintro rfl; rw [hk] at hk'; simp at hk'
    rw [List.getElem?_set_ne this]; exact hk'
  · rintro ⟨k', rfl, hk'⟩
    have : k ≠ k' := by rintro rfl; rw [List.getElem?_set_self hkl] at hk'; simp at hk'
    rw [List.getElem?_set_ne this] at hk'; exact ⟨k', rfl, hk'⟩
end Go.Proofs.Bo
namespace Go.Proofs.Bo
open Go Go.RowKit
section
variable {α : Type} {enc : α → List Value} {z : List Value} {ta tp ti : TypeId} {w w' : World} {ab : Nat} {lv fv : Value} {room : Int} {l : List (Option α)} {free : List Int}

/-- The three blocks of an arena are three: by their types. -/
theorem Ar.ne_l (h : Ar enc z ta tp ti w ab lv fv room l free) (hT : ta ≠ tp) : lv.ownBlock ≠ some ab := by
  intro e
  obtain ⟨cs, hc⟩ := own_type h.row e
  have := h.blk; rw [this] at hc; injection hc with hc; injection hc with _ h2; exact hT h2
theorem Ar.ne_f (h : Ar enc z ta tp ti w ab lv fv room l free) (hT : ta ≠ ti) : fv.ownBlock ≠ some ab := by
  intro e
  obtain ⟨cs, hc⟩ := own_type h.fre e
  have := h.blk; rw [this] at hc; injection hc with hc; injection hc with _ h2; exact hT h2
theorem Ar.ne_lf (h : Ar enc z ta tp ti w ab lv fv room l free) (hT : tp ≠ ti) {k : Nat} (h1 : lv.ownBlock = some k) (h2 : fv.ownBlock = some k) : False := by
  obtain ⟨cs, hc⟩ := own_type h.row h1
  obtain ⟨cs', hc'⟩ := own_type h.fre h2
  rw [hc] at hc'; injection hc' with hc'; injection hc' with _ h2; exact hT h2

/-- The struct's block, stored into. -/
theorem blk_set1 {t : TypeId} {a b c u : Value} (h : w.heap[ab]? = some (.cells #[a, b, c] t (0, 0))) : (w.setCell ⟨ab, 1, none⟩ u).heap[ab]? = some (.cells #[a, u, c] t (0, 0)) := by
  rw [heap_setCell_same w ab 1 _ t u h]; rfl
theorem blk_set2 {t : TypeId} {a b c u : Value} (h : w.heap[ab]? = some (.cells #[a, b, c] t (0, 0))) : (w.setCell ⟨ab, 2, none⟩ u).heap[ab]? = some (.cells #[a, b, u] t (0, 0)) := by
  rw [heap_setCell_same w ab 2 _ t u h]; rfl
theorem heap_set_ne {p : Addr} {u : Value} {k : Nat} (h : k ≠ p.block) : (w.setCell p u).heap[k]? = w.heap[k]? := Below.heap_setCell _ _ _ _ h

/-- Behind 'a.l = append(a.l, ..)': the arena. -/
theorem Ar.grow_l {W w1 : World} {v1 : Value} {p : Option α} (h : Ar enc z ta tp ti W ab lv fv room l free) (hT : ta ≠ tp) (hT2 : ta ≠ ti) (hT3 : tp ≠ ti)
    (hown : w1.ownsRow 0 tp (z.length + 1) v1 (l.length + 1) (l.flatMap (encP enc z) ++ encP enc z p)) (hg : W.grownBy w1 lv.ownBlock) (hb : ∀ k, v1.ownBlock = some k → lv.ownBlock = some k ∨ W.heap.size ≤ k)
    (hi : ArInv room (l ++ [p]) free) :
    w1.heap[ab]? = some (.cells #[.int .i64 room, lv, fv] ta (0, 0)) ∧
    Ar enc z ta tp ti (w1.setCell ⟨ab, 1, none⟩ v1) ab v1 fv room (l ++ [p]) free ∧ Mod (Foot ab lv fv) W (w1.setCell ⟨ab, 1, none⟩ v1) ∧ (∀ k, Foot ab v1 fv k → Foot ab lv fv k ∨ W.heap.size ≤ k) := by
  have hab := h.lt (.inl rfl)
  have hne := h.ne_l hT
  have hblk : w1.heap[ab]? = some (.cells #[.int .i64 room, lv, fv] ta (0, 0)) := (hg.block ab hab (fun e => hne e.symm)).trans h.blk
  have hv1 : v1.ownBlock ≠ some ab := fun e => by
    rcases hb ab e with h1 | h1
    · exact hne h1
    · omega
  refine ⟨hblk, ⟨blk_set1 hblk, ?_, ?_, h.encl, hi⟩, ?_, ?_⟩
  · simp only [List.flatMap_append, List.flatMap_cons, List.flatMap_nil, List.append_nil, List.length_append, List.length_cons, List.length_nil]
    exact own_keep hown fun k e => heap_set_ne (by rintro rfl; exact hv1 e)
  · refine own_keep h.fre fun k e => ?_
    have hk := own_lt h.fre e
    rw [heap_set_ne (by rintro rfl; exact h.ne_f hT2 e)]
    exact hg.block k hk (fun e' => h.ne_lf hT3 e'.symm e)
  · exact ((Mod.refl _ W).grown hg (fun k e => .inl (.inr (.inl e)))).setCell (.inl (.inl rfl)) _
  · rintro k (rfl | e | e)
    · exact .inl (.inl rfl)
    · rcases hb k e with h1 | h1
      · exact .inl (.inr (.inl h1))
      · exact .inr h1
    · exact .inl (.inr (.inr e))

/-- Behind 'a.l[k] = place{}; a.free = append(a.free, k)'. -/
theorem Ar.grow_f {lb n c k : Nat} {W w1 : World} {v1 : Value} {v : α} (h : Ar enc z ta tp ti w ab (.slice (some ⟨lb, 0, none⟩) n c) fv room l free) (hT : ta ≠ tp) (hT2 : ta ≠ ti) (hT3 : tp ≠ ti) (hk : l[k]? = some (some v))
    (hW : W.heap[ab]? = w.heap[ab]?) (hrow : W.ownsRow 0 tp (z.length + 1) (.slice (some ⟨lb, 0, none⟩) n c) (l.set k none).length ((l.set k none).flatMap (encP enc z))) (hm : Mod (Foot ab (.slice (some ⟨lb, 0, none⟩) n c) fv) w W)
    (hown : w1.ownsRow 0 ti 1 v1 (free.length + 1) (free.map (.int .i64) ++ [.int .i64 (k : Int)])) (hg : W.grownBy w1 fv.ownBlock) (hb : ∀ k, v1.ownBlock = some k → fv.ownBlock = some k ∨ W.heap.size ≤ k) :
    w1.heap[ab]? = some (.cells #[.int .i64 room, (.slice (some ⟨lb, 0, none⟩) n c), fv] ta (0, 0)) ∧
    Ar enc z ta tp ti (w1.setCell ⟨ab, 2, none⟩ v1) ab (.slice (some ⟨lb, 0, none⟩) n c) v1 room (l.set k none) (free ++ [(k : Int)]) ∧ Mod (Foot ab (.slice (some ⟨lb, 0, none⟩) n c) fv) w (w1.setCell ⟨ab, 2, none⟩ v1) ∧
      (∀ k, Foot ab (.slice (some ⟨lb, 0, none⟩) n c) v1 k → Foot ab (.slice (some ⟨lb, 0, none⟩) n c) fv k ∨ w.heap.size ≤ k) := by
  have hab := h.lt (.inl rfl)
  have hne := h.ne_f hT2
  have hblk : w1.heap[ab]? = some (.cells #[.int .i64 room, (.slice (some ⟨lb, 0, none⟩) n c), fv] ta (0, 0)) := (hg.block ab (Nat.lt_of_lt_of_le hab hm.size) (fun e => hne e.symm)).trans (hW.trans h.blk)
  have hv1 : v1.ownBlock ≠ some ab := fun e => by
    rcases hb ab e with h1 | h1
    · exact hne h1
    · have := hm.size; omega
  refine ⟨hblk, ⟨blk_set2 hblk, ?_, ?_, h.encl, h.inv.free hk⟩, ?_, ?_⟩
  · refine own_keep hrow fun k e => ?_
    have hk := own_lt hrow e
    rw [heap_set_ne (by rintro rfl; exact h.ne_l hT e)]
    exact hg.block k hk (fun e' => h.ne_lf hT3 e e'.symm)
  · simp only [List.map_append, List.map_cons, List.map_nil, List.length_append, List.length_cons, List.length_nil]
    exact own_keep hown fun k e => heap_set_ne (by rintro rfl; exact hv1 e)
  · exact (hm.grown hg (fun k e => .inl (.inr (.inr e)))).setCell (.inl (.inl rfl)) _
  · rintro k (rfl | e | e)
    · exact .inl (.inl rfl)
    · exact .inl (.inr (.inl e))
    · rcases hb k e with h1 | h1
      · exact .inl (.inr (.inr h1))
      · exact .inr (Nat.le_trans hm.size h1)
end
end Go.Proofs.Bo
namespace Go.Proofs.Bo
open Go Go.RowKit
/-- Cells stored one behind the other. -/
def setL (w : World) (b : Nat) : Nat → List Value → World
  | _, [] => w
  | o, u :: us => setL (w.setCell ⟨b, o, none⟩ u) b (o + 1) us
def setSeg (xs : List Value) : Nat → List Value → List Value
  | _, [] => xs
  | o, u :: us => setSeg (xs.set o u) (o + 1) us

theorem setSeg_eq (c : List Value) : ∀ (us a b : List Value), b.length = us.length → setSeg (a ++ (b ++ c)) a.length us = a ++ (us ++ c)
  | [], a, b, h => by
    have : b = [] := List.eq_nil_of_length_eq_zero (by simpa using h)
    subst this; rfl
  | u :: us, a, b, h => by
    cases b with
    | nil => simp at h
    | cons b0 b =>
      have := setSeg_eq c us (a ++ [u]) b (by simpa using h)
      simp only [setSeg]
      rw [List.set_append_right _ _ (by omega)]
      simp only [Nat.sub_self, List.cons_append, List.set_cons_zero]
      simpa using this

theorem setSeg_length : ∀ (us xs : List Value) (o : Nat), (setSeg xs o us).length = xs.length
  | [], _, _ => rfl
  | u :: us, xs, o => by simp [setSeg, setSeg_length us]

theorem own_setL {base g n c : Nat} {e : TypeId} {size : Nat} : ∀ (us : List Value) (w : World) (xs : List Value) (o : Nat), w.ownsRow base e size (.slice (some ⟨g, 0, none⟩) n c) n xs → o + us.length ≤ xs.length →
    (setL w g o us).ownsRow base e size (.slice (some ⟨g, 0, none⟩) n c) n (setSeg xs o us)
  | [], _, _, _, h, _ => h
  | u :: us, w, xs, o, h, hl => by
    simp only [List.length_cons] at hl
    exact own_setL us _ _ (o + 1) (own_set h o (by omega) u) (by simp; omega)

theorem setL_heap (b : Nat) : ∀ (us : List Value) (w : World) (o : Nat) (k : Nat), k ≠ b → (setL w b o us).heap[k]? = w.heap[k]?
  | [], _, _, _, _ => rfl
  | u :: us, w, o, k, h => by
    rw [setL, setL_heap b us _ _ k h]
    exact heap_set_ne h
theorem setL_size (b : Nat) : ∀ (us : List Value) (w : World) (o : Nat), (setL w b o us).heap.size = w.heap.size
  | [], _, _ => rfl
  | u :: us, w, o => by rw [setL, setL_size b us]; simp
theorem setL_mod {S : Nat → Prop} {a : World} (b : Nat) (hb : S b ∨ a.heap.size ≤ b) : ∀ (us : List Value) (w : World) (o : Nat), Mod S a w → Mod S a (setL w b o us)
  | [], _, _, h => h
  | u :: us, w, o, h => setL_mod b hb us _ _ (h.setCell hb u)

theorem flat_split {β : Type} (f : β → List Value) (l : List β) (k : Nat) (p : β) (h : l[k]? = some p) : l.flatMap f = (l.take k).flatMap f ++ (f p ++ (l.drop (k + 1)).flatMap f) := by
  have hk := (List.getElem?_eq_some_iff.1 h).1
  have h2 : l[k] = p := by simpa [List.getElem?_eq_getElem hk] using h
  conv => lhs; rw [← List.take_append_drop k l]
  rw [List.flatMap_append, List.drop_eq_getElem_cons hk, List.flatMap_cons, h2]

theorem take_set_at {β : Type} (l : List β) (k : Nat) (q : β) : (l.set k q).take k = l.take k := by
  rw [List.take_set]; exact List.set_eq_of_length_le (by simp; omega)
theorem drop_set_at {β : Type} (l : List β) (k : Nat) (q : β) : (l.set k q).drop (k + 1) = l.drop (k + 1) := List.drop_set_of_lt (by omega)

/-- A whole place, stored into a row. -/
theorem own_place {β : Type} (f : β → List Value) {m : Nat} (hf : ∀ b, (f b).length = m) {w : World} {base g n c : Nat} {e : TypeId} {l : List β} (h : w.ownsRow base e m (.slice (some ⟨g, 0, none⟩) n c) n (l.flatMap f)) {k : Nat} {p : β} (hk : l[k]? = some p) (q : β) :
    (setL w g (k * m) (f q)).ownsRow base e m (.slice (some ⟨g, 0, none⟩) n c) n ((l.set k q).flatMap f) := by
  have hkl := (List.getElem?_eq_some_iff.1 hk).1
  have h1 := flat_split f l k p hk
  have h2 := flat_split f (l.set k q) k q (by rw [List.getElem?_set_self hkl])
  have hlen : ((l.take k).flatMap f).length = k * m := by rw [flat_length f m hf, List.length_take, Nat.min_eq_left (by omega)]
  have h3 := own_setL (f q) w (l.flatMap f) (k * m) h (by
    rw [hf, flat_length f m hf, ← Nat.succ_mul]; exact Nat.mul_le_mul_right _ hkl)
  rw [h1, ← hlen, setSeg_eq _ _ _ _ (by rw [hf, hf]), hlen] at h3
  rw [h2, take_set_at, drop_set_at]
  exact h3

section
variable {α : Type} {enc : α → List Value} {z : List Value} {ta tp ti : TypeId} {w w' : World} {ab : Nat} {lv fv : Value} {room : Int} {l : List (Option α)} {free : List Int}

/-- Behind 'a.l[k] = place': the arena's row alone has changed. -/
theorem Ar.put_place {lb n c : Nat} (h : Ar enc z ta tp ti w ab (.slice (some ⟨lb, 0, none⟩) n c) fv room l free) {k : Nat} {p : Option α} (hk : l[k]? = some p) (q : Option α) :
    (setL w lb (k * (z.length + 1)) (encP enc z q)).ownsRow 0 tp (z.length + 1) (.slice (some ⟨lb, 0, none⟩) n c) (l.set k q).length ((l.set k q).flatMap (encP enc z)) := by
  have hr := h.row
  obtain ⟨_, _, e, _⟩ := own_slice hr
  cases e
  have := own_place (encP enc z) (encP_length h.encl) hr hk q
  simpa using this

/-- Behind a store of a thing where it stands ('Set', or by At's pointer). -/
theorem Ar.set_thing {lb n c : Nat} (h : Ar enc z ta tp ti w ab (.slice (some ⟨lb, 0, none⟩) n c) fv room l free) (hT : ta ≠ tp) (hT3 : tp ≠ ti) {k : Nat} {v : α} (hk : l[k]? = some (some v)) (u : α) :
    Ar enc z ta tp ti (setL w lb (k * (z.length + 1)) (enc u)) ab (.slice (some ⟨lb, 0, none⟩) n c) fv room (l.set k (some u)) free ∧ Mod (Foot ab (.slice (some ⟨lb, 0, none⟩) n c) fv) w (setL w lb (k * (z.length + 1)) (enc u)) := by
  have hr := h.row
  obtain ⟨_, _, e, _⟩ := own_slice hr
  cases e
  have hn1 : ab ≠ lb := fun e => h.ne_l hT (by rw [e]; rfl)
  have hrow : (setL w lb (k * (z.length + 1)) (enc u)).ownsRow 0 tp (z.length + 1) (.slice (some ⟨lb, 0, none⟩) l.length c) (l.set k (some u)).length ((l.set k (some u)).flatMap (encP enc z)) := by
    have hkl := (List.getElem?_eq_some_iff.1 hk).1
    have h1 := flat_split (encP enc z) l k _ hk
    have h2 := flat_split (encP enc z) (l.set k (some u)) k _ (by rw [List.getElem?_set_self hkl])
    have hlen : ((l.take k).flatMap (encP enc z)).length = k * (z.length + 1) := by rw [flat_length _ _ (encP_length h.encl), List.length_take, Nat.min_eq_left (by omega)]
    have h3 := own_setL (enc u) w (l.flatMap (encP enc z)) (k * (z.length + 1)) hr (by
      rw [h.encl, flat_length _ _ (encP_length h.encl)]
      have := Nat.mul_le_mul_right (z.length + 1) hkl
      rw [Nat.succ_mul] at this; omega)
    rw [h1] at h3
    simp only [encP, List.append_assoc] at h3
    rw [← hlen, setSeg_eq _ _ _ _ (by rw [h.encl, h.encl]), hlen] at h3
    rw [h2, take_set_at, drop_set_at]
    simpa [encP] using h3
  refine ⟨⟨(setL_heap lb _ _ _ _ hn1).trans h.blk, hrow, own_keep h.fre fun k e => setL_heap lb _ _ _ _ ?_, h.encl, h.inv.set hk u⟩, setL_mod lb (.inl (.inr (.inl rfl))) _ _ _ (Mod.refl _ _)⟩
  rintro rfl; exact h.ne_lf hT3 (k := k) rfl e
end
end Go.Proofs.Bo
namespace Go.Proofs.Bo
open Go Go.RowKit
section
variable {α : Type} {enc : α → List Value} {z : List Value} {ta tp ti : TypeId} {w w' : World} {ab : Nat} {lv fv : Value} {room : Int} {l : List (Option α)} {free : List Int}
/-- Behind 'a.free = a.free[:n]; a.l[k] = place'. -/
theorem Ar.reuse {lb n c fb c' nq k : Nat} {i : Int} (q : Option α) (h : Ar enc z ta tp ti w ab (.slice (some ⟨lb, 0, none⟩) n c) (.slice (some ⟨fb, 0, none⟩) (free.length + 1) c') room l (free ++ [i])) (hT : ta ≠ tp) (hT2 : ta ≠ ti) (hT3 : tp ≠ ti)
    {p : Option α} (hk : l[k]? = some p) (hi : ArInv room (l.set k q) free) :
    Ar enc z ta tp ti (setL ((w.drewN nq).setCell ⟨ab, 2, none⟩ (.slice (some ⟨fb, 0, none⟩) free.length c')) lb (k * (z.length + 1)) (encP enc z q)) ab (.slice (some ⟨lb, 0, none⟩) n c) (.slice (some ⟨fb, 0, none⟩) free.length c') room (l.set k q) free ∧
    Mod (Foot ab (.slice (some ⟨lb, 0, none⟩) n c) (.slice (some ⟨fb, 0, none⟩) (free.length + 1) c')) w (setL ((w.drewN nq).setCell ⟨ab, 2, none⟩ (.slice (some ⟨fb, 0, none⟩) free.length c')) lb (k * (z.length + 1)) (encP enc z q)) ∧
    ∀ j, Foot ab (.slice (some ⟨lb, 0, none⟩) n c) (.slice (some ⟨fb, 0, none⟩) free.length c') j → Foot ab (.slice (some ⟨lb, 0, none⟩) n c) (.slice (some ⟨fb, 0, none⟩) (free.length + 1) c') j ∨ w.heap.size ≤ j := by
  have n1 : ab ≠ lb := fun e => h.ne_l hT (by rw [e]; rfl)
  have n2 : ab ≠ fb := fun e => h.ne_f hT2 (by rw [e]; rfl)
  have n3 : lb ≠ fb := fun e => h.ne_lf (k := lb) hT3 rfl (by rw [e]; rfl)
  have hr := h.row
  obtain ⟨_, _, e, _⟩ := own_slice hr
  cases e
  have hf0 : w.ownsRow 0 ti 1 (.slice (some ⟨fb, 0, none⟩) (free.length + 1) c') (free.length + 1) ((free ++ [i]).map (.int .i64)) := by
    have := h.fre; simpa only [List.length_append, List.length_cons, List.length_nil, Nat.zero_add] using this
  have hf := own_take hf0 free.length (by omega)
  rw [Nat.mul_one, List.map_append, List.take_left' (by simp)] at hf
  refine ⟨⟨?_, ?_, ?_, h.encl, hi⟩, ?_, fun j hj => ?_⟩
  · rw [setL_heap _ _ _ _ _ n1]
    exact blk_set2 (w := w.drewN nq) h.blk
  · have hrow : (((w.drewN nq).setCell ⟨ab, 2, none⟩ (.slice (some ⟨fb, 0, none⟩) free.length c'))).ownsRow 0 tp (z.length + 1) (.slice (some ⟨lb, 0, none⟩) l.length c) l.length (l.flatMap (encP enc z)) :=
      own_keep h.row fun j e => by cases e; exact heap_set_ne (w := w.drewN nq) (Ne.symm n1)
    have := own_place (encP enc z) (encP_length h.encl) hrow hk q
    simpa using this
  · exact own_keep hf fun j e => by
      cases e
      rw [setL_heap _ _ _ _ _ (Ne.symm n3)]
      exact heap_set_ne (w := w.drewN nq) (Ne.symm n2)
  · exact setL_mod lb (.inl (.inr (.inl rfl))) _ _ _ (((Mod.refl _ w).drewN nq).setCell (.inl (.inl rfl)) _)
  · rcases hj with rfl | e | e
    · exact .inl (.inl rfl)
    · exact .inl (.inr (.inl e))
    · exact .inl (.inr (.inr e))
end
end Go.Proofs.Bo
namespace Go.Proofs.Bo
open Go Go.RowKit
theorem Mod.of_grown {w w' : World} {row : Option Nat} (hg : w.grownBy w' row) : Mod (fun k => row = some k) w w' := (Mod.refl _ w).grown hg fun _ h => .inl h
end Go.Proofs.Bo
namespace Go.Proofs.Bo
open Go Go.RowKit
theorem setL_heap_same {g : Nat} {t : TypeId} : ∀ (us : List Value) (w : World) (o : Nat) (cs : List Value), w.heap[g]? = some (.cells cs.toArray t (0, 0)) → (setL w g o us).heap[g]? = some (.cells (setSeg cs o us).toArray t (0, 0))
  | [], _, _, _, h => h
  | u :: us, w, o, cs, h => by
    rw [setL, setSeg]
    refine setL_heap_same us _ _ _ ?_
    rw [heap_setCell_same w g o _ t u h]
    simp
/-- A whole block, stored anew. -/
theorem setL_whole {w : World} {g : Nat} {t : TypeId} {cs us : List Value} (h : w.heap[g]? = some (.cells cs.toArray t (0, 0))) (hl : cs.length = us.length) : (setL w g 0 us).heap[g]? = some (.cells us.toArray t (0, 0)) := by
  have := setL_heap_same us w 0 cs h
  have h2 := setSeg_eq [] us [] cs hl
  simp at h2
  rwa [h2] at this
end Go.Proofs.Bo
namespace Go.Proofs.Bo
open Go Go.RowKit
/-- The end of a function whose one result is a struct in memory. -/
theorem ret_row {P : Program} {fn : Func} {R : Ending → World → Prop} {a : Act} {W : World} {p : Tmp} {ty t : TypeId} {d : TypeDesc} (g : Nat) (us : List Value) (h : fn.results = #[.cell p ty]) (hp : a.tmps.getD p undef = .pointer (some ⟨g, 0, none⟩))
    (hg : W.heap[g]? = some (.cells us.toArray t (0, 0))) (hu : P.underlying ty = some d) (hd : (match d with | .struct _ | .array _ _ => true | _ => false) = true) (hi : (P.info? ty).map (·.size) = some us.length)
    (hdf : a.defers = []) (hR : R (.returned (.agg us.toArray)) W) : bodyPost P fn R .ret a W :=
  bodyPost_ret (results_cell_row h a.tmps W g t us.toArray (0, 0) d hp hg hu hd (by simpa using hi)) hdf hR
end Go.Proofs.Bo
namespace Go.Proofs.Bo
open Go Go.RowKit
theorem set4 {w : World} {g : Nat} {t : TypeId} {a b c d a' b' c' d' : Value} (h : w.heap[g]? = some (.cells #[a, b, c, d] t (0, 0))) :
    ((((w.setCell ⟨g, 0, none⟩ a').setCell ⟨g, 1, none⟩ b').setCell ⟨g, 2, none⟩ c').setCell ⟨g, 3, none⟩ d').heap[g]? = some (.cells #[a', b', c', d'] t (0, 0)) :=
  setL_whole (cs := [a, b, c, d]) (us := [a', b', c', d']) h rfl
end Go.Proofs.Bo
set_option linter.unusedVariables false
set_option linter.unusedSimpArgs false
namespace Go.Proofs.Bo
open Go Go.RowKit
/-- A segment. -/
structure Sg where
  ls : Int
  la : Int
  hs : Int
  ha : Int
  v : Int
deriving DecidableEq, Inhabited
def encS (s : Sg) : List Value := [.int .i64 s.ls, .int .i64 s.la, .int .i64 s.hs, .int .i64 s.ha, .int .i64 s.v]
/-- A node of a red-black tree. -/
structure Nd where
  s : Sg
  k0 : Int
  k1 : Int
  p : Int
  red : Bool
deriving DecidableEq, Inhabited
def encNd (n : Nd) : List Value := [.int .i64 n.s.ls, .int .i64 n.s.la, .int .i64 n.s.hs, .int .i64 n.s.ha, .int .i64 n.s.v, .int .i64 n.k0, .int .i64 n.k1, .int .i64 n.p, .bool n.red]
def zNd : List Value := [.int .i64 0, .int .i64 0, .int .i64 0, .int .i64 0, .int .i64 0, .int .i64 0, .int .i64 0, .int .i64 0, .bool false]
end Go.Proofs.Bo
set_option linter.unusedVariables false
set_option linter.unusedSimpArgs false
namespace Go.Proofs.Bo
/-! Cuts as numbers. -/
def least64 : Int := -9223372036854775808
/-- A cut's place: 2^64 and its opposite are the ends. -/
def kx (s a : Int) : Int := if s < 0 ∨ (s = 0 ∧ a = least64) then -18446744073709551616 else if 0 < s then 18446744073709551616 else a
/-- The right cut. -/
def canS (s a : Int) : Int := if s < 0 ∨ (s = 0 ∧ a = least64) then -1 else if 0 < s then 1 else s
def canA (s a : Int) : Int := if s < 0 ∨ (s = 0 ∧ a = least64) then 0 else if 0 < s then 0 else a
def cmpI (x y : Int) : Int := if x < y then -1 else if y < x then 1 else 0
def orI (x y : Int) : Int := if x ≠ 0 then x else y
def fit64 (a : Int) : Prop := -9223372036854775808 ≤ a ∧ a ≤ 9223372036854775807

theorem can_lex {s a s' a' : Int} (h : fit64 a) (h' : fit64 a') : cmpI (kx s a) (kx s' a') = orI (cmpI (canS s a) (canS s' a')) (cmpI (canA s a) (canA s' a')) := by
  unfold orI
  unfold fit64 at h h'
  unfold cmpI kx canS canA least64
  grind
theorem can_idem (s a : Int) : canS (canS s a) (canA s a) = canS s a ∧ canA (canS s a) (canA s a) = canA s a := by
  unfold canS canA least64; grind
theorem kx_can (s a : Int) : kx (canS s a) (canA s a) = kx s a := by
  unfold kx canS canA least64; grind
theorem can_fit {s a : Int} (h : fit64 a) : fit64 (canA s a) := by
  unfold fit64 at *; unfold canA least64; grind
theorem kx_inj {s a s' a' : Int} (h : fit64 a) (h' : fit64 a') : kx s a = kx s' a' ↔ canS s a = canS s' a' ∧ canA s a = canA s' a' := by
  unfold fit64 at h h'
  unfold kx canS canA least64
  grind
theorem cmpI_lt {x y : Int} (h : x < y) : cmpI x y = -1 := by unfold cmpI; rw [if_pos h]
theorem cmpI_eq {x y : Int} (h : x = y) : cmpI x y = 0 := by unfold cmpI; rw [if_neg (by omega), if_neg (by omega)]
theorem cmpI_gt {x y : Int} (h : y < x) : cmpI x y = 1 := by unfold cmpI; rw [if_neg (by omega), if_pos h]
theorem cmpI_zero {x y : Int} : cmpI x y = 0 ↔ x = y := by unfold cmpI; grind
theorem cmpI_neg {x y : Int} : cmpI x y < 0 ↔ x < y := by unfold cmpI; grind
theorem cmpI_pos {x y : Int} : 0 < cmpI x y ↔ y < x := by unfold cmpI; grind
theorem cmpI_bd (x y : Int) : -1 ≤ cmpI x y ∧ cmpI x y ≤ 1 := by unfold cmpI; grind
/-- A cut that is right, and not the last one. -/
def okKey (s a : Int) : Prop := canS s a = s ∧ canA s a = a ∧ s ≤ 0
theorem okKey_lt {s a : Int} (h : okKey s a) (hf : fit64 a) : kx s a < 18446744073709551616 ∧ (s = -1 ∧ a = 0 ∨ s = 0 ∧ a ≠ least64 ∧ kx s a = a) := by
  unfold okKey canS canA at h; unfold kx least64 at *; unfold fit64 at hf
  grind
end Go.Proofs.Bo
set_option linter.unusedVariables false
set_option linter.unusedSimpArgs false
namespace Go.Proofs.Bo
open Go Go.RowKit
section
variable {P : Program} {ops : Array Oper} {rest : List Oper} {o : Oper} {a : Act} {Q : Exit → Act → World → Prop}

theorem Mod.of_grown_new {w w' : World} {c : Obj} (h : (w.alloc c).grownBy w' (some w.heap.size)) : Mod (fun _ => False) w w' :=
  ⟨h.os, h.tape, h.output, Nat.le_trans (by simp) h.size, fun k hk _ => (h.block k (by simp; omega) (by intro e; cases e; omega)).trans (Below.heap_alloc _ _ _ hk)⟩

/-- 'append([]T{}, xs...)'. -/
theorem app_copy {W : World} (v : Value) (n : Nat) (xs : List Value) (s x : Operand) (t e : TypeId) (z : Value) (size bytes : Nat) (hgd : o.guard = none)
    (ho : o.op = .call { callee := .builtin .append, args := #[s, x], argTypes := #[t, t] })
    (ht : P.underlying t = some (.slice e)) (hinfo : (P.info? e).map (fun i => (i.zero, i.size, i.bytes)) = some (some z, size, bytes)) (hz : z.cells.size = size) (hz0 : 0 < size) (hb0 : 0 < bytes)
    (hs : a.eval s = .slice (some ⟨W.heap.size, 0, none⟩) 0 0) (hx : a.eval x = v)
    (HO : W.ownsRow 0 e size v n xs) (h1 : ∀ u ∈ xs, u.oneCell' = true) (hl : n * bytes ≤ 140737488355328)
    (h : ∀ v1 w1, w1.ownsRow 0 e size v1 n xs → Mod (fun _ => False) W w1 → (∀ k, v1.ownBlock = some k → W.heap.size ≤ k) → wpList P ops Q rest (a.put o.dst v1) w1) :
    wpList P ops Q (o :: rest) a (W.alloc (.cells #[] e)) := by
  obtain ⟨i0, hi, hzz⟩ := Option.map_eq_some_iff.1 hinfo
  simp only [Prod.mk.injEq] at hzz
  obtain ⟨hz0', hz1, hz2⟩ := hzz
  have hlen : n ≤ 140737488355328 := Nat.le_trans (Nat.le_mul_of_pos_right _ hb0) hl
  have HO0 : (W.alloc (.cells #[] e)).ownsRow 0 e size (.slice (some ⟨W.heap.size, 0, none⟩) 0 0) 0 [] :=
    ⟨by simp, .inr ⟨W.heap.size, 0, #[], rfl, Nat.zero_le _, heap_alloc_new W _, Nat.le_refl _, by simp [maxLen], by simp, by simp⟩⟩
  rcases HO.2 with ⟨hv, hn⟩ | ⟨g, cap, cur, hv, _, hg, h3, h4, h5, h6⟩
  · subst hv; subst hn
    have hxs : xs = [] := List.eq_nil_of_length_eq_zero (by simpa using HO.1)
    subst hxs
    refine wpList_append_own_none hgd s x t ho 0 e i0 size ht hi _ 0 [] hs HO0 hx ?_
    exact h _ _ HO0 ((Mod.refl _ _).alloc _) (fun k hk => by cases hk; exact Nat.le_refl _)
  · subst hv
    have HO2 := HO.alloc (.cells #[] e)
    refine wpList_append_own_at (W.alloc (.cells #[] e)) hgd s x t ho 0 e i0 z size bytes ht hi hz0' hz1 hz2 hz hz0 _ 0 [] hs HO0 ⟨g, 0, none⟩ n cap xs hx HO.1 (HO2.cells rfl) h1 (by simp only [maxLen]; omega) (by simpa using hl) (by simp) ?_
    intro v1 w1 hown hgr _ hat
    simp only [Nat.zero_add, List.nil_append] at hown
    refine h v1 w1 hown (Mod.of_grown_new hgr) ?_
    intro k hk
    rcases hat with e | e
    · rw [e] at hk; cases hk; exact Nat.le_refl _
    · rw [e] at hk; cases hk; simp
end

/-- The end of a function whose two results are structs in memory. -/
theorem ret_row2 {P : Program} {fn : Func} {R : Ending → World → Prop} {a : Act} {W : World} {p q : Tmp} {ty ty' t t' : TypeId} {d d' : TypeDesc} (g g' : Nat) (us us' : List Value) (h : fn.results = #[.cell p ty, .cell q ty'])
    (hp : a.tmps.getD p undef = .pointer (some ⟨g, 0, none⟩)) (hq : a.tmps.getD q undef = .pointer (some ⟨g', 0, none⟩))
    (hg : W.heap[g]? = some (.cells us.toArray t (0, 0))) (hg' : W.heap[g']? = some (.cells us'.toArray t' (0, 0)))
    (hu : P.underlying ty = some d) (hd : (match d with | .struct _ | .array _ _ => true | _ => false) = true) (hi : (P.info? ty).map (·.size) = some us.length)
    (hu' : P.underlying ty' = some d') (hd' : (match d' with | .struct _ | .array _ _ => true | _ => false) = true) (hi' : (P.info? ty').map (·.size) = some us'.length)
    (hdf : a.defers = []) (hR : R (.returned (.tuple #[.agg us.toArray, .agg us'.toArray])) W) : bodyPost P fn R .ret a W := by
  refine bodyPost_ret (v := .tuple #[.agg us.toArray, .agg us'.toArray]) ?_ hdf hR
  have hp' : a.tmps[p]?.getD undef = .pointer (some ⟨g, 0, none⟩) := by simpa using hp
  have hq' : a.tmps[q]?.getD undef = .pointer (some ⟨g', 0, none⟩) := by simpa using hq
  simp [results, h, hp', hq', asAddr, run_loadVar_row W g t ty us.toArray (0, 0) d hg hu hd (by simpa using hi), run_loadVar_row W g' t' ty' us'.toArray (0, 0) d' hg' hu' hd' (by simpa using hi')]
/-- The end of a function whose two results are structs in memory. -/
theorem ret_row2_drew {P : Program} {fn : Func} {R : Ending → World → Prop} {a : Act} {W : World} {p q : Tmp} {ty ty' t t' : TypeId} {d d' : TypeDesc} (g g' : Nat) (us us' : List Value) (h : fn.results = #[.cell p ty, .cell q ty'])
    (hp : a.tmps.getD p undef = .pointer (some ⟨g, 0, none⟩)) (hq : a.tmps.getD q undef = .pointer (some ⟨g', 0, none⟩))
    (hg : W.heap[g]? = some (.cells us.toArray t (0, 0))) (hg' : W.heap[g']? = some (.cells us'.toArray t' (0, 0)))
    (hu : P.underlying ty = some d) (hd : (match d with | .struct _ | .array _ _ => true | _ => false) = true) (hi : (P.info? ty).map (·.size) = some us.length)
    (hu' : P.underlying ty' = some d') (hd' : (match d' with | .struct _ | .array _ _ => true | _ => false) = true) (hi' : (P.info? ty').map (·.size) = some us'.length)
    (hdf : a.defers = []) (hR : R (.returned (.tuple #[.agg us.toArray, .agg us'.toArray])) W.drew) : bodyPost P fn R .ret a W.drew :=
  ret_row2 (W := W.drew) g g' us us' h hp hq hg hg' hu hd hi hu' hd' hi' hdf hR
/-- .. whose first result is a struct in memory. -/
theorem ret_row_tmp {P : Program} {fn : Func} {R : Ending → World → Prop} {a : Act} {W : World} {p q : Tmp} {ty t : TypeId} {d : TypeDesc} (g : Nat) (us : List Value) (h : fn.results = #[.cell p ty, .tmp q])
    (hp : a.tmps.getD p undef = .pointer (some ⟨g, 0, none⟩))
    (hg : W.heap[g]? = some (.cells us.toArray t (0, 0)))
    (hu : P.underlying ty = some d) (hd : (match d with | .struct _ | .array _ _ => true | _ => false) = true) (hi : (P.info? ty).map (·.size) = some us.length)
    (hdf : a.defers = []) (hR : R (.returned (.tuple #[.agg us.toArray, a.tmps.getD q undef])) W) : bodyPost P fn R .ret a W := by
  refine bodyPost_ret (v := .tuple #[.agg us.toArray, a.tmps.getD q undef]) ?_ hdf hR
  have hp' : a.tmps[p]?.getD undef = .pointer (some ⟨g, 0, none⟩) := by simpa using hp
  simp [results, h, hp', asAddr, run_loadVar_row W g t ty us.toArray (0, 0) d hg hu hd (by simpa using hi)]
end Go.Proofs.Bo
namespace Go.Proofs.Bo
open Go Go.RowKit
/-- 'append(v, x)' as one step of a region: x lies in a block that is known. -/
theorem step_app {P : Program} {w : World} {ops : Array Oper} {o : Oper} {a : Act} {K : Act → World → Prop} {Q : Exit → Act → World → Prop} {E : Prop} (news : List Value) (v : Value) (n : Nat) (xs : List Value) (s x : Operand) (t e : TypeId) (z : Value) (size bytes : Nat) (hgd : o.guard = none)
    (ho : o.op = .call { callee := .builtin .append, args := #[s, x], argTypes := #[t, t] })
    (ht : P.underlying t = some (.slice e)) (hinfo : (P.info? e).map (fun i => (i.zero, i.size, i.bytes)) = some (some z, size, bytes)) (hz : z.cells.size = size) (hz0 : 0 < size) (hb0 : 0 < bytes)
    (hs : a.eval s = v) (HO : w.ownsRow 0 e size v n xs) (B : Nat) (hB : w.heap[B]? = some (.cells news.toArray e (0, 0))) (hx : a.eval x = .slice (some ⟨B, 0, none⟩) 1 1)
    (hnl : news.length = size) (h1 : ∀ u ∈ news, u.oneCell' = true) (hl : (n + 1) * bytes ≤ 140737488355328)
    (h : ∀ v1 w1, w1.ownsRow 0 e size v1 (n + 1) (xs ++ news) → w.grownBy w1 v.ownBlock → (∀ k, v1.ownBlock = some k → v.ownBlock = some k ∨ w.heap.size ≤ k) → K (a.put o.dst v1) w1) :
    if Region.wanted o (yielded ops a.tmps) = true then Oper.wp P o a w K Q else E := by
  have hw : Region.wanted o (yielded ops a.tmps) = true := by simp [Region.wanted, hgd]
  rw [if_pos hw]
  obtain ⟨i0, hi, hzz⟩ := Option.map_eq_some_iff.1 hinfo
  simp only [Prod.mk.injEq] at hzz
  obtain ⟨hz0', hz1, hz2⟩ := hzz
  have hlen : n + 1 ≤ 140737488355328 := Nat.le_trans (Nat.le_mul_of_pos_right _ hb0) hl
  obtain ⟨v', w', hr, h2, h3, _, h5⟩ := run_append_own_at (P := P) w 0 t o.type e i0 z size bytes ht hi hz0' hz1 hz2 hz hz0 v n xs HO ⟨B, 0, none⟩ 1 1 news (by omega) (World.news_of_block (cs := news.toArray) (t := e) (fr := (0, 0)) hB) h1 (by simp only [maxLen]; omega) hl (by simp)
  unfold Oper.wp execOp
  simp only [ho, resolve, invoke, builtin, Sem.run_bind, Sem.run_pure, Result.andThen_ok, List.map_toArray, List.map_cons, List.map_nil, hs, hx, hr]
  refine h _ _ h2 h3 fun k hk => ?_
  rcases h5 with h5 | h5
  · exact .inl (h5 ▸ hk)
  · rw [h5] at hk; cases hk; exact .inr (Nat.le_refl _)
end Go.Proofs.Bo
namespace Go.Proofs.Bo
open Go Go.RowKit
theorem step_app_one {P : Program} {W : World} {ops : Array Oper} {o : Oper} {a : Act} {K : Act → World → Prop} {Q : Exit → Act → World → Prop} {E : Prop} (news : List Value) (v : Value) (n : Nat) (xs : List Value) (s x : Operand) (t e : TypeId) (z : Value) (size bytes : Nat) (hgd : o.guard = none)
    (ho : o.op = .call { callee := .builtin .append, args := #[s, x], argTypes := #[t, t] })
    (ht : P.underlying t = some (.slice e)) (hinfo : (P.info? e).map (fun i => (i.zero, i.size, i.bytes)) = some (some z, size, bytes)) (hz : z.cells.size = size) (hz0 : 0 < size) (hb0 : 0 < bytes)
    (hs : a.eval s = v) (hx : a.eval x = .slice (some ⟨W.heap.size, 0, none⟩) 1 1) (HO : W.ownsRow 0 e size v n xs)
    (hnl : news.length = size) (h1 : ∀ u ∈ news, u.oneCell' = true) (hl : (n + 1) * bytes ≤ 140737488355328)
    (h : ∀ v1 w1, w1.ownsRow 0 e size v1 (n + 1) (xs ++ news) → W.grownBy w1 v.ownBlock → (∀ k, v1.ownBlock = some k → v.ownBlock = some k ∨ W.heap.size ≤ k) → K (a.put o.dst v1) w1) :
    if Region.wanted o (yielded ops a.tmps) = true then Oper.wp P o a (W.alloc (.cells news.toArray e)) K Q else E := by
  refine step_app news v n xs s x t e z size bytes hgd ho ht hinfo hz hz0 hb0 hs (HO.alloc _) W.heap.size (heap_alloc_new W _) hx hnl h1 hl ?_
  intro v1 w1 hown hg hb
  have hg0 : W.grownBy (W.alloc (.cells news.toArray e)) v.ownBlock := World.grownBy_alloc W _ _
  exact h v1 w1 hown (hg0.trans hg) fun k hk => (hb k hk).imp id fun h => Nat.le_trans (by simp) h
end Go.Proofs.Bo
set_option linter.unusedVariables false
set_option linter.unusedSimpArgs false
namespace Go.Proofs.Bo
open Go Go.RowKit
/-- A slice that came in: its elements' cells, made by f. -/
def RdS {β : Type} (f : β → List Value) (m : Nat) (w : World) (a : Option Addr) (len : Nat) (zs : List β) : Prop :=
  zs.length = len ∧ (∀ b, (f b).length = m) ∧ (0 < len → ∃ b o, a = some ⟨b, o, none⟩ ∧ ∀ i z, zs[i]? = some z → ∀ j u, (f z)[j]? = some u → w.cell? ⟨b, o + i * m + j, none⟩ = some u)
theorem RdS.below {β : Type} {f : β → List Value} {m : Nat} {w w' : World} {a : Option Addr} {len : Nat} {zs : List β} (h : RdS f m w a len zs) (hm : 0 < m) (hb : Below w.heap.size w w') : RdS f m w' a len zs := by
  refine ⟨h.1, h.2.1, fun hl => ?_⟩
  obtain ⟨b, o, e, hc⟩ := h.2.2 hl
  refine ⟨b, o, e, fun i z hz j u hu => ?_⟩
  have := hc i z hz j u hu
  exact (hb.cell (p := ⟨b, o + i * m + j, none⟩) (World.block_lt_of_cell? w _ this)).trans this
end Go.Proofs.Bo
set_option linter.unusedVariables false
set_option linter.unusedSimpArgs false
namespace Go.Proofs.Bo
open Go Go.RowKit
section
variable {P : Program} {ops : Array Oper} {md : Region.Mode} {C : World → Prop}

/-- Whatever order is picked of the first n operations, all of them quiet; then L. -/
def HeadQ (P : Program) (md : Region.Mode) (ops : Array Oper) (C : World → Prop) (n : Nat) (L : Array Bool → Act → Prop) : Nat → Array Bool → Act → Prop
  | 0, listed, a => L listed a
  | f + 1, listed, a => Region.ready md ops listed ≠ [] ∧ ∀ i, i ∈ Region.ready md ops listed → i < n ∧ qOp P ops C i (HeadQ P md ops C n L f (listed.setIfInBounds i true)) a

theorem any_of_headQ {n g : Nat} {L : Array Bool → Act → Prop} {Q : Exit → Act → World → Prop} (hL : ∀ listed a w, C w → L listed a → wpAny P md ops Q g listed a w) :
    ∀ (f : Nat) (listed : Array Bool) (a : Act) (w : World), C w → HeadQ P md ops C n L f listed a → wpAny P md ops Q (f + g) listed a w
  | 0, listed, a, w, hw, h => by rw [Nat.zero_add]; exact hL _ _ _ hw h
  | f + 1, listed, a, w, hw, h => by
    rw [Nat.add_right_comm]
    exact ⟨fun e => absurd e h.1, fun i hi => wpOp_of_qOp hw (fun _ _ hw' hk => any_of_headQ hL f _ _ _ hw' hk) (h.2 i hi).2⟩

theorem HeadQ.pick {n i : Nat} {oi : Oper} {v : Value} {L : Array Bool → Act → Prop} (hi : ops[i]? = some oi) (hsel : ∀ (j : Nat) (o : Oper) cs b, ops[j]? = some o → o.op ≠ .select cs b)
    (hs : Region.sinkB md ops n = true) (hc : Region.chainB md ops n = true) (hn : n < ops.size) (hin : i < n) (hL : ∀ listed a, L listed a → ∀ j ∈ Region.ready md ops listed, n ≤ j) :
    ∀ (f : Nat) (listed : Array Bool) (a : Act), HeadInv md ops n listed →
      (∀ j oj, ops[j]? = some oj → j ≠ i → listed.getD j true = false → (∀ e ∈ oj.after, Region.binds md e = true → e.on ≠ i) → oi.apart ops oj = true) →
      i ∈ Region.ready md ops listed → YieldsIn P ops C oi v a → HeadQ P md ops C n L f (listed.setIfInBounds i true) (a.put oi.dst v) → HeadQ P md ops C n L (f + 1) listed a := by
  intro f
  induction f with
  | zero =>
    intro listed a inv _ hr hy H
    refine ⟨List.ne_nil_of_mem hr, fun j hj => ?_⟩
    have hjn : j < n := Nat.lt_of_not_le fun h => tail_waits hs hc hn inv _ i rfl hin (mem_ready.1 hr).1 j h hj
    by_cases e : j = i
    · subst e; exact ⟨hjn, hy.qOp hi H⟩
    · exact absurd (hL _ _ H j (ready_mono hj e)) (by omega)
  | succ f ih =>
    intro listed a inv hfree hr hy H
    refine ⟨List.ne_nil_of_mem hr, fun j hj => ?_⟩
    have hun := (mem_ready.1 hr).1
    have hjn : j < n := Nat.lt_of_not_le fun h => tail_waits hs hc hn inv _ i rfl hin hun j h hj
    refine ⟨hjn, ?_⟩
    by_cases e : j = i
    · subst e; exact hy.qOp hi H
    · obtain ⟨hjun, oj, hoj, hall⟩ := mem_ready.1 hj
      have hno : ∀ x ∈ oj.after, Region.binds md x = true → x.on ≠ i := fun x hx hb he => by
        have := hall x hx hb
        rw [he, getD_both hun] at this
        cases this
      have hnext : ∀ k ok, ops[k]? = some ok → k ≠ i → (listed.setIfInBounds j true).getD k true = false → (∀ x ∈ ok.after, Region.binds md x = true → x.on ≠ i) → oi.apart ops ok = true := fun k ok hk hki hu hx =>
        hfree k ok hk hki (by
          by_cases ejk : j = k
          · subst ejk; exact hjun
          · rwa [getD_set_ne true ejk] at hu) hx
      have hq := qOp_put hoj (hfree j oj hoj e hjun hno) (fun cs b => hsel i oi cs b hi) (fun cs b => hsel j oj cs b hoj) hy (H.2 j (ready_mono hj e)).2
      refine qOp_mono (fun a' h3 => ih _ a' (inv.set hj hjn) hnext (ready_mono hr (Ne.symm e)) h3.1 ?_) hq
      rw [Array.setIfInBounds_comm _ _ e]
      exact h3.2

theorem HeadQ.lex {n g : Nat} {Lq : Act → Prop} (hsel : Region.noSelect ops = true) (hs : Region.sinkB md ops n = true) (hc : Region.chainB md ops n = true) (hn : n < ops.size) :
    ∀ (l : List Oper) (k : Nat) (listed : Array Bool) (a : Act), (∀ j, j < l.length → l[j]? = ops[k + j]?) → k + l.length = n → HeadInv md ops n listed →
      Region.lexHead md ops g l.length k listed = true → wpQuiet P ops C Lq l a → HeadQ P md ops C n (fun listed' a' => Region.seqB md ops g n listed' = true ∧ Lq a') l.length listed a
  | [], k, listed, a, _, hk, _, hB, h => by
    obtain rfl : k = n := by simpa using hk
    exact ⟨by simpa [Region.lexHead] using hB, h⟩
  | o :: l, k, listed, a, hl, hk, inv, hB, h => by
    simp only [List.length_cons] at hk hl
    have h0 : ops[k]? = some o := by simpa using (hl 0 (by omega)).symm
    simp only [List.length_cons, Region.lexHead, Bool.and_eq_true] at hB
    have hr : k ∈ Region.ready md ops listed := by simpa using hB.1.1
    obtain ⟨v, hy, hK⟩ := yieldsIn_of_qOp (K := wpQuiet P ops C Lq l) h0 (by unfold qOp; simp only [h0]; exact h)
    exact HeadQ.pick h0 (Region.noSelect_spec hsel) hs hc hn (by omega) (fun _ _ hL => seqB_ready hL.1) l.length listed a inv (Region.free_spec h0 hB.1.2) hr hy
      (HeadQ.lex hsel hs hc hn l (k + 1) _ _ (fun j hj => by have := hl (j + 1) (by omega); simpa [Nat.add_assoc, Nat.add_comm 1 j] using this) (by omega) (inv.set hr (by omega)) hB.2 hK)

/-- A region that draws its order: n operations that read and call quietly, then a tail in one order. -/
theorem wp_region_quiet_tail {id : Nat} {Q : Exit → Act → World → Prop} {a : Act} {w : World} {l : List Oper} (n : Nat) (hm : P.follows .mixedOrders = true) (hB : Region.lexTailB .any l.toArray n = true)
    (h : wpQuiet P l.toArray (fun w' => ∃ n, w' = w.drewN n) (fun a' => ∀ w', (∃ n, w' = w.drewN n) → wpList P l.toArray Q (l.drop n) a' w') (l.take n) a) : (Code.region id l.toArray true).wp P Q a w := by
  simp only [Region.lexTailB, Bool.and_eq_true, decide_eq_true_eq] at hB
  obtain ⟨⟨⟨⟨hsel, hn⟩, hs⟩, hc⟩, hlex⟩ := hB
  have hn' : n < l.length := by simpa using hn
  have htl : (l.take n).length = n := by simp; omega
  have inv0 : HeadInv .any l.toArray n (Array.replicate l.toArray.size false) :=
    ⟨by simp, fun j oj _ hl => (by rw [getD_replicate_false] at hl; cases hl), fun t _ ht => getD_in (by simpa using ht) (getD_replicate_false _ _)⟩
  have H := HeadQ.lex (md := .any) (g := l.toArray.size - n) hsel hs hc hn (l.take n) 0 _ a (fun j hj => by
    rw [htl] at hj
    simp [hj]) (by simpa using htl) inv0 (by rw [htl]; exact hlex) h
  refine wp_region_any hm ?_
  have := any_of_headQ (Q := Q) (g := l.toArray.size - n) (fun listed a' w' hw' hL => by
    have hd : (l.drop n).length = l.toArray.size - n := by simp
    rw [← hd]
    exact wpAny_of_seq (l.drop n) n listed a' w' (fun j => by simp) (by rw [hd]; exact hL.1) (hL.2 w' hw')) _ _ _ w.drew ⟨1, rfl⟩ H
  have e : (l.take n).length + (l.toArray.size - n) = l.toArray.size := by rw [htl]; simp; omega
  rw [e] at this
  exact this

/-- The worlds in which no elder block has changed. -/
def CM (w w' : World) : Prop := Mod (fun _ => False) w w'
/-- A region that draws its order, whose operations read, or call what only makes memory. -/
theorem cq_region {id : Nat} {Q : Exit → Act → World → Prop} {a : Act} {w : World} {l : List Oper} (hm : P.follows .mixedOrders = true) (hB : Region.lexB .any l.toArray = true)
    (h : wpQuiet P l.toArray (CM w) (fun a' => ∀ w', CM w w' → Q .normal a' w') l a) : (Code.region id l.toArray true).wp P Q a w :=
  wp_region_quiet (C := CM w) hm hB ((Mod.refl _ w).drew) (by simpa using h)
/-- .. of which the first n do so; then a tail in one order. -/
theorem cq_tail {id : Nat} {Q : Exit → Act → World → Prop} {a : Act} {w : World} {l : List Oper} (n : Nat) (hm : P.follows .mixedOrders = true) (hB : Region.lexTailB .any l.toArray n = true)
    (h : wpQuiet P l.toArray (CM w) (fun a' => ∀ w', CM w w' → wpList P l.toArray Q (l.drop n) a' w') (l.take n) a) : (Code.region id l.toArray true).wp P Q a w := by
  simp only [Region.lexTailB, Bool.and_eq_true, decide_eq_true_eq] at hB
  obtain ⟨⟨⟨⟨hsel, hn⟩, hs⟩, hc⟩, hlex⟩ := hB
  have hn' : n < l.length := by simpa using hn
  have htl : (l.take n).length = n := by simp; omega
  have inv0 : HeadInv .any l.toArray n (Array.replicate l.toArray.size false) :=
    ⟨by simp, fun j oj _ hl => (by rw [getD_replicate_false] at hl; cases hl), fun t _ ht => getD_in (by simpa using ht) (getD_replicate_false _ _)⟩
  have H := HeadQ.lex (md := .any) (g := l.toArray.size - n) hsel hs hc hn (l.take n) 0 _ a (fun j hj => by
    rw [htl] at hj
    simp [hj]) (by simpa using htl) inv0 (by rw [htl]; exact hlex) h
  refine wp_region_any hm ?_
  have := any_of_headQ (Q := Q) (g := l.toArray.size - n) (fun listed a' w' hw' hL => by
    have hd : (l.drop n).length = l.toArray.size - n := by simp
    rw [← hd]
    exact wpAny_of_seq (l.drop n) n listed a' w' (fun j => by simp) (by rw [hd]; exact hL.1) (hL.2 w' hw')) _ _ _ w.drew ((Mod.refl _ w).drew) H
  have e : (l.take n).length + (l.toArray.size - n) = l.toArray.size := by rw [htl]; simp; omega
  rw [e] at this
  exact this
end
end Go.Proofs.Bo
set_option linter.unusedVariables false
set_option linter.unusedSimpArgs false
namespace Go.Proofs.Bo
open Go Go.RowKit
section
variable {P : Program} {ops : Array Oper} {md : Region.Mode} {C : World → Prop}

/-- Behind operation n each waits for one of the tail. -/
def wchainB (md : Region.Mode) (ops : Array Oper) (n : Nat) : Bool :=
  (List.range ops.size).all fun t => decide (t ≤ n) || (List.range t).any fun j => decide (n ≤ j) && Region.waitsFor md ops t j

theorem tail_waits2 {n : Nat} {listed : Array Bool} (hs : Region.sinkB md ops n = true) (hc : wchainB md ops n = true) (hn : n < ops.size) (inv : HeadInv md ops n listed) :
    ∀ (d i : Nat), n - i = d → i < n → listed.getD i true = false → ∀ t, n ≤ t → t ∉ Region.ready md ops listed := by
  intro d
  induction d using Nat.strongRecOn with
  | _ d ih =>
    intro i hd hi hun t ht hr
    obtain ⟨_, ot, hot, hall⟩ := mem_ready.1 hr
    have htlt : t < ops.size := (Array.getElem?_eq_some_iff.1 hot).1
    by_cases htn : t = n
    · subst htn
      have h1 := List.all_eq_true.1 hs i (List.mem_range.2 hi)
      obtain ⟨j, hj, hj2⟩ := List.any_eq_true.1 h1
      simp only [Bool.and_eq_true, decide_eq_true_eq] at hj2
      obtain ⟨oj, hoj, e, he, hb, hon⟩ := Region.waitsFor_spec hj2.2
      have hjle : j ≤ t := by have := List.mem_range.1 hj; omega
      by_cases hjt : j = t
      · subst hjt
        have : oj = ot := Option.some.inj (hoj.symm.trans hot)
        subst this
        have h2 := hall e he hb
        rw [hon, getD_both hun] at h2
        cases h2
      · cases hl : listed.getD j false with
        | true =>
          have h2 := inv.closed j oj hoj hl e he hb
          rw [hon, getD_both hun] at h2
          cases h2
        | false =>
          have hjs : j < listed.size := by rw [inv.size]; omega
          exact ih (t - j) (by omega) j rfl (by omega) (getD_in hjs hl) t (Nat.le_refl _) hr
    · have h1 := List.all_eq_true.1 hc t (List.mem_range.2 htlt)
      simp only [Bool.or_eq_true, decide_eq_true_eq] at h1
      rcases h1 with h1 | h1
      · omega
      · obtain ⟨j, hj, hj2⟩ := List.any_eq_true.1 h1
        simp only [Bool.and_eq_true, decide_eq_true_eq] at hj2
        have hjlt := List.mem_range.1 hj
        obtain ⟨o', ho', e, he, hb, hon⟩ := Region.waitsFor_spec hj2.2
        have : o' = ot := Option.some.inj (ho'.symm.trans hot)
        subst this
        have h2 := hall e he hb
        rw [hon, getD_both (inv.tail j hj2.1 (by omega))] at h2
        cases h2

theorem HeadQ.pick2 {n i : Nat} {oi : Oper} {v : Value} {L : Array Bool → Act → Prop} (hi : ops[i]? = some oi) (hsel : ∀ (j : Nat) (o : Oper) cs b, ops[j]? = some o → o.op ≠ .select cs b)
    (hs : Region.sinkB md ops n = true) (hc : wchainB md ops n = true) (hn : n < ops.size) (hin : i < n) (hL : ∀ listed a, L listed a → ∀ j ∈ Region.ready md ops listed, n ≤ j) :
    ∀ (f : Nat) (listed : Array Bool) (a : Act), HeadInv md ops n listed →
      (∀ j oj, ops[j]? = some oj → j ≠ i → listed.getD j true = false → (∀ e ∈ oj.after, Region.binds md e = true → e.on ≠ i) → oi.apart ops oj = true) →
      i ∈ Region.ready md ops listed → YieldsIn P ops C oi v a → HeadQ P md ops C n L f (listed.setIfInBounds i true) (a.put oi.dst v) → HeadQ P md ops C n L (f + 1) listed a := by
  intro f
  induction f with
  | zero =>
    intro listed a inv _ hr hy H
    refine ⟨List.ne_nil_of_mem hr, fun j hj => ?_⟩
    have hjn : j < n := Nat.lt_of_not_le fun h => tail_waits2 hs hc hn inv _ i rfl hin (mem_ready.1 hr).1 j h hj
    by_cases e : j = i
    · subst e; exact ⟨hjn, hy.qOp hi H⟩
    · exact absurd (hL _ _ H j (ready_mono hj e)) (by omega)
  | succ f ih =>
    intro listed a inv hfree hr hy H
    refine ⟨List.ne_nil_of_mem hr, fun j hj => ?_⟩
    have hun := (mem_ready.1 hr).1
    have hjn : j < n := Nat.lt_of_not_le fun h => tail_waits2 hs hc hn inv _ i rfl hin hun j h hj
    refine ⟨hjn, ?_⟩
    by_cases e : j = i
    · subst e; exact hy.qOp hi H
    · obtain ⟨hjun, oj, hoj, hall⟩ := mem_ready.1 hj
      have hno : ∀ x ∈ oj.after, Region.binds md x = true → x.on ≠ i := fun x hx hb he => by
        have := hall x hx hb
        rw [he, getD_both hun] at this
        cases this
      have hnext : ∀ k ok, ops[k]? = some ok → k ≠ i → (listed.setIfInBounds j true).getD k true = false → (∀ x ∈ ok.after, Region.binds md x = true → x.on ≠ i) → oi.apart ops ok = true := fun k ok hk hki hu hx =>
        hfree k ok hk hki (by
          by_cases ejk : j = k
          · subst ejk; exact hjun
          · rwa [getD_set_ne true ejk] at hu) hx
      have hq := qOp_put hoj (hfree j oj hoj e hjun hno) (fun cs b => hsel i oi cs b hi) (fun cs b => hsel j oj cs b hoj) hy (H.2 j (ready_mono hj e)).2
      refine qOp_mono (fun a' h3 => ih _ a' (inv.set hj hjn) hnext (ready_mono hr (Ne.symm e)) h3.1 ?_) hq
      rw [Array.setIfInBounds_comm _ _ e]
      exact h3.2

/-- n operations in any order, then a condition. -/
def lexHeadM (md : Region.Mode) (ops : Array Oper) (B : Array Bool → Bool) : Nat → Nat → Array Bool → Bool
  | 0, _, listed => B listed
  | f + 1, k, listed => (Region.ready md ops listed).contains k && Region.free md ops listed k && lexHeadM md ops B f (k + 1) (listed.setIfInBounds k true)

theorem HeadQ.lex2 {n : Nat} {Lq : Act → Prop} {B : Array Bool → Bool} (hB : ∀ listed, B listed = true → ∀ j ∈ Region.ready md ops listed, n ≤ j) (hsel : Region.noSelect ops = true) (hs : Region.sinkB md ops n = true) (hc : wchainB md ops n = true) (hn : n < ops.size) :
    ∀ (l : List Oper) (k : Nat) (listed : Array Bool) (a : Act), (∀ j, j < l.length → l[j]? = ops[k + j]?) → k + l.length = n → HeadInv md ops n listed →
      lexHeadM md ops B l.length k listed = true → wpQuiet P ops C Lq l a → HeadQ P md ops C n (fun listed' a' => B listed' = true ∧ Lq a') l.length listed a
  | [], k, listed, a, _, hk, _, hb, h => by
    obtain rfl : k = n := by simpa using hk
    exact ⟨by simpa [lexHeadM] using hb, h⟩
  | o :: l, k, listed, a, hl, hk, inv, hb, h => by
    simp only [List.length_cons] at hk hl
    have h0 : ops[k]? = some o := by simpa using (hl 0 (by omega)).symm
    simp only [List.length_cons, lexHeadM, Bool.and_eq_true] at hb
    have hr : k ∈ Region.ready md ops listed := by simpa using hb.1.1
    obtain ⟨v, hy, hK⟩ := yieldsIn_of_qOp (K := wpQuiet P ops C Lq l) h0 (by unfold qOp; simp only [h0]; exact h)
    exact HeadQ.pick2 h0 (Region.noSelect_spec hsel) hs hc hn (by omega) (fun listed' _ hL => hB listed' hL.1) l.length listed a inv (Region.free_spec h0 hb.1.2) hr hy
      (HeadQ.lex2 hB hsel hs hc hn l (k + 1) _ _ (fun j hj => by have := hl (j + 1) (by omega); simpa [Nat.add_assoc, Nat.add_comm 1 j] using this) (by omega) (inv.set hr (by omega)) hb.2 hK)

def midC (md : Region.Mode) (ops : Array Oper) (n : Nat) (listed : Array Bool) : Bool :=
  decide (Region.ready md ops listed = [n]) && Region.lexFrom md ops (ops.size - n - 1) (n + 1) (listed.setIfInBounds n true)
theorem midC_spec {md : Region.Mode} {ops : Array Oper} {n : Nat} {listed : Array Bool} (h : midC md ops n listed = true) : Region.ready md ops listed = [n] ∧ Region.lexFrom md ops (ops.size - n - 1) (n + 1) (listed.setIfInBounds n true) = true := by
  simpa [midC] using h
/-- n quiet ones, number n alone, then the others. -/
def midB (md : Region.Mode) (ops : Array Oper) (n : Nat) : Bool :=
  Region.noSelect ops && decide (n < ops.size) && Region.sinkB md ops n && wchainB md ops n &&
    lexHeadM md ops (midC md ops n) n 0 (Array.replicate ops.size false)

/-- A region that draws its order: n operations that read, or call what only makes memory; one operation; then such ones again. -/
theorem cq_mid {id : Nat} {Q : Exit → Act → World → Prop} {a : Act} {w : World} {l : List Oper} (n : Nat) (o : Oper) (hm : P.follows .mixedOrders = true) (hB : midB .any l.toArray n = true) (ho : l[n]? = some o) (hg : o.guard = none)
    (h : wpQuiet P l.toArray (CM w) (fun a' => ∀ w', CM w w' → ∀ K : Act → World → Prop, (∀ a1 w1, wpQuiet P l.toArray (CM w1) (fun a2 => ∀ w2, CM w1 w2 → Q .normal a2 w2) (l.drop (n + 1)) a1 → K a1 w1) → o.wp P a' w' K Q) (l.take n) a) :
    (Code.region id l.toArray true).wp P Q a w := by
  simp only [midB, Bool.and_eq_true, decide_eq_true_eq] at hB
  obtain ⟨⟨⟨⟨hsel, hn⟩, hs⟩, hc⟩, hlex⟩ := hB
  have hn' : n < l.length := by simpa using hn
  have htl : (l.take n).length = n := by simp; omega
  have inv0 : HeadInv .any l.toArray n (Array.replicate l.toArray.size false) :=
    ⟨by simp, fun j oj _ hl => (by rw [getD_replicate_false] at hl; cases hl), fun t _ ht => getD_in (by simpa using ht) (getD_replicate_false _ _)⟩
  have H := HeadQ.lex2 (P := P) (C := CM w) (md := .any) (n := n) (B := midC .any l.toArray n) (fun listed hb j hj => by
      rw [(midC_spec hb).1] at hj
      have : j = n := by simpa using hj
      omega) hsel hs hc hn (l.take n) 0 _ a (fun j hj => by
    rw [htl] at hj
    simp [hj]) (by simpa using htl) inv0 (by rw [htl]; exact hlex) h
  refine wp_region_any hm ?_
  have := any_of_headQ (Q := Q) (g := l.toArray.size - n) (fun listed a' w' hw' hL => by
    obtain ⟨hb, hq⟩ := hL
    replace hb := midC_spec hb
    have hd : l.toArray.size - n = (l.drop (n + 1)).length + 1 := by simp; omega
    rw [hd]
    refine wpAny_all hb.1 (by simp) ?_
    intro i hi
    simp at hi
    subst hi
    unfold wpOp
    simp only [List.getElem?_toArray, ho]
    rw [if_pos (by simp [Region.wanted, hg])]
    refine .inl (hq w' hw' _ fun a1 w1 hq1 => ?_)
    refine wpAny_of_quiet (C := CM w1) (Q := fun a' => ∀ w', CM w1 w' → Q .normal a' w') (fun _ w' hw' h => h w' hw') _ _ _ _ (Mod.refl _ _) ?_
    have hd2 : (l.drop (i + 1)).length = l.toArray.size - i - 1 := by simp; omega
    exact wpAnyQ_lex hsel (l.drop (i + 1)) (i + 1) _ _ (fun j => by simp) (by rw [hd2]; exact hb.2) hq1) _ _ _ w.drew ((Mod.refl _ w).drew) H
  have e : (l.take n).length + (l.toArray.size - n) = l.toArray.size := by rw [htl]; simp; omega
  rw [e] at this
  exact this
end
end Go.Proofs.Bo
set_option linter.unusedVariables false
set_option linter.unusedSimpArgs false
namespace Go.Proofs.Bo
open Go Go.RowKit
/-! Keys, rows of segments. -/
def ky (s : Sg) : Int := kx s.ls s.la
def Srt (l : List Sg) : Prop := l.Pairwise (fun x y => ky x < ky y)
/-- A key that can stand in a tree. -/
def KeyOK (s : Sg) : Prop := okKey s.ls s.la ∧ fit64 s.la
/-- A row of a tree. -/
def Row (l : List Sg) : Prop := Srt l ∧ ∀ s ∈ l, KeyOK s

theorem Srt.app {a b : List Sg} {s : Sg} (h : Srt (a ++ s :: b)) : (∀ x ∈ a, ky x < ky s) ∧ ∀ x ∈ b, ky s < ky x := by
  unfold Srt at h
  rw [List.pairwise_append] at h
  refine ⟨fun x hx => h.2.2 x hx s (by simp), fun x hx => ?_⟩
  have := h.2.1
  rw [List.pairwise_cons] at this
  exact this.1 x hx
def insL (s : Sg) (l : List Sg) : List Sg := l.filter (fun x => ky x < ky s) ++ s :: l.filter (fun x => ky s < ky x)
def delL (k : Int) (l : List Sg) : List Sg := l.filter (fun x => ky x ≠ k)
def hasK (k : Int) (l : List Sg) : Bool := l.any (fun x => ky x = k)

theorem filt_lo {a b : List Sg} {k : Int} (ha : ∀ x ∈ a, ky x < k) (hb : ∀ x ∈ b, k ≤ ky x) : (a ++ b).filter (fun x => ky x < k) = a := by
  rw [List.filter_append, List.filter_eq_self.2 (by simpa using ha), List.filter_eq_nil_iff.2 (by intro x hx; have := hb x hx; simp; omega), List.append_nil]
theorem filt_hi {a b : List Sg} {k : Int} (ha : ∀ x ∈ a, ky x ≤ k) (hb : ∀ x ∈ b, k < ky x) : (a ++ b).filter (fun x => k < ky x) = b := by
  rw [List.filter_append, List.filter_eq_nil_iff.2 (by intro x hx; have := ha x hx; simp; omega), List.filter_eq_self.2 (by simpa using hb), List.nil_append]
theorem ins_new {a b : List Sg} {s : Sg} (ha : ∀ x ∈ a, ky x < ky s) (hb : ∀ x ∈ b, ky s < ky x) : insL s (a ++ b) = a ++ s :: b := by
  unfold insL
  rw [filt_lo ha (fun x h => Int.le_of_lt (hb x h)), filt_hi (fun x h => Int.le_of_lt (ha x h)) hb]
theorem ins_old {a b : List Sg} {s y : Sg} (hy : ky y = ky s) (ha : ∀ x ∈ a, ky x < ky s) (hb : ∀ x ∈ b, ky s < ky x) : insL s (a ++ y :: b) = a ++ s :: b := by
  unfold insL
  rw [filt_lo ha (by intro x hx; rcases List.mem_cons.1 hx with rfl | hx; omega; exact Int.le_of_lt (hb x hx))]
  have : a ++ y :: b = (a ++ [y]) ++ b := by simp
  rw [this, filt_hi (by intro x hx; rcases List.mem_append.1 hx with hx | hx; exact Int.le_of_lt (ha x hx); simp at hx; subst hx; omega) hb]
theorem del_old {a b : List Sg} {y : Sg} {k : Int} (hy : ky y = k) (ha : ∀ x ∈ a, ky x < k) (hb : ∀ x ∈ b, k < ky x) : delL k (a ++ y :: b) = a ++ b := by
  unfold delL
  rw [List.filter_append, List.filter_cons, if_neg (by simpa using hy), List.filter_eq_self.2 (by intro x hx; have := ha x hx; simp; omega), List.filter_eq_self.2 (by intro x hx; have := hb x hx; simp; omega)]
theorem has_old {a b : List Sg} {y : Sg} {k : Int} (hy : ky y = k) : hasK k (a ++ y :: b) = true := by simp [hasK, hy]
theorem has_new {a b : List Sg} {k : Int} (ha : ∀ x ∈ a, ky x < k) (hb : ∀ x ∈ b, k < ky x) : hasK k (a ++ b) = false := by
  rw [hasK, List.any_eq_false]
  intro x hx
  rcases List.mem_append.1 hx with hx | hx
  · have := ha x hx; simp; omega
  · have := hb x hx; simp; omega
theorem Row.mid {a b : List Sg} {s : Sg} (h : Row (a ++ b)) (hs : KeyOK s) (ha : ∀ x ∈ a, ky x < ky s) (hb : ∀ x ∈ b, ky s < ky x) : Row (a ++ s :: b) := by
  obtain ⟨h1, h2⟩ := h
  unfold Srt at h1
  rw [List.pairwise_append] at h1
  refine ⟨?_, ?_⟩
  · unfold Srt
    rw [List.pairwise_append]
    refine ⟨h1.1, List.pairwise_cons.2 ⟨hb, h1.2.1⟩, ?_⟩
    intro x hx y hy
    rcases List.mem_cons.1 hy with rfl | hy
    · exact ha x hx
    · exact h1.2.2 x hx y hy
  · intro x hx
    rcases List.mem_append.1 hx with hx | hx
    · exact h2 x (by simp [hx])
    · rcases List.mem_cons.1 hx with rfl | hx
      · exact hs
      · exact h2 x (by simp [hx])
theorem Row.out {a b : List Sg} {s : Sg} (h : Row (a ++ s :: b)) : Row (a ++ b) := by
  obtain ⟨h1, h2⟩ := h
  refine ⟨?_, fun x hx => h2 x (by rcases List.mem_append.1 hx with hx | hx <;> simp [hx])⟩
  unfold Srt at *
  exact h1.sublist (List.Sublist.append_left (List.sublist_cons_self _ _) _)
instance (s a : Int) : Decidable (okKey s a) := by unfold okKey; exact inferInstance
def okB (s : Sg) : Bool := decide (okKey s.ls s.la)
def putE (room : Int) (s : Sg) (l : List Sg) : Int := if okB s then (if hasK (ky s) l then 0 else if room ≤ l.length then 50 else 0) else 1
def putL (room : Int) (s : Sg) (l : List Sg) : List Sg := if okB s then (if hasK (ky s) l then insL s l else if room ≤ l.length then l else insL s l) else l
theorem boxC (w : World) (cs ca : Int) : ∃ w0, w.alloc (.cells #[.int .i64 cs, .int .i64 ca] 26) = w0 ∧
    w0.heap[w.heap.size]? = some (.cells #[.int .i64 cs, .int .i64 ca] 26 (0, 0)) ∧ Mod (fun _ => False) w w0 :=
  ⟨_, rfl, alloc_0 _ _, (Mod.refl _ _).alloc _⟩

/-- The block that a segment comes in. -/
theorem boxS (w : World) (s : Sg) : ∃ w0, w.alloc (.cells #[.int .i64 s.ls, .int .i64 s.la, .int .i64 s.hs, .int .i64 s.ha, .int .i64 s.v] 39) = w0 ∧
    w0.heap[w.heap.size]? = some (.cells #[.int .i64 s.ls, .int .i64 s.la, .int .i64 s.hs, .int .i64 s.ha, .int .i64 s.v] 39 (0, 0)) ∧ Mod (fun _ => False) w w0 :=
  ⟨_, rfl, alloc_0 _ _, (Mod.refl _ _).alloc _⟩

/-- What is told of a segment, or of none. -/
def zSg : Sg := ⟨0, 0, 0, 0, 0⟩
def oS (o : Option Sg) : Sg := o.getD zSg
def optS (o : Option Sg) : Value := .tuple #[.agg #[.int .i64 (oS o).ls, .int .i64 (oS o).la, .int .i64 (oS o).hs, .int .i64 (oS o).ha, .int .i64 (oS o).v], .bool o.isSome]
theorem boxZ (w : World) : ∃ w0, w.alloc (.cells #[.int .i64 0, .int .i64 0, .int .i64 0, .int .i64 0, .int .i64 0] 39) = w0 ∧
    w0.heap[w.heap.size]? = some (.cells #[.int .i64 0, .int .i64 0, .int .i64 0, .int .i64 0, .int .i64 0] 39 (0, 0)) ∧ Mod (fun _ => False) w w0 :=
  ⟨_, rfl, alloc_0 _ _, (Mod.refl _ _).alloc _⟩

/-- Five cells are stored. -/
theorem store5 {w W : World} {g : Nat} {a b c d e a' b' c' d' e' : Value} {t : TypeId} (hb : W.heap[g]? = some (.cells #[a, b, c, d, e] t (0, 0))) (hg : w.heap.size ≤ g) (M : Mod (fun _ => False) w W) :
    (fun W' : World => W'.heap[g]? = some (.cells #[a', b', c', d', e'] t (0, 0)) ∧ Mod (fun _ => False) w W') (((((W.setCell ⟨g, 0, none⟩ a').setCell ⟨g, 1, none⟩ b').setCell ⟨g, 2, none⟩ c').setCell ⟨g, 3, none⟩ d').setCell ⟨g, 4, none⟩ e') :=
  ⟨setL_whole (cs := [a, b, c, d, e]) (us := [a', b', c', d', e']) hb rfl, ((((M.setCell (.inr hg) _).setCell (.inr hg) _).setCell (.inr hg) _).setCell (.inr hg) _).setCell (.inr hg) _⟩

def getS (k : Int) (l : List Sg) : Option Sg := l.find? (fun x => ky x = k)
def fitB (d own : Bool) (k x : Int) : Bool := (decide (x = k) && own) || (!d && decide (x < k)) || (d && decide (k < x))
def nearS (d own : Bool) (k : Int) (l : List Sg) : Option Sg := if d then (l.filter (fun x => fitB d own k (ky x))).head? else (l.filter (fun x => fitB d own k (ky x))).getLast?
end Go.Proofs.Bo
set_option linter.unusedVariables false
set_option linter.unusedSimpArgs false
namespace Go.Proofs.Bo
open Go Go.RowKit
/-- A call in a script: 0 Put, 1 Delete of the key, 2 Clear. -/
structure Op6 where
  k : Int
  s : Sg
def encO6 (o : Op6) : List Value := [.int .i64 o.k, .int .i64 o.s.ls, .int .i64 o.s.la, .int .i64 o.s.hs, .int .i64 o.s.ha, .int .i64 o.s.v]
def do6L (room : Int) (o : Op6) (l : List Sg) : List Sg := if o.k = 0 then putL room o.s l else if o.k = 1 then delL (ky o.s) l else if o.k = 2 then [] else l
def do6B (o : Op6) (l : List Sg) : Bool := if o.k = 0 then false else if o.k = 1 then hasK (ky o.s) l else false
def do6E (room : Int) (o : Op6) (l : List Sg) : Int := if o.k = 0 then putE room o.s l else 0

theorem boxO (w : World) (o : Op6) : ∃ w0, w.alloc (.cells (encO6 o).toArray 41) = w0 ∧ w0.heap[w.heap.size]? = some (.cells (encO6 o).toArray 41 (0, 0)) ∧ Mod (fun _ => False) w w0 :=
  ⟨_, rfl, alloc_0 _ _, (Mod.refl _ _).alloc _⟩

/-- Its segment of a number. -/
def segN (n : Int) : Sg := ⟨0, n, 0, 0, n⟩
end Go.Proofs.Bo
set_option linter.unusedVariables false
set_option linter.unusedSimpArgs false
namespace Go.Proofs.Bo
open Go Go.RowKit Go.ChangeShapes Go.WideShapes Go.ChangeAt Go.Deep

/-- The kind of a cell of a type that is made of numbers and bools alone. -/
inductive Fl where
  | int (k : IntKind)
  | bool

def Fl.Is : Fl → Value → Prop
  | .int k, v => ∃ n, v = .int k n ∧ (Lit.int k n).wf = true
  | .bool, v => ∃ b, v = .bool b

/-- Cells of these kinds. -/
inductive Fit : List Fl → List Value → Prop
  | nil : Fit [] []
  | cons {k : Fl} {v : Value} {ks : List Fl} {vs : List Value} : k.Is v → Fit ks vs → Fit (k :: ks) (v :: vs)

theorem Fit.append {a b : List Fl} {x y : List Value} (h : Fit a x) (k : Fit b y) : Fit (a ++ b) (x ++ y) := by
  induction h with
  | nil => exact k
  | cons h1 _ ih => exact .cons h1 ih
theorem Fit.length {a : List Fl} {x : List Value} (h : Fit a x) : x.length = a.length := by
  induction h with
  | nil => rfl
  | cons _ _ ih => simp [ih]
theorem Fit.cons_inv {k : Fl} {ks : List Fl} {x : List Value} (h : Fit (k :: ks) x) : ∃ v vs, x = v :: vs ∧ k.Is v ∧ Fit ks vs := by
  cases h with | cons h1 h2 => exact ⟨_, _, rfl, h1, h2⟩
theorem Fit.nil_inv {x : List Value} (h : Fit [] x) : x = [] := by cases h; rfl

def flatFs (P : Program) (f : TypeId → Option (List Fl)) : List Field → Nat → Option (List Fl)
  | [], _ => some []
  | fd :: fs, o => if fd.offset = o then
      match f fd.type with
      | some ks => if P.cellsOf fd.type = ks.length then (flatFs P f fs (o + ks.length)).map (ks ++ ·) else none
      | none => none
    else none

/-- A type's cells, if it is made of numbers and bools alone. -/
def flat (P : Program) : Nat → TypeId → Option (List Fl)
  | 0, _ => none
  | n + 1, t => match P.underlying t with
    | some (.int k) => some [.int k]
    | some .bool => some [.bool]
    | some (.struct fs) => (flatFs P (flat P n) fs.toList 0).filter fun ks => P.cellsOf t == ks.length
    | some (.array m e) => match flat P n e with
      | some ks => if P.cellsOf e = ks.length ∧ P.cellsOf t = m * ks.length then some (List.replicate m ks).flatten else none
      | none => none
    | _ => none

section
variable {H : Type} {enc : TypeId × Value → H} {P : Program} {w : World} {base : Nat} {spare : Nat → Bool} {held : Bool}

theorem flatFs_fit {f : TypeId → Option (List Fl)} {cs : List Value} (hf : ∀ t ks cs, f t = some ks → (∃ m x, DataW.trod enc P w base spare held m t cs = some x) → Fit ks cs) :
    ∀ (fs : List Field) (o : Nat) (ks : List Fl), flatFs P f fs o = some ks → (∀ (i : Nat) fd, fs[i]? = some fd → ∃ m x, DataW.trod enc P w base spare held m fd.type ((cs.drop fd.offset).take (P.cellsOf fd.type)) = some x) → o + ks.length ≤ cs.length →
      Fit ks ((cs.drop o).take ks.length)
  | [], o, ks, h, _, _ => by simp [flatFs] at h; subst h; simp; exact .nil
  | fd :: fs, o, ks, h, ht, hl => by
    simp only [flatFs] at h
    split at h
    · rename_i ho
      split at h
      · rename_i k1 hk1
        split at h
        · rename_i hc
          obtain ⟨k2, hk2, rfl⟩ := Option.map_eq_some_iff.1 h
          have h0 := hf _ _ _ hk1 (ht 0 fd rfl)
          rw [hc, ho] at h0
          have h1 := flatFs_fit hf fs (o + k1.length) k2 hk2 (fun i fd' hi => ht (i + 1) fd' (by simpa using hi)) (by simp at hl; omega)
          have := h0.append h1
          rw [List.length_append, List.take_add, List.drop_drop]
          exact this
        · cases h
      · cases h
    · cases h

theorem flat_fit : ∀ (n : Nat) (t : TypeId) (ks : List Fl) (cs : List Value), flat P n t = some ks → (∃ m x, DataW.trod enc P w base spare held m t cs = some x) → Fit ks cs
  | 0, _, _, _, h, _ => by simp [flat] at h
  | n + 1, t, ks, cs, h, ⟨m, x, ht⟩ => by
    simp only [flat] at h
    split at h
    · rename_i k hu
      simp at h; subst h
      obtain ⟨v, rfl, _, hw⟩ := DataW.trod_int hu ht
      exact .cons ⟨v, rfl, hw⟩ .nil
    · rename_i hu
      simp at h; subst h
      obtain ⟨v, rfl, _⟩ := DataW.trod_bool hu ht
      exact .cons ⟨v, rfl⟩ .nil
    · rename_i fs hu
      obtain ⟨h1, h2⟩ := Option.filter_eq_some_iff.1 h
      simp at h2
      obtain ⟨xs, n', _, _, hlen, hxl, hg⟩ := DataW.trod_struct hu ht
      have := flatFs_fit (cs := cs) (fun t ks cs h1 h2 => flat_fit n t ks cs h1 h2) fs.toList 0 ks h1 (fun i fd hi => by
        have hi' : fs[i]? = some fd := by simpa using hi
        have hil : i < xs.length := by rw [hxl]; exact (Array.getElem?_eq_some_iff.1 hi').1
        exact ⟨n', xs[i], by rw [hg i fd hi']; simp [hil]⟩) (by omega)
      rw [List.drop_zero, List.take_of_length_le (by omega)] at this
      exact this
    · rename_i q e hu
      split at h
      · rename_i k1 hk1
        split at h
        · rename_i hc
          simp at h; subst h
          obtain ⟨xs, n', _, _, hlen, hxl, hg⟩ := DataW.trod_array hu ht
          have key : ∀ j, j ≤ q → Fit (List.replicate j k1).flatten (cs.take (j * k1.length)) := by
            intro j
            induction j with
            | zero => intro _; simp; exact .nil
            | succ j ih =>
              intro hj
              have h1 := flat_fit n e k1 _ hk1 ⟨n', xs[j]'(by omega), by rw [hg j (by omega)]; simp [show j < xs.length by omega]⟩
              have h2 := (ih (by omega)).append h1
              rw [hc.1] at h2
              rw [List.replicate_succ', List.flatten_concat, Nat.succ_mul, List.take_add]
              exact h2
          have := key q (Nat.le_refl _)
          rwa [List.take_of_length_le (by rw [hlen, hc.2]; exact Nat.le_refl _)] at this
        · cases h
      · cases h
    · cases h

/-- A parameter by value. -/
theorem open_flat {n : Nat} {t : TypeId} {ks : List Fl} {v : Value} {d : DataW H} {ps : List MemPlace} (hk : flat P n t = some ks) (h : DataW.Trod enc P w base spare held t v d ps) : Fit ks v.cells.toList := by
  obtain ⟨m, hm⟩ := h; exact flat_fit n t ks _ hk ⟨m, _, hm⟩

/-- A slice of such. -/
theorem open_flat_slice {β : Type} {n : Nat} {t e : TypeId} {ks : List Fl} {a : Option Addr} {len cap : Nat} {d : DataW H} {ps : List MemPlace} {f : β → List Value} {G : β → Prop} (hu : P.underlying t = some (.slice e)) (hk : flat P n e = some ks) (hc : P.cellsOf e = ks.length) (h0 : 0 < ks.length)
    (hf : ∀ cs, Fit ks cs → ∃ b, f b = cs ∧ G b) (hlen : ∀ b, (f b).length = ks.length) (h : DataW.Trod enc P w base spare held t (.slice a len cap) d ps)
    {ts : List TypeId} {ds : List (DataW H)} {j : Nat} (hsz : (DataW.weightsEach P ts ds).all (· ≤ reachBytes) = true) (ht : ts[j]? = some t) (hd : ds[j]? = some d) :
    ∃ zs : List β, RdS f ks.length w a len zs ∧ (∀ z ∈ zs, G z) ∧ len * P.bytesOf e ≤ 140737488351232 := by
  obtain ⟨fuel, hfu⟩ := h
  rcases open_slice hu hfu with ⟨hcs, _⟩ | ⟨a', l', c', m, n', D, Pl, hcs, _, hl, _, hm, hx, hi⟩
  · simp [Value.cells] at hcs
    obtain ⟨rfl, rfl, rfl⟩ := hcs
    exact ⟨[], ⟨rfl, hlen, fun h => absurd h (by omega)⟩, by simp, by simp⟩
  · simp [Value.cells] at hcs
    obtain ⟨rfl, rfl, rfl⟩ := hcs
    have hml : len ≤ m := by rw [hm]; split; exact hl; exact Nat.le_refl _
    have each : ∀ i, i < len → ∃ b : β, G b ∧ ∀ j, j < ks.length → w.cell? ((a'.add (i * ks.length)).add j) = (f b)[j]? := by
      intro i hil
      obtain ⟨cs', h1, h2⟩ := hi i (by omega)
      have hfit := flat_fit n e ks cs' hk ⟨_, _, h2⟩
      obtain ⟨b, hb, hG⟩ := hf _ hfit
      obtain ⟨_, _, h4⟩ := World.cells?_some h1
      rw [hc] at h4
      exact ⟨b, hG, fun j hj => by rw [h4 j hj, hb]⟩
    have hch : ∃ zs : List β, zs.length = len ∧ ∀ i b, zs[i]? = some b → G b ∧ ∀ j, j < ks.length → w.cell? ((a'.add (i * ks.length)).add j) = (f b)[j]? := by
      have key : ∀ q, q ≤ len → ∃ zs : List β, zs.length = q ∧ ∀ i b, zs[i]? = some b → G b ∧ ∀ j, j < ks.length → w.cell? ((a'.add (i * ks.length)).add j) = (f b)[j]? := by
        intro q
        induction q with
        | zero => exact fun _ => ⟨[], rfl, by simp⟩
        | succ q ih =>
          intro hq
          obtain ⟨zs, hz, hzs⟩ := ih (by omega)
          obtain ⟨b, hb⟩ := each q (by omega)
          refine ⟨zs ++ [b], by simp [hz], fun i b' hb' => ?_⟩
          rw [List.getElem?_append] at hb'
          split at hb'
          · exact hzs i b' hb'
          · rename_i hn
            have : i = q := by
              rcases Nat.lt_trichotomy i q with h | h | h
              · omega
              · exact h
              · rw [List.getElem?_eq_none (by simp; omega)] at hb'; cases hb'
            subst this
            rw [hz, Nat.sub_self] at hb'
            simp at hb'; subst hb'; exact hb
      exact key len (Nat.le_refl _)
    obtain ⟨zs, hz, hzs⟩ := hch
    refine ⟨zs, ⟨hz, hlen, fun h1 => ?_⟩, fun z hzm => ?_, ?_⟩
    · obtain ⟨b, o, s⟩ := a'
      have hz0 : zs[0]? = some (zs[0]'(by omega)) := by simp [show 0 < zs.length by omega]
      obtain ⟨_, h2⟩ := hzs 0 _ hz0
      have h3 := h2 0 h0
      have hs : s = none := by
        cases s with
        | none => rfl
        | some q =>
          exfalso
          have h4 : w.cell? ⟨b, o, some q⟩ = none := by
            simp only [World.cell?]
            split <;> simp
          rw [Nat.zero_mul, Addr.add, if_pos rfl, Addr.add, if_pos rfl, h4] at h3
          have := hlen (zs[0]'(by omega))
          rw [eq_comm, List.getElem?_eq_none_iff] at h3
          omega
      subst hs
      refine ⟨b, o, rfl, fun i z hz' j u hu' => ?_⟩
      obtain ⟨_, h5⟩ := hzs i z hz'
      have hj : j < ks.length := by have := (List.getElem?_eq_some_iff.1 hu').1; rw [hlen] at this; exact this
      have h6 := h5 j hj
      rw [Addr.add_lit, Addr.add_lit, hu'] at h6
      exact h6
    · obtain ⟨i, hi', rfl⟩ := List.getElem_of_mem hzm
      exact (hzs i _ (by simp [hi'])).1
    · have hx1 := (Prod.mk.inj hx).1
      subst hx1
      have z := sized_slice hsz ht hd hu
      simp at z
      have : len * P.bytesOf e ≤ (len + (m - len)) * P.bytesOf e := Nat.mul_le_mul_right _ (by omega)
      exact Nat.le_trans this z
end
end Go.Proofs.Bo
set_option linter.unusedVariables false
set_option linter.unusedSimpArgs false
namespace Go.Proofs.Bo
open Go Go.RowKit

theorem wf64 {a : Int} (h : (Lit.int .i64 a).wf = true) : fit64 a := by
  simp [Lit.wf, IntKind.min, IntKind.max, IntKind.bits, IntKind.signed] at h
  unfold fit64
  omega
/-- An operation that can come in. -/
def GOp6 (o : Op6) : Prop := fit64 o.k ∧ fit64 o.s.ls ∧ fit64 o.s.la ∧ fit64 o.s.hs ∧ fit64 o.s.ha ∧ fit64 o.s.v
theorem fitOp6 (cs : List Value) (h : Fit [.int .i64, .int .i64, .int .i64, .int .i64, .int .i64, .int .i64] cs) : ∃ b, encO6 b = cs ∧ GOp6 b := by
  obtain ⟨v, vs, rfl, ⟨n, rfl, hn⟩, h2⟩ := h.cons_inv
  obtain ⟨v2, vs2, rfl, ⟨n2, rfl, hn2⟩, h3⟩ := h2.cons_inv
  obtain ⟨v3, vs3, rfl, ⟨n3, rfl, hn3⟩, h4⟩ := h3.cons_inv
  obtain ⟨v4, vs4, rfl, ⟨n4, rfl, hn4⟩, h5⟩ := h4.cons_inv
  obtain ⟨v5, vs5, rfl, ⟨n5, rfl, hn5⟩, h6⟩ := h5.cons_inv
  obtain ⟨v6, vs6, rfl, ⟨n6, rfl, hn6⟩, h7⟩ := h6.cons_inv
  obtain rfl := h7.nil_inv
  exact ⟨⟨n, n2, n3, n4, n5, n6⟩, rfl, wf64 hn, wf64 hn2, wf64 hn3, wf64 hn4, wf64 hn5, wf64 hn6⟩
/-- A script's call, where it stands, in a later world. -/
theorem RdS.op6 {w W : World} {b o : Nat} {zs : List Op6} {k : Nat} (hc : ∀ i z, zs[i]? = some z → ∀ j u, (encO6 z)[j]? = some u → w.cell? ⟨b, o + i * 6 + j, none⟩ = some u) (B : Below w.heap.size w W) (hk : k < zs.length) :
    W.cell? ⟨b, o + k * 6, none⟩ = some (.int .i64 zs[k].k) ∧ W.cell? ⟨b, o + k * 6 + 1, none⟩ = some (.int .i64 zs[k].s.ls) ∧ W.cell? ⟨b, o + k * 6 + 2, none⟩ = some (.int .i64 zs[k].s.la) ∧
    W.cell? ⟨b, o + k * 6 + 3, none⟩ = some (.int .i64 zs[k].s.hs) ∧ W.cell? ⟨b, o + k * 6 + 4, none⟩ = some (.int .i64 zs[k].s.ha) ∧ W.cell? ⟨b, o + k * 6 + 5, none⟩ = some (.int .i64 zs[k].s.v) := by
  have h : ∀ j u, (encO6 zs[k])[j]? = some u → w.cell? ⟨b, o + k * 6 + j, none⟩ = some u := fun j u hu => hc k zs[k] (by simp [hk]) j u hu
  have g : ∀ j u, (encO6 zs[k])[j]? = some u → W.cell? ⟨b, o + k * 6 + j, none⟩ = some u := fun j u hu =>
    (B.cell (p := ⟨b, o + k * 6 + j, none⟩) (World.block_lt_of_cell? w _ (h j u hu))).trans (h j u hu)
  exact ⟨g 0 _ rfl, g 1 _ rfl, g 2 _ rfl, g 3 _ rfl, g 4 _ rfl, g 5 _ rfl⟩
end Go.Proofs.Bo
set_option linter.unusedVariables false
set_option linter.unusedSimpArgs false
namespace Go.Proofs.Bo
open Go Go.RowKit
section
variable {P : Program} {ops : Array Oper} {md : Region.Mode} {D : World → Prop}

/-! A region that draws its order: operations that read, and one that makes a block, at any time. -/
/-- In every world of the class the operation yields v, and leaves it but for draws. -/
def YS (P : Program) (ops : Array Oper) (D : World → Prop) (o : Oper) (v : Value) (a : Act) : Prop :=
  (Region.wanted o (yielded ops a.tmps) = true ∧ ∀ W, D W → o.quietAt P a (fun x => ∃ k, x = W.drewN k) W v) ∨ (Region.wanted o (yielded ops a.tmps) = false ∧ v = undef)
def sOp (P : Program) (ops : Array Oper) (D : World → Prop) (i : Nat) (K : Act → Prop) (a : Act) : Prop := ∃ o v, ops[i]? = some o ∧ YS P ops D o v a ∧ K (a.put o.dst v)
def wpS (P : Program) (ops : Array Oper) (D : World → Prop) (Q : Act → Prop) : List Nat → Act → Prop
  | [], a => Q a
  | i :: is, a => sOp P ops D i (wpS P ops D Q is) a
theorem wpS_nil {Q : Act → Prop} {a : Act} (h : Q a) : wpS P ops D Q [] a := h
theorem wpS_step {Q : Act → Prop} {i : Nat} {is : List Nat} {a : Act} (o : Oper) (ho : ops[i]? = some o)
    (h : ∀ K : Act → Prop, (∀ a, wpS P ops D Q is a → K a) → if Region.wanted o (yielded ops a.tmps) then ∃ v, (∀ W, D W → o.quietAt P a (fun x => ∃ k, x = W.drewN k) W v) ∧ K (a.put o.dst v) else K (a.put o.dst undef)) : wpS P ops D Q (i :: is) a := by
  have h := h _ fun _ h => h
  by_cases hw : Region.wanted o (yielded ops a.tmps) = true
  · rw [if_pos hw] at h
    obtain ⟨v, h1, h2⟩ := h
    exact ⟨o, v, ho, .inl ⟨hw, h1⟩, h2⟩
  · rw [if_neg hw] at h
    exact ⟨o, undef, ho, .inr ⟨by simpa using hw, rfl⟩, h⟩

theorem YS.of_same {o : Oper} {v : Value} {a a' : Act} (hy : YS P ops D o v a) (he : execOp a'.eval o = execOp a.eval o) (hw : Region.wanted o (yielded ops a'.tmps) = Region.wanted o (yielded ops a.tmps)) : YS P ops D o v a' := by
  unfold YS Oper.quietAt at *
  rw [he, hw]
  exact hy
theorem sOp_mono {i : Nat} {a : Act} {K K' : Act → Prop} (h : ∀ a, K a → K' a) (hh : sOp P ops D i K a) : sOp P ops D i K' a :=
  let ⟨o, v, h0, h1, h2⟩ := hh
  ⟨o, v, h0, h1, h _ h2⟩
theorem sOp_put {j : Nat} {oi oj : Oper} {v : Value} (hj : ops[j]? = some oj) (hap : oi.apart ops oj = true) (hsi : ∀ cs b, oi.op ≠ .select cs b) (hsj : ∀ cs b, oj.op ≠ .select cs b) {K : Act → Prop} {a : Act}
    (hy : YS P ops D oi v a) (h : sOp P ops D j K (a.put oi.dst v)) : sOp P ops D j (fun a' => YS P ops D oi v a' ∧ K (a'.put oi.dst v)) a := by
  obtain ⟨h1, h2, h3⟩ := Oper.apart_spec hap
  obtain ⟨o, u, ho, hu, hK⟩ := h
  rw [hj] at ho; cases ho
  refine ⟨oj, u, hj, hu.of_same (execOp_put oj hsj a oi.dst v h1).symm (wanted_put oj a oi.dst v h1).symm, hy.of_same (execOp_put oi hsi a oj.dst u h3) (wanted_put oi a oj.dst u h3), ?_⟩
  rw [← Act.put_comm a v u h2]; exact hK

/-- Whatever order is picked of the reading ones; then L. -/
def HeadS (P : Program) (md : Region.Mode) (ops : Array Oper) (D : World → Prop) (hd : Nat → Prop) (L : Array Bool → Act → Prop) : Nat → Array Bool → Act → Prop
  | 0, listed, a => L listed a
  | f + 1, listed, a => (∃ i ∈ Region.ready md ops listed, hd i) ∧ ∀ i ∈ Region.ready md ops listed, hd i → sOp P ops D i (HeadS P md ops D hd L f (listed.setIfInBounds i true)) a

theorem HeadS.pick {hd : Nat → Prop} {i : Nat} {oi : Oper} {v : Value} {L : Array Bool → Act → Prop} (hi : ops[i]? = some oi) (hsel : ∀ (j : Nat) (o : Oper) cs b, ops[j]? = some o → o.op ≠ .select cs b) (hin : hd i) (hL : ∀ listed a, L listed a → ∀ j ∈ Region.ready md ops listed, ¬ hd j) :
    ∀ (f : Nat) (listed : Array Bool) (a : Act), (∀ j oj, ops[j]? = some oj → j ≠ i → listed.getD j true = false → (∀ e ∈ oj.after, Region.binds md e = true → e.on ≠ i) → oi.apart ops oj = true) →
      i ∈ Region.ready md ops listed → YS P ops D oi v a → HeadS P md ops D hd L f (listed.setIfInBounds i true) (a.put oi.dst v) → HeadS P md ops D hd L (f + 1) listed a := by
  intro f
  induction f with
  | zero =>
    intro listed a _ hr hy H
    refine ⟨⟨i, hr, hin⟩, fun j hj hjd => ?_⟩
    by_cases e : j = i
    · subst e; exact ⟨oi, v, hi, hy, H⟩
    · exact absurd hjd (hL _ _ H j (ready_mono hj e))
  | succ f ih =>
    intro listed a hfree hr hy H
    refine ⟨⟨i, hr, hin⟩, fun j hj hjd => ?_⟩
    by_cases e : j = i
    · subst e; exact ⟨oi, v, hi, hy, H⟩
    · have hun := (mem_ready.1 hr).1
      obtain ⟨hjun, oj, hoj, hall⟩ := mem_ready.1 hj
      have hno : ∀ x ∈ oj.after, Region.binds md x = true → x.on ≠ i := fun x hx hb he => by
        have := hall x hx hb
        rw [he, getD_both hun] at this
        cases this
      have hnext : ∀ k ok, ops[k]? = some ok → k ≠ i → (listed.setIfInBounds j true).getD k true = false → (∀ x ∈ ok.after, Region.binds md x = true → x.on ≠ i) → oi.apart ops ok = true := fun k ok hk hki hu hx =>
        hfree k ok hk hki (by
          by_cases ejk : j = k
          · subst ejk; exact hjun
          · rwa [getD_set_ne true ejk] at hu) hx
      have hq := sOp_put hoj (hfree j oj hoj e hjun hno) (fun cs b => hsel i oi cs b hi) (fun cs b => hsel j oj cs b hoj) hy (H.2 j (ready_mono hj e) hjd)
      refine sOp_mono (fun a' h3 => ih _ a' hnext (ready_mono hr (Ne.symm e)) h3.1 ?_) hq
      rw [Array.setIfInBounds_comm _ _ e]
      exact h3.2

/-- The check: the reading ones in this order, then B. -/
def lexI (md : Region.Mode) (ops : Array Oper) (B : Array Bool → Bool) : List Nat → Array Bool → Bool
  | [], listed => B listed
  | k :: is, listed => (Region.ready md ops listed).contains k && Region.free md ops listed k && lexI md ops B is (listed.setIfInBounds k true)
theorem HeadS.lex {hd : Nat → Prop} {Lq : Act → Prop} {B : Array Bool → Bool} (hsel : Region.noSelect ops = true) (hB : ∀ listed, B listed = true → ∀ j ∈ Region.ready md ops listed, ¬ hd j) :
    ∀ (is : List Nat) (listed : Array Bool) (a : Act), (∀ i ∈ is, hd i) → lexI md ops B is listed = true → wpS P ops D Lq is a → HeadS P md ops D hd (fun listed' a' => B listed' = true ∧ Lq a') is.length listed a
  | [], listed, a, _, hb, h => ⟨hb, h⟩
  | k :: is, listed, a, hk, hb, h => by
    simp only [lexI, Bool.and_eq_true] at hb
    have hr : k ∈ Region.ready md ops listed := by simpa using hb.1.1
    obtain ⟨o, v, h0, hy, hK⟩ := h
    exact HeadS.pick h0 (Region.noSelect_spec hsel) (hk k (by simp)) (fun listed' _ hL => hB listed' hL.1) is.length listed a (Region.free_spec h0 hb.1.2) hr hy
      (HeadS.lex hsel hB is _ _ (fun i hi => hk i (by simp [hi])) hb.2 hK)

/-- The operation that makes the block. -/
def AllocAt (P : Program) (ops : Array Oper) (w : World) (obj : Obj) (ptr : Value) (o : Oper) (a : Act) : Prop :=
  Region.wanted o (yielded ops a.tmps) = true ∧ ∀ k, (execOp a.eval o).run P (w.drewN k) = .ok (.value ptr) ((w.alloc obj).drewN k)
theorem AllocAt.of_put {w : World} {obj : Obj} {ptr : Value} {o : Oper} {a : Act} {x : Option Tmp} {v : Value} (hs : ∀ cs b, o.op ≠ .select cs b) (hx : ∀ d, x = some d → d ∉ o.looksAt ops) (h : AllocAt P ops w obj ptr o (a.put x v)) : AllocAt P ops w obj ptr o a := by
  unfold AllocAt at *
  rw [execOp_put o hs a x v hx, wanted_put o a x v hx] at h
  exact h

/-- The worlds at hand. -/
def AW (w : World) (obj : Obj) (W : World) : Prop := (∃ k, W = w.drewN k) ∨ ∃ k, W = (w.alloc obj).drewN k
theorem drewN_add (w : World) (j k : Nat) : (w.drewN j).drewN k = w.drewN (j + k) := by
  unfold World.drewN
  simp [Nat.add_assoc]

/-- A reading operation, carried out. -/
theorem wpOp_of_YS {i : Nat} {o : Oper} {v : Value} {a : Act} {W : World} {K : Act → World → Prop} {Q : Exit → Act → World → Prop} (hi : ops[i]? = some o) (hy : YS P ops D o v a) (hD : D W) (h : ∀ k, K (a.put o.dst v) (W.drewN k)) : wpOp P ops Q i K a W := by
  unfold wpOp
  simp only [hi]
  rcases hy with ⟨hw, hv⟩ | ⟨hw, rfl⟩
  · rw [if_pos hw]
    refine .inl ?_
    have h3 := hv W hD
    unfold Oper.quietAt at h3
    unfold Oper.wp
    generalize (execOp a.eval o).run P W = r at *
    cases r with
    | ok n w' =>
      cases n <;> simp only [Oper.quietUpon] at h3 <;> simp only [Oper.upon]
      case value u =>
        obtain ⟨e1, e2⟩ := h3
        rw [e1, e2]
        exact h 0
      case skip =>
        obtain ⟨e1, e2⟩ := h3
        rw [e1, ← e2]
        exact h 0
      case enter f args =>
        obtain ⟨e1, hc⟩ := h3
        rw [e1]
        exact hc.mono fun e w'' ⟨he, k, hw''⟩ => by subst he; subst hw''; exact h k
    | halt x w' => simp only [Oper.quietUpon] at h3
  · rw [if_neg (by simp [hw])]
    exact h 0

/-- Every one of the first n, but the free ones, is waited for. -/
def sinkFB (md : Region.Mode) (ops : Array Oper) (n : Nat) (fl : List Nat) : Bool :=
  (List.range n).all fun i => fl.contains i || (List.range (n + 1)).any fun j => decide (i < j) && Region.waitsFor md ops j i
theorem tail_waits3 {n : Nat} {fl : List Nat} {listed : Array Bool} (hs : sinkFB md ops n fl = true) (hc : wchainB md ops n = true) (hn : n < ops.size) (inv : HeadInv md ops n listed) (hfl : ∀ i ∈ fl, listed.getD i true = true) :
    ∀ (d i : Nat), n - i = d → i < n → listed.getD i true = false → ∀ t, n ≤ t → t ∉ Region.ready md ops listed := by
  intro d
  induction d using Nat.strongRecOn with
  | _ d ih =>
    intro i hd hi hun t ht hr
    obtain ⟨_, ot, hot, hall⟩ := mem_ready.1 hr
    have htlt : t < ops.size := (Array.getElem?_eq_some_iff.1 hot).1
    by_cases htn : t = n
    · subst htn
      have h1 := List.all_eq_true.1 hs i (List.mem_range.2 hi)
      rw [Bool.or_eq_true] at h1
      rcases h1 with h1 | h1
      · rw [hfl i (by simpa using h1)] at hun; cases hun
      obtain ⟨j, hj, hj2⟩ := List.any_eq_true.1 h1
      simp only [Bool.and_eq_true, decide_eq_true_eq] at hj2
      obtain ⟨oj, hoj, e, he, hb, hon⟩ := Region.waitsFor_spec hj2.2
      have hjle : j ≤ t := by have := List.mem_range.1 hj; omega
      by_cases hjt : j = t
      · subst hjt
        have : oj = ot := Option.some.inj (hoj.symm.trans hot)
        subst this
        have h2 := hall e he hb
        rw [hon, getD_both hun] at h2
        cases h2
      · cases hl : listed.getD j false with
        | true =>
          have h2 := inv.closed j oj hoj hl e he hb
          rw [hon, getD_both hun] at h2
          cases h2
        | false =>
          have hjs : j < listed.size := by rw [inv.size]; omega
          exact ih (t - j) (by omega) j rfl (by omega) (getD_in hjs hl) t (Nat.le_refl _) hr
    · have h1 := List.all_eq_true.1 hc t (List.mem_range.2 htlt)
      simp only [Bool.or_eq_true, decide_eq_true_eq] at h1
      rcases h1 with h1 | h1
      · omega
      · obtain ⟨j, hj, hj2⟩ := List.any_eq_true.1 h1
        simp only [Bool.and_eq_true, decide_eq_true_eq] at hj2
        have hjlt := List.mem_range.1 hj
        obtain ⟨o', ho', e, he, hb, hon⟩ := Region.waitsFor_spec hj2.2
        have : o' = ot := Option.some.inj (ho'.symm.trans hot)
        subst this
        have h2 := hall e he hb
        rw [hon, getD_both (inv.tail j hj2.1 (by omega))] at h2
        cases h2

/-- All that is waited for stands ahead. -/
def backB (md : Region.Mode) (ops : Array Oper) : Bool := (List.range ops.size).all fun i => match ops[i]? with
  | some o => o.after.all fun e => !Region.binds md e || decide (e.on < i)
  | none => true
theorem waitsFor_of {j i : Nat} {oj : Oper} (hj : ops[j]? = some oj) {e : Edge} (he : e ∈ oj.after) (hb : Region.binds md e = true) (hon : e.on = i) : Region.waitsFor md ops j i = true := by
  unfold Region.waitsFor
  simp only [hj]
  exact Array.any_eq_true'.2 ⟨e, he, by simp [hb, hon]⟩
/-- Where one has not come up, one may come up. -/
theorem ready_ex (hb : backB md ops = true) {listed : Array Bool} (hsz : listed.size = ops.size) : ∀ (p : Nat), p < ops.size → listed.getD p true = false → Region.ready md ops listed ≠ [] := by
  intro p
  induction p using Nat.strongRecOn with
  | _ p ih =>
    intro hp hun
    obtain ⟨o, ho⟩ : ∃ o, ops[p]? = some o := ⟨_, Array.getElem?_eq_getElem hp⟩
    rcases Classical.em (∀ e ∈ o.after, Region.binds md e = true → listed.getD e.on false = true) with hall | hall
    · exact List.ne_nil_of_mem (mem_ready.2 ⟨hun, o, ho, hall⟩)
    · simp only [Classical.not_forall] at hall
      obtain ⟨e, he, hbe, hl⟩ := hall
      have hw := waitsFor_of ho he hbe rfl
      have hlt : e.on < p := by
        have h1 := List.all_eq_true.1 hb p (List.mem_range.2 hp)
        simp only [ho] at h1
        have h2 := Array.all_eq_true'.1 h1 e he
        simpa [hbe] using h2
      exact ih e.on hlt (by omega) (getD_in (by omega) (by simpa using hl))

/-- Whether the operations are such: free ones first (fl), then the reading ones (is) and the one that makes a block (p), then a tail in one order (from n on). -/
def startL (m p : Nat) (fl : List Nat) : Array Bool := (fl.foldl (fun l i => l.setIfInBounds i true) (Array.replicate m false))
def alB (md : Region.Mode) (ops : Array Oper) (p n : Nat) (fl is : List Nat) : Bool :=
  Region.noSelect ops && decide (n < ops.size) && decide (p < n) && sinkFB md ops n fl && wchainB md ops n && backB md ops && decide (fl.length + is.length + 1 = n) &&
    is.all (fun i => decide (i < n) && decide (i ≠ p)) &&
    (List.range n).all (fun i => decide (i = p) || Region.waitsFor md ops p i || ((ops[i]?).bind fun x => (ops[p]?).map fun y => x.apart ops y).getD false) &&
    lexI md ops (fun listed => Region.seqB md ops (ops.size - n) n listed) is ((startL ops.size p fl).setIfInBounds p true)
def flB (md : Region.Mode) (ops : Array Oper) (n p : Nat) : List Nat → Array Bool → Bool
  | [], listed => (List.range ops.size).all (fun t => decide (t < n) || !listed.getD t false) && !listed.getD p true
  | i :: fl, listed => decide (i < n) && (Region.ready md ops listed).contains i && Region.free md ops listed i && flB md ops n p fl (listed.setIfInBounds i true)

/-- The free ones: each yields its value in whatever world. -/
def wpF (P : Program) (ops : Array Oper) (K : Act → Prop) : List Nat → Act → Prop
  | [], a => K a
  | i :: fl, a => ∃ o v, ops[i]? = some o ∧ Yields P ops o v a ∧ wpF P ops K fl (a.put o.dst v)
theorem wpF_step {K : Act → Prop} {i : Nat} {fl : List Nat} {a : Act} (o : Oper) (v : Value) (ho : ops[i]? = some o) (hw : Region.wanted o (yielded ops a.tmps) = true) (hv : ∀ w, (execOp a.eval o).run P w = .ok (.value v) w) (h : wpF P ops K fl (a.put o.dst v)) : wpF P ops K (i :: fl) a :=
  ⟨o, v, ho, .inl ⟨hw, hv⟩, h⟩

theorem al_main {Q : Exit → Act → World → Prop} {w : World} {l : List Oper} (p n : Nat) (fl is : List Nat) (obj : Obj) (ptr : Value) (op : Oper) (hB : alB .any l.toArray p n fl is = true) (hop : l[p]? = some op)
    (inv0 : HeadInv .any l.toArray n (startL l.toArray.size p fl)) (hp0 : (startL l.toArray.size p fl).getD p true = false) (hfl0 : ∀ i ∈ fl, (startL l.toArray.size p fl).getD i true = true) (a : Act)
    (h : wpS P l.toArray (AW w obj) (fun a' => AllocAt P l.toArray w obj ptr op a' ∧ ∀ k, wpList P l.toArray Q (l.drop n) (a'.put op.dst ptr) ((w.alloc obj).drewN k)) is a) :
    wpAny P .any l.toArray Q (is.length + 1 + (l.toArray.size - n)) (startL l.toArray.size p fl) a (w.drewN 1) := by
  simp only [alB, Bool.and_eq_true, decide_eq_true_eq] at hB
  obtain ⟨⟨⟨⟨⟨⟨⟨⟨⟨hsel, hn⟩, hpn⟩, hs⟩, hc⟩, hbk⟩, hlen⟩, his⟩, hap⟩, hlex⟩ := hB
  have hop' : l.toArray[p]? = some op := by simpa using hop
  have hns := Region.noSelect_spec hsel
  have hsp : ∀ cs b, op.op ≠ .select cs b := fun cs b => hns p op cs b hop'
  have apart : ∀ i oi, i < n → i ≠ p → l.toArray[i]? = some oi → Region.waitsFor .any l.toArray p i = false → oi.apart l.toArray op = true := by
    intro i oi hin hip hoi hw
    have := List.all_eq_true.1 hap i (List.mem_range.2 hin)
    simpa [hip, hw, hoi, hop'] using this
  -- the block's operation waits for none that has not come up
  have hun : ∀ {listed : Array Bool} {i : Nat}, p ∈ Region.ready .any l.toArray listed → listed.getD i true = false → Region.waitsFor .any l.toArray p i = false := by
    intro listed i hp hi
    cases hw : Region.waitsFor .any l.toArray p i with
    | false => rfl
    | true =>
      obtain ⟨oj, hoj, e, he, hb, hon⟩ := Region.waitsFor_spec hw
      obtain ⟨_, o', ho', hall⟩ := mem_ready.1 hp
      rw [hoj] at ho'; cases ho'
      have := hall e he hb
      rw [hon, getD_both hi] at this
      cases this
  let hd : Nat → Prop := fun i => i < n ∧ i ≠ p
  let Bf : Array Bool → Bool := fun listed => Region.seqB .any l.toArray (l.toArray.size - n) n listed
  let L : Array Bool → Act → Prop := fun listed' a' => Bf listed' = true ∧ (AllocAt P l.toArray w obj ptr op a' ∧ ∀ k, wpList P l.toArray Q (l.drop n) (a'.put op.dst ptr) ((w.alloc obj).drewN k))
  have H : HeadS P .any l.toArray (AW w obj) hd L is.length ((startL l.toArray.size p fl).setIfInBounds p true) a :=
    HeadS.lex hsel (fun listed hb j hj hjd => by
      have := seqB_ready hb j hj
      have := hjd.1
      omega) is _ _ (fun i hi => by
      have := List.all_eq_true.1 his i hi
      simp only [Bool.and_eq_true, decide_eq_true_eq] at this
      exact this) hlex h
  -- the block's operation where it may come up
  have back : ∀ (f : Nat) (listed : Array Bool) (a : Act), HeadS P .any l.toArray (AW w obj) hd L f listed a → (∀ i, listed.getD i true = false → Region.waitsFor .any l.toArray p i = false) → AllocAt P l.toArray w obj ptr op a := by
    intro f
    induction f with
    | zero => intro listed a H _; exact H.2.1
    | succ f ih =>
      intro listed a H hp
      obtain ⟨⟨i, hi, hid⟩, hall⟩ := H
      obtain ⟨oi, v, hoi, _, hK⟩ := hall i hi hid
      have hiu := (mem_ready.1 hi).1
      have := ih _ _ hK fun j hj => by
        by_cases e : i = j
        · subst e; exact hp i hiu
        · rw [getD_set_ne true e] at hj; exact hp j hj
      obtain ⟨h1, _, _⟩ := Oper.apart_spec (apart i oi hid.1 hid.2 hoi (hp i hiu))
      exact this.of_put hsp h1
  have hdl : (l.drop n).length = l.toArray.size - n := by simp
  have keepF : ∀ {listed : Array Bool} {i : Nat}, (∀ j ∈ fl, listed.getD j true = true) → ∀ j ∈ fl, (listed.setIfInBounds i true).getD j true = true := by
    intro listed i hf j hj
    by_cases e : i = j
    · subst e
      by_cases hl : i < listed.size
      · simp [hl]
      · simp [hl]
    · rw [getD_set_ne true e]; exact hf j hj
  have hps : ∀ {listed : Array Bool} {i : Nat}, (listed.setIfInBounds i true).getD i true = true := by
    intro listed i
    by_cases hl : i < listed.size
    · simp [hl]
    · simp [hl]
  -- behind the block's operation
  have after : ∀ (f : Nat) (listed : Array Bool) (a : Act) (k : Nat), HeadS P .any l.toArray (AW w obj) hd L f listed a → HeadInv .any l.toArray n listed → listed.getD p true = true → (∀ j ∈ fl, listed.getD j true = true) → (∀ i, listed.getD i true = false → Region.waitsFor .any l.toArray p i = false) →
      wpAny P .any l.toArray Q (f + (l.toArray.size - n)) listed (a.put op.dst ptr) ((w.alloc obj).drewN k) := by
    intro f
    induction f with
    | zero =>
      intro listed a k H inv _ _ _
      rw [Nat.zero_add, ← hdl]
      exact wpAny_of_seq (l.drop n) n _ _ _ (fun j => by simp) (by rw [hdl]; exact H.1) (H.2.2 k)
    | succ f ih =>
      intro listed a k H inv hpl hf hwp
      obtain ⟨⟨i0, hi0, hid0⟩, hall⟩ := H
      rw [Nat.add_right_comm]
      refine ⟨fun e => (by rw [e] at hi0; cases hi0), fun i hi => ?_⟩
      have hin : i < n := Nat.lt_of_not_le fun hle => tail_waits3 hs hc hn inv hf _ i0 rfl hid0.1 (mem_ready.1 hi0).1 i hle hi
      have hip : i ≠ p := fun e => by
        have := (mem_ready.1 hi).1
        rw [e, hpl] at this
        cases this
      have hiu := (mem_ready.1 hi).1
      obtain ⟨oi, v, hoi, hy, hK⟩ := hall i hi ⟨hin, hip⟩
      have hA := apart i oi hin hip hoi (hwp i hiu)
      obtain ⟨h1, h2, h3⟩ := Oper.apart_spec hA
      have hy' : YS P l.toArray (AW w obj) oi v (a.put op.dst ptr) := hy.of_same (execOp_put oi (fun cs b => hns i oi cs b hoi) a op.dst ptr h3) (wanted_put oi a op.dst ptr h3)
      refine wpOp_of_YS hoi hy' (.inr ⟨k, rfl⟩) fun k' => ?_
      rw [drewN_add, ← Act.put_comm a v ptr h2]
      refine ih _ _ _ hK (inv.set hi hin) ?_ (keepF hf) fun j hj => ?_
      · by_cases e : i = p
        · exact absurd e hip
        · rw [getD_set_ne true e]; exact hpl
      · by_cases e : i = j
        · subst e; exact hwp i hiu
        · rw [getD_set_ne true e] at hj; exact hwp j hj
  -- ahead of it
  have main : ∀ (f : Nat) (listed : Array Bool) (a : Act) (k : Nat), HeadS P .any l.toArray (AW w obj) hd L f (listed.setIfInBounds p true) a → HeadInv .any l.toArray n listed → listed.getD p true = false → (∀ j ∈ fl, listed.getD j true = true) →
      wpAny P .any l.toArray Q (f + 1 + (l.toArray.size - n)) listed a (w.drewN k) := by
    intro f
    induction f with
    | zero =>
      intro listed a k H inv hp hf
      have hne := ready_ex hbk inv.size p (Nat.lt_trans hpn hn) hp
      rw [Nat.add_right_comm]
      refine ⟨fun e => absurd e hne, fun i hi => ?_⟩
      have hin : i < n := Nat.lt_of_not_le fun hle => tail_waits3 hs hc hn inv hf _ p rfl hpn hp i hle hi
      have hip : i = p := Classical.byContradiction fun hip => by
        have := seqB_ready H.1 i (ready_mono hi hip)
        omega
      subst hip
      have hw0 : ∀ j, (listed.setIfInBounds i true).getD j true = false → Region.waitsFor .any l.toArray i j = false := fun j hj => by
        by_cases e : i = j
        · subst e; rw [hps] at hj; cases hj
        · rw [getD_set_ne true e] at hj; exact hun hi hj
      obtain ⟨hw, hex⟩ := back 0 _ a H hw0
      unfold wpOp
      simp only [hop']
      rw [if_pos hw]
      refine .inl ?_
      unfold Oper.wp
      rw [hex k]
      exact after 0 _ a k H (inv.set hi hin) hps (keepF hf) hw0
    | succ f ih =>
      intro listed a k H inv hp hf
      have hne := ready_ex hbk inv.size p (Nat.lt_trans hpn hn) hp
      rw [show f + 1 + 1 + (l.toArray.size - n) = (f + 1 + (l.toArray.size - n)) + 1 by omega]
      refine ⟨fun e => absurd e hne, fun i hi => ?_⟩
      have hin : i < n := Nat.lt_of_not_le fun hle => tail_waits3 hs hc hn inv hf _ p rfl hpn hp i hle hi
      by_cases hip : i = p
      · subst hip
        have hw0 : ∀ j, (listed.setIfInBounds i true).getD j true = false → Region.waitsFor .any l.toArray i j = false := fun j hj => by
          by_cases e : i = j
          · subst e; rw [hps] at hj; cases hj
          · rw [getD_set_ne true e] at hj; exact hun hi hj
        obtain ⟨hw, hex⟩ := back (f + 1) _ a H hw0
        unfold wpOp
        simp only [hop']
        rw [if_pos hw]
        refine .inl ?_
        unfold Oper.wp
        rw [hex k]
        exact after (f + 1) _ a k H (inv.set hi hin) hps (keepF hf) hw0
      · obtain ⟨oi, v, hoi, hy, hK⟩ := H.2 i (ready_mono hi hip) ⟨hin, hip⟩
        refine wpOp_of_YS hoi hy (.inl ⟨k, rfl⟩) fun k' => ?_
        rw [drewN_add]
        refine ih _ _ _ ?_ (inv.set hi hin) (by rw [getD_set_ne true hip]; exact hp) (keepF hf)
        rw [Array.setIfInBounds_comm _ _ hip]
        exact hK
  exact main is.length _ a 1 H inv0 hp0 hfl0

/-- Q, and no panic. -/
def NoP (Q : Exit → Act → World → Prop) : Exit → Act → World → Prop
  | .panic _, _, _ => False
  | e, a, w => Q e a w
theorem NoP.imp {Q : Exit → Act → World → Prop} : ∀ (e : Exit) (a : Act) (w : World), NoP Q e a w → Q e a w := fun e a w h => by
  cases e <;> first | exact h | exact (h : False).elim
/-- **A region that draws its order: free operations, reading ones, one that makes a block; then a tail in one order.** -/
theorem al_region {id : Nat} {Q : Exit → Act → World → Prop} {a : Act} {w : World} {l : List Oper} (p n : Nat) (fl is : List Nat) (obj : Obj) (ptr : Value) (op : Oper) (hm : P.follows .mixedOrders = true) (hB : alB .any l.toArray p n fl is = true) (hF : flB .any l.toArray n p fl (Array.replicate l.toArray.size false) = true) (hop : l[p]? = some op)
    (h : ∀ Q0 : Exit → Act → World → Prop, (∀ a w, Q .normal a w → Q0 .normal a w) → wpF P l.toArray (wpS P l.toArray (AW w obj) (fun a' => AllocAt P l.toArray w obj ptr op a' ∧ ∀ k, wpList P l.toArray Q0 (l.drop n) (a'.put op.dst ptr) ((w.alloc obj).drewN k)) is) fl a) : (Code.region id l.toArray true).wp P Q a w := by
  refine Code.wp_mono NoP.imp ?_
  have hQ : ∀ c (a : Act) (d : Option Tmp) (v : Value) (w : World), NoP Q (.panic c) (a.put d v) w → NoP Q (.panic c) a w := fun _ _ _ _ _ h => h
  replace h := h (NoP Q) fun _ _ h => h
  generalize NoP Q = Q at h hQ
  have hB0 := hB
  simp only [alB, Bool.and_eq_true, decide_eq_true_eq] at hB0
  obtain ⟨⟨⟨⟨⟨⟨⟨⟨⟨hsel, hn⟩, hpn⟩, hs⟩, hc⟩, hbk⟩, hlen⟩, his⟩, hap⟩, hlex⟩ := hB0
  have key : ∀ (fl2 fl1 : List Nat) (a : Act), fl = fl1 ++ fl2 → HeadInv .any l.toArray n (startL l.toArray.size p fl1) → (∀ i ∈ fl1, (startL l.toArray.size p fl1).getD i true = true) → flB .any l.toArray n p fl2 (startL l.toArray.size p fl1) = true →
      wpF P l.toArray (wpS P l.toArray (AW w obj) (fun a' => AllocAt P l.toArray w obj ptr op a' ∧ ∀ k, wpList P l.toArray Q (l.drop n) (a'.put op.dst ptr) ((w.alloc obj).drewN k)) is) fl2 a →
      wpAny P .any l.toArray Q (fl2.length + (is.length + 1 + (l.toArray.size - n))) (startL l.toArray.size p fl1) a (w.drewN 1) := by
    intro fl2
    induction fl2 with
    | nil =>
      intro fl1 a e inv hf hb h
      rw [List.append_nil] at e
      subst e
      simp only [flB, Bool.and_eq_true] at hb
      rw [List.length_nil, Nat.zero_add]
      exact al_main p n fl is obj ptr op hB hop inv (by simpa using hb.2) hf a h
    | cons i fl2 ih =>
      intro fl1 a e inv hf hb h
      simp only [flB, Bool.and_eq_true, decide_eq_true_eq] at hb
      obtain ⟨o, v, ho, hy, hK⟩ := h
      have hr : i ∈ Region.ready .any l.toArray (startL l.toArray.size p fl1) := by simpa using hb.1.1.2
      have hst : (startL l.toArray.size p fl1).setIfInBounds i true = startL l.toArray.size p (fl1 ++ [i]) := by simp [startL, List.foldl_append]
      rw [List.length_cons, Nat.add_right_comm]
      refine wpAny_first ho (Region.noSelect_spec hsel) (fun c a w => hQ c a _ _ w) _ _ _ _ (Region.free_spec ho hb.1.2) hr hy ?_
      rw [hst]
      refine ih (fl1 ++ [i]) _ (by rw [e]; simp) (by rw [← hst]; exact inv.set hr hb.1.1.1) (fun j hj => ?_) (by rw [← hst]; exact hb.2) hK
      rw [← hst]
      by_cases e2 : i = j
      · subst e2
        by_cases hl : i < (startL l.toArray.size p fl1).size
        · simp [hl]
        · simp [hl]
      · rw [getD_set_ne true e2]
        rcases List.mem_append.1 hj with hj | hj
        · exact hf j hj
        · simp at hj; exact absurd hj.symm e2
  have inv0 : HeadInv .any l.toArray n (startL l.toArray.size p []) :=
    ⟨by simp [startL], fun j oj _ hl => (by rw [show startL l.toArray.size p [] = Array.replicate l.toArray.size false from rfl, getD_replicate_false] at hl; cases hl), fun t _ ht => getD_in (by simpa [startL] using ht) (getD_replicate_false _ _)⟩
  refine wp_region_any hm ?_
  have := key fl [] a rfl inv0 (by simp) hF h
  have e : fl.length + (is.length + 1 + (l.toArray.size - n)) = l.toArray.size := by omega
  rw [e] at this
  exact this
end
end Go.Proofs.Bo
set_option linter.unusedVariables false
set_option linter.unusedSimpArgs false
namespace Go.Proofs.Bo
open Go Go.RowKit
section
variable {P : Program}

/-- The check: free ones in this order; then number p alone; then those from n on, in their order. -/
def fpB (md : Region.Mode) (ops : Array Oper) (p n : Nat) : List Nat → Array Bool → Bool
  | [], listed => decide (Region.ready md ops listed = [p]) && Region.lexFrom md ops (ops.size - n) n (listed.setIfInBounds p true)
  | i :: fl, listed => (Region.ready md ops listed).contains i && Region.free md ops listed i && fpB md ops p n fl (listed.setIfInBounds i true)

/-- **A region that draws its order: free operations; one operation that may do anything; then such ones that read, or call what only makes memory.** -/
theorem fp_region {id : Nat} {Q : Exit → Act → World → Prop} {a : Act} {w : World} {l : List Oper} (p n : Nat) (fl : List Nat) (op : Oper) (hm : P.follows .mixedOrders = true)
    (hB : (Region.noSelect l.toArray && decide (fl.length + 1 = n) && decide (n ≤ l.length) && fpB .any l.toArray p n fl (Array.replicate l.toArray.size false)) = true) (hop : l[p]? = some op)
    (h : ∀ Q0 : Exit → Act → World → Prop, (∀ a w, Q .normal a w → Q0 .normal a w) → wpF P l.toArray (fun a' => Region.wanted op (yielded l.toArray a'.tmps) = true ∧ ∀ K : Act → World → Prop, (∀ a1 w1, wpQuiet P l.toArray (CM w1) (fun a2 => ∀ w2, CM w1 w2 → Q0 .normal a2 w2) (l.drop n) a1 → K a1 w1) → op.wp P a' (w.drewN 1) K Q0) fl a) :
    (Code.region id l.toArray true).wp P Q a w := by
  refine Code.wp_mono NoP.imp ?_
  have hQ : ∀ c (a : Act) (d : Option Tmp) (v : Value) (w : World), NoP Q (.panic c) (a.put d v) w → NoP Q (.panic c) a w := fun _ _ _ _ _ h => h
  replace h := h (NoP Q) fun _ _ h => h
  generalize NoP Q = Q at h hQ
  simp only [Bool.and_eq_true, decide_eq_true_eq] at hB
  obtain ⟨⟨⟨hsel, hlen⟩, hn⟩, hB⟩ := hB
  have key : ∀ (fl2 : List Nat) (listed : Array Bool) (a : Act), fpB .any l.toArray p n fl2 listed = true →
      wpF P l.toArray (fun a' => Region.wanted op (yielded l.toArray a'.tmps) = true ∧ ∀ K : Act → World → Prop, (∀ a1 w1, wpQuiet P l.toArray (CM w1) (fun a2 => ∀ w2, CM w1 w2 → Q .normal a2 w2) (l.drop n) a1 → K a1 w1) → op.wp P a' (w.drewN 1) K Q) fl2 a →
      wpAny P .any l.toArray Q (fl2.length + (1 + (l.toArray.size - n))) listed a (w.drewN 1) := by
    intro fl2
    induction fl2 with
    | nil =>
      intro listed a hb h
      simp only [fpB, Bool.and_eq_true, decide_eq_true_eq] at hb
      rw [List.length_nil, Nat.zero_add, Nat.add_comm]
      refine wpAny_all hb.1 (by simp) ?_
      intro i hi
      simp at hi
      subst hi
      unfold wpOp
      simp only [List.getElem?_toArray, hop]
      rw [if_pos h.1]
      refine .inl (h.2 _ fun a1 w1 hq => ?_)
      refine wpAny_of_quiet (C := CM w1) (Q := fun a' => ∀ w', CM w1 w' → Q .normal a' w') (fun _ w' hw' h => h w' hw') _ _ _ _ (Mod.refl _ _) ?_
      have hd2 : (l.drop n).length = l.toArray.size - n := by simp
      have := wpAnyQ_lex (P := P) (C := CM w1) (md := .any) (ops := l.toArray) hsel (l.drop n) n (listed.setIfInBounds i true) a1 (fun j => by simp) (by rw [hd2]; exact hb.2) hq
      rw [hd2] at this
      exact this
    | cons i fl2 ih =>
      intro listed a hb h
      simp only [fpB, Bool.and_eq_true] at hb
      obtain ⟨o, v, ho, hy, hK⟩ := h
      have hr : i ∈ Region.ready .any l.toArray listed := by simpa using hb.1.1
      rw [List.length_cons, Nat.add_right_comm]
      exact wpAny_first ho (Region.noSelect_spec hsel) (fun c a w => hQ c a _ _ w) _ _ _ _ (Region.free_spec ho hb.1.2) hr hy (ih _ _ hb.2 hK)
  refine wp_region_any hm ?_
  have := key fl _ a hB h
  have e : fl.length + (1 + (l.toArray.size - n)) = l.toArray.size := by simp; omega
  rw [e] at this
  exact this
theorem wpF_step2 {ops : Array Oper} {K : Act → Prop} {i : Nat} {fl : List Nat} {a : Act} (o : Oper) (ho : ops[i]? = some o)
    (h : ∀ K' : Act → Prop, (∀ a, wpF P ops K fl a → K' a) → Region.wanted o (yielded ops a.tmps) = true ∧ ∃ v, (∀ w, (execOp a.eval o).run P w = .ok (.value v) w) ∧ K' (a.put o.dst v)) : wpF P ops K (i :: fl) a := by
  obtain ⟨h1, v, h2, h3⟩ := h _ fun _ h => h
  exact ⟨o, v, ho, .inl ⟨h1, h2⟩, h3⟩
end
end Go.Proofs.Bo
set_option linter.unusedVariables false
set_option linter.unusedSimpArgs false
namespace Go.Proofs.Bo
open Go Go.RowKit

/-- Stages: those from n on in their order; a free one; one that comes up alone; two that come up together. -/
inductive Stg where
  | rest
  | free (i : Nat) (s : Stg)
  | one (i : Nat) (s : Stg)
  | two (i j : Nat) (s t : Stg)
def Stg.len : Stg → Nat
  | .rest => 0
  | .free _ s => s.len + 1
  | .one _ s => s.len + 1
  | .two _ _ s _ => s.len + 1
section
variable {P : Program}
def ftB (md : Region.Mode) (ops : Array Oper) (n : Nat) : Stg → Array Bool → Bool
  | .rest, listed => Region.lexFrom md ops (ops.size - n) n listed
  | .free i s, listed => (Region.ready md ops listed).contains i && Region.free md ops listed i && ftB md ops n s (listed.setIfInBounds i true)
  | .one i s, listed => decide (Region.ready md ops listed = [i]) && ftB md ops n s (listed.setIfInBounds i true)
  | .two i j s t, listed => decide (Region.ready md ops listed = [i, j]) && decide (s.len = t.len) && ftB md ops n s (listed.setIfInBounds i true) && ftB md ops n t (listed.setIfInBounds j true)
def wpT (P : Program) (l : List Oper) (n : Nat) (Q : Exit → Act → World → Prop) : Stg → Act → World → Prop
  | .rest, a, w => wpQuiet P l.toArray (CM w) (fun a2 => ∀ w2, CM w w2 → Q .normal a2 w2) (l.drop n) a
  | .free i s, a, w => ∃ o v, l.toArray[i]? = some o ∧ Yields P l.toArray o v a ∧ wpT P l n Q s (a.put o.dst v) w
  | .one i s, a, w => ∃ o, l[i]? = some o ∧ Region.wanted o (yielded l.toArray a.tmps) = true ∧ ∀ K : Act → World → Prop, (∀ a1 w1, wpT P l n Q s a1 w1 → K a1 w1) → o.wp P a w K Q
  | .two i j s t, a, w => (∃ o, l[i]? = some o ∧ Region.wanted o (yielded l.toArray a.tmps) = true ∧ ∀ K : Act → World → Prop, (∀ a1 w1, wpT P l n Q s a1 w1 → K a1 w1) → o.wp P a w K Q) ∧
      ∃ o, l[j]? = some o ∧ Region.wanted o (yielded l.toArray a.tmps) = true ∧ ∀ K : Act → World → Prop, (∀ a1 w1, wpT P l n Q t a1 w1 → K a1 w1) → o.wp P a w K Q

theorem wpT_free {l : List Oper} {n : Nat} {Q : Exit → Act → World → Prop} {i : Nat} {s : Stg} {a : Act} {w : World} (o : Oper) (ho : l.toArray[i]? = some o)
    (h : ∀ K' : Act → Prop, (∀ a, wpT P l n Q s a w → K' a) → Region.wanted o (yielded l.toArray a.tmps) = true ∧ ∃ v, (∀ w, (execOp a.eval o).run P w = .ok (.value v) w) ∧ K' (a.put o.dst v)) : wpT P l n Q (.free i s) a w := by
  obtain ⟨h1, v, h2, h3⟩ := h _ fun _ h => h
  exact ⟨o, v, ho, .inl ⟨h1, h2⟩, h3⟩
theorem wpT_one {l : List Oper} {n : Nat} {Q : Exit → Act → World → Prop} {i : Nat} {s : Stg} {a : Act} {w : World} (o : Oper) (ho : l[i]? = some o)
    (h : Region.wanted o (yielded l.toArray a.tmps) = true ∧ ∀ K : Act → World → Prop, (∀ a1 w1, wpT P l n Q s a1 w1 → K a1 w1) → o.wp P a w K Q) : wpT P l n Q (.one i s) a w := ⟨o, ho, h.1, h.2⟩
theorem wpT_two {l : List Oper} {n : Nat} {Q : Exit → Act → World → Prop} {i j : Nat} {s t : Stg} {a : Act} {w : World} (o o' : Oper) (ho : l[i]? = some o) (ho' : l[j]? = some o')
    (h : Region.wanted o (yielded l.toArray a.tmps) = true ∧ ∀ K : Act → World → Prop, (∀ a1 w1, wpT P l n Q s a1 w1 → K a1 w1) → o.wp P a w K Q)
    (h' : Region.wanted o' (yielded l.toArray a.tmps) = true ∧ ∀ K : Act → World → Prop, (∀ a1 w1, wpT P l n Q t a1 w1 → K a1 w1) → o'.wp P a w K Q) : wpT P l n Q (.two i j s t) a w := ⟨⟨o, ho, h.1, h.2⟩, o', ho', h'.1, h'.2⟩
theorem wpT_rest {l : List Oper} {n : Nat} {Q : Exit → Act → World → Prop} {a : Act} {w : World} (h : wpQuiet P l.toArray (CM w) (fun a2 => ∀ w2, CM w w2 → Q .normal a2 w2) (l.drop n) a) : wpT P l n Q .rest a w := h

/-- **A region that draws its order, in stages.** -/
theorem ft_region {id : Nat} {Q : Exit → Act → World → Prop} {a : Act} {w : World} {l : List Oper} (n : Nat) (st : Stg) (hm : P.follows .mixedOrders = true)
    (hB : (Region.noSelect l.toArray && decide (st.len = n) && decide (n ≤ l.length) && ftB .any l.toArray n st (Array.replicate l.toArray.size false)) = true)
    (h : ∀ Q0 : Exit → Act → World → Prop, (∀ a w, Q .normal a w → Q0 .normal a w) → wpT P l n Q0 st a (w.drewN 1)) :
    (Code.region id l.toArray true).wp P Q a w := by
  refine Code.wp_mono NoP.imp ?_
  have hQ : ∀ c (a : Act) (d : Option Tmp) (v : Value) (w : World), NoP Q (.panic c) (a.put d v) w → NoP Q (.panic c) a w := fun _ _ _ _ _ h => h
  replace h := h (NoP Q) fun _ _ h => h
  generalize NoP Q = Q at h hQ
  simp only [Bool.and_eq_true, decide_eq_true_eq] at hB
  obtain ⟨⟨⟨hsel, hlen⟩, hn⟩, hB⟩ := hB
  have key : ∀ (st : Stg) (listed : Array Bool) (a : Act) (w : World), ftB .any l.toArray n st listed = true → wpT P l n Q st a w → wpAny P .any l.toArray Q (st.len + (l.toArray.size - n)) listed a w := by
    intro st
    induction st with
    | rest =>
      intro listed a w hb h
      rw [Stg.len, Nat.zero_add]
      refine wpAny_of_quiet (C := CM w) (Q := fun a' => ∀ w', CM w w' → Q .normal a' w') (fun _ w' hw' h => h w' hw') _ _ _ _ (Mod.refl _ _) ?_
      have hd2 : (l.drop n).length = l.toArray.size - n := by simp
      have := wpAnyQ_lex (P := P) (C := CM w) (md := .any) (ops := l.toArray) hsel (l.drop n) n listed a (fun j => by simp) (by rw [hd2]; exact hb) h
      rw [hd2] at this
      exact this
    | free i s ih =>
      intro listed a w hb h
      rw [Stg.len, Nat.add_right_comm]
      simp only [ftB, Bool.and_eq_true] at hb
      obtain ⟨o, v, ho, hy, hK⟩ := h
      have hr : i ∈ Region.ready .any l.toArray listed := by simpa using hb.1.1
      exact wpAny_first ho (Region.noSelect_spec hsel) (fun c a w => hQ c a _ _ w) _ _ _ _ (Region.free_spec ho hb.1.2) hr hy (ih _ _ _ hb.2 hK)
    | one i s ih =>
      intro listed a w hb h
      rw [Stg.len, Nat.add_right_comm]
      simp only [ftB, Bool.and_eq_true, decide_eq_true_eq] at hb
      obtain ⟨o, ho, hw, hK⟩ := h
      refine wpAny_all hb.1 (by simp) ?_
      intro j hj
      simp at hj
      subst hj
      unfold wpOp
      simp only [List.getElem?_toArray, ho]
      rw [if_pos hw]
      exact .inl (hK _ fun a1 w1 hq => ih _ _ _ hb.2 hq)
    | two i j s t ih1 ih2 =>
      intro listed a w hb h
      rw [Stg.len, Nat.add_right_comm]
      simp only [ftB, Bool.and_eq_true, decide_eq_true_eq] at hb
      obtain ⟨⟨o, ho, hw, hK⟩, o', ho', hw', hK'⟩ := h
      refine wpAny_all hb.1.1.1 (by simp) ?_
      intro k hk
      simp at hk
      rcases hk with rfl | rfl
      · unfold wpOp
        simp only [List.getElem?_toArray, ho]
        rw [if_pos hw]
        exact .inl (hK _ fun a1 w1 hq => ih1 _ _ _ hb.1.2 hq)
      · unfold wpOp
        simp only [List.getElem?_toArray, ho']
        rw [if_pos hw']
        refine .inl (hK' _ fun a1 w1 hq => ?_)
        rw [hb.1.1.2]
        exact ih2 _ _ _ hb.2 hq
  refine wp_region_any hm ?_
  have := key st _ a _ hB h
  have e : st.len + (l.toArray.size - n) = l.toArray.size := by simp; omega
  rw [e] at this
  exact this
end
end Go.Proofs.Bo
