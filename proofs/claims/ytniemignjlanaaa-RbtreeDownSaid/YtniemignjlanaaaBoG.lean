import Derived.WalkKit
import Derived.Deep.QuietTactic
import Derived.BigQuiet
import Derived.Maps.AppendAt
import Derived.Deep.AppendLies
import Derived.Laws.AppendOwnNone
import Derived.Laws.ResultCell
import Derived.StillTail
import Derived.Deep.Quiet
import Derived.ProofKit
import Derived.OpenShut
import Derived.ShutString
import Derived.ChangeOld
import Derived.SizedLaws
import Derived.Deep.Slices
import Derived.Deep.Fields
import Derived.ChangeSlices
import Derived.RangeFuncNested
import Derived.RangeFuncBound
import Derived.RangeFuncCalls
import Derived.RangeFuncLeaves
import Derived.Shelf.Abstract
import Derived.OwnWalkIn
import Derived.TacticsInMore
import Derived.LoopNIn
import Derived.LoopIn
import Derived.Maps.OwnIn
set_option linter.unusedVariables false
namespace Go.Proofs.Bo
open Go Go.RowKit

/-- What has changed: blocks of S alone, and new ones. -/
structure Mod (S : Nat → Prop) (w w' : World) : Prop where
  os : w'.os = w.os
  tape : w'.tape = w.tape
  output : w'.output = w.output
  size : w.heap.size ≤ w'.heap.size
  block : ∀ k, k < w.heap.size → ¬ S k → w'.heap[k]? = w.heap[k]?

theorem Mod.refl (S : Nat → Prop) (w : World) : Mod S w w := ⟨rfl, rfl, rfl, Nat.le_refl _, fun _ _ _ => rfl⟩
theorem Mod.trans {S T : Nat → Prop} {a b c : World} (h : Mod S a b) (k : Mod T b c) (hs : ∀ i, T i → S i ∨ a.heap.size ≤ i) : Mod S a c :=
  ⟨k.os.trans h.os, k.tape.trans h.tape, k.output.trans h.output, Nat.le_trans h.size k.size, fun i hi hn => (k.block i (Nat.lt_of_lt_of_le hi h.size) (fun ht => by rcases hs i ht with h1 | h1; exact hn h1; omega)).trans (h.block i hi hn)⟩
theorem Mod.trans' {S : Nat → Prop} {a b c : World} (h : Mod S a b) (k : Mod S b c) : Mod S a c := h.trans k fun _ h => .inl h
theorem Mod.mono {S T : Nat → Prop} {a b : World} (h : Mod S a b) (hs : ∀ i, S i → T i ∨ a.heap.size ≤ i) : Mod T a b :=
  ⟨h.os, h.tape, h.output, h.size, fun i hi hn => h.block i hi (fun h1 => by rcases hs i h1 with h2 | h2; exact hn h2; omega)⟩
theorem Mod.of_below {S : Nat → Prop} {w w' : World} (h : Below w.heap.size w w') : Mod S w w' := ⟨h.os, h.tape, h.output, h.size, fun k hk _ => h.block k hk⟩
theorem Mod.to_below {S : Nat → Prop} {B : Nat} {w w' : World} (h : Mod S w w') (hB : B ≤ w.heap.size) (hs : ∀ k, S k → B ≤ k) : Below B w w' :=
  ⟨h.os, h.tape, h.output, h.size, fun k hk => h.block k (by omega) (fun h1 => by have := hs k h1; omega)⟩
theorem Mod.alloc {S : Nat → Prop} {a w : World} (h : Mod S a w) (o : Obj) : Mod S a (w.alloc o) :=
  h.trans (T := fun _ => False) ⟨rfl, rfl, rfl, by simp, fun k hk _ => Below.heap_alloc _ _ _ hk⟩ (fun _ h => h.elim)
theorem Mod.drew {S : Nat → Prop} {a w : World} (h : Mod S a w) : Mod S a w.drew := ⟨h.os, h.tape, h.output, h.size, h.block⟩
theorem Mod.drewN {S : Nat → Prop} {a w : World} (h : Mod S a w) (n : Nat) : Mod S a (w.drewN n) := ⟨h.os, h.tape, h.output, h.size, h.block⟩
theorem Mod.setCell {S : Nat → Prop} {a w : World} (h : Mod S a w) {p : Addr} (hp : S p.block ∨ a.heap.size ≤ p.block) (u : Value) : Mod S a (w.setCell p u) :=
  h.trans (T := fun k => k = p.block) ⟨rfl, rfl, rfl, by simp [World.setCell], fun k hk hn => Below.heap_setCell _ _ _ _ hn⟩ (fun i hi => by subst hi; exact hp)
theorem Mod.grown {S : Nat → Prop} {a w w' : World} {row : Option Nat} (h : Mod S a w) (hg : w.grownBy w' row) (hr : ∀ k, row = some k → S k ∨ a.heap.size ≤ k) : Mod S a w' :=
  h.trans (T := fun k => row = some k) ⟨hg.os, hg.tape, hg.output, hg.size, fun k hk hn => hg.block k hk (fun e => hn e.symm)⟩ hr
theorem Mod.heap {S : Nat → Prop} {w w' : World} (h : Mod S w w') {k : Nat} {o : Obj} (ho : w.heap[k]? = some o) (hn : ¬ S k) : w'.heap[k]? = some o :=
  (h.block k (Array.getElem?_eq_some_iff.1 ho).1 hn).trans ho
theorem Mod.cell {S : Nat → Prop} {w w' : World} (h : Mod S w w') {a : Addr} {v : Value} (ho : w.cell? a = some v) (hn : ¬ S a.block) : w'.cell? a = some v :=
  (World.cell?_of_block (h.block a.block (World.block_lt_of_cell? w a ho) hn)).trans ho

/-- A row that is owned depends on its own block alone. -/
theorem own_keep {w w' : World} {base : Nat} {e : TypeId} {size : Nat} {v : Value} {n : Nat} {xs : List Value} (h : w.ownsRow base e size v n xs)
    (hk : ∀ k, v.ownBlock = some k → w'.heap[k]? = w.heap[k]?) : w'.ownsRow base e size v n xs := by
  refine ⟨h.1, ?_⟩
  rcases h.2 with h2 | ⟨g, cap, cur, hv, hg, hh, r⟩
  · exact .inl h2
  · exact .inr ⟨g, cap, cur, hv, hg, (hk g (by rw [hv]; rfl)).trans hh, r⟩

theorem own_lt {w : World} {base : Nat} {e : TypeId} {size : Nat} {v : Value} {n : Nat} {xs : List Value} (h : w.ownsRow base e size v n xs) {k : Nat} (hk : v.ownBlock = some k) : k < w.heap.size := (h.lt k hk).2

theorem own_mod {S : Nat → Prop} {w w' : World} {base : Nat} {e : TypeId} {size : Nat} {v : Value} {n : Nat} {xs : List Value} (h : w.ownsRow base e size v n xs) (hm : Mod S w w')
    (hk : ∀ k, v.ownBlock = some k → ¬ S k) : w'.ownsRow base e size v n xs := own_keep h fun k e => hm.block k (own_lt h e) (hk k e)

/-- What a row's block is. -/
theorem own_type {w : World} {base : Nat} {e : TypeId} {size : Nat} {v : Value} {n : Nat} {xs : List Value} (h : w.ownsRow base e size v n xs) {k : Nat} (hk : v.ownBlock = some k) : ∃ cs, w.heap[k]? = some (.cells cs e (0, 0)) := by
  rcases h.2 with ⟨rfl, _⟩ | ⟨g, cap, cur, rfl, hg, hh, r⟩
  · simp [Value.ownBlock] at hk
  · simp [Value.ownBlock] at hk; subst hk; exact ⟨_, hh⟩

theorem own_slice {w : World} {base : Nat} {e : TypeId} {size : Nat} {v : Value} {n : Nat} {xs : List Value} (h : w.ownsRow base e size v n xs) :
    (∃ A c, v = .slice A n c ∧ n ≤ c ∧ c ≤ maxLen ∧ (0 < n → ∃ g, A = some ⟨g, 0, none⟩)) := by
  rcases h.2 with ⟨rfl, rfl⟩ | ⟨g, cap, cur, rfl, hg, hh, r, r2, _⟩
  · exact ⟨none, 0, rfl, Nat.le_refl _, by unfold maxLen; omega, fun h => by omega⟩
  · exact ⟨_, cap, rfl, r, r2, fun _ => ⟨g, rfl⟩⟩

/-- A cell of a row. -/
theorem own_cell {w : World} {base g n c : Nat} {e : TypeId} {size : Nat} {xs : List Value} (h : w.ownsRow base e size (.slice (some ⟨g, 0, none⟩) n c) n xs) {j : Nat} {u : Value} (hu : xs[j]? = some u) :
    w.cell? ⟨g, j, none⟩ = some u ∧ w.frozen? ⟨g, j, none⟩ = false := by
  rcases h.2 with ⟨h1, _⟩ | ⟨g', cap, cur, hv, _, hh, _, _, _, ht⟩
  · cases h1
  · injection hv with h1 h2 h3
    injection h1 with h1
    injection h1 with h1
    subst h1
    refine ⟨?_, frozen_of_row w g j cur e hh⟩
    rw [cell_of_row w g j cur e (0, 0) hh]
    rw [← ht, List.getElem?_take] at hu
    split at hu
    · simpa using hu
    · cases hu

/-- A store into a row. -/
theorem own_set {w : World} {base g n c : Nat} {e : TypeId} {size : Nat} {xs : List Value} (h : w.ownsRow base e size (.slice (some ⟨g, 0, none⟩) n c) n xs) (j : Nat) (hj : j < xs.length) (u : Value) :
    (w.setCell ⟨g, j, none⟩ u).ownsRow base e size (.slice (some ⟨g, 0, none⟩) n c) n (xs.set j u) := by
  refine ⟨by simpa using h.1, ?_⟩
  rcases h.2 with ⟨h1, _⟩ | ⟨g', cap, cur, hv, hb, hh, h3, h4, h5, ht⟩
  · cases h1
  · injection hv with h1 h2 h3'
    injection h1 with h1
    injection h1 with h1
    subst h1; subst h3'
    refine .inr ⟨g, c, cur.setIfInBounds j u, rfl, hb, heap_setCell_same w g j cur e u hh, h3, h4, by simpa using h5, ?_⟩
    simp only [Array.toList_setIfInBounds]
    rw [List.take_set, ht]

/-- A row cut short. -/
theorem own_take {w : World} {base n c : Nat} {A : Option Addr} {e : TypeId} {size : Nat} {xs : List Value} (h : w.ownsRow base e size (.slice A n c) n xs) (m : Nat) (hm : m ≤ n) :
    w.ownsRow base e size (.slice A m c) m (xs.take (m * size)) := by
  have h1 := h.1
  have hle : m * size ≤ n * size := Nat.mul_le_mul_right _ hm
  refine ⟨by rw [List.length_take]; omega, ?_⟩
  rcases h.2 with ⟨h2, h3⟩ | ⟨g', cap, cur, hv, hb, hh, h3, h4, h5, ht⟩
  · cases h2; exact .inl ⟨by rw [show m = 0 by omega], by omega⟩
  · cases hv
    refine .inr ⟨g', c, cur, rfl, hb, hh, by omega, h4, h5, ?_⟩
    rw [← ht, List.take_take]
    congr 1
    omega

theorem drewN_heap (w : World) (n : Nat) : (w.drewN n).heap = w.heap := rfl
theorem own_drewN {w : World} {base : Nat} {e : TypeId} {size : Nat} {v : Value} {n : Nat} {xs : List Value} (h : w.ownsRow base e size v n xs) (m : Nat) : (w.drewN m).ownsRow base e size v n xs := own_keep h fun _ _ => rfl

end Go.Proofs.Bo
namespace Go.Proofs.Bo
open Go Go.RowKit
theorem Mod.of_drewN {S : Nat → Prop} {w w' : World} {n : Nat} (h : Mod S (w.drewN n) w') : Mod S w w' := ⟨h.os, h.tape, h.output, h.size, h.block⟩
theorem Mod.of_drew {S : Nat → Prop} {w w' : World} (h : Mod S w.drew w') : Mod S w w' := ⟨h.os, h.tape, h.output, h.size, h.block⟩
theorem Mod.lt {S : Nat → Prop} {w w' : World} (h : Mod S w w') {k : Nat} (hk : k < w.heap.size) : k < w'.heap.size := Nat.lt_of_lt_of_le hk h.size
end Go.Proofs.Bo
namespace Go.Proofs.Bo
open Go Go.RowKit
theorem pw_below_drewN' {B : Nat} {w W : World} (h : Below B w W) (n : Nat) : Below B w (W.drewN n) := ⟨h.os, h.tape, h.output, h.size, h.block⟩
end Go.Proofs.Bo
namespace Go.Proofs.Bo
open Go Go.RowKit
theorem alloc_0 (w : World) (A : Obj) : (w.alloc A).heap[w.heap.size]? = some A := heap_alloc_new w A
theorem alloc2_0 (w : World) (A B : Obj) : ((w.alloc A).alloc B).heap[w.heap.size]? = some A := heap_alloc2_old w A B
theorem alloc2_1 (w : World) (A B : Obj) : ((w.alloc A).alloc B).heap[w.heap.size + 1]? = some B := heap_alloc2_new w A B
theorem alloc3_0 (w : World) (A B C : Obj) : (((w.alloc A).alloc B).alloc C).heap[w.heap.size]? = some A := (Below.heap_alloc _ _ _ (by simp; omega)).trans (alloc2_0 w A B)
theorem alloc3_1 (w : World) (A B C : Obj) : (((w.alloc A).alloc B).alloc C).heap[w.heap.size + 1]? = some B := (Below.heap_alloc _ _ _ (by simp)).trans (alloc2_1 w A B)
theorem alloc3_2 (w : World) (A B C : Obj) : (((w.alloc A).alloc B).alloc C).heap[w.heap.size + 1 + 1]? = some C := by
  have := heap_alloc2_new (w.alloc A) B C; rwa [World.size_alloc] at this
/-- A block that is known: its cells as the walk asks for them. -/
theorem blkc {w : World} {g : Nat} {cs : Array Value} {t : TypeId} (h : w.heap[g]? = some (.cells cs t (0, 0))) : (∀ j, w.cell? ⟨g, j, none⟩ = cs[j]?) ∧ (∀ j, w.frozen? ⟨g, j, none⟩ = false) :=
  ⟨fun j => cell_of_row w g j cs t (0, 0) h, fun j => frozen_of_row w g j cs t h⟩
end Go.Proofs.Bo
namespace Go.Proofs.Bo
open Go Go.RowKit
theorem hid {p : Prop} (h : p) : Hid p := h
theorem blkl {w : World} {g : Nat} {o : Obj} (h : w.heap[g]? = some o) : g < w.heap.size := (Array.getElem?_eq_some_iff.1 h).1
end Go.Proofs.Bo
set_option linter.unusedVariables false
namespace Go.Proofs.Bo
open Go Go.RowKit

/-- The cells of a place: a thing and 'true', or zeros. -/
def encP {α : Type} (enc : α → List Value) (z : List Value) : Option α → List Value
  | none => z ++ [.bool false]
  | some v => enc v ++ [.bool true]

/-- An arena's things and free places. -/
structure ArInv {α : Type} (room : Int) (l : List (Option α)) (free : List Int) : Prop where
  room0 : 0 ≤ room
  room1 : room ≤ 65536
  fl : free.length ≤ l.length
  lr : (l.length : Int) ≤ room
  nodup : free.Nodup
  mem : ∀ i : Int, i ∈ free ↔ ∃ k : Nat, i = k ∧ l[k]? = some none

/-- An arena in memory. ta: the type of its struct; tp: of its places. -/
structure Ar {α : Type} (enc : α → List Value) (z : List Value) (ta tp ti : TypeId) (w : World) (ab : Nat) (lv fv : Value) (room : Int) (l : List (Option α)) (free : List Int) : Prop where
  blk : w.heap[ab]? = some (.cells #[.int .i64 room, lv, fv] ta (0, 0))
  row : w.ownsRow 0 tp (z.length + 1) lv l.length (l.flatMap (encP enc z))
  fre : w.ownsRow 0 ti 1 fv free.length (free.map (.int .i64))
  encl : ∀ v, (enc v).length = z.length
  inv : ArInv room l free

section
variable {α : Type} {enc : α → List Value} {z : List Value} {ta tp ti : TypeId} {w w' : World} {ab : Nat} {lv fv : Value} {room : Int} {l : List (Option α)} {free : List Int}

/-- The blocks of an arena. -/
def Foot (ab : Nat) (lv fv : Value) (k : Nat) : Prop := k = ab ∨ lv.ownBlock = some k ∨ fv.ownBlock = some k

theorem Ar.keep (h : Ar enc z ta tp ti w ab lv fv room l free) (hk : ∀ k, Foot ab lv fv k → w'.heap[k]? = w.heap[k]?) : Ar enc z ta tp ti w' ab lv fv room l free :=
  ⟨(hk _ (.inl rfl)).trans h.blk, own_keep h.row fun _ e => hk _ (.inr (.inl e)), own_keep h.fre fun _ e => hk _ (.inr (.inr e)), h.encl, h.inv⟩
theorem Ar.drewN (h : Ar enc z ta tp ti w ab lv fv room l free) (n : Nat) : Ar enc z ta tp ti (w.drewN n) ab lv fv room l free := h.keep fun _ _ => rfl
theorem Ar.lt (h : Ar enc z ta tp ti w ab lv fv room l free) {k : Nat} (hk : Foot ab lv fv k) : k < w.heap.size := by
  rcases hk with rfl | hk | hk
  · exact (Array.getElem?_eq_some_iff.1 h.blk).1
  · exact own_lt h.row hk
  · exact own_lt h.fre hk
theorem Ar.mod {S : Nat → Prop} (h : Ar enc z ta tp ti w ab lv fv room l free) (hm : Mod S w w') (hs : ∀ k, Foot ab lv fv k → ¬ S k) : Ar enc z ta tp ti w' ab lv fv room l free :=
  h.keep fun k hk => hm.block k (h.lt hk) (hs k hk)

theorem Ar.c0 (h : Ar enc z ta tp ti w ab lv fv room l free) : w.cell? ⟨ab, 0, none⟩ = some (.int .i64 room) := by simp [World.cell?, h.blk]
theorem Ar.c1 (h : Ar enc z ta tp ti w ab lv fv room l free) : w.cell? ⟨ab, 1, none⟩ = some lv := by simp [World.cell?, h.blk]
theorem Ar.c2 (h : Ar enc z ta tp ti w ab lv fv room l free) : w.cell? ⟨ab, 2, none⟩ = some fv := by simp [World.cell?, h.blk]
theorem Ar.fr (h : Ar enc z ta tp ti w ab lv fv room l free) (j : Nat) : w.frozen? ⟨ab, j, none⟩ = false := by simp [World.frozen?, h.blk]
theorem Ar.flen (h : Ar enc z ta tp ti w ab lv fv room l free) : free.length ≤ l.length ∧ l.length ≤ 65536 := by
  have := h.inv.fl; have := h.inv.lr; have := h.inv.room1; omega

theorem encP_length (he : ∀ v, (enc v).length = z.length) (p : Option α) : (encP enc z p).length = z.length + 1 := by
  cases p <;> simp [encP, he]

/-- A cell of the place of a row that is made of pieces of one length. -/
theorem flat_get {β : Type} (f : β → List Value) (m : Nat) (hf : ∀ b, (f b).length = m) (l : List β) (i j : Nat) (hj : j < m) : (l.flatMap f)[i * m + j]? = (l[i]?).bind fun b => (f b)[j]? := by
  induction l generalizing i with
  | nil => simp
  | cons b l ih =>
    rw [List.flatMap_cons]
    cases i with
    | zero => rw [List.getElem?_append_left (by rw [hf]; omega)]; simp
    | succ i =>
      rw [List.getElem?_append_right (by rw [hf, Nat.succ_mul]; omega), hf, show (i + 1) * m + j - m = i * m + j by rw [Nat.succ_mul]; omega, ih]
      simp

theorem flat_set {β : Type} (f : β → List Value) (m : Nat) (hf : ∀ b, (f b).length = m) (l : List β) (i j : Nat) (hj : j < m) (u : Value) (b b' : β) (hb : l[i]? = some b) (hb' : f b' = (f b).set j u) :
    (l.flatMap f).set (i * m + j) u = (l.set i b').flatMap f := by
  induction l generalizing i with
  | nil => simp at hb
  | cons c l ih =>
    cases i with
    | zero =>
      simp at hb; subst hb
      simp only [Nat.zero_mul, Nat.zero_add, List.flatMap_cons, List.set_cons_zero, hb']
      rw [List.set_append_left _ _ (by rw [hf]; omega)]
    | succ i =>
      simp only [List.flatMap_cons, List.set_cons_succ]
      rw [List.set_append_right _ _ (by rw [hf, Nat.succ_mul]; omega), hf, show (i + 1) * m + j - m = i * m + j by rw [Nat.succ_mul]; omega]
      rw [ih i (by simpa using hb)]

theorem flat_length {β : Type} (f : β → List Value) (m : Nat) (hf : ∀ b, (f b).length = m) (l : List β) : (l.flatMap f).length = l.length * m := by
  induction l with
  | nil => simp
  | cons b l ih => rw [List.flatMap_cons, List.length_append, ih, hf, List.length_cons, Nat.succ_mul]; omega

/-- The row's address, where a place is. -/
theorem Ar.place (h : Ar enc z ta tp ti w ab lv fv room l free) (hp : 0 < l.length) : ∃ lb c, lv = .slice (some ⟨lb, 0, none⟩) l.length c ∧ l.length ≤ c ∧ c ≤ maxLen := by
  obtain ⟨A, c, rfl, h1, h2, h3⟩ := own_slice h.row
  obtain ⟨g, rfl⟩ := h3 hp
  exact ⟨g, c, rfl, h1, h2⟩

theorem Ar.cell {lb n c : Nat} (h : Ar enc z ta tp ti w ab (.slice (some ⟨lb, 0, none⟩) n c) fv room l free) {i : Nat} {p : Option α} (hi : l[i]? = some p) {j : Nat} {u : Value} (hu : (encP enc z p)[j]? = some u) :
    w.cell? ⟨lb, i * (z.length + 1) + j, none⟩ = some u ∧ w.frozen? ⟨lb, i * (z.length + 1) + j, none⟩ = false := by
  have hr := h.row
  obtain ⟨A, c', e, _, _, _⟩ := own_slice hr
  cases e
  refine own_cell hr ?_
  rw [flat_get (encP enc z) (z.length + 1) (encP_length h.encl) l i j (by have := (List.getElem?_eq_some_iff.1 hu).1; rw [encP_length h.encl] at this; exact this), hi]
  exact hu
end
end Go.Proofs.Bo
set_option linter.unusedVariables false
namespace Go.Proofs.Bo
open Go Go.RowKit
section
variable {P : Program} {ops : Array Oper} {rest : List Oper} {o : Oper} {a : Act} {Q : Exit → Act → World → Prop}
/-- 'append(v, x)', x laid in a new block by the statement itself. -/
theorem app_one {W : World} (news : List Value) (v : Value) (n : Nat) (xs : List Value) (s x : Operand) (t e : TypeId) (z : Value) (size bytes : Nat) (hgd : o.guard = none)
    (ho : o.op = .call { callee := .builtin .append, args := #[s, x], argTypes := #[t, t] })
    (ht : P.underlying t = some (.slice e)) (hinfo : (P.info? e).map (fun i => (i.zero, i.size, i.bytes)) = some (some z, size, bytes)) (hz : z.cells.size = size) (hz0 : 0 < size) (hb0 : 0 < bytes)
    (hs : a.eval s = v) (hx : a.eval x = .slice (some ⟨W.heap.size, 0, none⟩) 1 1)
    (HO : W.ownsRow 0 e size v n xs) (hnl : news.length = size) (h1 : ∀ u ∈ news, u.oneCell' = true) (hl : (n + 1) * bytes ≤ 140737488355328)
    (h : ∀ v1 w1, w1.ownsRow 0 e size v1 (n + 1) (xs ++ news) → W.grownBy w1 v.ownBlock → (∀ k, v1.ownBlock = some k → v.ownBlock = some k ∨ W.heap.size ≤ k) → wpList P ops Q rest (a.put o.dst v1) w1) :
    wpList P ops Q (o :: rest) a (W.alloc (.cells news.toArray e)) := by
  obtain ⟨i0, hi, hzz⟩ := Option.map_eq_some_iff.1 hinfo
  simp only [Prod.mk.injEq] at hzz
  obtain ⟨hz0', hz1, hz2⟩ := hzz
  have hlen : n + 1 ≤ 140737488355328 := Nat.le_trans (Nat.le_mul_of_pos_right _ hb0) hl
  refine wpList_append_own_at (W.alloc (.cells news.toArray e)) hgd s x t ho 0 e i0 z size bytes ht hi hz0' hz1 hz2 hz hz0 v n xs hs (HO.alloc _) ⟨W.heap.size, 0, none⟩ 1 1 news hx (by omega)
    (World.news_of_block (cs := news.toArray) (t := e) (fr := (0, 0)) (heap_alloc_new W _)) h1 (by simp only [maxLen]; omega) hl (by simp) ?_
  intro v1 w1 hown hg _ hat
  have hg0 : W.grownBy (W.alloc (.cells news.toArray e)) v.ownBlock := World.grownBy_alloc W _ _
  refine h v1 w1 hown ⟨hg.os.trans hg0.os, hg.tape.trans hg0.tape, hg.output.trans hg0.output, Nat.le_trans hg0.size hg.size, fun k hk hn => (hg.block k (Nat.lt_of_lt_of_le hk hg0.size) hn).trans (hg0.block k hk hn)⟩ ?_
  intro k hk
  rcases hat with hat | hat
  · exact .inl (hat ▸ hk)
  · rw [hat] at hk; cases hk; exact .inr (by simp)
end

/-- A row of different numbers from 0 on below n is no longer than n. -/
theorem nodup_bound : ∀ (n : Nat) (l : List Int), l.Nodup → (∀ a ∈ l, 0 ≤ a ∧ a < (n : Int)) → l.length ≤ n
  | 0, l, _, h => by cases l with | nil => simp | cons a l => have := h a (by simp); omega
  | n + 1, l, hd, h => by
    have h1 : (l.erase (n : Int)).length ≤ n := nodup_bound n _ (hd.erase _) (fun a ha => by
      have ha' := List.mem_of_mem_erase ha
      have hne : a ≠ n := fun e => by subst e; exact (hd.not_mem_erase) ha
      have := h a ha'; omega)
    have h2 := List.length_erase (a := (n : Int)) (l := l)
    split at h2 <;> omega

theorem ArInv.put_new {α : Type} {room : Int} {l : List (Option α)} (h : ArInv room l []) (hr : (l.length : Int) < room) (v : α) : ArInv room (l ++ [some v]) [] := by
  refine ⟨h.room0, h.room1, by simp, by simp; omega, h.nodup, fun i => ?_⟩
  rw [h.mem i]
  constructor
  · rintro ⟨k, rfl, hk⟩; exact ⟨k, rfl, by rw [List.getElem?_append_left (List.getElem?_eq_some_iff.1 hk).1]; exact hk⟩
  · rintro ⟨k, rfl, hk⟩
    refine ⟨k, rfl, ?_⟩
    rw [List.getElem?_append] at hk
    split at hk
    · exact hk
    · rename_i hn
      rcases Nat.eq_zero_or_pos (k - l.length) with h0 | h0
      · rw [h0] at hk; simp at hk
      · rw [List.getElem?_eq_none (by simp; omega)] at hk; cases hk

theorem ArInv.put_old {α : Type} {room : Int} {l : List (Option α)} {free : List Int} {k : Nat} (h : ArInv room l (free ++ [(k : Int)])) (v : α) : ArInv room (l.set k (some v)) free := by
  have hl : l[k]? = some none := by
    obtain ⟨k', e, hk'⟩ := (h.mem k).1 (by simp)
    have : k = k' := by omega
    subst this; exact hk'
  have hnd := h.nodup
  rw [List.nodup_append] at hnd
  refine ⟨h.room0, h.room1, ?_, by simpa using h.lr, hnd.1, fun i => ?_⟩
  · have := h.fl; simp at this ⊢; omega
  · constructor
    · intro hi
      obtain ⟨k', rfl, hk'⟩ := (h.mem i).1 (by simp [hi])
      have hne : k ≠ k' := by rintro rfl; exact hnd.2.2 _ hi _ (by simp) rfl
      exact ⟨k', rfl, by rw [List.getElem?_set_ne hne]; exact hk'⟩
    · rintro ⟨k', rfl, hk'⟩
      have hne : k ≠ k' := by
        rintro rfl
        rw [List.getElem?_set_self (List.getElem?_eq_some_iff.1 hl).1] at hk'
        simp at hk'
      rw [List.getElem?_set_ne hne] at hk'
      have := (h.mem k').2 ⟨k', rfl, hk'⟩
      simp at this
      rcases this with h1 | h1
      · exact h1
      · exact absurd h1 (by omega)

theorem ArInv.free {α : Type} {room : Int} {l : List (Option α)} {free : List Int} {k : Nat} {v : α} (h : ArInv room l free) (hk : l[k]? = some (some v)) : ArInv room (l.set k none) (free ++ [(k : Int)]) := by
  have hni : (k : Int) ∉ free := by
    intro hi
    obtain ⟨k', e, hk'⟩ := (h.mem k).1 hi
    have : k = k' := by omega
    subst this; rw [hk] at hk'; simp at hk'
  have hkl := (List.getElem?_eq_some_iff.1 hk).1
  refine ⟨h.room0, h.room1, ?_, by simpa using h.lr, ?_, fun i => ?_⟩
  · have hnd : (free ++ [(k : Int)]).Nodup := by
      rw [List.nodup_append]; exact ⟨h.nodup, by simp, fun a ha b hb => by simp at hb; subst hb; rintro rfl; exact hni ha⟩
    have := nodup_bound l.length _ hnd (fun a ha => by
      simp at ha
      rcases ha with ha | rfl
      · obtain ⟨k', rfl, hk'⟩ := (h.mem a).1 ha
        have := (List.getElem?_eq_some_iff.1 hk').1; omega
      · omega)
    simpa using this
  · rw [List.nodup_append]; exact ⟨h.nodup, by simp, fun a ha b hb => by simp at hb; subst hb; rintro rfl; exact hni ha⟩
  · constructor
    · intro hi
      simp at hi
      rcases hi with hi | rfl
      · obtain ⟨k', rfl, hk'⟩ := (h.mem i).1 hi
        refine ⟨k', rfl, ?_⟩
        by_cases e : k = k'
        · subst e; rw [List.getElem?_set_self hkl]
        · rw [List.getElem?_set_ne e]; exact hk'
      · exact ⟨k, rfl, by rw [List.getElem?_set_self hkl]⟩
    · rintro ⟨k', rfl, hk'⟩
      by_cases e : k = k'
      · subst e; simp
      · rw [List.getElem?_set_ne e] at hk'
        have := (h.mem k').2 ⟨k', rfl, hk'⟩
        simp [this]
theorem ArInv.set {α : Type} {room : Int} {l : List (Option α)} {free : List Int} {k : Nat} {v : α} (h : ArInv room l free) (hk : l[k]? = some (some v)) (u : α) : ArInv room (l.set k (some u)) free := by
  have hkl := (List.getElem?_eq_some_iff.1 hk).1
  refine ⟨h.room0, h.room1, by simpa using h.fl, by simpa using h.lr, h.nodup, fun i => ?_⟩
  rw [h.mem i]
  constructor
  · rintro ⟨k', rfl, hk'⟩
    refine ⟨k', rfl, ?_⟩
    have : k ≠ k' := by rintro rfl; rw [hk] at hk'; simp at hk'
    rw [List.getElem?_set_ne this]; exact hk'
  · rintro ⟨k', rfl, hk'⟩
    have : k ≠ k' := by rintro rfl; rw [List.getElem?_set_self hkl] at hk'; simp at hk'
    rw [List.getElem?_set_ne this] at hk'; exact ⟨k', rfl, hk'⟩
end Go.Proofs.Bo
namespace Go.Proofs.Bo
open Go Go.RowKit
section
variable {α : Type} {enc : α → List Value} {z : List Value} {ta tp ti : TypeId} {w w' : World} {ab : Nat} {lv fv : Value} {room : Int} {l : List (Option α)} {free : List Int}

/-- The three blocks of an arena are three: by their types. -/
theorem Ar.ne_l (h : Ar enc z ta tp ti w ab lv fv room l free) (hT : ta ≠ tp) : lv.ownBlock ≠ some ab := by
  intro e
  obtain ⟨cs, hc⟩ := own_type h.row e
  have := h.blk; rw [this] at hc; injection hc with hc; injection hc with _ h2; exact hT h2
theorem Ar.ne_f (h : Ar enc z ta tp ti w ab lv fv room l free) (hT : ta ≠ ti) : fv.ownBlock ≠ some ab := by
  intro e
  obtain ⟨cs, hc⟩ := own_type h.fre e
  have := h.blk; rw [this] at hc; injection hc with hc; injection hc with _ h2; exact hT h2
theorem Ar.ne_lf (h : Ar enc z ta tp ti w ab lv fv room l free) (hT : tp ≠ ti) {k : Nat} (h1 : lv.ownBlock = some k) (h2 : fv.ownBlock = some k) : False := by
  obtain ⟨cs, hc⟩ := own_type h.row h1
  obtain ⟨cs', hc'⟩ := own_type h.fre h2
  rw [hc] at hc'; injection hc' with hc'; injection hc' with _ h2; exact hT h2

/-- The struct's block, stored into. -/
theorem blk_set1 {t : TypeId} {a b c u : Value} (h : w.heap[ab]? = some (.cells #[a, b, c] t (0, 0))) : (w.setCell ⟨ab, 1, none⟩ u).heap[ab]? = some (.cells #[a, u, c] t (0, 0)) := by
  rw [heap_setCell_same w ab 1 _ t u h]; rfl
theorem blk_set2 {t : TypeId} {a b c u : Value} (h : w.heap[ab]? = some (.cells #[a, b, c] t (0, 0))) : (w.setCell ⟨ab, 2, none⟩ u).heap[ab]? = some (.cells #[a, b, u] t (0, 0)) := by
  rw [heap_setCell_same w ab 2 _ t u h]; rfl
theorem heap_set_ne {p : Addr} {u : Value} {k : Nat} (h : k ≠ p.block) : (w.setCell p u).heap[k]? = w.heap[k]? := Below.heap_setCell _ _ _ _ h

/-- Behind 'a.l = append(a.l, ..)': the arena. -/
theorem Ar.grow_l {W w1 : World} {v1 : Value} {p : Option α} (h : Ar enc z ta tp ti W ab lv fv room l free) (hT : ta ≠ tp) (hT2 : ta ≠ ti) (hT3 : tp ≠ ti)
    (hown : w1.ownsRow 0 tp (z.length + 1) v1 (l.length + 1) (l.flatMap (encP enc z) ++ encP enc z p)) (hg : W.grownBy w1 lv.ownBlock) (hb : ∀ k, v1.ownBlock = some k → lv.ownBlock = some k ∨ W.heap.size ≤ k)
    (hi : ArInv room (l ++ [p]) free) :
    w1.heap[ab]? = some (.cells #[.int .i64 room, lv, fv] ta (0, 0)) ∧
    Ar enc z ta tp ti (w1.setCell ⟨ab, 1, none⟩ v1) ab v1 fv room (l ++ [p]) free ∧ Mod (Foot ab lv fv) W (w1.setCell ⟨ab, 1, none⟩ v1) ∧ (∀ k, Foot ab v1 fv k → Foot ab lv fv k ∨ W.heap.size ≤ k) := by
  have hab := h.lt (.inl rfl)
  have hne := h.ne_l hT
  have hblk : w1.heap[ab]? = some (.cells #[.int .i64 room, lv, fv] ta (0, 0)) := (hg.block ab hab (fun e => hne e.symm)).trans h.blk
  have hv1 : v1.ownBlock ≠ some ab := fun e => by
    rcases hb ab e with h1 | h1
    · exact hne h1
    · omega
  refine ⟨hblk, ⟨blk_set1 hblk, ?_, ?_, h.encl, hi⟩, ?_, ?_⟩
  · simp only [List.flatMap_append, List.flatMap_cons, List.flatMap_nil, List.append_nil, List.length_append, List.length_cons, List.length_nil]
    exact own_keep hown fun k e => heap_set_ne (by rintro rfl; exact hv1 e)
  · refine own_keep h.fre fun k e => ?_
    have hk := own_lt h.fre e
    rw [heap_set_ne (by rintro rfl; exact h.ne_f hT2 e)]
    exact hg.block k hk (fun e' => h.ne_lf hT3 e'.symm e)
  · exact ((Mod.refl _ W).grown hg (fun k e => .inl (.inr (.inl e)))).setCell (.inl (.inl rfl)) _
  · rintro k (rfl | e | e)
    · exact .inl (.inl rfl)
    · rcases hb k e with h1 | h1
      · exact .inl (.inr (.inl h1))
      · exact .inr h1
    · exact .inl (.inr (.inr e))

/-- Behind 'a.l[k] = place{}; a.free = append(a.free, k)'. -/
theorem Ar.grow_f {lb n c k : Nat} {W w1 : World} {v1 : Value} {v : α} (h : Ar enc z ta tp ti w ab (.slice (some ⟨lb, 0, none⟩) n c) fv room l free) (hT : ta ≠ tp) (hT2 : ta ≠ ti) (hT3 : tp ≠ ti) (hk : l[k]? = some (some v))
    (hW : W.heap[ab]? = w.heap[ab]?) (hrow : W.ownsRow 0 tp (z.length + 1) (.slice (some ⟨lb, 0, none⟩) n c) (l.set k none).length ((l.set k none).flatMap (encP enc z))) (hm : Mod (Foot ab (.slice (some ⟨lb, 0, none⟩) n c) fv) w W)
    (hown : w1.ownsRow 0 ti 1 v1 (free.length + 1) (free.map (.int .i64) ++ [.int .i64 (k : Int)])) (hg : W.grownBy w1 fv.ownBlock) (hb : ∀ k, v1.ownBlock = some k → fv.ownBlock = some k ∨ W.heap.size ≤ k) :
    w1.heap[ab]? = some (.cells #[.int .i64 room, (.slice (some ⟨lb, 0, none⟩) n c), fv] ta (0, 0)) ∧
    Ar enc z ta tp ti (w1.setCell ⟨ab, 2, none⟩ v1) ab (.slice (some ⟨lb, 0, none⟩) n c) v1 room (l.set k none) (free ++ [(k : Int)]) ∧ Mod (Foot ab (.slice (some ⟨lb, 0, none⟩) n c) fv) w (w1.setCell ⟨ab, 2, none⟩ v1) ∧
      (∀ k, Foot ab (.slice (some ⟨lb, 0, none⟩) n c) v1 k → Foot ab (.slice (some ⟨lb, 0, none⟩) n c) fv k ∨ w.heap.size ≤ k) := by
  have hab := h.lt (.inl rfl)
  have hne := h.ne_f hT2
  have hblk : w1.heap[ab]? = some (.cells #[.int .i64 room, (.slice (some ⟨lb, 0, none⟩) n c), fv] ta (0, 0)) := (hg.block ab (Nat.lt_of_lt_of_le hab hm.size) (fun e => hne e.symm)).trans (hW.trans h.blk)
  have hv1 : v1.ownBlock ≠ some ab := fun e => by
    rcases hb ab e with h1 | h1
    · exact hne h1
    · have := hm.size; omega
  refine ⟨hblk, ⟨blk_set2 hblk, ?_, ?_, h.encl, h.inv.free hk⟩, ?_, ?_⟩
  · refine own_keep hrow fun k e => ?_
    have hk := own_lt hrow e
    rw [heap_set_ne (by rintro rfl; exact h.ne_l hT e)]
    exact hg.block k hk (fun e' => h.ne_lf hT3 e e'.symm)
  · simp only [List.map_append, List.map_cons, List.map_nil, List.length_append, List.length_cons, List.length_nil]
    exact own_keep hown fun k e => heap_set_ne (by rintro rfl; exact hv1 e)
  · exact (hm.grown hg (fun k e => .inl (.inr (.inr e)))).setCell (.inl (.inl rfl)) _
  · rintro k (rfl | e | e)
    · exact .inl (.inl rfl)
    · exact .inl (.inr (.inl e))
    · rcases hb k e with h1 | h1
      · exact .inl (.inr (.inr h1))
      · exact .inr (Nat.le_trans hm.size h1)
end
end Go.Proofs.Bo
namespace Go.Proofs.Bo
open Go Go.RowKit
/-- Cells stored one behind the other. -/
def setL (w : World) (b : Nat) : Nat → List Value → World
  | _, [] => w
  | o, u :: us => setL (w.setCell ⟨b, o, none⟩ u) b (o + 1) us
def setSeg (xs : List Value) : Nat → List Value → List Value
  | _, [] => xs
  | o, u :: us => setSeg (xs.set o u) (o + 1) us

theorem setSeg_eq (c : List Value) : ∀ (us a b : List Value), b.length = us.length → setSeg (a ++ (b ++ c)) a.length us = a ++ (us ++ c)
  | [], a, b, h => by
    have : b = [] := List.eq_nil_of_length_eq_zero (by simpa using h)
    subst this; rfl
  | u :: us, a, b, h => by
    cases b with
    | nil => simp at h
    | cons b0 b =>
      have := setSeg_eq c us (a ++ [u]) b (by simpa using h)
      simp only [setSeg]
      rw [List.set_append_right _ _ (by omega)]
      simp only [Nat.sub_self, List.cons_append, List.set_cons_zero]
      simpa using this

theorem setSeg_length : ∀ (us xs : List Value) (o : Nat), (setSeg xs o us).length = xs.length
  | [], _, _ => rfl
  | u :: us, xs, o => by simp [setSeg, setSeg_length us]

theorem own_setL {base g n c : Nat} {e : TypeId} {size : Nat} : ∀ (us : List Value) (w : World) (xs : List Value) (o : Nat), w.ownsRow base e size (.slice (some ⟨g, 0, none⟩) n c) n xs → o + us.length ≤ xs.length →
    (setL w g o us).ownsRow base e size (.slice (some ⟨g, 0, none⟩) n c) n (setSeg xs o us)
  | [], _, _, _, h, _ => h
  | u :: us, w, xs, o, h, hl => by
    simp only [List.length_cons] at hl
    exact own_setL us _ _ (o + 1) (own_set h o (by omega) u) (by simp; omega)

theorem setL_heap (b : Nat) : ∀ (us : List Value) (w : World) (o : Nat) (k : Nat), k ≠ b → (setL w b o us).heap[k]? = w.heap[k]?
  | [], _, _, _, _ => rfl
  | u :: us, w, o, k, h => by
    rw [setL, setL_heap b us _ _ k h]
    exact heap_set_ne h
theorem setL_size (b : Nat) : ∀ (us : List Value) (w : World) (o : Nat), (setL w b o us).heap.size = w.heap.size
  | [], _, _ => rfl
  | u :: us, w, o => by rw [setL, setL_size b us]; simp
theorem setL_mod {S : Nat → Prop} {a : World} (b : Nat) (hb : S b ∨ a.heap.size ≤ b) : ∀ (us : List Value) (w : World) (o : Nat), Mod S a w → Mod S a (setL w b o us)
  | [], _, _, h => h
  | u :: us, w, o, h => setL_mod b hb us _ _ (h.setCell hb u)

theorem flat_split {β : Type} (f : β → List Value) (l : List β) (k : Nat) (p : β) (h : l[k]? = some p) : l.flatMap f = (l.take k).flatMap f ++ (f p ++ (l.drop (k + 1)).flatMap f) := by
  have hk := (List.getElem?_eq_some_iff.1 h).1
  have h2 : l[k] = p := by simpa [List.getElem?_eq_getElem hk] using h
  conv => lhs; rw [← List.take_append_drop k l]
  rw [List.flatMap_append, List.drop_eq_getElem_cons hk, List.flatMap_cons, h2]

theorem take_set_at {β : Type} (l : List β) (k : Nat) (q : β) : (l.set k q).take k = l.take k := by
  rw [List.take_set]; exact List.set_eq_of_length_le (by simp; omega)
theorem drop_set_at {β : Type} (l : List β) (k : Nat) (q : β) : (l.set k q).drop (k + 1) = l.drop (k + 1) := List.drop_set_of_lt (by omega)

/-- A whole place, stored into a row. -/
theorem own_place {β : Type} (f : β → List Value) {m : Nat} (hf : ∀ b, (f b).length = m) {w : World} {base g n c : Nat} {e : TypeId} {l : List β} (h : w.ownsRow base e m (.slice (some ⟨g, 0, none⟩) n c) n (l.flatMap f)) {k : Nat} {p : β} (hk : l[k]? = some p) (q : β) :
    (setL w g (k * m) (f q)).ownsRow base e m (.slice (some ⟨g, 0, none⟩) n c) n ((l.set k q).flatMap f) := by
  have hkl := (List.getElem?_eq_some_iff.1 hk).1
  have h1 := flat_split f l k p hk
  have h2 := flat_split f (l.set k q) k q (by rw [List.getElem?_set_self hkl])
  have hlen : ((l.take k).flatMap f).length = k * m := by rw [flat_length f m hf, List.length_take, Nat.min_eq_left (by omega)]
  have h3 := own_setL (f q) w (l.flatMap f) (k * m) h (by
    rw [hf, flat_length f m hf, ← Nat.succ_mul]; exact Nat.mul_le_mul_right _ hkl)
  rw [h1, ← hlen, setSeg_eq _ _ _ _ (by rw [hf, hf]), hlen] at h3
  rw [h2, take_set_at, drop_set_at]
  exact h3

section
variable {α : Type} {enc : α → List Value} {z : List Value} {ta tp ti : TypeId} {w w' : World} {ab : Nat} {lv fv : Value} {room : Int} {l : List (Option α)} {free : List Int}

/-- Behind 'a.l[k] = place': the arena's row alone has changed. -/
theorem Ar.put_place {lb n c : Nat} (h : Ar enc z ta tp ti w ab (.slice (some ⟨lb, 0, none⟩) n c) fv room l free) {k : Nat} {p : Option α} (hk : l[k]? = some p) (q : Option α) :
    (setL w lb (k * (z.length + 1)) (encP enc z q)).ownsRow 0 tp (z.length + 1) (.slice (some ⟨lb, 0, none⟩) n c) (l.set k q).length ((l.set k q).flatMap (encP enc z)) := by
  have hr := h.row
  obtain ⟨_, _, e, _⟩ := own_slice hr
  cases e
  have := own_place (encP enc z) (encP_length h.encl) hr hk q
  simpa using this

/-- Behind a store of a thing where it stands ('Set', or by At's pointer). -/
theorem Ar.set_thing {lb n c : Nat} (h : Ar enc z ta tp ti w ab (.slice (some ⟨lb, 0, none⟩) n c) fv room l free) (hT : ta ≠ tp) (hT3 : tp ≠ ti) {k : Nat} {v : α} (hk : l[k]? = some (some v)) (u : α) :
    Ar enc z ta tp ti (setL w lb (k * (z.length + 1)) (enc u)) ab (.slice (some ⟨lb, 0, none⟩) n c) fv room (l.set k (some u)) free ∧ Mod (Foot ab (.slice (some ⟨lb, 0, none⟩) n c) fv) w (setL w lb (k * (z.length + 1)) (enc u)) := by
  have hr := h.row
  obtain ⟨_, _, e, _⟩ := own_slice hr
  cases e
  have hn1 : ab ≠ lb := fun e => h.ne_l hT (by rw [e]; rfl)
  have hrow : (setL w lb (k * (z.length + 1)) (enc u)).ownsRow 0 tp (z.length + 1) (.slice (some ⟨lb, 0, none⟩) l.length c) (l.set k (some u)).length ((l.set k (some u)).flatMap (encP enc z)) := by
    have hkl := (List.getElem?_eq_some_iff.1 hk).1
    have h1 := flat_split (encP enc z) l k _ hk
    have h2 := flat_split (encP enc z) (l.set k (some u)) k _ (by rw [List.getElem?_set_self hkl])
    have hlen : ((l.take k).flatMap (encP enc z)).length = k * (z.length + 1) := by rw [flat_length _ _ (encP_length h.encl), List.length_take, Nat.min_eq_left (by omega)]
    have h3 := own_setL (enc u) w (l.flatMap (encP enc z)) (k * (z.length + 1)) hr (by
      rw [h.encl, flat_length _ _ (encP_length h.encl)]
      have := Nat.mul_le_mul_right (z.length + 1) hkl
      rw [Nat.succ_mul] at this; omega)
    rw [h1] at h3
    simp only [encP, List.append_assoc] at h3
    rw [← hlen, setSeg_eq _ _ _ _ (by rw [h.encl, h.encl]), hlen] at h3
    rw [h2, take_set_at, drop_set_at]
    simpa [encP] using h3
  refine ⟨⟨(setL_heap lb _ _ _ _ hn1).trans h.blk, hrow, own_keep h.fre fun k e => setL_heap lb _ _ _ _ ?_, h.encl, h.inv.set hk u⟩, setL_mod lb (.inl (.inr (.inl rfl))) _ _ _ (Mod.refl _ _)⟩
  rintro rfl; exact h.ne_lf hT3 (k := k) rfl e
end
end Go.Proofs.Bo
namespace Go.Proofs.Bo
open Go Go.RowKit
section
variable {α : Type} {enc : α → List Value} {z : List Value} {ta tp ti : TypeId} {w w' : World} {ab : Nat} {lv fv : Value} {room : Int} {l : List (Option α)} {free : List Int}
/-- Behind 'a.free = a.free[:n]; a.l[k] = place'. -/
theorem Ar.reuse {lb n c fb c' nq k : Nat} {i : Int} (q : Option α) (h : Ar enc z ta tp ti w ab (.slice (some ⟨lb, 0, none⟩) n c) (.slice (some ⟨fb, 0, none⟩) (free.length + 1) c') room l (free ++ [i])) (hT : ta ≠ tp) (hT2 : ta ≠ ti) (hT3 : tp ≠ ti)
    {p : Option α} (hk : l[k]? = some p) (hi : ArInv room (l.set k q) free) :
    Ar enc z ta tp ti (setL ((w.drewN nq).setCell ⟨ab, 2, none⟩ (.slice (some ⟨fb, 0, none⟩) free.length c')) lb (k * (z.length + 1)) (encP enc z q)) ab (.slice (some ⟨lb, 0, none⟩) n c) (.slice (some ⟨fb, 0, none⟩) free.length c') room (l.set k q) free ∧
    Mod (Foot ab (.slice (some ⟨lb, 0, none⟩) n c) (.slice (some ⟨fb, 0, none⟩) (free.length + 1) c')) w (setL ((w.drewN nq).setCell ⟨ab, 2, none⟩ (.slice (some ⟨fb, 0, none⟩) free.length c')) lb (k * (z.length + 1)) (encP enc z q)) ∧
    ∀ j, Foot ab (.slice (some ⟨lb, 0, none⟩) n c) (.slice (some ⟨fb, 0, none⟩) free.length c') j → Foot ab (.slice (some ⟨lb, 0, none⟩) n c) (.slice (some ⟨fb, 0, none⟩) (free.length + 1) c') j ∨ w.heap.size ≤ j := by
  have n1 : ab ≠ lb := fun e => h.ne_l hT (by rw [e]; rfl)
  have n2 : ab ≠ fb := fun e => h.ne_f hT2 (by rw [e]; rfl)
  have n3 : lb ≠ fb := fun e => h.ne_lf (k := lb) hT3 rfl (by rw [e]; rfl)
  have hr := h.row
  obtain ⟨_, _, e, _⟩ := own_slice hr
  cases e
  have hf0 : w.ownsRow 0 ti 1 (.slice (some ⟨fb, 0, none⟩) (free.length + 1) c') (free.length + 1) ((free ++ [i]).map (.int .i64)) := by
    have := h.fre; simpa only [List.length_append, List.length_cons, List.length_nil, Nat.zero_add] using this
  have hf := own_take hf0 free.length (by omega)
  rw [Nat.mul_one, List.map_append, List.take_left' (by simp)] at hf
  refine ⟨⟨?_, ?_, ?_, h.encl, hi⟩, ?_, fun j hj => ?_⟩
  · rw [setL_heap _ _ _ _ _ n1]
    exact blk_set2 (w := w.drewN nq) h.blk
  · have hrow : (((w.drewN nq).setCell ⟨ab, 2, none⟩ (.slice (some ⟨fb, 0, none⟩) free.length c'))).ownsRow 0 tp (z.length + 1) (.slice (some ⟨lb, 0, none⟩) l.length c) l.length (l.flatMap (encP enc z)) :=
      own_keep h.row fun j e => by cases e; exact heap_set_ne (w := w.drewN nq) (Ne.symm n1)
    have := own_place (encP enc z) (encP_length h.encl) hrow hk q
    simpa using this
  · exact own_keep hf fun j e => by
      cases e
      rw [setL_heap _ _ _ _ _ (Ne.symm n3)]
      exact heap_set_ne (w := w.drewN nq) (Ne.symm n2)
  · exact setL_mod lb (.inl (.inr (.inl rfl))) _ _ _ (((Mod.refl _ w).drewN nq).setCell (.inl (.inl rfl)) _)
  · rcases hj with rfl | e | e
    · exact .inl (.inl rfl)
    · exact .inl (.inr (.inl e))
    · exact .inl (.inr (.inr e))
end
end Go.Proofs.Bo
namespace Go.Proofs.Bo
open Go Go.RowKit
theorem Mod.of_grown {w w' : World} {row : Option Nat} (hg : w.grownBy w' row) : Mod (fun k => row = some k) w w' := (Mod.refl _ w).grown hg fun _ h => .inl h
end Go.Proofs.Bo
namespace Go.Proofs.Bo
open Go Go.RowKit
theorem setL_heap_same {g : Nat} {t : TypeId} : ∀ (us : List Value) (w : World) (o : Nat) (cs : List Value), w.heap[g]? = some (.cells cs.toArray t (0, 0)) → (setL w g o us).heap[g]? = some (.cells (setSeg cs o us).toArray t (0, 0))
  | [], _, _, _, h => h
  | u :: us, w, o, cs, h => by
    rw [setL, setSeg]
    refine setL_heap_same us _ _ _ ?_
    rw [heap_setCell_same w g o _ t u h]
    simp
/-- A whole block, stored anew. -/
theorem setL_whole {w : World} {g : Nat} {t : TypeId} {cs us : List Value} (h : w.heap[g]? = some (.cells cs.toArray t (0, 0))) (hl : cs.length = us.length) : (setL w g 0 us).heap[g]? = some (.cells us.toArray t (0, 0)) := by
  have := setL_heap_same us w 0 cs h
  have h2 := setSeg_eq [] us [] cs hl
  simp at h2
  rwa [h2] at this
end Go.Proofs.Bo
namespace Go.Proofs.Bo
open Go Go.RowKit
/-- The end of a function whose one result is a struct in memory. -/
theorem ret_row {P : Program} {fn : Func} {R : Ending → World → Prop} {a : Act} {W : World} {p : Tmp} {ty t : TypeId} {d : TypeDesc} (g : Nat) (us : List Value) (h : fn.results = #[.cell p ty]) (hp : a.tmps.getD p undef = .pointer (some ⟨g, 0, none⟩))
    (hg : W.heap[g]? = some (.cells us.toArray t (0, 0))) (hu : P.underlying ty = some d) (hd : (match d with | .struct _ | .array _ _ => true | _ => false) = true) (hi : (P.info? ty).map (·.size) = some us.length)
    (hdf : a.defers = []) (hR : R (.returned (.agg us.toArray)) W) : bodyPost P fn R .ret a W :=
  bodyPost_ret (results_cell_row h a.tmps W g t us.toArray (0, 0) d hp hg hu hd (by simpa using hi)) hdf hR
end Go.Proofs.Bo
namespace Go.Proofs.Bo
open Go Go.RowKit
theorem set4 {w : World} {g : Nat} {t : TypeId} {a b c d a' b' c' d' : Value} (h : w.heap[g]? = some (.cells #[a, b, c, d] t (0, 0))) :
    ((((w.setCell ⟨g, 0, none⟩ a').setCell ⟨g, 1, none⟩ b').setCell ⟨g, 2, none⟩ c').setCell ⟨g, 3, none⟩ d').heap[g]? = some (.cells #[a', b', c', d'] t (0, 0)) :=
  setL_whole (cs := [a, b, c, d]) (us := [a', b', c', d']) h rfl
end Go.Proofs.Bo
set_option linter.unusedVariables false
namespace Go.Proofs.Bo
open Go Go.RowKit
section
variable {P : Program} {ops : Array Oper} {rest : List Oper} {o : Oper} {a : Act} {Q : Exit → Act → World → Prop}

theorem Mod.of_grown_new {w w' : World} {c : Obj} (h : (w.alloc c).grownBy w' (some w.heap.size)) : Mod (fun _ => False) w w' :=
  ⟨h.os, h.tape, h.output, Nat.le_trans (by simp) h.size, fun k hk _ => (h.block k (by simp; omega) (by intro e; cases e; omega)).trans (Below.heap_alloc _ _ _ hk)⟩

/-- 'append([]T{}, xs...)'. -/
theorem app_copy {W : World} (v : Value) (n : Nat) (xs : List Value) (s x : Operand) (t e : TypeId) (z : Value) (size bytes : Nat) (hgd : o.guard = none)
    (ho : o.op = .call { callee := .builtin .append, args := #[s, x], argTypes := #[t, t] })
    (ht : P.underlying t = some (.slice e)) (hinfo : (P.info? e).map (fun i => (i.zero, i.size, i.bytes)) = some (some z, size, bytes)) (hz : z.cells.size = size) (hz0 : 0 < size) (hb0 : 0 < bytes)
    (hs : a.eval s = .slice (some ⟨W.heap.size, 0, none⟩) 0 0) (hx : a.eval x = v)
    (HO : W.ownsRow 0 e size v n xs) (h1 : ∀ u ∈ xs, u.oneCell' = true) (hl : n * bytes ≤ 140737488355328)
    (h : ∀ v1 w1, w1.ownsRow 0 e size v1 n xs → Mod (fun _ => False) W w1 → (∀ k, v1.ownBlock = some k → W.heap.size ≤ k) → wpList P ops Q rest (a.put o.dst v1) w1) :
    wpList P ops Q (o :: rest) a (W.alloc (.cells #[] e)) := by
  obtain ⟨i0, hi, hzz⟩ := Option.map_eq_some_iff.1 hinfo
  simp only [Prod.mk.injEq] at hzz
  obtain ⟨hz0', hz1, hz2⟩ := hzz
  have hlen : n ≤ 140737488355328 := Nat.le_trans (Nat.le_mul_of_pos_right _ hb0) hl
  have HO0 : (W.alloc (.cells #[] e)).ownsRow 0 e size (.slice (some ⟨W.heap.size, 0, none⟩) 0 0) 0 [] :=
    ⟨by simp, .inr ⟨W.heap.size, 0, #[], rfl, Nat.zero_le _, heap_alloc_new W _, Nat.le_refl _, by simp [maxLen], by simp, by simp⟩⟩
  rcases HO.2 with ⟨hv, hn⟩ | ⟨g, cap, cur, hv, _, hg, h3, h4, h5, h6⟩
  · subst hv; subst hn
    have hxs : xs = [] := List.eq_nil_of_length_eq_zero (by simpa using HO.1)
    subst hxs
    refine wpList_append_own_none hgd s x t ho 0 e i0 size ht hi _ 0 [] hs HO0 hx ?_
    exact h _ _ HO0 ((Mod.refl _ _).alloc _) (fun k hk => by cases hk; exact Nat.le_refl _)
  · subst hv
    have HO2 := HO.alloc (.cells #[] e)
    refine wpList_append_own_at (W.alloc (.cells #[] e)) hgd s x t ho 0 e i0 z size bytes ht hi hz0' hz1 hz2 hz hz0 _ 0 [] hs HO0 ⟨g, 0, none⟩ n cap xs hx HO.1 (HO2.cells rfl) h1 (by simp only [maxLen]; omega) (by simpa using hl) (by simp) ?_
    intro v1 w1 hown hgr _ hat
    simp only [Nat.zero_add, List.nil_append] at hown
    refine h v1 w1 hown (Mod.of_grown_new hgr) ?_
    intro k hk
    rcases hat with e | e
    · rw [e] at hk; cases hk; exact Nat.le_refl _
    · rw [e] at hk; cases hk; simp
end

/-- The end of a function whose two results are structs in memory. -/
theorem ret_row2 {P : Program} {fn : Func} {R : Ending → World → Prop} {a : Act} {W : World} {p q : Tmp} {ty ty' t t' : TypeId} {d d' : TypeDesc} (g g' : Nat) (us us' : List Value) (h : fn.results = #[.cell p ty, .cell q ty'])
    (hp : a.tmps.getD p undef = .pointer (some ⟨g, 0, none⟩)) (hq : a.tmps.getD q undef = .pointer (some ⟨g', 0, none⟩))
    (hg : W.heap[g]? = some (.cells us.toArray t (0, 0))) (hg' : W.heap[g']? = some (.cells us'.toArray t' (0, 0)))
    (hu : P.underlying ty = some d) (hd : (match d with | .struct _ | .array _ _ => true | _ => false) = true) (hi : (P.info? ty).map (·.size) = some us.length)
    (hu' : P.underlying ty' = some d') (hd' : (match d' with | .struct _ | .array _ _ => true | _ => false) = true) (hi' : (P.info? ty').map (·.size) = some us'.length)
    (hdf : a.defers = []) (hR : R (.returned (.tuple #[.agg us.toArray, .agg us'.toArray])) W) : bodyPost P fn R .ret a W := by
  refine bodyPost_ret (v := .tuple #[.agg us.toArray, .agg us'.toArray]) ?_ hdf hR
  have hp' : a.tmps[p]?.getD undef = .pointer (some ⟨g, 0, none⟩) := by simpa using hp
  have hq' : a.tmps[q]?.getD undef = .pointer (some ⟨g', 0, none⟩) := by simpa using hq
  simp [results, h, hp', hq', asAddr, run_loadVar_row W g t ty us.toArray (0, 0) d hg hu hd (by simpa using hi), run_loadVar_row W g' t' ty' us'.toArray (0, 0) d' hg' hu' hd' (by simpa using hi')]
/-- The end of a function whose two results are structs in memory. -/
theorem ret_row2_drew {P : Program} {fn : Func} {R : Ending → World → Prop} {a : Act} {W : World} {p q : Tmp} {ty ty' t t' : TypeId} {d d' : TypeDesc} (g g' : Nat) (us us' : List Value) (h : fn.results = #[.cell p ty, .cell q ty'])
    (hp : a.tmps.getD p undef = .pointer (some ⟨g, 0, none⟩)) (hq : a.tmps.getD q undef = .pointer (some ⟨g', 0, none⟩))
    (hg : W.heap[g]? = some (.cells us.toArray t (0, 0))) (hg' : W.heap[g']? = some (.cells us'.toArray t' (0, 0)))
    (hu : P.underlying ty = some d) (hd : (match d with | .struct _ | .array _ _ => true | _ => false) = true) (hi : (P.info? ty).map (·.size) = some us.length)
    (hu' : P.underlying ty' = some d') (hd' : (match d' with | .struct _ | .array _ _ => true | _ => false) = true) (hi' : (P.info? ty').map (·.size) = some us'.length)
    (hdf : a.defers = []) (hR : R (.returned (.tuple #[.agg us.toArray, .agg us'.toArray])) W.drew) : bodyPost P fn R .ret a W.drew :=
  ret_row2 (W := W.drew) g g' us us' h hp hq hg hg' hu hd hi hu' hd' hi' hdf hR
/-- .. whose first result is a struct in memory. -/
theorem ret_row_tmp {P : Program} {fn : Func} {R : Ending → World → Prop} {a : Act} {W : World} {p q : Tmp} {ty t : TypeId} {d : TypeDesc} (g : Nat) (us : List Value) (h : fn.results = #[.cell p ty, .tmp q])
    (hp : a.tmps.getD p undef = .pointer (some ⟨g, 0, none⟩))
    (hg : W.heap[g]? = some (.cells us.toArray t (0, 0)))
    (hu : P.underlying ty = some d) (hd : (match d with | .struct _ | .array _ _ => true | _ => false) = true) (hi : (P.info? ty).map (·.size) = some us.length)
    (hdf : a.defers = []) (hR : R (.returned (.tuple #[.agg us.toArray, a.tmps.getD q undef])) W) : bodyPost P fn R .ret a W := by
  refine bodyPost_ret (v := .tuple #[.agg us.toArray, a.tmps.getD q undef]) ?_ hdf hR
  have hp' : a.tmps[p]?.getD undef = .pointer (some ⟨g, 0, none⟩) := by simpa using hp
  simp [results, h, hp', asAddr, run_loadVar_row W g t ty us.toArray (0, 0) d hg hu hd (by simpa using hi)]
end Go.Proofs.Bo
namespace Go.Proofs.Bo
open Go Go.RowKit
/-- 'append(v, x)' as one step of a region: x lies in a block that is known. -/
theorem step_app {P : Program} {w : World} {ops : Array Oper} {o : Oper} {a : Act} {K : Act → World → Prop} {Q : Exit → Act → World → Prop} {E : Prop} (news : List Value) (v : Value) (n : Nat) (xs : List Value) (s x : Operand) (t e : TypeId) (z : Value) (size bytes : Nat) (hgd : o.guard = none)
    (ho : o.op = .call { callee := .builtin .append, args := #[s, x], argTypes := #[t, t] })
    (ht : P.underlying t = some (.slice e)) (hinfo : (P.info? e).map (fun i => (i.zero, i.size, i.bytes)) = some (some z, size, bytes)) (hz : z.cells.size = size) (hz0 : 0 < size) (hb0 : 0 < bytes)
    (hs : a.eval s = v) (HO : w.ownsRow 0 e size v n xs) (B : Nat) (hB : w.heap[B]? = some (.cells news.toArray e (0, 0))) (hx : a.eval x = .slice (some ⟨B, 0, none⟩) 1 1)
    (hnl : news.length = size) (h1 : ∀ u ∈ news, u.oneCell' = true) (hl : (n + 1) * bytes ≤ 140737488355328)
    (h : ∀ v1 w1, w1.ownsRow 0 e size v1 (n + 1) (xs ++ news) → w.grownBy w1 v.ownBlock → (∀ k, v1.ownBlock = some k → v.ownBlock = some k ∨ w.heap.size ≤ k) → K (a.put o.dst v1) w1) :
    if Region.wanted o (yielded ops a.tmps) = true then Oper.wp P o a w K Q else E := by
  have hw : Region.wanted o (yielded ops a.tmps) = true := by simp [Region.wanted, hgd]
  rw [if_pos hw]
  obtain ⟨i0, hi, hzz⟩ := Option.map_eq_some_iff.1 hinfo
  simp only [Prod.mk.injEq] at hzz
  obtain ⟨hz0', hz1, hz2⟩ := hzz
  have hlen : n + 1 ≤ 140737488355328 := Nat.le_trans (Nat.le_mul_of_pos_right _ hb0) hl
  obtain ⟨v', w', hr, h2, h3, _, h5⟩ := run_append_own_at (P := P) w 0 t o.type e i0 z size bytes ht hi hz0' hz1 hz2 hz hz0 v n xs HO ⟨B, 0, none⟩ 1 1 news (by omega) (World.news_of_block (cs := news.toArray) (t := e) (fr := (0, 0)) hB) h1 (by simp only [maxLen]; omega) hl (by simp)
  unfold Oper.wp execOp
  simp only [ho, resolve, invoke, builtin, Sem.run_bind, Sem.run_pure, Result.andThen_ok, List.map_toArray, List.map_cons, List.map_nil, hs, hx, hr]
  refine h _ _ h2 h3 fun k hk => ?_
  rcases h5 with h5 | h5
  · exact .inl (h5 ▸ hk)
  · rw [h5] at hk; cases hk; exact .inr (Nat.le_refl _)
end Go.Proofs.Bo
namespace Go.Proofs.Bo
open Go Go.RowKit
theorem step_app_one {P : Program} {W : World} {ops : Array Oper} {o : Oper} {a : Act} {K : Act → World → Prop} {Q : Exit → Act → World → Prop} {E : Prop} (news : List Value) (v : Value) (n : Nat) (xs : List Value) (s x : Operand) (t e : TypeId) (z : Value) (size bytes : Nat) (hgd : o.guard = none)
    (ho : o.op = .call { callee := .builtin .append, args := #[s, x], argTypes := #[t, t] })
    (ht : P.underlying t = some (.slice e)) (hinfo : (P.info? e).map (fun i => (i.zero, i.size, i.bytes)) = some (some z, size, bytes)) (hz : z.cells.size = size) (hz0 : 0 < size) (hb0 : 0 < bytes)
    (hs : a.eval s = v) (hx : a.eval x = .slice (some ⟨W.heap.size, 0, none⟩) 1 1) (HO : W.ownsRow 0 e size v n xs)
    (hnl : news.length = size) (h1 : ∀ u ∈ news, u.oneCell' = true) (hl : (n + 1) * bytes ≤ 140737488355328)
    (h : ∀ v1 w1, w1.ownsRow 0 e size v1 (n + 1) (xs ++ news) → W.grownBy w1 v.ownBlock → (∀ k, v1.ownBlock = some k → v.ownBlock = some k ∨ W.heap.size ≤ k) → K (a.put o.dst v1) w1) :
    if Region.wanted o (yielded ops a.tmps) = true then Oper.wp P o a (W.alloc (.cells news.toArray e)) K Q else E := by
  refine step_app news v n xs s x t e z size bytes hgd ho ht hinfo hz hz0 hb0 hs (HO.alloc _) W.heap.size (heap_alloc_new W _) hx hnl h1 hl ?_
  intro v1 w1 hown hg hb
  have hg0 : W.grownBy (W.alloc (.cells news.toArray e)) v.ownBlock := World.grownBy_alloc W _ _
  exact h v1 w1 hown (hg0.trans hg) fun k hk => (hb k hk).imp id fun h => Nat.le_trans (by simp) h
end Go.Proofs.Bo
set_option linter.unusedVariables false
namespace Go.Proofs.Bo
open Go Go.RowKit
section
variable {P : Program} {ops : Array Oper} {md : Region.Mode} {C : World → Prop}

/-- Whatever order is picked of the first n operations, all of them quiet; then L. -/
def HeadQ (P : Program) (md : Region.Mode) (ops : Array Oper) (C : World → Prop) (n : Nat) (L : Array Bool → Act → Prop) : Nat → Array Bool → Act → Prop
  | 0, listed, a => L listed a
  | f + 1, listed, a => Region.ready md ops listed ≠ [] ∧ ∀ i, i ∈ Region.ready md ops listed → i < n ∧ qOp P ops C i (HeadQ P md ops C n L f (listed.setIfInBounds i true)) a

theorem any_of_headQ {n g : Nat} {L : Array Bool → Act → Prop} {Q : Exit → Act → World → Prop} (hL : ∀ listed a w, C w → L listed a → wpAny P md ops Q g listed a w) :
    ∀ (f : Nat) (listed : Array Bool) (a : Act) (w : World), C w → HeadQ P md ops C n L f listed a → wpAny P md ops Q (f + g) listed a w
  | 0, listed, a, w, hw, h => by rw [Nat.zero_add]; exact hL _ _ _ hw h
  | f + 1, listed, a, w, hw, h => by
    rw [Nat.add_right_comm]
    exact ⟨fun e => absurd e h.1, fun i hi => wpOp_of_qOp hw (fun _ _ hw' hk => any_of_headQ hL f _ _ _ hw' hk) (h.2 i hi).2⟩

theorem HeadQ.pick {n i : Nat} {oi : Oper} {v : Value} {L : Array Bool → Act → Prop} (hi : ops[i]? = some oi) (hsel : ∀ (j : Nat) (o : Oper) cs b, ops[j]? = some o → o.op ≠ .select cs b)
    (hs : Region.sinkB md ops n = true) (hc : Region.chainB md ops n = true) (hn : n < ops.size) (hin : i < n) (hL : ∀ listed a, L listed a → ∀ j ∈ Region.ready md ops listed, n ≤ j) :
    ∀ (f : Nat) (listed : Array Bool) (a : Act), HeadInv md ops n listed →
      (∀ j oj, ops[j]? = some oj → j ≠ i → listed.getD j true = false → (∀ e ∈ oj.after, Region.binds md e = true → e.on ≠ i) → oi.apart ops oj = true) →
      i ∈ Region.ready md ops listed → YieldsIn P ops C oi v a → HeadQ P md ops C n L f (listed.setIfInBounds i true) (a.put oi.dst v) → HeadQ P md ops C n L (f + 1) listed a := by
  intro f
  induction f with
  | zero =>
    intro listed a inv _ hr hy H
    refine ⟨List.ne_nil_of_mem hr, fun j hj => ?_⟩
    have hjn : j < n := Nat.lt_of_not_le fun h => tail_waits hs hc hn inv _ i rfl hin (mem_ready.1 hr).1 j h hj
    by_cases e : j = i
    · subst e; exact ⟨hjn, hy.qOp hi H⟩
    · exact absurd (hL _ _ H j (ready_mono hj e)) (by omega)
  | succ f ih =>
    intro listed a inv hfree hr hy H
    refine ⟨List.ne_nil_of_mem hr, fun j hj => ?_⟩
    have hun := (mem_ready.1 hr).1
    have hjn : j < n := Nat.lt_of_not_le fun h => tail_waits hs hc hn inv _ i rfl hin hun j h hj
    refine ⟨hjn, ?_⟩
    by_cases e : j = i
    · subst e; exact hy.qOp hi H
    · obtain ⟨hjun, oj, hoj, hall⟩ := mem_ready.1 hj
      have hno : ∀ x ∈ oj.after, Region.binds md x = true → x.on ≠ i := fun x hx hb he => by
        have := hall x hx hb
        rw [he, getD_both hun] at this
        cases this
      have hnext : ∀ k ok, ops[k]? = some ok → k ≠ i → (listed.setIfInBounds j true).getD k true = false → (∀ x ∈ ok.after, Region.binds md x = true → x.on ≠ i) → oi.apart ops ok = true := fun k ok hk hki hu hx =>
        hfree k ok hk hki (by
          by_cases ejk : j = k
          · subst ejk; exact hjun
          · rwa [getD_set_ne true ejk] at hu) hx
      have hq := qOp_put hoj (hfree j oj hoj e hjun hno) (fun cs b => hsel i oi cs b hi) (fun cs b => hsel j oj cs b hoj) hy (H.2 j (ready_mono hj e)).2
      refine qOp_mono (fun a' h3 => ih _ a' (inv.set hj hjn) hnext (ready_mono hr (Ne.symm e)) h3.1 ?_) hq
      rw [Array.setIfInBounds_comm _ _ e]
      exact h3.2

theorem HeadQ.lex {n g : Nat} {Lq : Act → Prop} (hsel : Region.noSelect ops = true) (hs : Region.sinkB md ops n = true) (hc : Region.chainB md ops n = true) (hn : n < ops.size) :
    ∀ (l : List Oper) (k : Nat) (listed : Array Bool) (a : Act), (∀ j, j < l.length → l[j]? = ops[k + j]?) → k + l.length = n → HeadInv md ops n listed →
      Region.lexHead md ops g l.length k listed = true → wpQuiet P ops C Lq l a → HeadQ P md ops C n (fun listed' a' => Region.seqB md ops g n listed' = true ∧ Lq a') l.length listed a
  | [], k, listed, a, _, hk, _, hB, h => by
    obtain rfl : k = n := by simpa using hk
    exact ⟨by simpa [Region.lexHead] using hB, h⟩
  | o :: l, k, listed, a, hl, hk, inv, hB, h => by
    simp only [List.length_cons] at hk hl
    have h0 : ops[k]? = some o := by simpa using (hl 0 (by omega)).symm
    simp only [List.length_cons, Region.lexHead, Bool.and_eq_true] at hB
    have hr : k ∈ Region.ready md ops listed := by simpa using hB.1.1
    obtain ⟨v, hy, hK⟩ := yieldsIn_of_qOp (K := wpQuiet P ops C Lq l) h0 (by unfold qOp; simp only [h0]; exact h)
    exact HeadQ.pick h0 (Region.noSelect_spec hsel) hs hc hn (by omega) (fun _ _ hL => seqB_ready hL.1) l.length listed a inv (Region.free_spec h0 hB.1.2) hr hy
      (HeadQ.lex hsel hs hc hn l (k + 1) _ _ (fun j hj => by have := hl (j + 1) (by omega); simpa [Nat.add_assoc, Nat.add_comm 1 j] using this) (by omega) (inv.set hr (by omega)) hB.2 hK)

/-- A region that draws its order: n operations that read and call quietly, then a tail in one order. -/
theorem wp_region_quiet_tail {id : Nat} {Q : Exit → Act → World → Prop} {a : Act} {w : World} {l : List Oper} (n : Nat) (hm : P.follows .mixedOrders = true) (hB : Region.lexTailB .any l.toArray n = true)
    (h : wpQuiet P l.toArray (fun w' => ∃ n, w' = w.drewN n) (fun a' => ∀ w', (∃ n, w' = w.drewN n) → wpList P l.toArray Q (l.drop n) a' w') (l.take n) a) : (Code.region id l.toArray true).wp P Q a w := by
  simp only [Region.lexTailB, Bool.and_eq_true, decide_eq_true_eq] at hB
  obtain ⟨⟨⟨⟨hsel, hn⟩, hs⟩, hc⟩, hlex⟩ := hB
  have hn' : n < l.length := by simpa using hn
  have htl : (l.take n).length = n := by simp; omega
  have inv0 : HeadInv .any l.toArray n (Array.replicate l.toArray.size false) :=
    ⟨by simp, fun j oj _ hl => (by rw [getD_replicate_false] at hl; cases hl), fun t _ ht => getD_in (by simpa using ht) (getD_replicate_false _ _)⟩
  have H := HeadQ.lex (md := .any) (g := l.toArray.size - n) hsel hs hc hn (l.take n) 0 _ a (fun j hj => by
    rw [htl] at hj
    simp [hj]) (by simpa using htl) inv0 (by rw [htl]; exact hlex) h
  refine wp_region_any hm ?_
  have := any_of_headQ (Q := Q) (g := l.toArray.size - n) (fun listed a' w' hw' hL => by
    have hd : (l.drop n).length = l.toArray.size - n := by simp
    rw [← hd]
    exact wpAny_of_seq (l.drop n) n listed a' w' (fun j => by simp) (by rw [hd]; exact hL.1) (hL.2 w' hw')) _ _ _ w.drew ⟨1, rfl⟩ H
  have e : (l.take n).length + (l.toArray.size - n) = l.toArray.size := by rw [htl]; simp; omega
  rw [e] at this
  exact this

/-- The worlds in which no elder block has changed. -/
def CM (w w' : World) : Prop := Mod (fun _ => False) w w'
/-- A region that draws its order, whose operations read, or call what only makes memory. -/
theorem cq_region {id : Nat} {Q : Exit → Act → World → Prop} {a : Act} {w : World} {l : List Oper} (hm : P.follows .mixedOrders = true) (hB : Region.lexB .any l.toArray = true)
    (h : wpQuiet P l.toArray (CM w) (fun a' => ∀ w', CM w w' → Q .normal a' w') l a) : (Code.region id l.toArray true).wp P Q a w :=
  wp_region_quiet (C := CM w) hm hB ((Mod.refl _ w).drew) (by simpa using h)
/-- .. of which the first n do so; then a tail in one order. -/
theorem cq_tail {id : Nat} {Q : Exit → Act → World → Prop} {a : Act} {w : World} {l : List Oper} (n : Nat) (hm : P.follows .mixedOrders = true) (hB : Region.lexTailB .any l.toArray n = true)
    (h : wpQuiet P l.toArray (CM w) (fun a' => ∀ w', CM w w' → wpList P l.toArray Q (l.drop n) a' w') (l.take n) a) : (Code.region id l.toArray true).wp P Q a w := by
  simp only [Region.lexTailB, Bool.and_eq_true, decide_eq_true_eq] at hB
  obtain ⟨⟨⟨⟨hsel, hn⟩, hs⟩, hc⟩, hlex⟩ := hB
  have hn' : n < l.length := by simpa using hn
  have htl : (l.take n).length = n := by simp; omega
  have inv0 : HeadInv .any l.toArray n (Array.replicate l.toArray.size false) :=
    ⟨by simp, fun j oj _ hl => (by rw [getD_replicate_false] at hl; cases hl), fun t _ ht => getD_in (by simpa using ht) (getD_replicate_false _ _)⟩
  have H := HeadQ.lex (md := .any) (g := l.toArray.size - n) hsel hs hc hn (l.take n) 0 _ a (fun j hj => by
    rw [htl] at hj
    simp [hj]) (by simpa using htl) inv0 (by rw [htl]; exact hlex) h
  refine wp_region_any hm ?_
  have := any_of_headQ (Q := Q) (g := l.toArray.size - n) (fun listed a' w' hw' hL => by
    have hd : (l.drop n).length = l.toArray.size - n := by simp
    rw [← hd]
    exact wpAny_of_seq (l.drop n) n listed a' w' (fun j => by simp) (by rw [hd]; exact hL.1) (hL.2 w' hw')) _ _ _ w.drew ((Mod.refl _ w).drew) H
  have e : (l.take n).length + (l.toArray.size - n) = l.toArray.size := by rw [htl]; simp; omega
  rw [e] at this
  exact this
end
end Go.Proofs.Bo
set_option linter.unusedVariables false
namespace Go.Proofs.Bo
open Go Go.RowKit
section
variable {P : Program} {ops : Array Oper} {md : Region.Mode} {C : World → Prop}

/-- Behind operation n each waits for one of the tail. -/
def wchainB (md : Region.Mode) (ops : Array Oper) (n : Nat) : Bool :=
  (List.range ops.size).all fun t => decide (t ≤ n) || (List.range t).any fun j => decide (n ≤ j) && Region.waitsFor md ops t j

theorem tail_waits2 {n : Nat} {listed : Array Bool} (hs : Region.sinkB md ops n = true) (hc : wchainB md ops n = true) (hn : n < ops.size) (inv : HeadInv md ops n listed) :
    ∀ (d i : Nat), n - i = d → i < n → listed.getD i true = false → ∀ t, n ≤ t → t ∉ Region.ready md ops listed := by
  intro d
  induction d using Nat.strongRecOn with
  | _ d ih =>
    intro i hd hi hun t ht hr
    obtain ⟨_, ot, hot, hall⟩ := mem_ready.1 hr
    have htlt : t < ops.size := (Array.getElem?_eq_some_iff.1 hot).1
    by_cases htn : t = n
    · subst htn
      have h1 := List.all_eq_true.1 hs i (List.mem_range.2 hi)
      obtain ⟨j, hj, hj2⟩ := List.any_eq_true.1 h1
      simp only [Bool.and_eq_true, decide_eq_true_eq] at hj2
      obtain ⟨oj, hoj, e, he, hb, hon⟩ := Region.waitsFor_spec hj2.2
      have hjle : j ≤ t := by have := List.mem_range.1 hj; omega
      by_cases hjt : j = t
      · subst hjt
        have : oj = ot := Option.some.inj (hoj.symm.trans hot)
        subst this
        have h2 := hall e he hb
        rw [hon, getD_both hun] at h2
        cases h2
      · cases hl : listed.getD j false with
        | true =>
          have h2 := inv.closed j oj hoj hl e he hb
          rw [hon, getD_both hun] at h2
          cases h2
        | false =>
          have hjs : j < listed.size := by rw [inv.size]; omega
          exact ih (t - j) (by omega) j rfl (by omega) (getD_in hjs hl) t (Nat.le_refl _) hr
    · have h1 := List.all_eq_true.1 hc t (List.mem_range.2 htlt)
      simp only [Bool.or_eq_true, decide_eq_true_eq] at h1
      rcases h1 with h1 | h1
      · omega
      · obtain ⟨j, hj, hj2⟩ := List.any_eq_true.1 h1
        simp only [Bool.and_eq_true, decide_eq_true_eq] at hj2
        have hjlt := List.mem_range.1 hj
        obtain ⟨o', ho', e, he, hb, hon⟩ := Region.waitsFor_spec hj2.2
        have : o' = ot := Option.some.inj (ho'.symm.trans hot)
        subst this
        have h2 := hall e he hb
        rw [hon, getD_both (inv.tail j hj2.1 (by omega))] at h2
        cases h2

theorem HeadQ.pick2 {n i : Nat} {oi : Oper} {v : Value} {L : Array Bool → Act → Prop} (hi : ops[i]? = some oi) (hsel : ∀ (j : Nat) (o : Oper) cs b, ops[j]? = some o → o.op ≠ .select cs b)
    (hs : Region.sinkB md ops n = true) (hc : wchainB md ops n = true) (hn : n < ops.size) (hin : i < n) (hL : ∀ listed a, L listed a → ∀ j ∈ Region.ready md ops listed, n ≤ j) :
    ∀ (f : Nat) (listed : Array Bool) (a : Act), HeadInv md ops n listed →
      (∀ j oj, ops[j]? = some oj → j ≠ i → listed.getD j true = false → (∀ e ∈ oj.after, Region.binds md e = true → e.on ≠ i) → oi.apart ops oj = true) →
      i ∈ Region.ready md ops listed → YieldsIn P ops C oi v a → HeadQ P md ops C n L f (listed.setIfInBounds i true) (a.put oi.dst v) → HeadQ P md ops C n L (f + 1) listed a := by
  intro f
  induction f with
  | zero =>
    intro listed a inv _ hr hy H
    refine ⟨List.ne_nil_of_mem hr, fun j hj => ?_⟩
    have hjn : j < n := Nat.lt_of_not_le fun h => tail_waits2 hs hc hn inv _ i rfl hin (mem_ready.1 hr).1 j h hj
    by_cases e : j = i
    · subst e; exact ⟨hjn, hy.qOp hi H⟩
    · exact absurd (hL _ _ H j (ready_mono hj e)) (by omega)
  | succ f ih =>
    intro listed a inv hfree hr hy H
    refine ⟨List.ne_nil_of_mem hr, fun j hj => ?_⟩
    have hun := (mem_ready.1 hr).1
    have hjn : j < n := Nat.lt_of_not_le fun h => tail_waits2 hs hc hn inv _ i rfl hin hun j h hj
    refine ⟨hjn, ?_⟩
    by_cases e : j = i
    · subst e; exact hy.qOp hi H
    · obtain ⟨hjun, oj, hoj, hall⟩ := mem_ready.1 hj
      have hno : ∀ x ∈ oj.after, Region.binds md x = true → x.on ≠ i := fun x hx hb he => by
        have := hall x hx hb
        rw [he, getD_both hun] at this
        cases this
      have hnext : ∀ k ok, ops[k]? = some ok → k ≠ i → (listed.setIfInBounds j true).getD k true = false → (∀ x ∈ ok.after, Region.binds md x = true → x.on ≠ i) → oi.apart ops ok = true := fun k ok hk hki hu hx =>
        hfree k ok hk hki (by
          by_cases ejk : j = k
          · subst ejk; exact hjun
          · rwa [getD_set_ne true ejk] at hu) hx
      have hq := qOp_put hoj (hfree j oj hoj e hjun hno) (fun cs b => hsel i oi cs b hi) (fun cs b => hsel j oj cs b hoj) hy (H.2 j (ready_mono hj e)).2
      refine qOp_mono (fun a' h3 => ih _ a' (inv.set hj hjn) hnext (ready_mono hr (Ne.symm e)) h3.1 ?_) hq
      rw [Array.setIfInBounds_comm _ _ e]
      exact h3.2

/-- n operations in any order, then a condition. -/
def lexHeadM (md : Region.Mode) (ops : Array Oper) (B : Array Bool → Bool) : Nat → Nat → Array Bool → Bool
  | 0, _, listed => B listed
  | f + 1, k, listed => (Region.ready md ops listed).contains k && Region.free md ops listed k && lexHeadM md ops B f (k + 1) (listed.setIfInBounds k true)

theorem HeadQ.lex2 {n : Nat} {Lq : Act → Prop} {B : Array Bool → Bool} (hB : ∀ listed, B listed = true → ∀ j ∈ Region.ready md ops listed, n ≤ j) (hsel : Region.noSelect ops = true) (hs : Region.sinkB md ops n = true) (hc : wchainB md ops n = true) (hn : n < ops.size) :
    ∀ (l : List Oper) (k : Nat) (listed : Array Bool) (a : Act), (∀ j, j < l.length → l[j]? = ops[k + j]?) → k + l.length = n → HeadInv md ops n listed →
      lexHeadM md ops B l.length k listed = true → wpQuiet P ops C Lq l a → HeadQ P md ops C n (fun listed' a' => B listed' = true ∧ Lq a') l.length listed a
  | [], k, listed, a, _, hk, _, hb, h => by
    obtain rfl : k = n := by simpa using hk
    exact ⟨by simpa [lexHeadM] using hb, h⟩
  | o :: l, k, listed, a, hl, hk, inv, hb, h => by
    simp only [List.length_cons] at hk hl
    have h0 : ops[k]? = some o := by simpa using (hl 0 (by omega)).symm
    simp only [List.length_cons, lexHeadM, Bool.and_eq_true] at hb
    have hr : k ∈ Region.ready md ops listed := by simpa using hb.1.1
    obtain ⟨v, hy, hK⟩ := yieldsIn_of_qOp (K := wpQuiet P ops C Lq l) h0 (by unfold qOp; simp only [h0]; exact h)
    exact HeadQ.pick2 h0 (Region.noSelect_spec hsel) hs hc hn (by omega) (fun listed' _ hL => hB listed' hL.1) l.length listed a inv (Region.free_spec h0 hb.1.2) hr hy
      (HeadQ.lex2 hB hsel hs hc hn l (k + 1) _ _ (fun j hj => by have := hl (j + 1) (by omega); simpa [Nat.add_assoc, Nat.add_comm 1 j] using this) (by omega) (inv.set hr (by omega)) hb.2 hK)

def midC (md : Region.Mode) (ops : Array Oper) (n : Nat) (listed : Array Bool) : Bool :=
  decide (Region.ready md ops listed = [n]) && Region.lexFrom md ops (ops.size - n - 1) (n + 1) (listed.setIfInBounds n true)
theorem midC_spec {md : Region.Mode} {ops : Array Oper} {n : Nat} {listed : Array Bool} (h : midC md ops n listed = true) : Region.ready md ops listed = [n] ∧ Region.lexFrom md ops (ops.size - n - 1) (n + 1) (listed.setIfInBounds n true) = true := by
  simpa [midC] using h
/-- n quiet ones, number n alone, then the others. -/
def midB (md : Region.Mode) (ops : Array Oper) (n : Nat) : Bool :=
  Region.noSelect ops && decide (n < ops.size) && Region.sinkB md ops n && wchainB md ops n &&
    lexHeadM md ops (midC md ops n) n 0 (Array.replicate ops.size false)

/-- A region that draws its order: n operations that read, or call what only makes memory; one operation; then such ones again. -/
theorem cq_mid {id : Nat} {Q : Exit → Act → World → Prop} {a : Act} {w : World} {l : List Oper} (n : Nat) (o : Oper) (hm : P.follows .mixedOrders = true) (hB : midB .any l.toArray n = true) (ho : l[n]? = some o) (hg : o.guard = none)
    (h : wpQuiet P l.toArray (CM w) (fun a' => ∀ w', CM w w' → ∀ K : Act → World → Prop, (∀ a1 w1, wpQuiet P l.toArray (CM w1) (fun a2 => ∀ w2, CM w1 w2 → Q .normal a2 w2) (l.drop (n + 1)) a1 → K a1 w1) → o.wp P a' w' K Q) (l.take n) a) :
    (Code.region id l.toArray true).wp P Q a w := by
  simp only [midB, Bool.and_eq_true, decide_eq_true_eq] at hB
  obtain ⟨⟨⟨⟨hsel, hn⟩, hs⟩, hc⟩, hlex⟩ := hB
  have hn' : n < l.length := by simpa using hn
  have htl : (l.take n).length = n := by simp; omega
  have inv0 : HeadInv .any l.toArray n (Array.replicate l.toArray.size false) :=
    ⟨by simp, fun j oj _ hl => (by rw [getD_replicate_false] at hl; cases hl), fun t _ ht => getD_in (by simpa using ht) (getD_replicate_false _ _)⟩
  have H := HeadQ.lex2 (P := P) (C := CM w) (md := .any) (n := n) (B := midC .any l.toArray n) (fun listed hb j hj => by
      rw [(midC_spec hb).1] at hj
      have : j = n := by simpa using hj
      omega) hsel hs hc hn (l.take n) 0 _ a (fun j hj => by
    rw [htl] at hj
    simp [hj]) (by simpa using htl) inv0 (by rw [htl]; exact hlex) h
  refine wp_region_any hm ?_
  have := any_of_headQ (Q := Q) (g := l.toArray.size - n) (fun listed a' w' hw' hL => by
    obtain ⟨hb, hq⟩ := hL
    replace hb := midC_spec hb
    have hd : l.toArray.size - n = (l.drop (n + 1)).length + 1 := by simp; omega
    rw [hd]
    refine wpAny_all hb.1 (by simp) ?_
    intro i hi
    simp at hi
    subst hi
    unfold wpOp
    simp only [List.getElem?_toArray, ho]
    rw [if_pos (by simp [Region.wanted, hg])]
    refine .inl (hq w' hw' _ fun a1 w1 hq1 => ?_)
    refine wpAny_of_quiet (C := CM w1) (Q := fun a' => ∀ w', CM w1 w' → Q .normal a' w') (fun _ w' hw' h => h w' hw') _ _ _ _ (Mod.refl _ _) ?_
    have hd2 : (l.drop (i + 1)).length = l.toArray.size - i - 1 := by simp; omega
    exact wpAnyQ_lex hsel (l.drop (i + 1)) (i + 1) _ _ (fun j => by simp) (by rw [hd2]; exact hb.2) hq1) _ _ _ w.drew ((Mod.refl _ w).drew) H
  have e : (l.take n).length + (l.toArray.size - n) = l.toArray.size := by rw [htl]; simp; omega
  rw [e] at this
  exact this
end
end Go.Proofs.Bo
set_option linter.unusedVariables false
namespace Go.Proofs.Bo
open Go Go.RowKit
/-- A slice that came in: its elements' cells, made by f. -/
def RdS {β : Type} (f : β → List Value) (m : Nat) (w : World) (a : Option Addr) (len : Nat) (zs : List β) : Prop :=
  zs.length = len ∧ (∀ b, (f b).length = m) ∧ (0 < len → ∃ b o, a = some ⟨b, o, none⟩ ∧ ∀ i z, zs[i]? = some z → ∀ j u, (f z)[j]? = some u → w.cell? ⟨b, o + i * m + j, none⟩ = some u)
theorem RdS.below {β : Type} {f : β → List Value} {m : Nat} {w w' : World} {a : Option Addr} {len : Nat} {zs : List β} (h : RdS f m w a len zs) (hm : 0 < m) (hb : Below w.heap.size w w') : RdS f m w' a len zs := by
  refine ⟨h.1, h.2.1, fun hl => ?_⟩
  obtain ⟨b, o, e, hc⟩ := h.2.2 hl
  refine ⟨b, o, e, fun i z hz j u hu => ?_⟩
  have := hc i z hz j u hu
  exact (hb.cell (p := ⟨b, o + i * m + j, none⟩) (World.block_lt_of_cell? w _ this)).trans this
end Go.Proofs.Bo
set_option linter.unusedVariables false
namespace Go.Proofs.Bo
open Go Go.RowKit Go.ChangeShapes Go.WideShapes Go.ChangeAt Go.Deep

/-- The kind of a cell of a type that is made of numbers and bools alone. -/
inductive Fl where
  | int (k : IntKind)
  | bool

def Fl.Is : Fl → Value → Prop
  | .int k, v => ∃ n, v = .int k n ∧ (Lit.int k n).wf = true
  | .bool, v => ∃ b, v = .bool b

/-- Cells of these kinds. -/
inductive Fit : List Fl → List Value → Prop
  | nil : Fit [] []
  | cons {k : Fl} {v : Value} {ks : List Fl} {vs : List Value} : k.Is v → Fit ks vs → Fit (k :: ks) (v :: vs)

theorem Fit.append {a b : List Fl} {x y : List Value} (h : Fit a x) (k : Fit b y) : Fit (a ++ b) (x ++ y) := by
  induction h with
  | nil => exact k
  | cons h1 _ ih => exact .cons h1 ih
theorem Fit.length {a : List Fl} {x : List Value} (h : Fit a x) : x.length = a.length := by
  induction h with
  | nil => rfl
  | cons _ _ ih => simp [ih]
theorem Fit.cons_inv {k : Fl} {ks : List Fl} {x : List Value} (h : Fit (k :: ks) x) : ∃ v vs, x = v :: vs ∧ k.Is v ∧ Fit ks vs := by
  cases h with | cons h1 h2 => exact ⟨_, _, rfl, h1, h2⟩
theorem Fit.nil_inv {x : List Value} (h : Fit [] x) : x = [] := by cases h; rfl

def flatFs (P : Program) (f : TypeId → Option (List Fl)) : List Field → Nat → Option (List Fl)
  | [], _ => some []
  | fd :: fs, o => if fd.offset = o then
      match f fd.type with
      | some ks => if P.cellsOf fd.type = ks.length then (flatFs P f fs (o + ks.length)).map (ks ++ ·) else none
      | none => none
    else none

/-- A type's cells, if it is made of numbers and bools alone. -/
def flat (P : Program) : Nat → TypeId → Option (List Fl)
  | 0, _ => none
  | n + 1, t => match P.underlying t with
    | some (.int k) => some [.int k]
    | some .bool => some [.bool]
    | some (.struct fs) => (flatFs P (flat P n) fs.toList 0).filter fun ks => P.cellsOf t == ks.length
    | some (.array m e) => match flat P n e with
      | some ks => if P.cellsOf e = ks.length ∧ P.cellsOf t = m * ks.length then some (List.replicate m ks).flatten else none
      | none => none
    | _ => none

section
variable {H : Type} {enc : TypeId × Value → H} {P : Program} {w : World} {base : Nat} {spare : Nat → Bool} {held : Bool}

theorem flatFs_fit {f : TypeId → Option (List Fl)} {cs : List Value} (hf : ∀ t ks cs, f t = some ks → (∃ m x, DataW.trod enc P w base spare held m t cs = some x) → Fit ks cs) :
    ∀ (fs : List Field) (o : Nat) (ks : List Fl), flatFs P f fs o = some ks → (∀ (i : Nat) fd, fs[i]? = some fd → ∃ m x, DataW.trod enc P w base spare held m fd.type ((cs.drop fd.offset).take (P.cellsOf fd.type)) = some x) → o + ks.length ≤ cs.length →
      Fit ks ((cs.drop o).take ks.length)
  | [], o, ks, h, _, _ => by simp [flatFs] at h; subst h; simp; exact .nil
  | fd :: fs, o, ks, h, ht, hl => by
    simp only [flatFs] at h
    split at h
    · rename_i ho
      split at h
      · rename_i k1 hk1
        split at h
        · rename_i hc
          obtain ⟨k2, hk2, rfl⟩ := Option.map_eq_some_iff.1 h
          have h0 := hf _ _ _ hk1 (ht 0 fd rfl)
          rw [hc, ho] at h0
          have h1 := flatFs_fit hf fs (o + k1.length) k2 hk2 (fun i fd' hi => ht (i + 1) fd' (by simpa using hi)) (by simp at hl; omega)
          have := h0.append h1
          rw [List.length_append, List.take_add, List.drop_drop]
          exact this
        · cases h
      · cases h
    · cases h

theorem flat_fit : ∀ (n : Nat) (t : TypeId) (ks : List Fl) (cs : List Value), flat P n t = some ks → (∃ m x, DataW.trod enc P w base spare held m t cs = some x) → Fit ks cs
  | 0, _, _, _, h, _ => by simp [flat] at h
  | n + 1, t, ks, cs, h, ⟨m, x, ht⟩ => by
    simp only [flat] at h
    split at h
    · rename_i k hu
      simp at h; subst h
      obtain ⟨v, rfl, _, hw⟩ := DataW.trod_int hu ht
      exact .cons ⟨v, rfl, hw⟩ .nil
    · rename_i hu
      simp at h; subst h
      obtain ⟨v, rfl, _⟩ := DataW.trod_bool hu ht
      exact .cons ⟨v, rfl⟩ .nil
    · rename_i fs hu
      obtain ⟨h1, h2⟩ := Option.filter_eq_some_iff.1 h
      simp at h2
      obtain ⟨xs, n', _, _, hlen, hxl, hg⟩ := DataW.trod_struct hu ht
      have := flatFs_fit (cs := cs) (fun t ks cs h1 h2 => flat_fit n t ks cs h1 h2) fs.toList 0 ks h1 (fun i fd hi => by
        have hi' : fs[i]? = some fd := by simpa using hi
        have hil : i < xs.length := by rw [hxl]; exact (Array.getElem?_eq_some_iff.1 hi').1
        exact ⟨n', xs[i], by rw [hg i fd hi']; simp [hil]⟩) (by omega)
      rw [List.drop_zero, List.take_of_length_le (by omega)] at this
      exact this
    · rename_i q e hu
      split at h
      · rename_i k1 hk1
        split at h
        · rename_i hc
          simp at h; subst h
          obtain ⟨xs, n', _, _, hlen, hxl, hg⟩ := DataW.trod_array hu ht
          have key : ∀ j, j ≤ q → Fit (List.replicate j k1).flatten (cs.take (j * k1.length)) := by
            intro j
            induction j with
            | zero => intro _; simp; exact .nil
            | succ j ih =>
              intro hj
              have h1 := flat_fit n e k1 _ hk1 ⟨n', xs[j]'(by omega), by rw [hg j (by omega)]; simp [show j < xs.length by omega]⟩
              have h2 := (ih (by omega)).append h1
              rw [hc.1] at h2
              rw [List.replicate_succ', List.flatten_concat, Nat.succ_mul, List.take_add]
              exact h2
          have := key q (Nat.le_refl _)
          rwa [List.take_of_length_le (by rw [hlen, hc.2]; exact Nat.le_refl _)] at this
        · cases h
      · cases h
    · cases h

/-- A parameter by value. -/
theorem open_flat {n : Nat} {t : TypeId} {ks : List Fl} {v : Value} {d : DataW H} {ps : List MemPlace} (hk : flat P n t = some ks) (h : DataW.Trod enc P w base spare held t v d ps) : Fit ks v.cells.toList := by
  obtain ⟨m, hm⟩ := h; exact flat_fit n t ks _ hk ⟨m, _, hm⟩

/-- A slice of such. -/
theorem open_flat_slice {β : Type} {n : Nat} {t e : TypeId} {ks : List Fl} {a : Option Addr} {len cap : Nat} {d : DataW H} {ps : List MemPlace} {f : β → List Value} {G : β → Prop} (hu : P.underlying t = some (.slice e)) (hk : flat P n e = some ks) (hc : P.cellsOf e = ks.length) (h0 : 0 < ks.length)
    (hf : ∀ cs, Fit ks cs → ∃ b, f b = cs ∧ G b) (hlen : ∀ b, (f b).length = ks.length) (h : DataW.Trod enc P w base spare held t (.slice a len cap) d ps)
    {ts : List TypeId} {ds : List (DataW H)} {j : Nat} (hsz : (DataW.weightsEach P ts ds).all (· ≤ reachBytes) = true) (ht : ts[j]? = some t) (hd : ds[j]? = some d) :
    ∃ zs : List β, RdS f ks.length w a len zs ∧ (∀ z ∈ zs, G z) ∧ len * P.bytesOf e ≤ 140737488351232 := by
  obtain ⟨fuel, hfu⟩ := h
  rcases open_slice hu hfu with ⟨hcs, _⟩ | ⟨a', l', c', m, n', D, Pl, hcs, _, hl, _, hm, hx, hi⟩
  · simp [Value.cells] at hcs
    obtain ⟨rfl, rfl, rfl⟩ := hcs
    exact ⟨[], ⟨rfl, hlen, fun h => absurd h (by omega)⟩, by simp, by simp⟩
  · simp [Value.cells] at hcs
    obtain ⟨rfl, rfl, rfl⟩ := hcs
    have hml : len ≤ m := by rw [hm]; split; exact hl; exact Nat.le_refl _
    have each : ∀ i, i < len → ∃ b : β, G b ∧ ∀ j, j < ks.length → w.cell? ((a'.add (i * ks.length)).add j) = (f b)[j]? := by
      intro i hil
      obtain ⟨cs', h1, h2⟩ := hi i (by omega)
      have hfit := flat_fit n e ks cs' hk ⟨_, _, h2⟩
      obtain ⟨b, hb, hG⟩ := hf _ hfit
      obtain ⟨_, _, h4⟩ := World.cells?_some h1
      rw [hc] at h4
      exact ⟨b, hG, fun j hj => by rw [h4 j hj, hb]⟩
    have hch : ∃ zs : List β, zs.length = len ∧ ∀ i b, zs[i]? = some b → G b ∧ ∀ j, j < ks.length → w.cell? ((a'.add (i * ks.length)).add j) = (f b)[j]? := by
      have key : ∀ q, q ≤ len → ∃ zs : List β, zs.length = q ∧ ∀ i b, zs[i]? = some b → G b ∧ ∀ j, j < ks.length → w.cell? ((a'.add (i * ks.length)).add j) = (f b)[j]? := by
        intro q
        induction q with
        | zero => exact fun _ => ⟨[], rfl, by simp⟩
        | succ q ih =>
          intro hq
          obtain ⟨zs, hz, hzs⟩ := ih (by omega)
          obtain ⟨b, hb⟩ := each q (by omega)
          refine ⟨zs ++ [b], by simp [hz], fun i b' hb' => ?_⟩
          rw [List.getElem?_append] at hb'
          split at hb'
          · exact hzs i b' hb'
          · rename_i hn
            have : i = q := by
              rcases Nat.lt_trichotomy i q with h | h | h
              · omega
              · exact h
              · rw [List.getElem?_eq_none (by simp; omega)] at hb'; cases hb'
            subst this
            rw [hz, Nat.sub_self] at hb'
            simp at hb'; subst hb'; exact hb
      exact key len (Nat.le_refl _)
    obtain ⟨zs, hz, hzs⟩ := hch
    refine ⟨zs, ⟨hz, hlen, fun h1 => ?_⟩, fun z hzm => ?_, ?_⟩
    · obtain ⟨b, o, s⟩ := a'
      have hz0 : zs[0]? = some (zs[0]'(by omega)) := by simp [show 0 < zs.length by omega]
      obtain ⟨_, h2⟩ := hzs 0 _ hz0
      have h3 := h2 0 h0
      have hs : s = none := by
        cases s with
        | none => rfl
        | some q =>
          exfalso
          have h4 : w.cell? ⟨b, o, some q⟩ = none := by
            simp only [World.cell?]
            split <;> simp
          rw [Nat.zero_mul, Addr.add, if_pos rfl, Addr.add, if_pos rfl, h4] at h3
          have := hlen (zs[0]'(by omega))
          rw [eq_comm, List.getElem?_eq_none_iff] at h3
          omega
      subst hs
      refine ⟨b, o, rfl, fun i z hz' j u hu' => ?_⟩
      obtain ⟨_, h5⟩ := hzs i z hz'
      have hj : j < ks.length := by have := (List.getElem?_eq_some_iff.1 hu').1; rw [hlen] at this; exact this
      have h6 := h5 j hj
      rw [Addr.add_lit, Addr.add_lit, hu'] at h6
      exact h6
    · obtain ⟨i, hi', rfl⟩ := List.getElem_of_mem hzm
      exact (hzs i _ (by simp [hi'])).1
    · have hx1 := (Prod.mk.inj hx).1
      subst hx1
      have z := sized_slice hsz ht hd hu
      simp at z
      have : len * P.bytesOf e ≤ (len + (m - len)) * P.bytesOf e := Nat.mul_le_mul_right _ (by omega)
      exact Nat.le_trans this z
end
end Go.Proofs.Bo
set_option linter.unusedVariables false
namespace Go.Proofs.Bo
open Go Go.RowKit
/-- A segment. -/
structure Sg where
  ls : Int
  la : Int
  hs : Int
  ha : Int
  v : Int
deriving DecidableEq, Inhabited
def encS (s : Sg) : List Value := [.int .i64 s.ls, .int .i64 s.la, .int .i64 s.hs, .int .i64 s.ha, .int .i64 s.v]
/-- A node of a red-black tree. -/
structure Nd where
  s : Sg
  k0 : Int
  k1 : Int
  p : Int
  red : Bool
deriving DecidableEq, Inhabited
def encNd (n : Nd) : List Value := [.int .i64 n.s.ls, .int .i64 n.s.la, .int .i64 n.s.hs, .int .i64 n.s.ha, .int .i64 n.s.v, .int .i64 n.k0, .int .i64 n.k1, .int .i64 n.p, .bool n.red]
def zNd : List Value := [.int .i64 0, .int .i64 0, .int .i64 0, .int .i64 0, .int .i64 0, .int .i64 0, .int .i64 0, .int .i64 0, .bool false]
end Go.Proofs.Bo
set_option linter.unusedVariables false
namespace Go.Proofs.Bo
/-- The node in a place, if there is one. -/
def nod (σ : List (Option Nd)) (i : Int) : Option Nd := if 0 ≤ i then (σ[i.toNat]?).join else none
/-- A place's node is another one now. -/
def pnod (σ : List (Option Nd)) (i : Int) (n : Nd) : List (Option Nd) := σ.set i.toNat (some n)
theorem nod_some {σ : List (Option Nd)} {i : Int} {n : Nd} (h : nod σ i = some n) : ∃ k : Nat, i = k ∧ σ[k]? = some (some n) := by
  unfold nod at h
  split at h
  · refine ⟨i.toNat, by omega, ?_⟩
    cases hl : σ[i.toNat]? with
    | none => rw [hl] at h; cases h
    | some p => rw [hl] at h; cases p with | none => cases h | some u => simp at h; rw [h]
  · cases h
theorem nod_of {σ : List (Option Nd)} {k : Nat} {n : Nd} (h : σ[k]? = some (some n)) : nod σ k = some n := by
  unfold nod; rw [if_pos (by omega)]; simp [h]
theorem nod_neg (σ : List (Option Nd)) : nod σ (-1) = none := rfl
theorem nod_none {σ : List (Option Nd)} {i : Int} (h : nod σ i = none) : ∀ (k : Nat) (v : Nd), i = k → σ[k]? ≠ some (some v) := by
  rintro k v rfl hk
  rw [nod_of hk] at h; cases h
theorem nod_pnod {σ : List (Option Nd)} {k : Int} {n n' : Nd} (h : nod σ k = some n) (i : Int) : nod (pnod σ k n') i = if i = k then some n' else nod σ i := by
  obtain ⟨k, rfl, hk⟩ := nod_some h
  have hl := (List.getElem?_eq_some_iff.1 hk).1
  unfold nod pnod
  rw [Int.toNat_natCast]
  by_cases h0 : 0 ≤ i
  · obtain ⟨j, rfl⟩ := Int.eq_ofNat_of_zero_le h0
    rw [if_pos h0, Int.toNat_natCast]
    by_cases e : j = k
    · subst e; rw [if_pos rfl, List.getElem?_set_self hl]; rfl
    · rw [if_neg (by omega), List.getElem?_set_ne (Ne.symm e), if_pos h0]; try simp
  · rw [if_neg h0, if_neg (by omega), if_neg h0]
theorem pnod_length (σ : List (Option Nd)) (k : Int) (n : Nd) : (pnod σ k n).length = σ.length := by simp [pnod]
/-- A child's place: 0 is the left one. -/
def Nd.kid (n : Nd) (d : Int) : Int := if d = 0 then n.k0 else n.k1
def Nd.setKid (n : Nd) (d : Int) (i : Int) : Nd := if d = 0 then { n with k0 := i } else { n with k1 := i }

/-- A place's node, if there is one, is turned. -/
def modN (σ : List (Option Nd)) (i : Int) (f : Nd → Nd) : List (Option Nd) := match nod σ i with
  | none => σ
  | some n => pnod σ i (f n)
theorem modN_neg (σ : List (Option Nd)) (f : Nd → Nd) : modN σ (-1) f = σ := rfl
theorem modN_some {σ : List (Option Nd)} {i : Int} {n : Nd} (h : nod σ i = some n) (f : Nd → Nd) : modN σ i f = pnod σ i (f n) := by unfold modN; rw [h]
theorem nod_modN (σ : List (Option Nd)) (k : Int) (f : Nd → Nd) (i : Int) : nod (modN σ k f) i = if i = k then (nod σ i).map f else nod σ i := by
  unfold modN
  cases h : nod σ k with
  | none => by_cases e : i = k
            · subst e; simp [h]
            · simp [e]
  | some n => simp only []
              rw [nod_pnod h]
              by_cases e : i = k
              · subst e; simp [h]
              · simp [e]
theorem modN_length (σ : List (Option Nd)) (k : Int) (f : Nd → Nd) : (modN σ k f).length = σ.length := by
  unfold modN; split
  · rfl
  · exact pnod_length _ _ _
/-- A place is none, or has a node. -/
def Is1 (σ : List (Option Nd)) (i : Int) : Prop := i = -1 ∨ ∃ n, nod σ i = some n
theorem Is1.modN {σ : List (Option Nd)} {i : Int} (h : Is1 σ i) (k : Int) (f : Nd → Nd) : Is1 (modN σ k f) i := by
  rcases h with h | ⟨n, h⟩
  · exact .inl h
  · refine .inr ?_
    rw [nod_modN]
    split
    · exact ⟨f n, by rw [h]; rfl⟩
    · exact ⟨n, h⟩
def hangK (old i : Int) (np : Nd) : Nd := np.setKid (if np.k0 = old then 0 else 1) i
def parN (p : Int) (n : Nd) : Nd := { n with p := p }
def redN (b : Bool) (n : Nd) : Nd := { n with red := b }
/-- The root then. -/
def hangR (root i parent : Int) : Int := if parent = -1 then i else root
def hangS (σ : List (Option Nd)) (i parent old : Int) : List (Option Nd) := modN (modN σ parent (hangK old i)) i (parN parent)
/-- The store after 'rotate'. -/
def rotS (σ : List (Option Nd)) (i up inner pp d : Int) : List (Option Nd) :=
  modN (modN (modN (modN (hangS σ up pp i) up (fun n => n.setKid d i)) i (parN up)) i (fun n => n.setKid (1 - d) inner)) inner (parN i)
end Go.Proofs.Bo
set_option linter.unusedVariables false
namespace Go.Proofs.Bo
open Go Go.RowKit Go.Shelf

/-- A function that ranges over functions, from its body in the plain walk. -/
theorem calls_of_wp_marks {P : Program} {f : FuncId} {fn : Func} {c : Code} {args : Array Value} {w : World} {R : Ending → World → Prop} (hf : P.funcs[f]? = some fn) (hb : fn.body = some c)
    (h : c.wp P (bodyPostM Fence.wide 0 P fn R) { tmps := args ++ Array.replicate (fn.ntmps - args.size) undef, defers := [] } w) : Calls P f args w R :=
  callsIn_wide.1 (callsIn_of_wp_marks hf hb trivial ((wpIn_wide (n := 0)).2 h))

theorem mod_putObj {S : Nat → Prop} {a w : World} (h : Mod S a w) {l : Nat} (hl : S l ∨ a.heap.size ≤ l) (o : Obj) : Mod S a (w.putObj l o) :=
  h.grown (grownBy_putObj' w l o) (fun k e => by cases e; exact hl)

theorem mod_put1 (W : World) (l : Nat) (o : Obj) : Mod (fun k => k = l) W (W.putObj l o) := mod_putObj (S := fun k => k = l) (Mod.refl _ _) (.inl rfl) o

/-- What stays as it is while blocks of T change, T none of the writer's own (G), and all laid since. -/
def Stab {α : Type} (B : Nat) (J : List α → (Nat → Prop) → World → Prop) : Prop :=
  ∀ s G W W' T, J s G W → Mod T W W' → (∀ k, T k → B ≤ k ∧ ¬ G k) → J s G W'

/-- An iterator over xs: whatever a round does, if it keeps to its own blocks. H: the blocks that the iterator reads. -/
def Iter {α : Type} (P : Program) (g : Nat) (lb : Array Value) (encs : α → Array Value) (xs : List α) (H : Nat → Prop) (w : World) : Prop :=
  ∀ (l : Nat) (J Jx : List α → (Nat → Prop) → World → Prop) (W : World), Mod (fun k => w.heap.size ≤ k) w W → Stab W.heap.size J → Stab W.heap.size Jx →
    (∀ pre x rest G W1, xs = pre ++ x :: rest → J pre G W1 → YieldAt Fence.wide 0 P l (encs x) W1 fun e W' => ∃ G', (∀ k, G' k → (G k ∨ W1.heap.size ≤ k) ∧ k < W'.heap.size) ∧ Mod G W1 W' ∧
      ((e = .returned (.bool true) ∧ J (pre ++ [x]) G' W') ∨ (e = .returned (.bool false) ∧ Jx (pre ++ [x]) G' W'))) →
    ∀ G, J [] G W → (∀ k, H k → ¬ G k) → (∀ k, G k → k < W.heap.size) →
    Calls P g (#[.func (.yield l) #[] #[]] ++ lb) W fun e W' => (∃ v, e = .returned v) ∧ ∃ G', J xs G' W' ∨ ∃ pre, pre <+: xs ∧ Jx pre G' W'

/-- How the body of a round may be left. -/
def roundEnd {α : Type} (I : List α → (Nat → Prop) → World → Prop) (Ix : Code → List α → (Nat → Prop) → World → Prop) (xs : List α) (G : Nat → Prop) (W : World) : Exit → Act → World → Prop
  | .normal, _, W' => ∃ G', (∀ k, G' k → (G k ∨ W.heap.size ≤ k) ∧ k < W'.heap.size) ∧ Mod G W W' ∧ I xs G' W'
  | .ret, _, W' => ∃ G', (∀ k, G' k → (G k ∨ W.heap.size ≤ k) ∧ k < W'.heap.size) ∧ Mod G W W' ∧ Ix .ret xs G' W'
  | .exit id, _, W' => ∃ G', (∀ k, G' k → (G k ∨ W.heap.size ≤ k) ∧ k < W'.heap.size) ∧ Mod G W W' ∧ Ix (.exit id) xs G' W'
  | .goto t, _, W' => ∃ G', (∀ k, G' k → (G k ∨ W.heap.size ≤ k) ∧ k < W'.heap.size) ∧ Mod G W W' ∧ Ix (.goto t) xs G' W'
  | .panic _, _, _ => False
  | .outgrown, _, _ => False

section
variable {P : Program} {α : Type}

theorem Stab.putObj {B : Nat} {J : List α → (Nat → Prop) → World → Prop} (h : Stab B J) {s : List α} {G : Nat → Prop} {W : World} (hJ : J s G W) {l : Nat} (hl : B ≤ l) (hG : ¬ G l) (o : Obj) : J s G (W.putObj l o) :=
  h s G W _ (fun k => k = l) hJ (mod_put1 _ _ _) (fun k hk => by subst hk; exact ⟨hl, hG⟩)

/-- **'for .. := range g { .. }'** -/
theorem wp_range {g : Operand} {ps : Array Tmp} {assign body : Code} {Q : Exit → Act → World → Prop} {a : Act} {w : World}
    {gf : Nat} {lb : Array Value} (hg : a.eval g = .func (.func gf) #[] lb) (eg : ∀ args w, (callFunc gf args).run P w = .ok (.enter gf args) w)
    {encs : α → Array Value} {xs : List α} {H : Nat → Prop} {w0 : World} (hit : Iter P gf lb encs xs H w0) (hw0 : Mod (fun k => w0.heap.size ≤ k) w0 w) (hps : ∀ x, (encs x).size = ps.size)
    (G0 : Nat → Prop) (hG0 : ∀ k, G0 k → k < w.heap.size) (hH : ∀ k, H k → ¬ G0 k) (hHl : ∀ k, H k → k < w.heap.size)
    (I : List α → (Nat → Prop) → World → Prop) (Ix : Code → List α → (Nat → Prop) → World → Prop) (hI : Stab w.heap.size I) (hIx : ∀ c, Stab w.heap.size (Ix c)) (h0 : I [] G0 w)
    (Ax : List α → α → Act → (Nat → Prop) → World → Prop) (hAx : ∀ x a1, Stab w.heap.size (fun pre G W => Ax pre x a1 G W))
    (hassign : ∀ (l : Nat) (pre : List α) (x : α) (rest : List α) (G : Nat → Prop) (W : World) (K : Act → World → Prop), xs = pre ++ x :: rest → I pre G W →
      (∀ a1 G1 W1, Ax pre x a1 G1 W1 → (∀ k, G1 k → G k ∨ W.heap.size ≤ k) → Mod G W W1 → K a1 W1) →
      assign.wpIn (Fence.wide.inRound l) 0 P (Exit.then K (fun _ _ _ => False)) { tmps := (ps.zip (encs x)).foldl (fun t (p, v) => t.setIfInBounds p v) a.tmps, defers := [] } W)
    (hbody : ∀ (l : Nat) (pre : List α) (x : α) (rest : List α) (a1 : Act) (G : Nat → Prop) (W : World), xs = pre ++ x :: rest → Ax pre x a1 G W → (∀ k, G k → k ≠ w.heap.size ∧ k ≠ w.heap.size + 1) →
      body.wpIn (Fence.wide.inRound l) 0 P (roundEnd I Ix (pre ++ [x]) G W) a1 W)
    (hdone : ∀ (G : Nat → Prop) (W : World), I xs G W → (∀ k, G k → k ≠ w.heap.size ∧ k ≠ w.heap.size + 1) → W.heap[w.heap.size]? = some (.deferred (some [])) → Q .normal { a with defers := { target := .collected w.heap.size, args := #[] } :: a.defers } W)
    (hstop : ∀ (c : Code) (pre : List α) (G : Nat → Prop) (W : World), pre <+: xs → Ix c pre G W → (∀ k, G k → k ≠ w.heap.size ∧ k ≠ w.heap.size + 1) → W.heap[w.heap.size]? = some (.deferred (some [])) → c.wp P Q { a with defers := { target := .collected w.heap.size, args := #[] } :: a.defers } W) :
    (Code.rangeFunc g ps assign body).wp P Q a w := by
  refine (wpIn_wide (n := 0)).1 (wpIn_rangeFunc ?_)
  intro fn hfn
  obtain ⟨rec, hrec⟩ : ∃ rec : LoopState → Option Code → Loop, rec = fun st pe => { state := st, pending := pe, fn, tmps := a.tmps, params := ps, assign, body, defers := w.heap.size } := ⟨_, rfl⟩
  obtain ⟨W1, hW1⟩ : ∃ W1, (w.alloc (.deferred (some []))).alloc (.loop (rec .ready none)) = W1 := ⟨_, rfl⟩
  have hL1 : W1.heap[w.heap.size + 1]? = some (.loop (rec .ready none)) := by rw [← hW1]; exact alloc2_1 _ _ _
  have hK1 : W1.heap[w.heap.size]? = some (.deferred (some [])) := by rw [← hW1]; exact alloc2_0 _ _ _
  have hM1 : Mod (fun _ => False) w W1 := by rw [← hW1]; exact ((Mod.refl _ w).alloc _).alloc _
  have hs1 : W1.heap.size = w.heap.size + 2 := by rw [← hW1]; simp
  have hI1 : I [] G0 W1 := hI _ _ _ _ _ h0 hM1 fun _ h => h.elim
  refine ⟨w.heap.size + 1, [{ target := .collected w.heap.size, args := #[] }], W1, { target := .fn (.func gf) lb, args := #[.func (.yield (w.heap.size + 1)) #[] #[]] }, W1, gf,
    #[.func (.yield (w.heap.size + 1)) #[] #[]] ++ lb, W1, ?_, ?_, ?_, ?_, fun h => (by cases h), ?_⟩
  · rw [← hW1, hrec]; exact run_enterLoop_outer _ _ _ _ _
  · simp only [resolve, hg]
    simp [go_sem]
  · intro f' hf'; trivial
  · simp [invoke, go_sem, eg]
  · refine callsIn_wide.2 ?_
    refine (hit (w.heap.size + 1)
      (fun pre Gi W => ∃ G, (∀ k, Gi k ↔ (G k ∨ k = w.heap.size + 1)) ∧ (∀ k, G k → k ≠ w.heap.size ∧ k ≠ w.heap.size + 1) ∧ I pre G W ∧ W.heap[w.heap.size + 1]? = some (.loop (rec .ready none)) ∧ W.heap[w.heap.size]? = some (.deferred (some [])))
      (fun pre Gi W => ∃ G c, (∀ k, Gi k ↔ (G k ∨ k = w.heap.size + 1)) ∧ (∀ k, G k → k ≠ w.heap.size ∧ k ≠ w.heap.size + 1) ∧ Ix c pre G W ∧ W.heap[w.heap.size + 1]? = some (.loop (rec .done (some c))) ∧ W.heap[w.heap.size]? = some (.deferred (some [])))
      W1 (hw0.trans (hM1.mono (T := fun k => w0.heap.size ≤ k) fun k h => h.elim) fun k h => .inl h) ?_ ?_ ?_ (fun k => G0 k ∨ k = w.heap.size + 1) ⟨G0, fun k => Iff.rfl, fun k h => ?_, hI1, hL1, hK1⟩ (fun k hk h => ?_) (fun k h => ?_)).mono ?_
    · rintro s Gi W W' T ⟨G, g1, g2, hi, hl, hk⟩ hm hT
      exact ⟨G, g1, g2, hI _ _ _ _ _ hi hm fun k h => ⟨by have := (hT k h).1; omega, fun h1 => (hT k h).2 ((g1 k).2 (.inl h1))⟩, hm.heap hl fun h => (by have := (hT _ h).1; omega), hm.heap hk fun h => (by have := (hT _ h).1; omega)⟩
    · rintro s Gi W W' T ⟨G, c, g1, g2, hi, hl, hk⟩ hm hT
      exact ⟨G, c, g1, g2, hIx c _ _ _ _ _ hi hm fun k h => ⟨by have := (hT k h).1; omega, fun h1 => (hT k h).2 ((g1 k).2 (.inl h1))⟩, hm.heap hl fun h => (by have := (hT _ h).1; omega), hm.heap hk fun h => (by have := (hT _ h).1; omega)⟩
    · -- ONE ROUND
      rintro pre x rest Gi W hx ⟨G, g1, g2, hi, hl, hk⟩
      have hlt : w.heap.size + 1 < W.heap.size := blkl hl
      have hy := run_yield (P := P) (args := encs x) hl (by rw [hrec]; exact hps x)
      rw [hrec] at hy
      refine ⟨fn, _, assign, body, hy, roundIn_of_wpIn trivial (hassign _ pre x rest G W _ hx hi ?_)⟩
      intro a1 G1 W2 hax hG1 hM2
      have hl2 : W2.heap[w.heap.size + 1]? = some (.loop (rec .ready none)) := hM2.heap hl fun h => (g2 _ h).2 rfl
      have hk2 : W2.heap[w.heap.size]? = some (.deferred (some [])) := hM2.heap hk fun h => (g2 _ h).1 rfl
      have hg1 : ∀ k, G1 k → k ≠ w.heap.size ∧ k ≠ w.heap.size + 1 := fun k h => by
        rcases hG1 k h with h | h
        · exact g2 k h
        · omega
      refine ⟨_, run_beginRound hl2 (by rw [hrec]), ?_⟩
      obtain ⟨W3, hW3⟩ : ∃ W3, W2.putObj (w.heap.size + 1) (.loop { rec .ready none with state := .busy }) = W3 := ⟨_, rfl⟩
      have hM3 : Mod (fun k => k = w.heap.size + 1) W2 W3 := by rw [← hW3]; exact mod_put1 _ _ _
      have hl3 : W3.heap[w.heap.size + 1]? = some (.loop { rec .ready none with state := .busy }) := by rw [← hW3]; exact World.putObj_heap_same (blkl hl2)
      have hk3 : W3.heap[w.heap.size]? = some (.deferred (some [])) := hM3.heap hk2 fun h => by omega
      have hax3 : Ax pre x a1 G1 W3 := hAx x a1 _ _ _ _ _ hax hM3 fun k h => by subst h; exact ⟨by omega, fun h => (hg1 _ h).2 rfl⟩
      rw [hW3]
      refine wpIn_mono (hbody _ pre x rest a1 G1 W3 hx hax3 hg1) ?_
      have fin : ∀ (jump : Option Code) (G' : Nat → Prop) (W4 : World), (∀ k, G' k → (G1 k ∨ W3.heap.size ≤ k) ∧ k < W4.heap.size) → Mod G1 W3 W4 →
          ∃ W5, (Instr.endRound (w.heap.size + 1) jump).run P W4 = .ok (.bool jump.isNone) W5 ∧ W5.heap[w.heap.size + 1]? = some (.loop (rec (if jump.isNone then .ready else .done) jump)) ∧ W5.heap[w.heap.size]? = some (.deferred (some [])) ∧
            Mod (fun k => k = w.heap.size + 1) W4 W5 ∧ (∀ k, (G' k ∨ k = w.heap.size + 1) → (Gi k ∨ W.heap.size ≤ k) ∧ k < W5.heap.size) ∧ Mod Gi W W5 ∧ (∀ k, G' k → k ≠ w.heap.size ∧ k ≠ w.heap.size + 1) := by
        intro jump G' W4 hG' hM4
        have hl4 := hM4.heap hl3 fun h => (hg1 _ h).2 rfl
        have hk4 := hM4.heap hk3 fun h => (hg1 _ h).1 rfl
        have h5 := run_endRound (P := P) jump hl4
        rw [hrec] at h5
        have hM5 : Mod (fun k => k = w.heap.size + 1) W4 (W4.putObj (w.heap.size + 1) (.loop (rec (if jump.isNone then .ready else .done) jump))) := mod_put1 _ _ _
        have z3 : W3.heap.size = W2.heap.size := by rw [← hW3]; simp
        have z2 := hM2.size
        refine ⟨_, by rw [h5, hrec], World.putObj_heap_same (blkl hl4), hM5.heap hk4 fun h => by omega, hM5, fun k h => ?_, ?_, fun k h => ?_⟩
        · rcases h with h | rfl
          · refine ⟨?_, Nat.lt_of_lt_of_le (hG' k h).2 hM5.size⟩
            rcases (hG' k h).1 with h | h
            · rcases hG1 k h with h | h
              · exact .inl ((g1 k).2 (.inl h))
              · exact .inr h
            · exact .inr (by omega)
          · exact ⟨.inl ((g1 _).2 (.inr rfl)), Nat.lt_of_lt_of_le (blkl hl4) hM5.size⟩
        · refine (((hM2.mono (T := Gi) fun k h => .inl ((g1 k).2 (.inl h))).trans hM3 fun k h => .inl ((g1 k).2 (.inr h))).trans hM4 fun k h => ?_).trans hM5 fun k h => .inl ((g1 k).2 (.inr h))
          rcases hG1 k h with h | h
          · exact .inl ((g1 k).2 (.inl h))
          · exact .inr h
        · rcases (hG' k h).1 with h | h
          · exact hg1 k h
          · omega
      rintro e a3 W4 hp
      cases e with
      | normal =>
        obtain ⟨G', hG', hM4, hi4⟩ := hp
        obtain ⟨W5, e5, l5, k5, m5, s5, t5, u5⟩ := fin none G' W4 hG' hM4
        exact ⟨_, W5, e5, fun k => G' k ∨ k = w.heap.size + 1, s5, t5, .inl ⟨rfl, G', fun k => Iff.rfl, u5, hI _ _ _ _ _ hi4 m5 fun k h => by subst h; exact ⟨by omega, fun h => (u5 _ h).2 rfl⟩, l5, k5⟩⟩
      | ret =>
        obtain ⟨G', hG', hM4, hi4⟩ := hp
        obtain ⟨W5, e5, l5, k5, m5, s5, t5, u5⟩ := fin (some .ret) G' W4 hG' hM4
        exact ⟨_, W5, e5, fun k => G' k ∨ k = w.heap.size + 1, s5, t5, .inr ⟨rfl, G', .ret, fun k => Iff.rfl, u5, hIx _ _ _ _ _ _ hi4 m5 fun k h => by subst h; exact ⟨by omega, fun h => (u5 _ h).2 rfl⟩, l5, k5⟩⟩
      | exit id =>
        obtain ⟨G', hG', hM4, hi4⟩ := hp
        obtain ⟨W5, e5, l5, k5, m5, s5, t5, u5⟩ := fin (some (.exit id)) G' W4 hG' hM4
        exact ⟨_, W5, e5, fun k => G' k ∨ k = w.heap.size + 1, s5, t5, .inr ⟨rfl, G', .exit id, fun k => Iff.rfl, u5, hIx _ _ _ _ _ _ hi4 m5 fun k h => by subst h; exact ⟨by omega, fun h => (u5 _ h).2 rfl⟩, l5, k5⟩⟩
      | goto t =>
        obtain ⟨G', hG', hM4, hi4⟩ := hp
        obtain ⟨W5, e5, l5, k5, m5, s5, t5, u5⟩ := fin (some (.goto t)) G' W4 hG' hM4
        exact ⟨_, W5, e5, fun k => G' k ∨ k = w.heap.size + 1, s5, t5, .inr ⟨rfl, G', .goto t, fun k => Iff.rfl, u5, hIx _ _ _ _ _ _ hi4 m5 fun k h => by subst h; exact ⟨by omega, fun h => (u5 _ h).2 rfl⟩, l5, k5⟩⟩
      | panic ch => exact hp.elim
      | outgrown => exact hp.elim
    · have := hG0 k h; omega
    · rcases h with h | rfl
      · exact hH k hk h
      · have := hHl _ hk; omega
    · rcases h with h | rfl
      · have := hG0 k h; omega
      · omega
    · -- BEHIND THE ITERATOR
      rintro e W2 ⟨⟨v, rfl⟩, Gi, (⟨G, g1, g2, hi, hl, hk⟩ | ⟨pre, hpre, G, c, g1, g2, hi, hl, hk⟩)⟩
      · refine ⟨none, _, by have := run_endLoop (P := P) hl (by rw [hrec]; simp); rw [hrec] at this; exact this, hdone G _ (hI.putObj hi (by omega) (fun h => (g2 _ h).2 rfl) _) g2 ((World.putObj_heap_other (by omega)).trans hk)⟩
      · refine ⟨some c, _, by have := run_endLoop (P := P) hl (by rw [hrec]; simp); rw [hrec] at this; exact this, (wpIn_wide (n := 0)).2 (hstop c pre G _ hpre ((hIx c).putObj hi (by omega) (fun h => (g2 _ h).2 rfl) _) g2 ((World.putObj_heap_other (by omega)).trans hk))⟩
end

/-- The same, where the loop's variables are set and no memory is made for them. -/
theorem wp_range' {P : Program} {α : Type} {g : Operand} {ps : Array Tmp} {assign body : Code} {Q : Exit → Act → World → Prop} {a : Act} {w : World}
    {gf : Nat} {lb : Array Value} (hg : a.eval g = .func (.func gf) #[] lb) (eg : ∀ args w, (callFunc gf args).run P w = .ok (.enter gf args) w)
    {encs : α → Array Value} {xs : List α} {H : Nat → Prop} {w0 : World} (hit : Iter P gf lb encs xs H w0) (hw0 : Mod (fun k => w0.heap.size ≤ k) w0 w) (hps : ∀ x, (encs x).size = ps.size)
    (G0 : Nat → Prop) (hG0 : ∀ k, G0 k → k < w.heap.size) (hH : ∀ k, H k → ¬ G0 k) (hHl : ∀ k, H k → k < w.heap.size)
    (I : List α → (Nat → Prop) → World → Prop) (Ix : Code → List α → (Nat → Prop) → World → Prop) (hI : Stab w.heap.size I) (hIx : ∀ c, Stab w.heap.size (Ix c)) (h0 : I [] G0 w)
    (hab : ∃ F : α → Act,
      (∀ (l : Nat) (x : α) (W : World) (K : Act → World → Prop), K (F x) W → assign.wpIn (Fence.wide.inRound l) 0 P (Exit.then K (fun _ _ _ => False)) { tmps := (ps.zip (encs x)).foldl (fun t (p, v) => t.setIfInBounds p v) a.tmps, defers := [] } W) ∧
      (∀ (l : Nat) (pre : List α) (x : α) (rest : List α) (G : Nat → Prop) (W : World), xs = pre ++ x :: rest → I pre G W → (∀ k, G k → k ≠ w.heap.size ∧ k ≠ w.heap.size + 1) →
        body.wpIn (Fence.wide.inRound l) 0 P (roundEnd I Ix (pre ++ [x]) G W) (F x) W))
    (hdone : ∀ (G : Nat → Prop) (W : World), I xs G W → (∀ k, G k → k ≠ w.heap.size ∧ k ≠ w.heap.size + 1) → W.heap[w.heap.size]? = some (.deferred (some [])) → Q .normal { a with defers := { target := .collected w.heap.size, args := #[] } :: a.defers } W)
    (hstop : ∀ (c : Code) (pre : List α) (G : Nat → Prop) (W : World), pre <+: xs → Ix c pre G W → (∀ k, G k → k ≠ w.heap.size ∧ k ≠ w.heap.size + 1) → W.heap[w.heap.size]? = some (.deferred (some [])) → c.wp P Q { a with defers := { target := .collected w.heap.size, args := #[] } :: a.defers } W) :
    (Code.rangeFunc g ps assign body).wp P Q a w := by
  obtain ⟨F, h1, h2⟩ := hab
  refine wp_range hg eg hit hw0 hps G0 hG0 hH hHl I Ix hI hIx h0 (fun pre x a1 G W => a1 = F x ∧ I pre G W) (fun x a1 s G W W' T h m t => ⟨h.1, hI _ _ _ _ _ h.2 m t⟩) ?_ ?_ hdone hstop
  · intro l pre x rest G W K hx hi hK
    exact h1 l x W K (hK _ _ _ ⟨rfl, hi⟩ (fun k h => .inl h) (Mod.refl _ _))
  · rintro l pre x rest a1 G W hx ⟨rfl, hi⟩ hg
    exact h2 l pre x rest G W hx hi hg

/-- The end of such a function: its marks are taken. -/
theorem retM0 {P : Program} {fn : Func} {R : Ending → World → Prop} {a : Act} {W : World} {v : Value} (hr : (results fn a.tmps).run P W = .ok v W) (hd : a.defers = []) (hR : R (.returned v) W) : bodyPostM Fence.wide 0 P fn R .ret a W := by
  show LeavesInM Fence.wide 0 P fn a.tmps R a.defers .returning W
  rw [hd]; exact ⟨v, hr, hR⟩
theorem retM1 {P : Program} {fn : Func} {R : Ending → World → Prop} {a : Act} {W : World} {v : Value} {D : Nat} (hk : W.heap[D]? = some (.deferred (some []))) (hd : a.defers = [{ target := .collected D, args := #[] }])
    (hr : (results fn a.tmps).run P (W.putObj D (.deferred none)) = .ok v (W.putObj D (.deferred none))) (hR : R (.returned v) (W.putObj D (.deferred none))) : bodyPostM Fence.wide 0 P fn R .ret a W := by
  show LeavesInM Fence.wide 0 P fn a.tmps R a.defers .returning W
  rw [hd]
  exact ⟨by simp, .inl ⟨D, _, rfl, run_takeDeferred hk, v, hr, hR⟩⟩
theorem retM2 {P : Program} {fn : Func} {R : Ending → World → Prop} {a : Act} {W : World} {v : Value} {D E : Nat} (hne : E ≠ D) (hk : W.heap[D]? = some (.deferred (some []))) (hk2 : W.heap[E]? = some (.deferred (some [])))
    (hd : a.defers = [{ target := .collected D, args := #[] }, { target := .collected E, args := #[] }])
    (hr : (results fn a.tmps).run P ((W.putObj D (.deferred none)).putObj E (.deferred none)) = .ok v ((W.putObj D (.deferred none)).putObj E (.deferred none))) (hR : R (.returned v) ((W.putObj D (.deferred none)).putObj E (.deferred none))) :
    bodyPostM Fence.wide 0 P fn R .ret a W := by
  show LeavesInM Fence.wide 0 P fn a.tmps R a.defers .returning W
  rw [hd]
  exact ⟨by simp, .inl ⟨D, _, rfl, run_takeDeferred hk, by simp, .inl ⟨E, _, rfl, run_takeDeferred ((World.putObj_heap_other hne).trans hk2), v, hr, hR⟩⟩⟩
end Go.Proofs.Bo
namespace Go.Proofs.Bo
open Go Go.RowKit
theorem below_put {B D : Nat} {w W : World} (h : Below B w W) (hD : B ≤ D) (o : Obj) : Below B w (W.putObj D o) :=
  ⟨h.os, h.tape, h.output, by rw [World.putObj_size]; exact h.size, fun k hk => (World.putObj_heap_other (by omega)).trans (h.block k hk)⟩
end Go.Proofs.Bo
set_option linter.unusedVariables false
namespace Go.Proofs.Bo
open Go Go.RowKit Go.Shelf

/-- Between two rounds: blocks of S alone are the loop's own; of them R; all else is as it was when the loop began. -/
def RngI {α : Type} (W1 : World) (S : Nat → Prop) (R : List α → World → Prop) : List α → (Nat → Prop) → World → Prop := fun pre G W =>
  (∀ j, G j ↔ S j) ∧ Mod S W1 W ∧ R pre W
/-- It looks at S alone. -/
def Looks {α : Type} (S : Nat → Prop) (R : List α → World → Prop) : Prop := ∀ pre W W', R pre W → (∀ j, S j → W'.heap[j]? = W.heap[j]?) → R pre W'
theorem RngI.stab {α : Type} {W1 : World} {S : Nat → Prop} {R : List α → World → Prop} (hR : Looks S R) (hS : ∀ j, S j → j < W1.heap.size) : Stab W1.heap.size (RngI W1 S R) := by
  rintro s G W W' T ⟨g1, g2, g3⟩ m t
  exact ⟨g1, g2.trans m fun j h => .inr (t j h).1, hR _ _ _ g3 fun j hj => m.block j (Nat.lt_of_lt_of_le (hS j hj) g2.size) fun h => (t j h).2 ((g1 j).2 hj)⟩
theorem RngI.step {α : Type} {W1 W W' : World} {S : Nat → Prop} {R R' : List α → World → Prop} {pre pre' : List α} {G : Nat → Prop} (h : RngI W1 S R pre G W) (hS : ∀ j, S j → j < W1.heap.size) (m : Mod S W W') (hr : R' pre' W') :
    ∃ G', (∀ k, G' k → (G k ∨ W.heap.size ≤ k) ∧ k < W'.heap.size) ∧ Mod G W W' ∧ RngI W1 S R' pre' G' W' := by
  obtain ⟨g1, g2, g3⟩ := h
  exact ⟨S, fun k hk => ⟨.inl ((g1 k).2 hk), Nat.lt_of_lt_of_le (hS k hk) (Nat.le_trans g2.size m.size)⟩, m.mono fun i hi => .inl ((g1 i).2 hi), fun _ => Iff.rfl, g2.trans' m, hr⟩
theorem RngI.start {α : Type} {W1 : World} {S : Nat → Prop} {R : List α → World → Prop} (hr : R [] W1) : RngI W1 S R [] S W1 := ⟨fun _ => Iff.rfl, Mod.refl _ _, hr⟩

/-- How the body of a round may be left: blocks of S have changed, and new ones. -/
def rndE {α : Type} (S : Nat → Prop) (R : List α → World → Prop) (Ix : Code → List α → World → Prop) (pre : List α) (W : World) : Exit → Act → World → Prop
  | .normal, _, W' => Mod S W W' ∧ R pre W'
  | .ret, _, W' => Mod S W W' ∧ Ix .ret pre W'
  | .exit id, _, W' => Mod S W W' ∧ Ix (.exit id) pre W'
  | .goto t, _, W' => Mod S W W' ∧ Ix (.goto t) pre W'
  | .panic _, _, _ => False
  | .outgrown, _, _ => False

section
variable {P : Program} {α : Type} {W1 W : World} {S : Nat → Prop} {R : List α → World → Prop} {Ix : Code → List α → World → Prop} {pre : List α} {G : Nat → Prop}

theorem rnd_to (g1 : ∀ j, S j → G j ∨ W.heap.size ≤ j) (g2 : Mod S W1 W) (hS : ∀ j, S j → j < W1.heap.size) {e : Exit} {a : Act} {W' : World} (h : rndE S R Ix pre W e a W') :
    roundEnd (RngI W1 S R) (fun c => RngI W1 S (Ix c)) pre G W e a W' := by
  have key : ∀ (R' : List α → World → Prop), Mod S W W' → R' pre W' → ∃ G', (∀ k, G' k → (G k ∨ W.heap.size ≤ k) ∧ k < W'.heap.size) ∧ Mod G W W' ∧ RngI W1 S R' pre G' W' := fun R' m hr =>
    ⟨S, fun k hk => ⟨g1 k hk, Nat.lt_of_lt_of_le (hS k hk) (Nat.le_trans g2.size m.size)⟩, m.mono g1, fun _ => Iff.rfl, g2.trans' m, hr⟩
  cases e <;> first | exact key _ h.1 h.2 | exact h.elim

/-- 'for .. := range g { .. }': no memory is made for the loop's variables. -/
theorem wp_range0 {g : Operand} {ps : Array Tmp} {assign body : Code} {Q : Exit → Act → World → Prop} {a : Act} {w : World}
    {gf : Nat} {lb : Array Value} (hg : a.eval g = .func (.func gf) #[] lb) (eg : ∀ args w, (callFunc gf args).run P w = .ok (.enter gf args) w)
    {encs : α → Array Value} {xs : List α} {H : Nat → Prop} (hit : Iter P gf lb encs xs H w) (hps : ∀ x, (encs x).size = ps.size)
    (S : Nat → Prop) (hS : ∀ k, S k → k < w.heap.size) (hH : ∀ k, H k → ¬ S k) (hHl : ∀ k, H k → k < w.heap.size)
    (R : List α → World → Prop) (Ix : Code → List α → World → Prop) (hR : Looks S R) (hIx : ∀ c, Looks S (Ix c)) (h0 : R [] w)
    (hab : ∃ F : α → Act,
      (∀ (l : Nat) (x : α) (W : World) (K : Act → World → Prop), K (F x) W → assign.wpIn (Fence.wide.inRound l) 0 P (Exit.then K (fun _ _ _ => False)) { tmps := (ps.zip (encs x)).foldl (fun t (p, v) => t.setIfInBounds p v) a.tmps, defers := [] } W) ∧
      (∀ (l : Nat) (pre : List α) (x : α) (rest : List α) (W : World), xs = pre ++ x :: rest → Mod S w W → R pre W → body.wpIn (Fence.wide.inRound l) 0 P (rndE S R Ix (pre ++ [x]) W) (F x) W))
    (hdone : ∀ (W : World), Mod S w W → R xs W → W.heap[w.heap.size]? = some (.deferred (some [])) → Q .normal { a with defers := { target := .collected w.heap.size, args := #[] } :: a.defers } W)
    (hstop : ∀ (c : Code) (pre : List α) (W : World), pre <+: xs → Mod S w W → Ix c pre W → W.heap[w.heap.size]? = some (.deferred (some [])) → c.wp P Q { a with defers := { target := .collected w.heap.size, args := #[] } :: a.defers } W) :
    (Code.rangeFunc g ps assign body).wp P Q a w := by
  obtain ⟨F, h1, h2⟩ := hab
  refine wp_range' hg eg hit (Mod.refl _ _) hps S hS hH hHl (RngI w S R) (fun c => RngI w S (Ix c)) (RngI.stab hR hS) (fun c => RngI.stab (hIx c) hS) (RngI.start h0) ⟨F, h1, ?_⟩ ?_ ?_
  · intro l pre x rest G W hx hi _
    exact wpIn_mono (h2 l pre x rest W hx hi.2.1 hi.2.2) fun e a' W' hq => rnd_to (fun j hj => .inl ((hi.1 j).2 hj)) hi.2.1 hS hq
  · exact fun G W hi _ hk => hdone W hi.2.1 hi.2.2 hk
  · exact fun c pre G W hp hi _ hk => hstop c pre W hp hi.2.1 hi.2.2 hk

/-- Such a loop whose variable lies in a block of the round's own. -/
theorem wp_range1 {g : Operand} {ps : Array Tmp} {assign body : Code} {Q : Exit → Act → World → Prop} {a : Act} {w : World}
    {gf : Nat} {lb : Array Value} (hg : a.eval g = .func (.func gf) #[] lb) (eg : ∀ args w, (callFunc gf args).run P w = .ok (.enter gf args) w)
    {encs : α → Array Value} {xs : List α} {H : Nat → Prop} (hit : Iter P gf lb encs xs H w) (hps : ∀ x, (encs x).size = ps.size)
    (S : Nat → Prop) (hS : ∀ k, S k → k < w.heap.size) (hH : ∀ k, H k → ¬ S k) (hHl : ∀ k, H k → k < w.heap.size)
    (R : List α → World → Prop) (Ix : Code → List α → World → Prop) (hR : Looks S R) (hIx : ∀ c, Looks S (Ix c)) (h0 : R [] w)
    (cells : α → Array Value) (ty : TypeId)
    (hab : ∃ F : Nat → α → Act,
      (∀ (l : Nat) (x : α) (W : World) (K : Act → World → Prop), K (F W.heap.size x) (W.alloc (.cells (cells x) ty)) → assign.wpIn (Fence.wide.inRound l) 0 P (Exit.then K (fun _ _ _ => False)) { tmps := (ps.zip (encs x)).foldl (fun t (p, v) => t.setIfInBounds p v) a.tmps, defers := [] } W) ∧
      (∀ (l : Nat) (pre : List α) (x : α) (rest : List α) (b : Nat) (W : World), xs = pre ++ x :: rest → W.heap[b]? = some (.cells (cells x) ty (0, 0)) → w.heap.size ≤ b → Mod S w W → R pre W → body.wpIn (Fence.wide.inRound l) 0 P (rndE S R Ix (pre ++ [x]) W) (F b x) W))
    (hdone : ∀ (W : World), Mod S w W → R xs W → W.heap[w.heap.size]? = some (.deferred (some [])) → Q .normal { a with defers := { target := .collected w.heap.size, args := #[] } :: a.defers } W)
    (hstop : ∀ (c : Code) (pre : List α) (W : World), pre <+: xs → Mod S w W → Ix c pre W → W.heap[w.heap.size]? = some (.deferred (some [])) → c.wp P Q { a with defers := { target := .collected w.heap.size, args := #[] } :: a.defers } W) :
    (Code.rangeFunc g ps assign body).wp P Q a w := by
  obtain ⟨F, h1, h2⟩ := hab
  refine wp_range hg eg hit (Mod.refl _ _) hps S hS hH hHl (RngI w S R) (fun c => RngI w S (Ix c)) (RngI.stab hR hS) (fun c => RngI.stab (hIx c) hS) (RngI.start h0)
    (fun pre x a1 G W => ∃ b, a1 = F b x ∧ (∀ j, G j ↔ (S j ∨ j = b)) ∧ w.heap.size ≤ b ∧ W.heap[b]? = some (.cells (cells x) ty (0, 0)) ∧ Mod S w W ∧ R pre W) ?_ ?_ ?_ ?_ ?_
  · rintro x a1 s G W W' T ⟨b, g1, g2, g3, g4, g5, g6⟩ m t
    exact ⟨b, g1, g2, g3, m.heap g4 fun h => (t b h).2 ((g2 b).2 (.inr rfl)), g5.trans m fun j h => .inr (t j h).1, hR _ _ _ g6 fun j hj => m.block j (Nat.lt_of_lt_of_le (hS j hj) g5.size) fun h => (t j h).2 ((g2 j).2 (.inl hj))⟩
  · rintro l pre x rest G W K hx ⟨i1, i2, i3⟩ hK
    have hM : Mod (fun _ => False) W (W.alloc (.cells (cells x) ty)) := (Mod.refl _ _).alloc _
    exact h1 l x W K (hK _ (fun j => S j ∨ j = W.heap.size) _ ⟨W.heap.size, rfl, fun _ => Iff.rfl, i2.size, alloc_0 _ _, i2.trans hM (fun _ h => h.elim), hR _ _ _ i3 fun j hj => hM.block j (Nat.lt_of_lt_of_le (hS j hj) i2.size) fun h => h⟩
      (fun k hk => hk.imp (fun h => (i1 k).2 h) (fun h => by omega)) (hM.mono fun _ h => h.elim))
  · rintro l pre x rest a1 G W hx ⟨b, rfl, g2, g3, g4, g5, g6⟩ _
    exact wpIn_mono (h2 l pre x rest b W hx g4 g3 g5 g6) fun e a' W' hq => rnd_to (fun j hj => .inl ((g2 j).2 (.inl hj))) g5 hS hq
  · exact fun G W hi _ hk => hdone W hi.2.1 hi.2.2 hk
  · exact fun c pre G W hp hi _ hk => hstop c pre W hp hi.2.1 hi.2.2 hk
end
end Go.Proofs.Bo
set_option linter.unusedVariables false
namespace Go.Proofs.Bo
open Go Go.RowKit Go.Shelf
section
variable {P : Program} {α : Type}

theorem roundEnd_mono {I : List α → (Nat → Prop) → World → Prop} {Ix : Code → List α → (Nat → Prop) → World → Prop} {xs : List α} {G G1 : Nat → Prop} {W : World} (hG : ∀ k, G k → G1 k) {e : Exit} {a : Act} {W' : World} (h : roundEnd I Ix xs G W e a W') : roundEnd I Ix xs G1 W e a W' := by
  have key : ∀ (J : List α → (Nat → Prop) → World → Prop), (∃ G', (∀ k, G' k → (G k ∨ W.heap.size ≤ k) ∧ k < W'.heap.size) ∧ Mod G W W' ∧ J xs G' W') → ∃ G', (∀ k, G' k → (G1 k ∨ W.heap.size ≤ k) ∧ k < W'.heap.size) ∧ Mod G1 W W' ∧ J xs G' W' := fun J ⟨G', h1, h2, h3⟩ =>
    ⟨G', fun k hk => ⟨(h1 k hk).1.imp (hG k) id, (h1 k hk).2⟩, h2.mono fun i hi => .inl (hG i hi), h3⟩
  cases e <;> first | exact key _ h | exact h.elim

/-- A range over a function whose variable lies in a block of the round's own; any invariant. -/
theorem wp_range1G {g : Operand} {ps : Array Tmp} {assign body : Code} {Q : Exit → Act → World → Prop} {a : Act} {w : World}
    {gf : Nat} {lb : Array Value} (hg : a.eval g = .func (.func gf) #[] lb) (eg : ∀ args w, (callFunc gf args).run P w = .ok (.enter gf args) w)
    {encs : α → Array Value} {xs : List α} {H : Nat → Prop} (hit : Iter P gf lb encs xs H w) (hps : ∀ x, (encs x).size = ps.size)
    (G0 : Nat → Prop) (hG0 : ∀ k, G0 k → k < w.heap.size) (hH : ∀ k, H k → ¬ G0 k) (hHl : ∀ k, H k → k < w.heap.size)
    (I : List α → (Nat → Prop) → World → Prop) (Ix : Code → List α → (Nat → Prop) → World → Prop) (hI : Stab w.heap.size I) (hIx : ∀ c, Stab w.heap.size (Ix c)) (hlt : ∀ pre G W, I pre G W → w.heap.size ≤ W.heap.size ∧ ∀ k, G k → k < W.heap.size) (h0 : I [] G0 w)
    (cells : α → Array Value) (ty : TypeId)
    (hab : ∃ F : Nat → α → Act,
      (∀ (l : Nat) (x : α) (W : World) (K : Act → World → Prop), K (F W.heap.size x) (W.alloc (.cells (cells x) ty)) → assign.wpIn (Fence.wide.inRound l) 0 P (Exit.then K (fun _ _ _ => False)) { tmps := (ps.zip (encs x)).foldl (fun t (p, v) => t.setIfInBounds p v) a.tmps, defers := [] } W) ∧
      (∀ (l : Nat) (pre : List α) (x : α) (rest : List α) (b : Nat) (G : Nat → Prop) (W : World), xs = pre ++ x :: rest → W.heap[b]? = some (.cells (cells x) ty (0, 0)) → ¬ G b → w.heap.size ≤ b → I pre G W → (∀ k, G k → k ≠ w.heap.size ∧ k ≠ w.heap.size + 1) → body.wpIn (Fence.wide.inRound l) 0 P (roundEnd I Ix (pre ++ [x]) G W) (F b x) W))
    (hdone : ∀ (G : Nat → Prop) (W : World), I xs G W → (∀ k, G k → k ≠ w.heap.size ∧ k ≠ w.heap.size + 1) → W.heap[w.heap.size]? = some (.deferred (some [])) → Q .normal { a with defers := { target := .collected w.heap.size, args := #[] } :: a.defers } W)
    (hstop : ∀ (c : Code) (pre : List α) (G : Nat → Prop) (W : World), pre <+: xs → Ix c pre G W → (∀ k, G k → k ≠ w.heap.size ∧ k ≠ w.heap.size + 1) → W.heap[w.heap.size]? = some (.deferred (some [])) → c.wp P Q { a with defers := { target := .collected w.heap.size, args := #[] } :: a.defers } W) :
    (Code.rangeFunc g ps assign body).wp P Q a w := by
  obtain ⟨F, h1, h2⟩ := hab
  refine wp_range hg eg hit (Mod.refl _ _) hps G0 hG0 hH hHl I Ix hI hIx h0
    (fun pre x a1 G1 W => ∃ b G, a1 = F b x ∧ (∀ k, G1 k ↔ (G k ∨ k = b)) ∧ ¬ G b ∧ w.heap.size ≤ b ∧ W.heap[b]? = some (.cells (cells x) ty (0, 0)) ∧ I pre G W) ?_ ?_ ?_ hdone hstop
  · rintro x a1 s G1 W W' T ⟨b, G, e, g1, g2, g3, g4, g5⟩ m t
    exact ⟨b, G, e, g1, g2, g3, m.heap g4 fun h => (t b h).2 ((g1 b).2 (.inr rfl)), hI _ _ _ _ _ g5 m fun k hk => ⟨(t k hk).1, fun h => (t k hk).2 ((g1 k).2 (.inl h))⟩⟩
  · rintro l pre x rest G W K hx hi hK
    have hM : Mod (fun _ => False) W (W.alloc (.cells (cells x) ty)) := (Mod.refl _ _).alloc _
    obtain ⟨q1, q2⟩ := hlt _ _ _ hi
    exact h1 l x W K (hK _ (fun j => G j ∨ j = W.heap.size) _ ⟨W.heap.size, G, rfl, fun _ => Iff.rfl, fun h => absurd (q2 _ h) (by omega), q1, alloc_0 _ _, hI _ _ _ _ _ hi hM fun _ h => h.elim⟩
      (fun k hk => hk.imp id fun h => by omega) (hM.mono fun _ h => h.elim))
  · rintro l pre x rest a1 G1 W hx ⟨b, G, rfl, g1, g2, g3, g4, g5⟩ hne
    exact wpIn_mono (h2 l pre x rest b G W hx g4 g2 g3 g5 fun k hk => hne k ((g1 k).2 (.inl hk))) fun e a' W' hq => roundEnd_mono (fun k hk => (g1 k).2 (.inl hk)) hq
end
end Go.Proofs.Bo
set_option linter.unusedVariables false
namespace Go.Proofs.Bo
open Go Go.RowKit
section
variable {P : Program} {ops : Array Oper} {rest : List Oper} {o : Oper} {a : Act} {Q : Exit → Act → World → Prop} {F : Fence} {nF : Nat}
/-- 'append(v, x)' behind a fence. -/
theorem app_oneIn {W : World} (news : List Value) (v : Value) (n : Nat) (xs : List Value) (s x : Operand) (t e : TypeId) (z : Value) (size bytes : Nat) (hgd : o.guard = none)
    (ho : o.op = .call { callee := .builtin .append, args := #[s, x], argTypes := #[t, t] })
    (ht : P.underlying t = some (.slice e)) (hinfo : (P.info? e).map (fun i => (i.zero, i.size, i.bytes)) = some (some z, size, bytes)) (hz : z.cells.size = size) (hz0 : 0 < size) (hb0 : 0 < bytes)
    (hs : a.eval s = v) (hx : a.eval x = .slice (some ⟨W.heap.size, 0, none⟩) 1 1)
    (HO : W.ownsRow 0 e size v n xs) (hnl : news.length = size) (h1 : ∀ u ∈ news, u.oneCell' = true) (hl : (n + 1) * bytes ≤ 140737488355328)
    (h : ∀ v1 w1, w1.ownsRow 0 e size v1 (n + 1) (xs ++ news) → W.grownBy w1 v.ownBlock → (∀ k, v1.ownBlock = some k → v.ownBlock = some k ∨ W.heap.size ≤ k) → wpListIn F nF P ops Q rest (a.put o.dst v1) w1) :
    wpListIn F nF P ops Q (o :: rest) a (W.alloc (.cells news.toArray e)) := by
  obtain ⟨i0, hi, hzz⟩ := Option.map_eq_some_iff.1 hinfo
  simp only [Prod.mk.injEq] at hzz
  obtain ⟨hz0', hz1, hz2⟩ := hzz
  have hlen : n + 1 ≤ 140737488355328 := Nat.le_trans (Nat.le_mul_of_pos_right _ hb0) hl
  refine wpListIn_append_own_at (W.alloc (.cells news.toArray e)) hgd s x t ho 0 e i0 z size bytes ht hi hz0' hz1 hz2 hz hz0 v n xs hs (HO.alloc _) ⟨W.heap.size, 0, none⟩ 1 1 news hx (by omega)
    (World.news_of_block (cs := news.toArray) (t := e) (fr := (0, 0)) (heap_alloc_new W _)) h1 (by simp only [maxLen]; omega) hl (by simp) ?_
  intro v1 w1 hown hgr _ hat
  have hg0 : W.grownBy (W.alloc (.cells news.toArray e)) v.ownBlock := World.grownBy_alloc W _ _
  refine h v1 w1 hown (hg0.trans hgr) fun k hk => ?_
  rcases hat with e | e
  · exact .inl (e ▸ hk)
  · rw [e] at hk; cases hk; exact .inr (by simp)
end
end Go.Proofs.Bo
set_option linter.unusedVariables false
namespace Go.Proofs.Bo
open Go Go.RowKit
/-- A slice of numbers that came in. -/
def encI (v : Int) : List Value := [.int .i64 v]
theorem wfI {a : Int} (h : (Lit.int .i64 a).wf = true) : -9223372036854775808 ≤ a ∧ a ≤ 9223372036854775807 := by
  simp [Lit.wf, IntKind.min, IntKind.max, IntKind.bits, IntKind.signed] at h
  omega
def GI (v : Int) : Prop := -9223372036854775808 ≤ v ∧ v ≤ 9223372036854775807
theorem fitI (cs : List Value) (h : Fit [.int .i64] cs) : ∃ b, encI b = cs ∧ GI b := by
  obtain ⟨v, vs, rfl, ⟨n, rfl, hn⟩, h2⟩ := h.cons_inv
  obtain rfl := h2.nil_inv
  exact ⟨n, rfl, wfI hn⟩
theorem RdS.int1 {w W : World} {b o : Nat} {zs : List Int} {k : Nat} (hc : ∀ i z, zs[i]? = some z → ∀ j u, (encI z)[j]? = some u → w.cell? ⟨b, o + i * 1 + j, none⟩ = some u) (B : Below w.heap.size w W) (hk : k < zs.length) :
    W.cell? ⟨b, o + k, none⟩ = some (.int .i64 zs[k]) := by
  have h := hc k zs[k] (by simp [hk]) 0 _ rfl
  rw [Nat.mul_one, Nat.add_zero] at h
  exact (B.cell (p := ⟨b, o + k, none⟩) (World.block_lt_of_cell? w _ h)).trans h
end Go.Proofs.Bo
