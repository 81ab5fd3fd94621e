import Derived.WalkKit
import Derived.Deep.QuietTactic
import Derived.BigQuiet
import Derived.Maps.AppendAt
import Derived.Deep.AppendLies
set_option linter.unusedVariables false
set_option linter.unusedSimpArgs false
namespace Go.Proofs.Bo
open Go Go.RowKit
structure Mod (S : Nat → Prop) (w w' : World) : Prop where
 os : w'.os = w.os
 tape : w'.tape = w.tape
 output : w'.output = w.output
 size : w.heap.size ≤ w'.heap.size
 block : ∀ k, k < w.heap.size → ¬ S k → w'.heap[k]? = w.heap[k]?
theorem Mod.refl (S : Nat → Prop) (w : World) : Mod S w w := ⟨rfl, rfl, rfl, Nat.le_refl _, fun _ _ _ => rfl⟩
theorem Mod.trans {S T : Nat → Prop} {a b c : World} (h : Mod S a b) (k : Mod T b c) (hs : ∀ i, T i → S i ∨ a.heap.size ≤ i) : Mod S a c :=
 ⟨k.os.trans h.os, k.tape.trans h.tape, k.output.trans h.output, Nat.le_trans h.size k.size, fun i hi hn => (k.block i (Nat.lt_of_lt_of_le hi h.size) (fun ht => by rcases hs i ht with h1 | h1; exact hn h1; omega)).trans (h.block i hi hn)⟩
theorem Mod.trans' {S : Nat → Prop} {a b c : World} (h : Mod S a b) (k : Mod S b c) : Mod S a c := h.trans k fun _ h => .inl h
theorem Mod.mono {S T : Nat → Prop} {a b : World} (h : Mod S a b) (hs : ∀ i, S i → T i ∨ a.heap.size ≤ i) : Mod T a b :=
 ⟨h.os, h.tape, h.output, h.size, fun i hi hn => h.block i hi (fun h1 => by rcases hs i h1 with h2 | h2; exact hn h2; omega)⟩
theorem Mod.of_below {S : Nat → Prop} {w w' : World} (h : Below w.heap.size w w') : Mod S w w' := ⟨h.os, h.tape, h.output, h.size, fun k hk _ => h.block k hk⟩
theorem Mod.to_below {S : Nat → Prop} {B : Nat} {w w' : World} (h : Mod S w w') (hB : B ≤ w.heap.size) (hs : ∀ k, S k → B ≤ k) : Below B w w' :=
 ⟨h.os, h.tape, h.output, h.size, fun k hk => h.block k (by omega) (fun h1 => by have := hs k h1; omega)⟩
theorem Mod.alloc {S : Nat → Prop} {a w : World} (h : Mod S a w) (o : Obj) : Mod S a (w.alloc o) :=
 h.trans (T := fun _ => False) ⟨rfl, rfl, rfl, by simp, fun k hk _ => Below.heap_alloc _ _ _ hk⟩ (fun _ h => h.elim)
theorem Mod.drew {S : Nat → Prop} {a w : World} (h : Mod S a w) : Mod S a w.drew := ⟨h.os, h.tape, h.output, h.size, h.block⟩
theorem Mod.drewN {S : Nat → Prop} {a w : World} (h : Mod S a w) (n : Nat) : Mod S a (w.drewN n) := ⟨h.os, h.tape, h.output, h.size, h.block⟩
theorem Mod.setCell {S : Nat → Prop} {a w : World} (h : Mod S a w) {p : Addr} (hp : S p.block ∨ a.heap.size ≤ p.block) (u : Value) : Mod S a (w.setCell p u) :=
 h.trans (T := fun k => k = p.block) ⟨rfl, rfl, rfl, by simp [World.setCell], fun k hk hn => Below.heap_setCell _ _ _ _ hn⟩ (fun i hi => by subst hi; exact hp)
theorem Mod.grown {S : Nat → Prop} {a w w' : World} {row : Option Nat} (h : Mod S a w) (hg : w.grownBy w' row) (hr : ∀ k, row = some k → S k ∨ a.heap.size ≤ k) : Mod S a w' :=
 h.trans (T := fun k => row = some k) ⟨hg.os, hg.tape, hg.output, hg.size, fun k hk hn => hg.block k hk (fun e => hn e.symm)⟩ hr
theorem Mod.heap {S : Nat → Prop} {w w' : World} (h : Mod S w w') {k : Nat} {o : Obj} (ho : w.heap[k]? = some o) (hn : ¬ S k) : w'.heap[k]? = some o :=
 (h.block k (Array.getElem?_eq_some_iff.1 ho).1 hn).trans ho
theorem Mod.cell {S : Nat → Prop} {w w' : World} (h : Mod S w w') {a : Addr} {v : Value} (ho : w.cell? a = some v) (hn : ¬ S a.block) : w'.cell? a = some v :=
 (World.cell?_of_block (h.block a.block (World.block_lt_of_cell? w a ho) hn)).trans ho
theorem own_keep {w w' : World} {base : Nat} {e : TypeId} {size : Nat} {v : Value} {n : Nat} {xs : List Value} (h : w.ownsRow base e size v n xs)
  (hk : ∀ k, v.ownBlock = some k → w'.heap[k]? = w.heap[k]?) : w'.ownsRow base e size v n xs := by
 refine ⟨h.1, ?_⟩
 rcases h.2 with h2 | ⟨g, cap, cur, hv, hg, hh, r⟩
 ·exact .inl h2
 ·exact .inr ⟨g, cap, cur, hv, hg, (hk g (by rw [hv]; rfl)).trans hh, r⟩
theorem own_lt {w : World} {base : Nat} {e : TypeId} {size : Nat} {v : Value} {n : Nat} {xs : List Value} (h : w.ownsRow base e size v n xs) {k : Nat} (hk : v.ownBlock = some k) : k < w.heap.size := (h.lt k hk).2
theorem own_mod {S : Nat → Prop} {w w' : World} {base : Nat} {e : TypeId} {size : Nat} {v : Value} {n : Nat} {xs : List Value} (h : w.ownsRow base e size v n xs) (hm : Mod S w w')
  (hk : ∀ k, v.ownBlock = some k → ¬ S k) : w'.ownsRow base e size v n xs := own_keep h fun k e => hm.block k (own_lt h e) (hk k e)
theorem own_type {w : World} {base : Nat} {e : TypeId} {size : Nat} {v : Value} {n : Nat} {xs : List Value} (h : w.ownsRow base e size v n xs) {k : Nat} (hk : v.ownBlock = some k) : ∃ cs, w.heap[k]? = some (.cells cs e (0, 0)) := by
 rcases h.2 with ⟨rfl, _⟩ | ⟨g, cap, cur, rfl, hg, hh, r⟩
 ·simp [Value.ownBlock] at hk
 ·simp [Value.ownBlock] at hk; subst hk; exact ⟨_, hh⟩
theorem own_slice {w : World} {base : Nat} {e : TypeId} {size : Nat} {v : Value} {n : Nat} {xs : List Value} (h : w.ownsRow base e size v n xs) :
  (∃ A c, v = .slice A n c ∧ n ≤ c ∧ c ≤ maxLen ∧ (0 < n → ∃ g, A = some ⟨g, 0, none⟩)) := by
 rcases h.2 with ⟨rfl, rfl⟩ | ⟨g, cap, cur, rfl, hg, hh, r, r2, _⟩
 ·exact ⟨none, 0, rfl, Nat.le_refl _, by unfold maxLen; omega, fun h => by omega⟩
 ·exact ⟨_, cap, rfl, r, r2, fun _ => ⟨g, rfl⟩⟩
theorem own_cell {w : World} {base g n c : Nat} {e : TypeId} {size : Nat} {xs : List Value} (h : w.ownsRow base e size (.slice (some ⟨g, 0, none⟩) n c) n xs) {j : Nat} {u : Value} (hu : xs[j]? = some u) :
  w.cell? ⟨g, j, none⟩ = some u ∧ w.frozen? ⟨g, j, none⟩ = false := by
 rcases h.2 with ⟨h1, _⟩ | ⟨g', cap, cur, hv, _, hh, _, _, _, ht⟩
 ·cases h1
 ·injection hv with h1 h2 h3
  injection h1 with h1
  injection h1 with h1
  subst h1
  refine ⟨?_, frozen_of_row w g j cur e hh⟩
  rw [cell_of_row w g j cur e (0, 0) hh]
  rw [← ht, List.getElem?_take] at hu
  split at hu
  ·simpa using hu
  ·cases hu
theorem own_set {w : World} {base g n c : Nat} {e : TypeId} {size : Nat} {xs : List Value} (h : w.ownsRow base e size (.slice (some ⟨g, 0, none⟩) n c) n xs) (j : Nat) (hj : j < xs.length) (u : Value) :
  (w.setCell ⟨g, j, none⟩ u).ownsRow base e size (.slice (some ⟨g, 0, none⟩) n c) n (xs.set j u) := by
 refine ⟨by simpa using h.1, ?_⟩
 rcases h.2 with ⟨h1, _⟩ | ⟨g', cap, cur, hv, hb, hh, h3, h4, h5, ht⟩
 ·cases h1
 ·injection hv with h1 h2 h3'
  injection h1 with h1
  injection h1 with h1
  subst h1; subst h3'
  refine .inr ⟨g, c, cur.setIfInBounds j u, rfl, hb, heap_setCell_same w g j cur e u hh, h3, h4, by simpa using h5, ?_⟩
  simp only [Array.toList_setIfInBounds]
  rw [List.take_set, ht]
theorem own_take {w : World} {base n c : Nat} {A : Option Addr} {e : TypeId} {size : Nat} {xs : List Value} (h : w.ownsRow base e size (.slice A n c) n xs) (m : Nat) (hm : m ≤ n) :
  w.ownsRow base e size (.slice A m c) m (xs.take (m * size)) := by
 have h1 := h.1
 have hle : m * size ≤ n * size := Nat.mul_le_mul_right _ hm
 refine ⟨by rw [List.length_take]; omega, ?_⟩
 rcases h.2 with ⟨h2, h3⟩ | ⟨g', cap, cur, hv, hb, hh, h3, h4, h5, ht⟩
 ·cases h2; exact .inl ⟨by rw [show m = 0 by omega], by omega⟩
 ·cases hv
  refine .inr ⟨g', c, cur, rfl, hb, hh, by omega, h4, h5, ?_⟩
  rw [← ht, List.take_take]
  congr 1
  omega
open Go Go.RowKit
theorem Mod.of_drewN {S : Nat → Prop} {w w' : World} {n : Nat} (h : Mod S (w.drewN n) w') : Mod S w w' := ⟨h.os, h.tape, h.output, h.size, h.block⟩
theorem Mod.of_drew {S : Nat → Prop} {w w' : World} (h : Mod S w.drew w') : Mod S w w' := ⟨h.os, h.tape, h.output, h.size, h.block⟩
theorem Mod.lt {S : Nat → Prop} {w w' : World} (h : Mod S w w') {k : Nat} (hk : k < w.heap.size) : k < w'.heap.size := Nat.lt_of_lt_of_le hk h.size
open Go Go.RowKit
theorem pw_below_drewN' {B : Nat} {w W : World} (h : Below B w W) (n : Nat) : Below B w (W.drewN n) := ⟨h.os, h.tape, h.output, h.size, h.block⟩
open Go Go.RowKit
theorem alloc_0 (w : World) (A : Obj) : (w.alloc A).heap[w.heap.size]? = some A := heap_alloc_new w A
theorem alloc2_0 (w : World) (A B : Obj) : ((w.alloc A).alloc B).heap[w.heap.size]? = some A := heap_alloc2_old w A B
theorem alloc2_1 (w : World) (A B : Obj) : ((w.alloc A).alloc B).heap[w.heap.size + 1]? = some B := heap_alloc2_new w A B
theorem alloc3_0 (w : World) (A B C : Obj) : (((w.alloc A).alloc B).alloc C).heap[w.heap.size]? = some A := (Below.heap_alloc _ _ _ (by simp; omega)).trans (alloc2_0 w A B)
theorem alloc3_1 (w : World) (A B C : Obj) : (((w.alloc A).alloc B).alloc C).heap[w.heap.size + 1]? = some B := (Below.heap_alloc _ _ _ (by simp)).trans (alloc2_1 w A B)
theorem alloc3_2 (w : World) (A B C : Obj) : (((w.alloc A).alloc B).alloc C).heap[w.heap.size + 1 + 1]? = some C := by
 have := heap_alloc2_new (w.alloc A) B C; rwa [World.size_alloc] at this
theorem blkc {w : World} {g : Nat} {cs : Array Value} {t : TypeId} (h : w.heap[g]? = some (.cells cs t (0, 0))) : (∀ j, w.cell? ⟨g, j, none⟩ = cs[j]?) ∧ (∀ j, w.frozen? ⟨g, j, none⟩ = false) :=
 ⟨fun j => cell_of_row w g j cs t (0, 0) h, fun j => frozen_of_row w g j cs t h⟩
open Go Go.RowKit
theorem hid {p : Prop} (h : p) : Hid p := h
theorem blkl {w : World} {g : Nat} {o : Obj} (h : w.heap[g]? = some o) : g < w.heap.size := (Array.getElem?_eq_some_iff.1 h).1
open Go Go.RowKit
def encP {α : Type} (enc : α → List Value) (z : List Value) : Option α → List Value
 | none => z ++ [.bool false]
 | some v => enc v ++ [.bool true]
structure ArInv {α : Type} (room : Int) (l : List (Option α)) (free : List Int) : Prop where
 room0 : 0 ≤ room
 room1 : room ≤ 65536
 fl : free.length ≤ l.length
 lr : (l.length : Int) ≤ room
 nodup : free.Nodup
 mem : ∀ i : Int, i ∈ free ↔ ∃ k : Nat, i = k ∧ l[k]? = some none
structure Ar {α : Type} (enc : α → List Value) (z : List Value) (ta tp ti : TypeId) (w : World) (ab : Nat) (lv fv : Value) (room : Int) (l : List (Option α)) (free : List Int) : Prop where
 blk : w.heap[ab]? = some (.cells #[.int .i64 room, lv, fv] ta (0, 0))
 row : w.ownsRow 0 tp (z.length + 1) lv l.length (l.flatMap (encP enc z))
 fre : w.ownsRow 0 ti 1 fv free.length (free.map (.int .i64))
 encl : ∀ v, (enc v).length = z.length
 inv : ArInv room l free
section
variable {α : Type} {enc : α → List Value} {z : List Value} {ta tp ti : TypeId} {w w' : World} {ab : Nat} {lv fv : Value} {room : Int} {l : List (Option α)} {free : List Int}
def Foot (ab : Nat) (lv fv : Value) (k : Nat) : Prop := k = ab ∨ lv.ownBlock = some k ∨ fv.ownBlock = some k
theorem Ar.keep (h : Ar enc z ta tp ti w ab lv fv room l free) (hk : ∀ k, Foot ab lv fv k → w'.heap[k]? = w.heap[k]?) : Ar enc z ta tp ti w' ab lv fv room l free :=
 ⟨(hk _ (.inl rfl)).trans h.blk, own_keep h.row fun _ e => hk _ (.inr (.inl e)), own_keep h.fre fun _ e => hk _ (.inr (.inr e)), h.encl, h.inv⟩
theorem Ar.drewN (h : Ar enc z ta tp ti w ab lv fv room l free) (n : Nat) : Ar enc z ta tp ti (w.drewN n) ab lv fv room l free := h.keep fun _ _ => rfl
theorem Ar.lt (h : Ar enc z ta tp ti w ab lv fv room l free) {k : Nat} (hk : Foot ab lv fv k) : k < w.heap.size := by
 rcases hk with rfl | hk | hk
 ·exact (Array.getElem?_eq_some_iff.1 h.blk).1
 ·exact own_lt h.row hk
 ·exact own_lt h.fre hk
theorem Ar.mod {S : Nat → Prop} (h : Ar enc z ta tp ti w ab lv fv room l free) (hm : Mod S w w') (hs : ∀ k, Foot ab lv fv k → ¬ S k) : Ar enc z ta tp ti w' ab lv fv room l free :=
 h.keep fun k hk => hm.block k (h.lt hk) (hs k hk)
theorem Ar.c0 (h : Ar enc z ta tp ti w ab lv fv room l free) : w.cell? ⟨ab, 0, none⟩ = some (.int .i64 room) := by simp [World.cell?, h.blk]
theorem Ar.c1 (h : Ar enc z ta tp ti w ab lv fv room l free) : w.cell? ⟨ab, 1, none⟩ = some lv := by simp [World.cell?, h.blk]
theorem Ar.c2 (h : Ar enc z ta tp ti w ab lv fv room l free) : w.cell? ⟨ab, 2, none⟩ = some fv := by simp [World.cell?, h.blk]
theorem Ar.fr (h : Ar enc z ta tp ti w ab lv fv room l free) (j : Nat) : w.frozen? ⟨ab, j, none⟩ = false := by simp [World.frozen?, h.blk]
theorem Ar.flen (h : Ar enc z ta tp ti w ab lv fv room l free) : free.length ≤ l.length ∧ l.length ≤ 65536 := by
 have := h.inv.fl; have := h.inv.lr; have := h.inv.room1; omega
theorem encP_length (he : ∀ v, (enc v).length = z.length) (p : Option α) : (encP enc z p).length = z.length + 1 := by
 cases p <;> simp [encP, he]
theorem flat_get {β : Type} (f : β → List Value) (m : Nat) (hf : ∀ b, (f b).length = m) (l : List β) (i j : Nat) (hj : j < m) : (l.flatMap f)[i * m + j]? = (l[i]?).bind fun b => (f b)[j]? := by
 induction l generalizing i with
 | nil => simp
 | cons b l ih =>
  rw [List.flatMap_cons]
  cases i with
  | zero => rw [List.getElem?_append_left (by rw [hf]; omega)]; simp
  | succ i =>
   rw [List.getElem?_append_right (by rw [hf, Nat.succ_mul]; omega), hf, show (i + 1) * m + j - m = i * m + j by rw [Nat.succ_mul]; omega, ih]
   simp
theorem flat_set {β : Type} (f : β → List Value) (m : Nat) (hf : ∀ b, (f b).length = m) (l : List β) (i j : Nat) (hj : j < m) (u : Value) (b b' : β) (hb : l[i]? = some b) (hb' : f b' = (f b).set j u) :
  (l.flatMap f).set (i * m + j) u = (l.set i b').flatMap f := by
 induction l generalizing i with
 | nil => simp at hb
 | cons c l ih =>
  cases i with
  | zero =>
   simp at hb; subst hb
   simp only [Nat.zero_mul, Nat.zero_add, List.flatMap_cons, List.set_cons_zero, hb']
   rw [List.set_append_left _ _ (by rw [hf]; omega)]
  | succ i =>
   simp only [List.flatMap_cons, List.set_cons_succ]
   rw [List.set_append_right _ _ (by rw [hf, Nat.succ_mul]; omega), hf, show (i + 1) * m + j - m = i * m + j by rw [Nat.succ_mul]; omega]
   rw [ih i (by simpa using hb)]
theorem flat_length {β : Type} (f : β → List Value) (m : Nat) (hf : ∀ b, (f b).length = m) (l : List β) : (l.flatMap f).length = l.length * m := by
 induction l with
 | nil => simp
 | cons b l ih => rw [List.flatMap_cons, List.length_append, ih, hf, List.length_cons, Nat.succ_mul]; omega
theorem Ar.place (h : Ar enc z ta tp ti w ab lv fv room l free) (hp : 0 < l.length) : ∃ lb c, lv = .slice (some ⟨lb, 0, none⟩) l.length c ∧ l.length ≤ c ∧ c ≤ maxLen := by
 obtain ⟨A, c, rfl, h1, h2, h3⟩ := own_slice h.row
 obtain ⟨g, rfl⟩ := h3 hp
 exact ⟨g, c, rfl, h1, h2⟩
theorem Ar.cell {lb n c : Nat} (h : Ar enc z ta tp ti w ab (.slice (some ⟨lb, 0, none⟩) n c) fv room l free) {i : Nat} {p : Option α} (hi : l[i]? = some p) {j : Nat} {u : Value} (hu : (encP enc z p)[j]? = some u) :
  w.cell? ⟨lb, i * (z.length + 1) + j, none⟩ = some u ∧ w.frozen? ⟨lb, i * (z.length + 1) + j, none⟩ = false := by
 have hr := h.row
 obtain ⟨A, c', e, _, _, _⟩ := own_slice hr
 cases e
 refine own_cell hr ?_
 rw [flat_get (encP enc z) (z.length + 1) (encP_length h.encl) l i j (by have := (List.getElem?_eq_some_iff.1 hu).1; rw [encP_length h.encl] at this; exact this), hi]
 exact hu
end
open Go Go.RowKit
section
variable {P : Program} {ops : Array Oper} {rest : List Oper} {o : Oper} {a : Act} {Q : Exit → Act → World → Prop}
theorem app_one {W : World} (news : List Value) (v : Value) (n : Nat) (xs : List Value) (s x : Operand) (t e : TypeId) (z : Value) (size bytes : Nat) (hgd : o.guard = none)
  (ho : o.op = .call { callee := .builtin .append, args := #[s, x], argTypes := #[t, t] })
  (ht : P.underlying t = some (.slice e)) (hinfo : (P.info? e).map (fun i => (i.zero, i.size, i.bytes)) = some (some z, size, bytes)) (hz : z.cells.size = size) (hz0 : 0 < size) (hb0 : 0 < bytes)
  (hs : a.eval s = v) (hx : a.eval x = .slice (some ⟨W.heap.size, 0, none⟩) 1 1)
  (HO : W.ownsRow 0 e size v n xs) (hnl : news.length = size) (h1 : ∀ u ∈ news, u.oneCell' = true) (hl : (n + 1) * bytes ≤ 140737488355328)
  (h : ∀ v1 w1, w1.ownsRow 0 e size v1 (n + 1) (xs ++ news) → W.grownBy w1 v.ownBlock → (∀ k, v1.ownBlock = some k → v.ownBlock = some k ∨ W.heap.size ≤ k) → wpList P ops Q rest (a.put o.dst v1) w1) :
  wpList P ops Q (o :: rest) a (W.alloc (.cells news.toArray e)) := by
 obtain ⟨i0, hi, hzz⟩ := Option.map_eq_some_iff.1 hinfo
 simp only [Prod.mk.injEq] at hzz
 obtain ⟨hz0', hz1, hz2⟩ := hzz
 have hlen : n + 1 ≤ 140737488355328 := Nat.le_trans (Nat.le_mul_of_pos_right _ hb0) hl
 refine wpList_append_own_at (W.alloc (.cells news.toArray e)) hgd s x t ho 0 e i0 z size bytes ht hi hz0' hz1 hz2 hz hz0 v n xs hs (HO.alloc _) ⟨W.heap.size, 0, none⟩ 1 1 news hx (by omega)
  (World.news_of_block (cs := news.toArray) (t := e) (fr := (0, 0)) (heap_alloc_new W _)) h1 (by simp only [maxLen]; omega) hl (by simp) ?_
 intro v1 w1 hown hg _ hat
 have hg0 : W.grownBy (W.alloc (.cells news.toArray e)) v.ownBlock := World.grownBy_alloc W _ _
 refine h v1 w1 hown ⟨hg.os.trans hg0.os, hg.tape.trans hg0.tape, hg.output.trans hg0.output, Nat.le_trans hg0.size hg.size, fun k hk hn => (hg.block k (Nat.lt_of_lt_of_le hk hg0.size) hn).trans (hg0.block k hk hn)⟩ ?_
 intro k hk
 rcases hat with hat | hat
 ·exact .inl (hat ▸ hk)
 ·rw [hat] at hk; cases hk; exact .inr (by simp)
end
theorem nodup_bound : ∀ (n : Nat) (l : List Int), l.Nodup → (∀ a ∈ l, 0 ≤ a ∧ a < (n : Int)) → l.length ≤ n
 | 0, l, _, h => by cases l with | nil => simp | cons a l => have := h a (by simp); omega
 | n + 1, l, hd, h => by
  have h1 : (l.erase (n : Int)).length ≤ n := nodup_bound n _ (hd.erase _) (fun a ha => by
   have ha' := List.mem_of_mem_erase ha
   have hne : a ≠ n := fun e => by subst e; exact (hd.not_mem_erase) ha
   have := h a ha'; omega)
  have h2 := List.length_erase (a := (n : Int)) (l := l)
  split at h2 <;> omega
theorem ArInv.put_new {α : Type} {room : Int} {l : List (Option α)} (h : ArInv room l []) (hr : (l.length : Int) < room) (v : α) : ArInv room (l ++ [some v]) [] := by
 refine ⟨h.room0, h.room1, by simp, by simp; omega, h.nodup, fun i => ?_⟩
 rw [h.mem i]
 constructor
 ·rintro ⟨k, rfl, hk⟩; exact ⟨k, rfl, by rw [List.getElem?_append_left (List.getElem?_eq_some_iff.1 hk).1]; exact hk⟩
 ·rintro ⟨k, rfl, hk⟩
  refine ⟨k, rfl, ?_⟩
  rw [List.getElem?_append] at hk
  split at hk
  ·exact hk
  ·rename_i hn
   rcases Nat.eq_zero_or_pos (k - l.length) with h0 | h0
   ·rw [h0] at hk; simp at hk
   ·rw [List.getElem?_eq_none (by simp; omega)] at hk; cases hk
theorem ArInv.put_old {α : Type} {room : Int} {l : List (Option α)} {free : List Int} {k : Nat} (h : ArInv room l (free ++ [(k : Int)])) (v : α) : ArInv room (l.set k (some v)) free := by
 have hl : l[k]? = some none := by
  obtain ⟨k', e, hk'⟩ := (h.mem k).1 (by simp)
  have : k = k' := by omega
  subst this; exact hk'
 have hnd := h.nodup
 rw [List.nodup_append] at hnd
 refine ⟨h.room0, h.room1, ?_, by simpa using h.lr, hnd.1, fun i => ?_⟩
 ·have := h.fl; simp at this ⊢; omega
 ·constructor
  ·intro hi
   obtain ⟨k', rfl, hk'⟩ := (h.mem i).1 (by simp [hi])
   have hne : k ≠ k' := by rintro rfl; exact hnd.2.2 _ hi _ (by simp) rfl
   exact ⟨k', rfl, by rw [List.getElem?_set_ne hne]; exact hk'⟩
  ·rintro ⟨k', rfl, hk'⟩
   have hne : k ≠ k' := by
    rintro rfl
    rw [List.getElem?_set_self (List.getElem?_eq_some_iff.1 hl).1] at hk'
    simp at hk'
   rw [List.getElem?_set_ne hne] at hk'
   have := (h.mem k').2 ⟨k', rfl, hk'⟩
   simp at this
   rcases this with h1 | h1
   ·exact h1
   ·exact absurd h1 (by omega)
theorem ArInv.free {α : Type} {room : Int} {l : List (Option α)} {free : List Int} {k : Nat} {v : α} (h : ArInv room l free) (hk : l[k]? = some (some v)) : ArInv room (l.set k none) (free ++ [(k : Int)]) := by
 have hni : (k : Int) ∉ free := by
  intro hi
  obtain ⟨k', e, hk'⟩ := (h.mem k).1 hi
  have : k = k' := by omega
  subst this; rw [hk] at hk'; simp at hk'
 have hkl := (List.getElem?_eq_some_iff.1 hk).1
 refine ⟨h.room0, h.room1, ?_, by simpa using h.lr, ?_, fun i => ?_⟩
 ·have hnd : (free ++ [(k : Int)]).Nodup := by
   rw [List.nodup_append]; exact ⟨h.nodup, by simp, fun a ha b hb => by simp at hb; subst hb; rintro rfl; exact hni ha⟩
  have := nodup_bound l.length _ hnd (fun a ha => by
   simp at ha
   rcases ha with ha | rfl
   ·obtain ⟨k', rfl, hk'⟩ := (h.mem a).1 ha
    have := (List.getElem?_eq_some_iff.1 hk').1; omega
   ·omega)
  simpa using this
 ·rw [List.nodup_append]; exact ⟨h.nodup, by simp, fun a ha b hb => by simp at hb; subst hb; rintro rfl; exact hni ha⟩
 ·constructor
  ·intro hi
   simp at hi
   rcases hi with hi | rfl
   ·obtain ⟨k', rfl, hk'⟩ := (h.mem i).1 hi
    refine ⟨k', rfl, ?_⟩
    by_cases e : k = k'
    ·subst e; rw [List.getElem?_set_self hkl]
    ·rw [List.getElem?_set_ne e]; exact hk'
   ·exact ⟨k, rfl, by rw [List.getElem?_set_self hkl]⟩
  ·rintro ⟨k', rfl, hk'⟩
   by_cases e : k = k'
   ·subst e; simp
   ·rw [List.getElem?_set_ne e] at hk'
    have := (h.mem k').2 ⟨k', rfl, hk'⟩
    simp [this]
theorem ArInv.set {α : Type} {room : Int} {l : List (Option α)} {free : List Int} {k : Nat} {v : α} (h : ArInv room l free) (hk : l[k]? = some (some v)) (u : α) : ArInv room (l.set k (some u)) free := by
 have hkl := (List.getElem?_eq_some_iff.1 hk).1
 refine ⟨h.room0, h.room1, by simpa using h.fl, by simpa using h.lr, h.nodup, fun i => ?_⟩
 rw [h.mem i]
 constructor
 ·rintro ⟨k', rfl, hk'⟩
  refine ⟨k', rfl, ?_⟩
  have : k ≠ k' := by rintro rfl; rw [hk] at hk'; simp at hk'
  rw [List.getElem?_set_ne this]; exact hk'
 ·rintro ⟨k', rfl, hk'⟩
  have : k ≠ k' := by rintro rfl; rw [List.getElem?_set_self hkl] at hk'; simp at hk'
  rw [List.getElem?_set_ne this] at hk'; exact ⟨k', rfl, hk'⟩
open Go Go.RowKit
section
variable {α : Type} {enc : α → List Value} {z : List Value} {ta tp ti : TypeId} {w w' : World} {ab : Nat} {lv fv : Value} {room : Int} {l : List (Option α)} {free : List Int}
theorem Ar.ne_l (h : Ar enc z ta tp ti w ab lv fv room l free) (hT : ta ≠ tp) : lv.ownBlock ≠ some ab := by
 intro e
 obtain ⟨cs, hc⟩ := own_type h.row e
 have := h.blk; rw [this] at hc; injection hc with hc; injection hc with _ h2; exact hT h2
theorem Ar.ne_f (h : Ar enc z ta tp ti w ab lv fv room l free) (hT : ta ≠ ti) : fv.ownBlock ≠ some ab := by
 intro e
 obtain ⟨cs, hc⟩ := own_type h.fre e
 have := h.blk; rw [this] at hc; injection hc with hc; injection hc with _ h2; exact hT h2
theorem Ar.ne_lf (h : Ar enc z ta tp ti w ab lv fv room l free) (hT : tp ≠ ti) {k : Nat} (h1 : lv.ownBlock = some k) (h2 : fv.ownBlock = some k) : False := by
 obtain ⟨cs, hc⟩ := own_type h.row h1
 obtain ⟨cs', hc'⟩ := own_type h.fre h2
 rw [hc] at hc'; injection hc' with hc'; injection hc' with _ h2; exact hT h2
theorem blk_set1 {t : TypeId} {a b c u : Value} (h : w.heap[ab]? = some (.cells #[a, b, c] t (0, 0))) : (w.setCell ⟨ab, 1, none⟩ u).heap[ab]? = some (.cells #[a, u, c] t (0, 0)) := by
 rw [heap_setCell_same w ab 1 _ t u h]; rfl
theorem blk_set2 {t : TypeId} {a b c u : Value} (h : w.heap[ab]? = some (.cells #[a, b, c] t (0, 0))) : (w.setCell ⟨ab, 2, none⟩ u).heap[ab]? = some (.cells #[a, b, u] t (0, 0)) := by
 rw [heap_setCell_same w ab 2 _ t u h]; rfl
theorem heap_set_ne {p : Addr} {u : Value} {k : Nat} (h : k ≠ p.block) : (w.setCell p u).heap[k]? = w.heap[k]? := Below.heap_setCell _ _ _ _ h
theorem Ar.grow_l {W w1 : World} {v1 : Value} {p : Option α} (h : Ar enc z ta tp ti W ab lv fv room l free) (hT : ta ≠ tp) (hT2 : ta ≠ ti) (hT3 : tp ≠ ti)
  (hown : w1.ownsRow 0 tp (z.length + 1) v1 (l.length + 1) (l.flatMap (encP enc z) ++ encP enc z p)) (hg : W.grownBy w1 lv.ownBlock) (hb : ∀ k, v1.ownBlock = some k → lv.ownBlock = some k ∨ W.heap.size ≤ k)
  (hi : ArInv room (l ++ [p]) free) :
  w1.heap[ab]? = some (.cells #[.int .i64 room, lv, fv] ta (0, 0)) ∧
  Ar enc z ta tp ti (w1.setCell ⟨ab, 1, none⟩ v1) ab v1 fv room (l ++ [p]) free ∧ Mod (Foot ab lv fv) W (w1.setCell ⟨ab, 1, none⟩ v1) ∧ (∀ k, Foot ab v1 fv k → Foot ab lv fv k ∨ W.heap.size ≤ k) := by
 have hab := h.lt (.inl rfl)
 have hne := h.ne_l hT
 have hblk : w1.heap[ab]? = some (.cells #[.int .i64 room, lv, fv] ta (0, 0)) := (hg.block ab hab (fun e => hne e.symm)).trans h.blk
 have hv1 : v1.ownBlock ≠ some ab := fun e => by
  rcases hb ab e with h1 | h1
  ·exact hne h1
  ·omega
 refine ⟨hblk, ⟨blk_set1 hblk, ?_, ?_, h.encl, hi⟩, ?_, ?_⟩
 ·simp only [List.flatMap_append, List.flatMap_cons, List.flatMap_nil, List.append_nil, List.length_append, List.length_cons, List.length_nil]
  exact own_keep hown fun k e => heap_set_ne (by rintro rfl; exact hv1 e)
 ·refine own_keep h.fre fun k e => ?_
  have hk := own_lt h.fre e
  rw [heap_set_ne (by rintro rfl; exact h.ne_f hT2 e)]
  exact hg.block k hk (fun e' => h.ne_lf hT3 e'.symm e)
 ·exact ((Mod.refl _ W).grown hg (fun k e => .inl (.inr (.inl e)))).setCell (.inl (.inl rfl)) _
 ·rintro k (rfl | e | e)
  ·exact .inl (.inl rfl)
  ·rcases hb k e with h1 | h1
   ·exact .inl (.inr (.inl h1))
   ·exact .inr h1
  ·exact .inl (.inr (.inr e))
theorem Ar.grow_f {lb n c k : Nat} {W w1 : World} {v1 : Value} {v : α} (h : Ar enc z ta tp ti w ab (.slice (some ⟨lb, 0, none⟩) n c) fv room l free) (hT : ta ≠ tp) (hT2 : ta ≠ ti) (hT3 : tp ≠ ti) (hk : l[k]? = some (some v))
  (hW : W.heap[ab]? = w.heap[ab]?) (hrow : W.ownsRow 0 tp (z.length + 1) (.slice (some ⟨lb, 0, none⟩) n c) (l.set k none).length ((l.set k none).flatMap (encP enc z))) (hm : Mod (Foot ab (.slice (some ⟨lb, 0, none⟩) n c) fv) w W)
  (hown : w1.ownsRow 0 ti 1 v1 (free.length + 1) (free.map (.int .i64) ++ [.int .i64 (k : Int)])) (hg : W.grownBy w1 fv.ownBlock) (hb : ∀ k, v1.ownBlock = some k → fv.ownBlock = some k ∨ W.heap.size ≤ k) :
  w1.heap[ab]? = some (.cells #[.int .i64 room, (.slice (some ⟨lb, 0, none⟩) n c), fv] ta (0, 0)) ∧
  Ar enc z ta tp ti (w1.setCell ⟨ab, 2, none⟩ v1) ab (.slice (some ⟨lb, 0, none⟩) n c) v1 room (l.set k none) (free ++ [(k : Int)]) ∧ Mod (Foot ab (.slice (some ⟨lb, 0, none⟩) n c) fv) w (w1.setCell ⟨ab, 2, none⟩ v1) ∧
   (∀ k, Foot ab (.slice (some ⟨lb, 0, none⟩) n c) v1 k → Foot ab (.slice (some ⟨lb, 0, none⟩) n c) fv k ∨ w.heap.size ≤ k) := by
 have hab := h.lt (.inl rfl)
 have hne := h.ne_f hT2
 have hblk : w1.heap[ab]? = some (.cells #[.int .i64 room, (.slice (some ⟨lb, 0, none⟩) n c), fv] ta (0, 0)) := (hg.block ab (Nat.lt_of_lt_of_le hab hm.size) (fun e => hne e.symm)).trans (hW.trans h.blk)
 have hv1 : v1.ownBlock ≠ some ab := fun e => by
  rcases hb ab e with h1 | h1
  ·exact hne h1
  ·have := hm.size; omega
 refine ⟨hblk, ⟨blk_set2 hblk, ?_, ?_, h.encl, h.inv.free hk⟩, ?_, ?_⟩
 ·refine own_keep hrow fun k e => ?_
  have hk := own_lt hrow e
  rw [heap_set_ne (by rintro rfl; exact h.ne_l hT e)]
  exact hg.block k hk (fun e' => h.ne_lf hT3 e e'.symm)
 ·simp only [List.map_append, List.map_cons, List.map_nil, List.length_append, List.length_cons, List.length_nil]
  exact own_keep hown fun k e => heap_set_ne (by rintro rfl; exact hv1 e)
 ·exact (hm.grown hg (fun k e => .inl (.inr (.inr e)))).setCell (.inl (.inl rfl)) _
 ·rintro k (rfl | e | e)
  ·exact .inl (.inl rfl)
  ·exact .inl (.inr (.inl e))
  ·rcases hb k e with h1 | h1
   ·exact .inl (.inr (.inr h1))
   ·exact .inr (Nat.le_trans hm.size h1)
end
open Go Go.RowKit
def setL (w : World) (b : Nat) : Nat → List Value → World
 | _, [] => w
 | o, u :: us => setL (w.setCell ⟨b, o, none⟩ u) b (o + 1) us
def setSeg (xs : List Value) : Nat → List Value → List Value
 | _, [] => xs
 | o, u :: us => setSeg (xs.set o u) (o + 1) us
theorem setSeg_eq (c : List Value) : ∀ (us a b : List Value), b.length = us.length → setSeg (a ++ (b ++ c)) a.length us = a ++ (us ++ c)
 | [], a, b, h => by
  have : b = [] := List.eq_nil_of_length_eq_zero (by simpa using h)
  subst this; rfl
 | u :: us, a, b, h => by
  cases b with
  | nil => simp at h
  | cons b0 b =>
   have := setSeg_eq c us (a ++ [u]) b (by simpa using h)
   simp only [setSeg]
   rw [List.set_append_right _ _ (by omega)]
   simp only [Nat.sub_self, List.cons_append, List.set_cons_zero]
   simpa using this
theorem own_setL {base g n c : Nat} {e : TypeId} {size : Nat} : ∀ (us : List Value) (w : World) (xs : List Value) (o : Nat), w.ownsRow base e size (.slice (some ⟨g, 0, none⟩) n c) n xs → o + us.length ≤ xs.length →
  (setL w g o us).ownsRow base e size (.slice (some ⟨g, 0, none⟩) n c) n (setSeg xs o us)
 | [], _, _, _, h, _ => h
 | u :: us, w, xs, o, h, hl => by
  simp only [List.length_cons] at hl
  exact own_setL us _ _ (o + 1) (own_set h o (by omega) u) (by simp; omega)
theorem setL_heap (b : Nat) : ∀ (us : List Value) (w : World) (o : Nat) (k : Nat), k ≠ b → (setL w b o us).heap[k]? = w.heap[k]?
 | [], _, _, _, _ => rfl
 | u :: us, w, o, k, h => by
  rw [setL, setL_heap b us _ _ k h]
  exact heap_set_ne h
theorem setL_size (b : Nat) : ∀ (us : List Value) (w : World) (o : Nat), (setL w b o us).heap.size = w.heap.size
 | [], _, _ => rfl
 | u :: us, w, o => by rw [setL, setL_size b us]; simp
theorem setL_mod {S : Nat → Prop} {a : World} (b : Nat) (hb : S b ∨ a.heap.size ≤ b) : ∀ (us : List Value) (w : World) (o : Nat), Mod S a w → Mod S a (setL w b o us)
 | [], _, _, h => h
 | u :: us, w, o, h => setL_mod b hb us _ _ (h.setCell hb u)
theorem flat_split {β : Type} (f : β → List Value) (l : List β) (k : Nat) (p : β) (h : l[k]? = some p) : l.flatMap f = (l.take k).flatMap f ++ (f p ++ (l.drop (k + 1)).flatMap f) := by
 have hk := (List.getElem?_eq_some_iff.1 h).1
 have h2 : l[k] = p := by simpa [List.getElem?_eq_getElem hk] using h
 conv => lhs; rw [← List.take_append_drop k l]
 rw [List.flatMap_append, List.drop_eq_getElem_cons hk, List.flatMap_cons, h2]
theorem take_set_at {β : Type} (l : List β) (k : Nat) (q : β) : (l.set k q).take k = l.take k := by
 rw [List.take_set]; exact List.set_eq_of_length_le (by simp; omega)
theorem drop_set_at {β : Type} (l : List β) (k : Nat) (q : β) : (l.set k q).drop (k + 1) = l.drop (k + 1) := List.drop_set_of_lt (by omega)
theorem own_place {β : Type} (f : β → List Value) {m : Nat} (hf : ∀ b, (f b).length = m) {w : World} {base g n c : Nat} {e : TypeId} {l : List β} (h : w.ownsRow base e m (.slice (some ⟨g, 0, none⟩) n c) n (l.flatMap f)) {k : Nat} {p : β} (hk : l[k]? = some p) (q : β) :
  (setL w g (k * m) (f q)).ownsRow base e m (.slice (some ⟨g, 0, none⟩) n c) n ((l.set k q).flatMap f) := by
 have hkl := (List.getElem?_eq_some_iff.1 hk).1
 have h1 := flat_split f l k p hk
 have h2 := flat_split f (l.set k q) k q (by rw [List.getElem?_set_self hkl])
 have hlen : ((l.take k).flatMap f).length = k * m := by rw [flat_length f m hf, List.length_take, Nat.min_eq_left (by omega)]
 have h3 := own_setL (f q) w (l.flatMap f) (k * m) h (by
  rw [hf, flat_length f m hf, ← Nat.succ_mul]; exact Nat.mul_le_mul_right _ hkl)
 rw [h1, ← hlen, setSeg_eq _ _ _ _ (by rw [hf, hf]), hlen] at h3
 rw [h2, take_set_at, drop_set_at]
 exact h3
section
variable {α : Type} {enc : α → List Value} {z : List Value} {ta tp ti : TypeId} {w w' : World} {ab : Nat} {lv fv : Value} {room : Int} {l : List (Option α)} {free : List Int}
theorem Ar.put_place {lb n c : Nat} (h : Ar enc z ta tp ti w ab (.slice (some ⟨lb, 0, none⟩) n c) fv room l free) {k : Nat} {p : Option α} (hk : l[k]? = some p) (q : Option α) :
  (setL w lb (k * (z.length + 1)) (encP enc z q)).ownsRow 0 tp (z.length + 1) (.slice (some ⟨lb, 0, none⟩) n c) (l.set k q).length ((l.set k q).flatMap (encP enc z)) := by
 have hr := h.row
 obtain ⟨_, _, e, _⟩ := own_slice hr
 cases e
 have := own_place (encP enc z) (encP_length h.encl) hr hk q
 simpa using this
theorem Ar.set_thing {lb n c : Nat} (h : Ar enc z ta tp ti w ab (.slice (some ⟨lb, 0, none⟩) n c) fv room l free) (hT : ta ≠ tp) (hT3 : tp ≠ ti) {k : Nat} {v : α} (hk : l[k]? = some (some v)) (u : α) :
  Ar enc z ta tp ti (setL w lb (k * (z.length + 1)) (enc u)) ab (.slice (some ⟨lb, 0, none⟩) n c) fv room (l.set k (some u)) free ∧ Mod (Foot ab (.slice (some ⟨lb, 0, none⟩) n c) fv) w (setL w lb (k * (z.length + 1)) (enc u)) := by
 have hr := h.row
 obtain ⟨_, _, e, _⟩ := own_slice hr
 cases e
 have hn1 : ab ≠ lb := fun e => h.ne_l hT (by rw [e]; rfl)
 have hrow : (setL w lb (k * (z.length + 1)) (enc u)).ownsRow 0 tp (z.length + 1) (.slice (some ⟨lb, 0, none⟩) l.length c) (l.set k (some u)).length ((l.set k (some u)).flatMap (encP enc z)) := by
  have hkl := (List.getElem?_eq_some_iff.1 hk).1
  have h1 := flat_split (encP enc z) l k _ hk
  have h2 := flat_split (encP enc z) (l.set k (some u)) k _ (by rw [List.getElem?_set_self hkl])
  have hlen : ((l.take k).flatMap (encP enc z)).length = k * (z.length + 1) := by rw [flat_length _ _ (encP_length h.encl), List.length_take, Nat.min_eq_left (by omega)]
  have h3 := own_setL (enc u) w (l.flatMap (encP enc z)) (k * (z.length + 1)) hr (by
   rw [h.encl, flat_length _ _ (encP_length h.encl)]
   have := Nat.mul_le_mul_right (z.length + 1) hkl
   rw [Nat.succ_mul] at this; omega)
  rw [h1] at h3
  simp only [encP, List.append_assoc] at h3
  rw [← hlen, setSeg_eq _ _ _ _ (by rw [h.encl, h.encl]), hlen] at h3
  rw [h2, take_set_at, drop_set_at]
  simpa [encP] using h3
 refine ⟨⟨(setL_heap lb _ _ _ _ hn1).trans h.blk, hrow, own_keep h.fre fun k e => setL_heap lb _ _ _ _ ?_, h.encl, h.inv.set hk u⟩, setL_mod lb (.inl (.inr (.inl rfl))) _ _ _ (Mod.refl _ _)⟩
 rintro rfl; exact h.ne_lf hT3 (k := k) rfl e
end
open Go Go.RowKit
section
variable {α : Type} {enc : α → List Value} {z : List Value} {ta tp ti : TypeId} {w w' : World} {ab : Nat} {lv fv : Value} {room : Int} {l : List (Option α)} {free : List Int}
theorem Ar.reuse {lb n c fb c' nq k : Nat} {i : Int} (q : Option α) (h : Ar enc z ta tp ti w ab (.slice (some ⟨lb, 0, none⟩) n c) (.slice (some ⟨fb, 0, none⟩) (free.length + 1) c') room l (free ++ [i])) (hT : ta ≠ tp) (hT2 : ta ≠ ti) (hT3 : tp ≠ ti)
  {p : Option α} (hk : l[k]? = some p) (hi : ArInv room (l.set k q) free) :
  Ar enc z ta tp ti (setL ((w.drewN nq).setCell ⟨ab, 2, none⟩ (.slice (some ⟨fb, 0, none⟩) free.length c')) lb (k * (z.length + 1)) (encP enc z q)) ab (.slice (some ⟨lb, 0, none⟩) n c) (.slice (some ⟨fb, 0, none⟩) free.length c') room (l.set k q) free ∧
  Mod (Foot ab (.slice (some ⟨lb, 0, none⟩) n c) (.slice (some ⟨fb, 0, none⟩) (free.length + 1) c')) w (setL ((w.drewN nq).setCell ⟨ab, 2, none⟩ (.slice (some ⟨fb, 0, none⟩) free.length c')) lb (k * (z.length + 1)) (encP enc z q)) ∧
  ∀ j, Foot ab (.slice (some ⟨lb, 0, none⟩) n c) (.slice (some ⟨fb, 0, none⟩) free.length c') j → Foot ab (.slice (some ⟨lb, 0, none⟩) n c) (.slice (some ⟨fb, 0, none⟩) (free.length + 1) c') j ∨ w.heap.size ≤ j := by
 have n1 : ab ≠ lb := fun e => h.ne_l hT (by rw [e]; rfl)
 have n2 : ab ≠ fb := fun e => h.ne_f hT2 (by rw [e]; rfl)
 have n3 : lb ≠ fb := fun e => h.ne_lf (k := lb) hT3 rfl (by rw [e]; rfl)
 have hr := h.row
 obtain ⟨_, _, e, _⟩ := own_slice hr
 cases e
 have hf0 : w.ownsRow 0 ti 1 (.slice (some ⟨fb, 0, none⟩) (free.length + 1) c') (free.length + 1) ((free ++ [i]).map (.int .i64)) := by
  have := h.fre; simpa only [List.length_append, List.length_cons, List.length_nil, Nat.zero_add] using this
 have hf := own_take hf0 free.length (by omega)
 rw [Nat.mul_one, List.map_append, List.take_left' (by simp)] at hf
 refine ⟨⟨?_, ?_, ?_, h.encl, hi⟩, ?_, fun j hj => ?_⟩
 ·rw [setL_heap _ _ _ _ _ n1]
  exact blk_set2 (w := w.drewN nq) h.blk
 ·have hrow : (((w.drewN nq).setCell ⟨ab, 2, none⟩ (.slice (some ⟨fb, 0, none⟩) free.length c'))).ownsRow 0 tp (z.length + 1) (.slice (some ⟨lb, 0, none⟩) l.length c) l.length (l.flatMap (encP enc z)) :=
   own_keep h.row fun j e => by cases e; exact heap_set_ne (w := w.drewN nq) (Ne.symm n1)
  have := own_place (encP enc z) (encP_length h.encl) hrow hk q
  simpa using this
 ·exact own_keep hf fun j e => by
   cases e
   rw [setL_heap _ _ _ _ _ (Ne.symm n3)]
   exact heap_set_ne (w := w.drewN nq) (Ne.symm n2)
 ·exact setL_mod lb (.inl (.inr (.inl rfl))) _ _ _ (((Mod.refl _ w).drewN nq).setCell (.inl (.inl rfl)) _)
 ·rcases hj with rfl | e | e
  ·exact .inl (.inl rfl)
  ·exact .inl (.inr (.inl e))
  ·exact .inl (.inr (.inr e))
end
open Go Go.RowKit
theorem Mod.of_grown {w w' : World} {row : Option Nat} (hg : w.grownBy w' row) : Mod (fun k => row = some k) w w' := (Mod.refl _ w).grown hg fun _ h => .inl h
open Go Go.RowKit
theorem setL_heap_same {g : Nat} {t : TypeId} : ∀ (us : List Value) (w : World) (o : Nat) (cs : List Value), w.heap[g]? = some (.cells cs.toArray t (0, 0)) → (setL w g o us).heap[g]? = some (.cells (setSeg cs o us).toArray t (0, 0))
 | [], _, _, _, h => h
 | u :: us, w, o, cs, h => by
  rw [setL, setSeg]
  refine setL_heap_same us _ _ _ ?_
  rw [heap_setCell_same w g o _ t u h]
  simp
theorem setL_whole {w : World} {g : Nat} {t : TypeId} {cs us : List Value} (h : w.heap[g]? = some (.cells cs.toArray t (0, 0))) (hl : cs.length = us.length) : (setL w g 0 us).heap[g]? = some (.cells us.toArray t (0, 0)) := by
 have := setL_heap_same us w 0 cs h
 have h2 := setSeg_eq [] us [] cs hl
 simp at h2
 rwa [h2] at this
open Go Go.RowKit
theorem ret_row {P : Program} {fn : Func} {R : Ending → World → Prop} {a : Act} {W : World} {p : Tmp} {ty t : TypeId} {d : TypeDesc} (g : Nat) (us : List Value) (h : fn.results = #[.cell p ty]) (hp : a.tmps.getD p undef = .pointer (some ⟨g, 0, none⟩))
  (hg : W.heap[g]? = some (.cells us.toArray t (0, 0))) (hu : P.underlying ty = some d) (hd : (match d with | .struct _ | .array _ _ => true | _ => false) = true) (hi : (P.info? ty).map (·.size) = some us.length)
  (hdf : a.defers = []) (hR : R (.returned (.agg us.toArray)) W) : bodyPost P fn R .ret a W :=
 bodyPost_ret (results_cell_row h a.tmps W g t us.toArray (0, 0) d hp hg hu hd (by simpa using hi)) hdf hR
end Go.Proofs.Bo

namespace Go.Proofs.Bo
open Go Go.RowKit
structure Sg where
 ls : Int
 la : Int
 hs : Int
 ha : Int
 v : Int
deriving DecidableEq, Inhabited
def encS (s : Sg) : List Value := [.int .i64 s.ls, .int .i64 s.la, .int .i64 s.hs, .int .i64 s.ha, .int .i64 s.v]
structure Nd where
 s : Sg
 k0 : Int
 k1 : Int
 p : Int
 red : Bool
deriving DecidableEq, Inhabited
def encNd (n : Nd) : List Value := [.int .i64 n.s.ls, .int .i64 n.s.la, .int .i64 n.s.hs, .int .i64 n.s.ha, .int .i64 n.s.v, .int .i64 n.k0, .int .i64 n.k1, .int .i64 n.p, .bool n.red]
def zNd : List Value := [.int .i64 0, .int .i64 0, .int .i64 0, .int .i64 0, .int .i64 0, .int .i64 0, .int .i64 0, .int .i64 0, .bool false]
end Go.Proofs.Bo
