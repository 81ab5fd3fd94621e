import Derived.Test.YtniemignjlanaaaBo0
set_option linter.unusedVariables false
namespace Go.Proofs.Bo
open Go Go.RowKit

/-- The cells of a place: a thing and 'true', or zeros. -/
def encP {α : Type} (enc : α → List Value) (z : List Value) : Option α → List Value
  | none => z ++ [.bool false]
  | some v => enc v ++ [.bool true]

/-- An arena's things and free places. -/
structure ArInv {α : Type} (room : Int) (l : List (Option α)) (free : List Int) : Prop where
  room0 : 0 ≤ room
  room1 : room ≤ 65536
  fl : free.length ≤ l.length
  lr : (l.length : Int) ≤ room
  nodup : free.Nodup
  mem : ∀ i : Int, i ∈ free ↔ ∃ k : Nat, i = k ∧ l[k]? = some none

/-- An arena in memory. ta: the type of its struct; tp: of its places. -/
structure Ar {α : Type} (enc : α → List Value) (z : List Value) (ta tp ti : TypeId) (w : World) (ab : Nat) (lv fv : Value) (room : Int) (l : List (Option α)) (free : List Int) : Prop where
  blk : w.heap[ab]? = some (.cells #[.int .i64 room, lv, fv] ta (0, 0))
  row : w.ownsRow 0 tp (z.length + 1) lv l.length (l.flatMap (encP enc z))
  fre : w.ownsRow 0 ti 1 fv free.length (free.map (.int .i64))
  encl : ∀ v, (enc v).length = z.length
  inv : ArInv room l free

section
variable {α : Type} {enc : α → List Value} {z : List Value} {ta tp ti : TypeId} {w w' : World} {ab : Nat} {lv fv : Value} {room : Int} {l : List (Option α)} {free : List Int}

/-- The blocks of an arena. -/
def Foot (ab : Nat) (lv fv : Value) (k : Nat) : Prop := k = ab ∨ lv.ownBlock = some k ∨ fv.ownBlock = some k

theorem Ar.keep (h : Ar enc z ta tp ti w ab lv fv room l free) (hk : ∀ k, Foot ab lv fv k → w'.heap[k]? = w.heap[k]?) : Ar enc z ta tp ti w' ab lv fv room l free :=
  ⟨(hk _ (.inl rfl)).trans h.blk, own_keep h.row fun _ e => hk _ (.inr (.inl e)), own_keep h.fre fun _ e => hk _ (.inr (.inr e)), h.encl, h.inv⟩
theorem Ar.drewN (h : Ar enc z ta tp ti w ab lv fv room l free) (n : Nat) : Ar enc z ta tp ti (w.drewN n) ab lv fv room l free := h.keep fun _ _ => rfl
theorem Ar.lt (h : Ar enc z ta tp ti w ab lv fv room l free) {k : Nat} (hk : Foot ab lv fv k) : k < w.heap.size := by
  rcases hk with rfl | hk | hk
  · exact (Array.getElem?_eq_some_iff.1 h.blk).1
  · exact own_lt h.row hk
  · exact own_lt h.fre hk
theorem Ar.mod {S : Nat → Prop} (h : Ar enc z ta tp ti w ab lv fv room l free) (hm : Mod S w w') (hs : ∀ k, Foot ab lv fv k → ¬ S k) : Ar enc z ta tp ti w' ab lv fv room l free :=
  h.keep fun k hk => hm.block k (h.lt hk) (hs k hk)

theorem Ar.c0 (h : Ar enc z ta tp ti w ab lv fv room l free) : w.cell? ⟨ab, 0, none⟩ = some (.int .i64 room) := by simp [World.cell?, h.blk]
theorem Ar.c1 (h : Ar enc z ta tp ti w ab lv fv room l free) : w.cell? ⟨ab, 1, none⟩ = some lv := by simp [World.cell?, h.blk]
theorem Ar.c2 (h : Ar enc z ta tp ti w ab lv fv room l free) : w.cell? ⟨ab, 2, none⟩ = some fv := by simp [World.cell?, h.blk]
theorem Ar.fr (h : Ar enc z ta tp ti w ab lv fv room l free) (j : Nat) : w.frozen? ⟨ab, j, none⟩ = false := by simp [World.frozen?, h.blk]
theorem Ar.flen (h : Ar enc z ta tp ti w ab lv fv room l free) : free.length ≤ l.length ∧ l.length ≤ 65536 := by
  have := h.inv.fl; have := h.inv.lr; have := h.inv.room1; omega

theorem encP_length (he : ∀ v, (enc v).length = z.length) (p : Option α) : (encP enc z p).length = z.length + 1 := by
  cases p <;> simp [encP, he]

/-- A cell of the place of a row that is made of pieces of one length. -/
theorem flat_get {β : Type} (f : β → List Value) (m : Nat) (hf : ∀ b, (f b).length = m) (l : List β) (i j : Nat) (hj : j < m) : (l.flatMap f)[i * m + j]? = (l[i]?).bind fun b => (f b)[j]? := by
  induction l generalizing i with
  | nil => simp
  | cons b l ih =>
    rw [List.flatMap_cons]
    cases i with
    | zero => rw [List.getElem?_append_left (by rw [hf]; omega)]; simp
    | succ i =>
      rw [List.getElem?_append_right (by rw [hf, Nat.succ_mul]; omega), hf, show (i + 1) * m + j - m = i * m + j by rw [Nat.succ_mul]; omega, ih]
      simp

theorem flat_set {β : Type} (f : β → List Value) (m : Nat) (hf : ∀ b, (f b).length = m) (l : List β) (i j : Nat) (hj : j < m) (u : Value) (b b' : β) (hb : l[i]? = some b) (hb' : f b' = (f b).set j u) :
    (l.flatMap f).set (i * m + j) u = (l.set i b').flatMap f := by
  induction l generalizing i with
  | nil => simp at hb
  | cons c l ih =>
    cases i with
    | zero =>
      simp at hb; subst hb
      simp only [Nat.zero_mul, Nat.zero_add, List.flatMap_cons, List.set_cons_zero, hb']
      rw [List.set_append_left _ _ (by rw [hf]; omega)]
    | succ i =>
      simp only [List.flatMap_cons, List.set_cons_succ]
      rw [List.set_append_right _ _ (by rw [hf, Nat.succ_mul]; omega), hf, show (i + 1) * m + j - m = i * m + j by rw [Nat.succ_mul]; omega]
      rw [ih i (by simpa using hb)]

theorem flat_length {β : Type} (f : β → List Value) (m : Nat) (hf : ∀ b, (f b).length = m) (l : List β) : (l.flatMap f).length = l.length * m := by
  induction l with
  | nil => simp
  | cons b l ih => rw [List.flatMap_cons, List.length_append, ih, hf, List.length_cons, Nat.succ_mul]; omega

/-- The row's address, where a place is. -/
theorem Ar.place (h : Ar enc z ta tp ti w ab lv fv room l free) (hp : 0 < l.length) : ∃ lb c, lv = .slice (some ⟨lb, 0, none⟩) l.length c ∧ l.length ≤ c ∧ c ≤ maxLen := by
  obtain ⟨A, c, rfl, h1, h2, h3⟩ := own_slice h.row
  obtain ⟨g, rfl⟩ := h3 hp
  exact ⟨g, c, rfl, h1, h2⟩

theorem Ar.cell {lb n c : Nat} (h : Ar enc z ta tp ti w ab (.slice (some ⟨lb, 0, none⟩) n c) fv room l free) {i : Nat} {p : Option α} (hi : l[i]? = some p) {j : Nat} {u : Value} (hu : (encP enc z p)[j]? = some u) :
    w.cell? ⟨lb, i * (z.length + 1) + j, none⟩ = some u ∧ w.frozen? ⟨lb, i * (z.length + 1) + j, none⟩ = false := by
  have hr := h.row
  obtain ⟨A, c', e, _, _, _⟩ := own_slice hr
  cases e
  refine own_cell hr ?_
  rw [flat_get (encP enc z) (z.length + 1) (encP_length h.encl) l i j (by have := (List.getElem?_eq_some_iff.1 hu).1; rw [encP_length h.encl] at this; exact this), hi]
  exact hu
end
end Go.Proofs.Bo
