import Derived.Test.YtgehgjaglgafdaaGreatG13
import Derived.Test.YtgehgjaglgafdaaGreatG09
set_option linter.unusedVariables false
set_option linter.unusedSimpArgs false
namespace Go.Proofs.Bo
open Go Go.RowKit Go.Shelf
theorem items_spec {α : Type} : ∀ (l : List (Option α)) (b : Nat) (x : Nat × α), x ∈ items b l → b ≤ x.1 ∧ l[x.1 - b]? = some (some x.2)
 | [], _, _, h => by simp [items] at h
 | none :: l, b, x, h => by
  obtain ⟨h1, h2⟩ := items_spec l (b + 1) x h
  refine ⟨by omega, ?_⟩
  rw [show x.1 - b = (x.1 - (b + 1)) + 1 by omega]; simpa using h2
 | some v :: l, b, x, h => by
  simp only [items, List.mem_cons] at h
  rcases h with rfl | h
  ·simp
  ·obtain ⟨h1, h2⟩ := items_spec l (b + 1) x h
   refine ⟨by omega, ?_⟩
   rw [show x.1 - b = (x.1 - (b + 1)) + 1 by omega]; simpa using h2
section
variable {w w' : World} {tb ab N : Nat} {lv fv : Value} {room : Int} {free : List Int} {t : T}
theorem Holds.item {σ : List (Option Nd)} {root : Int} (h : Holds σ root t) {x : Nat × Nd} (hx : x ∈ items 0 σ) : ∃ c b s l r, t = plug c (.N x.1 b s l r) := by
 have := (items_spec σ 0 x hx).2
 simp only [Nat.sub_zero] at this
 exact mem_path t x.1 (h.just _ _ (nod_of this))
attribute [local go_sem] Oper.semAt_some
end
open Go Go.RowKit
section
variable {w w' : World} {tb ab N : Nat} {lv fv : Value} {room : Int} {free : List Int} {t : T}
theorem lenTZ (h : TS w tb ab lv fv room N free t) : Calls Tryz.prog 159 #[.pointer (some ⟨tb, 0, none⟩)] w fun e w' => e = .returned (.int .i64 t.size) ∧ Mod (fun _ => False) w w' := by
 obtain ⟨d1, d2, _⟩ := h.root
 obtain ⟨root, σ, m, hh, _⟩ := h
 have P := lenN m.a
 rw [← hh.count m.a.inv] at P
 clear m hh
 go_enter Tryz.func159, Tryz.ntmps159
 go_wp2_with fail
 refine P.mono ?_; rintro e w' ⟨rfl, n, rfl⟩
 go_wp2_with fail
 go_ret
 exact ⟨rfl, (Mod.refl _ _).drewN n⟩
theorem roomTZ (h : TS w tb ab lv fv room N free t) : Calls Tryz.prog 162 #[.pointer (some ⟨tb, 0, none⟩)] w fun e w' => e = .returned (.int .i64 room) ∧ Mod (fun _ => False) w w' := by
 obtain ⟨d1, d2, _⟩ := h.root
 obtain ⟨root, σ, m, hh, _⟩ := h
 have P := roomN m.a
 clear m hh
 go_enter Tryz.func162, Tryz.ntmps162
 go_wp2_with fail
 refine P.mono ?_; rintro e w' ⟨rfl, hw⟩; subst hw
 go_wp2_with fail
 go_ret
 exact ⟨rfl, Mod.refl _ _⟩
theorem fine_E : Fine .E := ⟨rfl, 0, rfl⟩
theorem row_nil : Row [] := ⟨.nil, by simp⟩
theorem holds_nil : Holds [] (-1) .E := ⟨rfl, trivial, .nil, by intro k n h; unfold nod at h; split at h <;> simp at h⟩
theorem clearTZ (h : TS w tb ab lv fv room N free t) : Calls Tryz.prog 152 #[.pointer (some ⟨tb, 0, none⟩)] w fun e w' => e = .returned (.tuple #[]) ∧ TS w' tb ab (.slice none 0 0) (.slice none 0 0) room 0 [] .E ∧ Mod (TF tb ab lv fv) w w' := by
 obtain ⟨d1, d2, _⟩ := h.root
 obtain ⟨root, σ, m, hh, _⟩ := h
 have P := resetN m.a
 have hne := m.ne
 have ht := m.t
 clear m hh
 go_enter Tryz.func152, Tryz.ntmps152
 go_wp2_with fail
 refine P.mono ?_; rintro e w1 ⟨rfl, A1, M1⟩
 have m1 : TM w1 tb ab (.slice none 0 0) (.slice none 0 0) room root [] [] := ⟨M1.heap ht hne, A1⟩
 obtain ⟨T2, M2⟩ := m1.setRoot (-1)
 obtain ⟨q1, q2⟩ := blkc m1.t
 clear P d1 d2 A1 m1
 go_wp2_with fail
 go_end0
 exact ⟨rfl, ⟨_, _, T2, holds_nil, rfl⟩, (M1.mono fun _ h => .inl (.inr h)).trans M2 fun i h => .inl (.inl h)⟩
theorem newTZ_no (room : Int) (hr : room < 0 ∨ 4096 < room) (w : World) : Calls Tryz.prog 62 #[.int .i64 room] w fun e w' => e = .returned (.tuple #[.pointer none, .int .i64 1]) ∧ w' = w := by
 rcases hr with hr | hr
 ·go_enter Tryz.func62, Tryz.ntmps62
  go_wp2_with fail
  go_ret2
  exact ⟨rfl, rfl⟩
 ·have h0 : ¬ room < 0 := by omega
  go_enter Tryz.func62, Tryz.ntmps62
  go_wp2_with fail
  go_ret2
  exact ⟨rfl, rfl⟩
theorem newTZ (room : Int) (h0 : 0 ≤ room) (h1 : room ≤ 4096) (w : World) : Calls Tryz.prog 62 #[.int .i64 room] w fun e w' => ∃ tb, e = .returned (.tuple #[.pointer (some ⟨tb, 0, none⟩), .int .i64 0]) ∧ TS w' tb w.heap.size (.slice none 0 0) (.slice none 0 0) room 0 [] .E ∧ w.heap.size ≤ tb ∧ Mod (fun _ => False) w w' := by
 have P := newN room h0 (by omega) w
 have h2 : ¬ room < 0 := by omega
 have h3 : ¬ 4096 < room := by omega
 clear h0 h1
 go_enter Tryz.func62, Tryz.ntmps62
 go_wp2_with fail
 refine P.mono ?_; rintro e w1 ⟨rfl, A1, B1⟩
 clear P
 go_wp2_with fail
 go_ret2
 have hM : Mod (fun _ => False) w1 (w1.alloc (.cells #[.pointer (some ⟨w.heap.size, 0, none⟩), .int .i64 (-1)] 123)) := (Mod.refl _ _).alloc _
 exact ⟨w1.heap.size, rfl, ⟨-1, [], ⟨alloc_0 _ _, A1.mod hM fun _ _ h => h⟩, holds_nil, rfl⟩, B1.size, (Mod.of_below B1).trans' hM⟩
end
open Go Go.RowKit
def SinkO (c : Ctx) (X : T) (n : Nat) : Prop := RBC c (n + 1) ∧ ((X.red = false ∧ RBT X n) ∨ (X.red = true ∧ RBT X.black (n + 1)))
theorem red_black (X : T) : X.black.red = false := by cases X <;> rfl
theorem sinkE0 {c : Ctx} {X : T} {n : Nat} (h : SinkO c X n) (hx : c = [] ∨ X.red = true) : Fine (plug c X.black) := by
 obtain ⟨h1, ⟨h2, h3⟩ | ⟨h2, h3⟩⟩ := h
 ·rcases hx with rfl | hx
  ·refine ⟨red_black X, ?_⟩
   have : X.black = X := by cases X with | E => rfl | N i b s l r => simp only [T.red] at h2; subst h2; rfl
   rw [show plug [] X.black = X.black from rfl, this]
   exact ⟨n, h3⟩
  ·rw [h2] at hx; cases hx
 ·exact fine_plug c _ (n + 1) h1 h3 fun _ => red_black X
def SinkK (c1 : Ctx) (b : Bool) (A B X : T) (n : Nat) : Prop :=
 RBT A n ∧ RBT B n ∧ RBT X n ∧ X.red = false ∧ if b then c1 ≠ [] ∧ cred c1 = false ∧ RBC c1 (n + 1) else RBC c1 (n + 2)
theorem sink_sib {d b : Bool} {p : Int} {sp : Sg} {o X : T} {c : Ctx} {n : Nat} (h : SinkO (⟨d, p, b, sp, o⟩ :: c) X n) (hX : X.red = false) :
  RBT X n ∧ RBT o (n + 1) ∧ o ≠ .E ∧ if b then o.red = false ∧ c ≠ [] ∧ cred c = false ∧ RBC c (n + 1) else RBC c (n + 2) := by
 obtain ⟨⟨h1, h2⟩, ⟨h3, h4⟩ | ⟨h3, h4⟩⟩ := h
 ·exact ⟨h4, h1, by rintro rfl; simp [RBT] at h1, h2⟩
 ·rw [hX] at h3; cases h3
theorem sink_black {d b : Bool} {p w : Int} {sp sw : Sg} {A B X : T} {c : Ctx} {n : Nat} (h : SinkO (⟨d, p, b, sp, T.mk d w false sw A B⟩ :: c) X n) (hX : X.red = false) : SinkK c b A B X n := by
 obtain ⟨h1, h2, _, h4⟩ := sink_sib h hX
 rw [rbt_mk] at h2
 simp only [Bool.false_eq_true, if_false] at h2
 obtain ⟨m, e, h5, h6⟩ := h2
 obtain rfl : n = m := by omega
 refine ⟨h5, h6, h1, hX, ?_⟩
 cases b
 ·simpa using h4
 ·simp only [if_true] at h4 ⊢; exact h4.2
theorem sink_red {d b : Bool} {p w : Int} {sp sw : Sg} {A B X : T} {c : Ctx} {n : Nat} (h : SinkO (⟨d, p, b, sp, T.mk d w true sw A B⟩ :: c) X n) (hX : X.red = false) :
  b = false ∧ ∃ k s x y, A = T.mk d k false s x y ∧ SinkK (⟨d, w, false, sw, B⟩ :: c) true x y X n := by
 obtain ⟨h1, h2, _, h4⟩ := sink_sib h hX
 rw [rbt_mk] at h2
 simp only [if_true] at h2
 obtain ⟨h5, h6, h7, h8⟩ := h2
 cases b
 ·refine ⟨rfl, ?_⟩
  cases A with
  | E => simp [RBT] at h7
  | N k b s l r =>
   simp only [T.red] at h5; subst h5
   refine ⟨k, s, _, _, T.N_mk _ _ _ _ _ d, ?_⟩
   simp only [RBT, Bool.false_eq_true, if_false] at h7
   obtain ⟨m, e, h9, h10⟩ := h7
   obtain rfl : n = m := by omega
   refine ⟨by cases d <;> assumption, by cases d <;> assumption, h1, hX, ?_⟩
   simp only [if_true]
   refine ⟨by simp, rfl, h8, ?_⟩
   simp only [Bool.false_eq_true, if_false] at h4 ⊢
   exact h4
 ·simp only [if_true, red_mk] at h4; cases h4.1
theorem sink_1 {c : Ctx} {d b : Bool} {p w : Int} {sp sw : Sg} {A B X : T} {n : Nat} (h : SinkK c b A B X n) (hA : A.red = false) (hB : B.red = false) :
  ∃ m, SinkO c (T.mk d p b sp X (T.mk d w true sw A B)) m := by
 obtain ⟨h1, h2, h3, h4, h5⟩ := h
 have ho : RBT (T.mk d w true sw A B) n := by rw [rbt_mk]; simp only [if_true]; exact ⟨hA, hB, h1, h2⟩
 cases b
 ·refine ⟨n + 1, by simpa using h5, .inl ⟨red_mk .., ?_⟩⟩
  rw [rbt_mk]; simp only [Bool.false_eq_true, if_false]; exact ⟨n, rfl, h3, ho⟩
 ·simp only [if_true] at h5
  refine ⟨n, h5.2.2, .inr ⟨red_mk .., ?_⟩⟩
  have : (T.mk d p true sp X (T.mk d w true sw A B)).black = T.mk d p false sp X (T.mk d w true sw A B) := by cases d <;> rfl
  rw [this, rbt_mk]; simp only [Bool.false_eq_true, if_false]; exact ⟨n, rfl, h3, ho⟩
theorem sink_2 {c : Ctx} {d b : Bool} {a w : Int} {sa sw : Sg} {A1 A2 B X : T} {n : Nat} (h : SinkK c b (T.mk d a true sa A1 A2) B X n) (hB : B.red = false) :
  SinkK c b A1 (T.mk d w true sw A2 B) X n := by
 obtain ⟨h1, h2, h3, h4, h5⟩ := h
 rw [rbt_mk] at h1
 simp only [if_true] at h1
 refine ⟨h1.2.2.1, ?_, h3, h4, h5⟩
 rw [rbt_mk]; simp only [if_true]; exact ⟨h1.2.1, hB, h1.2.2.2, h2⟩
theorem sink_3 {c : Ctx} {d b : Bool} {p w f : Int} {sp sw sf : Sg} {A F1 F2 X : T} {n : Nat} (h : SinkK c b A (.N f true sf F1 F2) X n) :
  Fine (plug c (T.mk d w b sw (T.mk d p false sp X A) (.N f false sf F1 F2))) := by
 obtain ⟨h1, h2, h3, h4, h5⟩ := h
 simp only [RBT, if_true] at h2
 have hP : RBT (T.mk d p false sp X A) (n + 1) := by rw [rbt_mk]; simp only [Bool.false_eq_true, if_false]; exact ⟨n, rfl, h3, h1⟩
 have hF : RBT (.N f false sf F1 F2) (n + 1) := by simp only [RBT, Bool.false_eq_true, if_false]; exact ⟨n, rfl, h2.2.2.1, h2.2.2.2⟩
 cases b
 ·refine fine_plug c _ (n + 2) (by simpa using h5) ?_ fun _ => red_mk ..
  rw [rbt_mk]; simp only [Bool.false_eq_true, if_false]; exact ⟨n + 1, rfl, hP, hF⟩
 ·simp only [if_true] at h5
  refine fine_plug c _ (n + 1) h5.2.2 ?_ ?_
  ·rw [rbt_mk]; simp only [if_true]; exact ⟨red_mk .., rfl, hP, hF⟩
  ·rintro (e | e)
   ·rw [h5.2.1] at e; cases e
   ·exact absurd e h5.1
section
variable {w w' : World} {tb ab N : Nat} {lv fv : Value} {room : Int} {free : List Int} {t : T}
def SinkR (w0 : World) (tb ab : Nat) (lv fv : Value) (room : Int) (N : Nat) (free : List Int) (L : List Sg) (g : Nat) (v1 v2 : Value) (W : World) : Prop :=
 ∃ (c : Ctx) (X : T) (n : Nat), g = 2 * c.length + (if X.red then 0 else 1) ∧ v1 = .int .i64 X.ix ∧ v2 = .int .i64 (cix c) ∧ TS W tb ab lv fv room N free (plug c X) ∧ SinkO c X n ∧ (plug c X).toL = L ∧ Mod (TF tb ab lv fv) w0 W
def SinkC (w0 : World) (tb ab : Nat) (lv fv : Value) (room : Int) (N : Nat) (free : List Int) (L : List Sg) (g : Nat) (d : Bool) (p : Nat) (X : T) (v7 : Value) (W : World) : Prop :=
 ∃ (c : Ctx) (b : Bool) (sp : Sg) (k : Nat) (s : Sg) (A B : T) (n : Nat), 2 * c.length + (if b then 0 else 1) < g ∧ v7 = .int .i64 k ∧ TS W tb ab lv fv room N free (plug (⟨d, p, b, sp, T.mk d k false s A B⟩ :: c) X) ∧ SinkK c b A B X n ∧
  (plug (⟨d, p, b, sp, T.mk d k false s A B⟩ :: c) X).toL = L ∧ Mod (TF tb ab lv fv) w0 W
structure SinkP (W : World) (tb ab : Nat) (lb cp : Nat) (fv : Value) (room : Int) (N : Nat) (free : List Int) (c : Ctx) (d : Bool) (p k : Nat) (sp s : Sg) (A B X : T) : Prop where
 ak : Calls Tryz.prog 169 #[.pointer (some ⟨tb, 0, none⟩), .int .i64 k] W fun e w' => e = .returned (.pointer (some ⟨lb, k * 10, none⟩)) ∧ w' = W
 k8 : W.cell? ⟨lb, k * 10 + 8, none⟩ = some (.bool true)
 fk : W.frozen? ⟨lb, k * 10 + 8, none⟩ = false
 p8 : (W.setCell ⟨lb, k * 10 + 8, none⟩ (.bool false)).cell? ⟨lb, p * 10 + 8, none⟩ = some (.bool false)
 fp : (W.setCell ⟨lb, k * 10 + 8, none⟩ (.bool false)).frozen? ⟨lb, p * 10 + 8, none⟩ = false
 rot : Calls Tryz.prog 188 #[.pointer (some ⟨tb, 0, none⟩), .int .i64 p, .int .i64 (di d)] ((W.setCell ⟨lb, k * 10 + 8, none⟩ (.bool false)).setCell ⟨lb, p * 10 + 8, none⟩ (.bool true))
  fun e w' => e = .returned (.tuple #[]) ∧ TS w' tb ab (.slice (some ⟨lb, 0, none⟩) N cp) fv room N free (plug (⟨d, p, true, sp, A⟩ :: ⟨d, k, false, s, B⟩ :: c) X) ∧ Mod (TF tb ab (.slice (some ⟨lb, 0, none⟩) N cp) fv) W w'
theorem sinkP {W : World} {lb cp : Nat} {c : Ctx} {d : Bool} {p k : Nat} {sp s : Sg} {A B X : T} (h : TS W tb ab (.slice (some ⟨lb, 0, none⟩) N cp) fv room N free (plug (⟨d, p, false, sp, T.mk d k true s A B⟩ :: c) X)) :
  SinkP W tb ab lb cp fv room N free c d p k sp s A B X := by
 have hf := h.flip
 have hK := TS.node_mk (c := ⟨!d, p, false, sp, X⟩ :: c) (d := d) (k := k) hf
 obtain ⟨h1, M1⟩ := TS.recol_mk (c := ⟨!d, p, false, sp, X⟩ :: c) (d := d) (k := k) hf false
 have h1' := h1.flip
 simp only [Bool.not_not] at h1'
 have hP := TS.node_mk (c := c) (d := d) (k := p) h1'
 obtain ⟨h2, M2⟩ := TS.recol_mk (c := c) (d := d) (k := p) h1' true
 have R := rotZ h2
 refine ⟨hK.at', hK.c8, hK.f8, hP.c8, hP.f8, R.mono ?_⟩
 rintro e w' ⟨rfl, h3, M3⟩
 exact ⟨rfl, h3, (M1.trans' M2).trans' M3⟩
structure SinkG (W : World) (tb ab : Nat) (lb cp : Nat) (fv : Value) (room : Int) (N : Nat) (free : List Int) (c : Ctx) (d b : Bool) (p k a : Nat) (sp s sa : Sg) (A1 A2 B X : T) : Prop where
 aa : Calls Tryz.prog 169 #[.pointer (some ⟨tb, 0, none⟩), .int .i64 a] W fun e w' => e = .returned (.pointer (some ⟨lb, a * 10, none⟩)) ∧ w' = W
 ak : Calls Tryz.prog 169 #[.pointer (some ⟨tb, 0, none⟩), .int .i64 k] W fun e w' => e = .returned (.pointer (some ⟨lb, k * 10, none⟩)) ∧ w' = W
 a8 : W.cell? ⟨lb, a * 10 + 8, none⟩ = some (.bool true)
 fa : W.frozen? ⟨lb, a * 10 + 8, none⟩ = false
 k8 : (W.setCell ⟨lb, a * 10 + 8, none⟩ (.bool false)).cell? ⟨lb, k * 10 + 8, none⟩ = some (.bool false)
 fk : (W.setCell ⟨lb, a * 10 + 8, none⟩ (.bool false)).frozen? ⟨lb, k * 10 + 8, none⟩ = false
 rot : Calls Tryz.prog 188 #[.pointer (some ⟨tb, 0, none⟩), .int .i64 k, .int .i64 (di (!d))] ((W.setCell ⟨lb, a * 10 + 8, none⟩ (.bool false)).setCell ⟨lb, k * 10 + 8, none⟩ (.bool true))
  fun e w' => e = .returned (.tuple #[]) ∧ TS w' tb ab (.slice (some ⟨lb, 0, none⟩) N cp) fv room N free (plug (⟨d, p, b, sp, T.mk d a false sa A1 (T.mk d k true s A2 B)⟩ :: c) X) ∧ Mod (TF tb ab (.slice (some ⟨lb, 0, none⟩) N cp) fv) W w'
theorem sinkG {W : World} {lb cp : Nat} {c : Ctx} {d b : Bool} {p k a : Nat} {sp s sa : Sg} {A1 A2 B X : T} (h : TS W tb ab (.slice (some ⟨lb, 0, none⟩) N cp) fv room N free (plug (⟨d, p, b, sp, T.mk d k false s (T.mk d a true sa A1 A2) B⟩ :: c) X)) :
  SinkG W tb ab lb cp fv room N free c d b p k a sp s sa A1 A2 B X := by
 have hf := h.flip
 have hK := TS.node_mk (c := ⟨!d, p, b, sp, X⟩ :: c) (d := d) (k := k) hf
 have hA := TS.node_mk (c := ⟨d, k, false, s, B⟩ :: ⟨!d, p, b, sp, X⟩ :: c) (d := d) (k := a) hf
 obtain ⟨h1, M1⟩ := TS.recol_mk (c := ⟨d, k, false, s, B⟩ :: ⟨!d, p, b, sp, X⟩ :: c) (d := d) (k := a) hf false
 have hK1 := TS.node_mk (c := ⟨!d, p, b, sp, X⟩ :: c) (d := d) (k := k) h1
 obtain ⟨h2, M2⟩ := TS.recol_mk (c := ⟨!d, p, b, sp, X⟩ :: c) (d := d) (k := k) h1 true
 rw [mk_not, mk_not d] at h2
 have R := rotZ h2
 refine ⟨hA.at', hK.at', hA.c8, hA.f8, hK1.c8, hK1.f8, R.mono ?_⟩
 rintro e w' ⟨rfl, h3, M3⟩
 have h3' := h3.flip
 simp only [Bool.not_not] at h3'
 rw [mk_not (!d), Bool.not_not, mk_not (!d), Bool.not_not] at h3'
 exact ⟨rfl, h3', (M1.trans' M2).trans' M3⟩
structure SinkF (W : World) (tb ab : Nat) (lb cp : Nat) (fv : Value) (room : Int) (N : Nat) (free : List Int) (c : Ctx) (d b : Bool) (p k f : Nat) (sp s sf : Sg) (A F1 F2 X : T) : Prop where
 ak : Calls Tryz.prog 169 #[.pointer (some ⟨tb, 0, none⟩), .int .i64 k] W fun e w' => e = .returned (.pointer (some ⟨lb, k * 10, none⟩)) ∧ w' = W
 ap : Calls Tryz.prog 169 #[.pointer (some ⟨tb, 0, none⟩), .int .i64 p] W fun e w' => e = .returned (.pointer (some ⟨lb, p * 10, none⟩)) ∧ w' = W
 pb : W.cell? ⟨lb, p * 10 + 8, none⟩ = some (.bool b)
 k8 : W.cell? ⟨lb, k * 10 + 8, none⟩ = some (.bool false)
 fk : W.frozen? ⟨lb, k * 10 + 8, none⟩ = false
 ap1 : Calls Tryz.prog 169 #[.pointer (some ⟨tb, 0, none⟩), .int .i64 p] (W.setCell ⟨lb, k * 10 + 8, none⟩ (.bool b)) fun e w' => e = .returned (.pointer (some ⟨lb, p * 10, none⟩)) ∧ w' = W.setCell ⟨lb, k * 10 + 8, none⟩ (.bool b)
 af1 : Calls Tryz.prog 169 #[.pointer (some ⟨tb, 0, none⟩), .int .i64 f] (W.setCell ⟨lb, k * 10 + 8, none⟩ (.bool b)) fun e w' => e = .returned (.pointer (some ⟨lb, f * 10, none⟩)) ∧ w' = W.setCell ⟨lb, k * 10 + 8, none⟩ (.bool b)
 p8 : (W.setCell ⟨lb, k * 10 + 8, none⟩ (.bool b)).cell? ⟨lb, p * 10 + 8, none⟩ = some (.bool b)
 fp : (W.setCell ⟨lb, k * 10 + 8, none⟩ (.bool b)).frozen? ⟨lb, p * 10 + 8, none⟩ = false
 f8 : ((W.setCell ⟨lb, k * 10 + 8, none⟩ (.bool b)).setCell ⟨lb, p * 10 + 8, none⟩ (.bool false)).cell? ⟨lb, f * 10 + 8, none⟩ = some (.bool true)
 ff : ((W.setCell ⟨lb, k * 10 + 8, none⟩ (.bool b)).setCell ⟨lb, p * 10 + 8, none⟩ (.bool false)).frozen? ⟨lb, f * 10 + 8, none⟩ = false
 rot : Calls Tryz.prog 188 #[.pointer (some ⟨tb, 0, none⟩), .int .i64 p, .int .i64 (di d)] (((W.setCell ⟨lb, k * 10 + 8, none⟩ (.bool b)).setCell ⟨lb, p * 10 + 8, none⟩ (.bool false)).setCell ⟨lb, f * 10 + 8, none⟩ (.bool false))
  fun e w' => e = .returned (.tuple #[]) ∧ TS w' tb ab (.slice (some ⟨lb, 0, none⟩) N cp) fv room N free (plug c (T.mk d k b s (T.mk d p false sp X A) (.N f false sf F1 F2))) ∧ Mod (TF tb ab (.slice (some ⟨lb, 0, none⟩) N cp) fv) W w'
theorem sinkF {W : World} {lb cp : Nat} {c : Ctx} {d b : Bool} {p k f : Nat} {sp s sf : Sg} {A F1 F2 X : T} (h : TS W tb ab (.slice (some ⟨lb, 0, none⟩) N cp) fv room N free (plug (⟨d, p, b, sp, T.mk d k false s A (.N f true sf F1 F2)⟩ :: c) X)) :
  SinkF W tb ab lb cp fv room N free c d b p k f sp s sf A F1 F2 X := by
 have hP := TS.node_mk (c := c) (d := d) (k := p) h
 have hf := h.flip
 have hK := TS.node_mk (c := ⟨!d, p, b, sp, X⟩ :: c) (d := d) (k := k) hf
 obtain ⟨h1, M1⟩ := TS.recol_mk (c := ⟨!d, p, b, sp, X⟩ :: c) (d := d) (k := k) hf b
 have h1' := h1.flip
 simp only [Bool.not_not] at h1'
 have hP1 := TS.node_mk (c := c) (d := d) (k := p) h1'
 try dsimp only at h1
 rw [mk_not d k] at h1
 have hF1 := TS.node (c := ⟨!d, k, b, s, A⟩ :: ⟨!d, p, b, sp, X⟩ :: c) (k := f) h1
 obtain ⟨h2, M2⟩ := TS.recol_mk (c := c) (d := d) (k := p) h1' false
 have h2f := TS.flip (a := ⟨d, p, false, sp, T.mk d k b s A (.N f true sf F1 F2)⟩) (c := c) h2
 try dsimp only at h2f
 rw [mk_not d k] at h2f
 have hF2 := TS.node (c := ⟨!d, k, b, s, A⟩ :: ⟨!d, p, false, sp, X⟩ :: c) (k := f) h2f
 obtain ⟨h3, M3⟩ := TS.recol (c := ⟨!d, k, b, s, A⟩ :: ⟨!d, p, false, sp, X⟩ :: c) (k := f) h2f false
 have h3' := TS.flip (a := ⟨!d, p, false, sp, X⟩) (c := c) h3
 simp only [Bool.not_not] at h3'
 rw [← mk_not d k] at h3'
 have R := rotZ (c := c) (d := d) (i := p) (u := k) h3'
 refine ⟨hK.at', hP.at', hP.c8, hK.c8, hK.f8, hP1.at', hF1.at', hP1.c8, hP1.f8, hF2.c8, hF2.f8, R.mono ?_⟩
 rintro e w' ⟨rfl, h4, M4⟩
 exact ⟨rfl, h4, ((M1.trans' M2).trans' M3).trans' M4⟩
theorem toL_sinkA {c : Ctx} {d : Bool} {p k : Int} {b b' b1 b1' : Bool} {sp s : Sg} {A B X : T} :
  (plug (⟨d, p, b', sp, A⟩ :: ⟨d, k, b1', s, B⟩ :: c) X).toL = (plug (⟨d, p, b, sp, T.mk d k b1 s A B⟩ :: c) X).toL := by
 simp only [toL_plug, cpre, cpost, toL_mk]; cases d <;> simp
theorem toL_sinkG {c : Ctx} {d b b' : Bool} {b1 b2 b3 b4 : Bool} {p k a : Int} {sp s sa : Sg} {A1 A2 B X : T} :
  (plug (⟨d, p, b', sp, T.mk d a b1 sa A1 (T.mk d k b2 s A2 B)⟩ :: c) X).toL = (plug (⟨d, p, b, sp, T.mk d k b3 s (T.mk d a b4 sa A1 A2) B⟩ :: c) X).toL := by
 simp only [toL_plug, cpre, cpost, toL_mk]; cases d <;> simp
theorem toL_sinkF {c : Ctx} {d b b1 b2 b3 b4 b5 : Bool} {p k f : Int} {sp s sf : Sg} {A F1 F2 X : T} :
  (plug c (T.mk d k b1 s (T.mk d p b2 sp X A) (.N f b3 sf F1 F2))).toL = (plug (⟨d, p, b, sp, T.mk d k b4 s A (.N f b5 sf F1 F2)⟩ :: c) X).toL := by
 simp only [toL_plug, cpre, cpost, toL_mk, T.toL]; cases d <;> simp
end
end Go.Proofs.Bo
