import Derived.Test.YtniemignjlanaaaApi6
set_option linter.unusedVariables false
namespace Go.Proofs.Bo
open Go Go.RowKit

/-- A call in a script: 0 Put, 1 Delete of the key, 2 Clear. -/
structure Op6 where
  k : Int
  s : Sg
def encO6 (o : Op6) : List Value := [.int .i64 o.k, .int .i64 o.s.ls, .int .i64 o.s.la, .int .i64 o.s.hs, .int .i64 o.s.ha, .int .i64 o.s.v]
def do6L (room : Int) (o : Op6) (l : List Sg) : List Sg := if o.k = 0 then putL room o.s l else if o.k = 1 then delL (ky o.s) l else if o.k = 2 then [] else l
def do6B (o : Op6) (l : List Sg) : Bool := if o.k = 0 then false else if o.k = 1 then hasK (ky o.s) l else false
def do6E (room : Int) (o : Op6) (l : List Sg) : Int := if o.k = 0 then putE room o.s l else 0

section
variable {w w' : World} {tb : Nat} {room : Int} {l : List Sg} {X : Nat → Prop}

def Do6P (X : Nat → Prop) (w : World) (tb : Nat) (room : Int) (l : List Sg) (o : Op6) (e : Ending) (w' : World) : Prop :=
  e = .returned (.tuple #[.bool (do6B o l), .int .i64 (do6E room o l)]) ∧ RB (fun k => X k ∨ w.heap.size ≤ k) w' tb room (do6L room o l) ∧ Mod X w w'

theorem boxO (w : World) (o : Op6) : ∃ w0, w.alloc (.cells (encO6 o).toArray 47) = w0 ∧ w0.heap[w.heap.size]? = some (.cells (encO6 o).toArray 47 (0, 0)) ∧ Mod (fun _ => False) w w0 :=
  ⟨_, rfl, alloc_0 _ _, (Mod.refl _ _).alloc _⟩

theorem doesZ (h : RB X w tb room l) (o : Op6) (hf : fit64 o.s.la) : Calls Try.prog 20 #[.pointer (some ⟨tb, 0, none⟩), .agg (encO6 o).toArray] w fun e w' => Do6P X w tb room l o e w' := by
  obtain ⟨w0, hw0, b0, M0⟩ := boxO w o
  obtain ⟨d0, e0⟩ := blkc b0
  have hsz := M0.size
  have h0 := h.mod0 M0
  have fin : ∀ (w' : World) (L : List Sg), RB (fun k => X k ∨ w0.heap.size ≤ k) w' tb room L → Mod X w0 w' → RB (fun k => X k ∨ w.heap.size ≤ k) w' tb room L ∧ Mod X w w' := fun _ _ a b =>
    ⟨a.mono fun k hk _ => hk.imp id (fun h => by omega), (M0.mono fun _ h => h.elim).trans b fun j h => .inl h⟩
  replace fin := hid fin
  have P1 := rb_put h0 o.s hf
  have P2 := rb_del h0 o.s.ls o.s.la hf
  have P3 := rb_clear h0
  obtain ⟨k, ls, la, hs, ha, v⟩ := o
  unfold Do6P do6B do6E do6L
  simp only [ky, encO6, encS] at *
  replace hsz := hid hsz
  clear h
  by_cases k0 : k = 0
  · subst k0
    simp only [if_true]
    clear P2 P3
    go_enter Try.func20, Try.ntmps20
    go_wp2_with fail
    refine P1.mono ?_; rintro e w1 ⟨rfl, R1, M1⟩
    go_wp2_with fail
    go_ret2
    exact ⟨rfl, fin.out _ _ R1 M1⟩
  · rw [if_neg k0, if_neg k0, if_neg k0]
    clear P1
    by_cases k1 : k = 1
    · subst k1
      simp only [if_true]
      clear P3
      go_enter Try.func20, Try.ntmps20
      go_wp2_with fail
      refine P2.mono ?_; rintro e w1 ⟨rfl, R1, M1⟩
      go_wp2_with fail
      go_ret2
      exact ⟨rfl, fin.out _ _ R1 M1⟩
    · rw [if_neg k1, if_neg k1]
      clear P2
      by_cases k2 : k = 2
      · subst k2
        simp only [if_true]
        go_enter Try.func20, Try.ntmps20
        go_wp2_with fail
        refine P3.mono ?_; rintro e w1 ⟨rfl, R1, M1⟩
        go_wp2_with fail
        go_ret2
        exact ⟨rfl, fin.out _ _ R1 M1⟩
      · rw [if_neg k2]
        clear P3
        go_enter Try.func20, Try.ntmps20
        go_wp2_with fail
        go_ret2
        exact ⟨rfl, fin.out _ _ (h0.mono fun k hk _ => .inl hk) (Mod.refl _ _)⟩

/-- Its segment of a number. -/
def segN (n : Int) : Sg := ⟨0, n, 0, 0, n⟩
theorem segZ (n : Int) (w : World) : Calls Try.prog 13 #[.int .i64 n] w fun e w' => e = .returned (.agg (encS (segN n)).toArray) ∧ Mod (fun _ => False) w w' := by
  obtain ⟨w0, hw0, b0, M0⟩ : ∃ w0, w.alloc (.cells #[.int .i64 0, .int .i64 0, .int .i64 0, .int .i64 0, .int .i64 0] 36) = w0 ∧ w0.heap[w.heap.size]? = some (.cells #[.int .i64 0, .int .i64 0, .int .i64 0, .int .i64 0, .int .i64 0] 36 (0, 0)) ∧ Mod (fun _ => False) w w0 :=
    ⟨_, rfl, alloc_0 _ _, (Mod.refl _ _).alloc _⟩
  obtain ⟨d0, e0⟩ := blkc b0
  go_enter Try.func13, Try.ntmps13
  go_wp2_with fail
  exact ret_row w.heap.size [.int .i64 0, .int .i64 n, .int .i64 0, .int .i64 0, .int .i64 n] rfl rfl (setL_whole (cs := [.int .i64 0, .int .i64 0, .int .i64 0, .int .i64 0, .int .i64 0]) (us := [.int .i64 0, .int .i64 n, .int .i64 0, .int .i64 0, .int .i64 n]) b0 rfl) Try.underlying36 rfl (by kernel_rfl) rfl
    ⟨rfl, ((((M0.setCell (.inr (Nat.le_refl _)) _).setCell (.inr (Nat.le_refl _)) _).setCell (.inr (Nat.le_refl _)) _).setCell (.inr (Nat.le_refl _)) _).setCell (.inr (Nat.le_refl _)) _⟩

def BitR (n : Nat) (g : Nat) (v0 v3 : Value) (w W : World) : Prop := W = w ∧ ∃ m k : Nat, g = m ∧ v0 = .int .i64 m ∧ v3 = .int .i64 k ∧ n < (m + 1) * 2 ^ k ∧ m + k ≤ n
theorem bitsZ (n : Nat) (hn : n < 1000000) (w : World) : Calls Try.prog 22 #[.int .i64 n] w fun e w' => (∃ k : Nat, e = .returned (.int .i64 k) ∧ n < 2 ^ k ∧ k ≤ n) ∧ w' = w := by
  go_enter Try.func22, Try.ntmps22
  go_wp2_with fail
  go_loopg [0, 3] n (fun g v0 v3 W => BitR n g v0 v3 w W)
  case atStart => exact ⟨rfl, n, 0, rfl, rfl, rfl, by omega, by omega⟩
  case round =>
    obtain ⟨rfl, m, k, rfl, rfl, rfl, h1, h2⟩ := hrel
    cases gk with
    | zero =>
      replace h1 : n < 2 ^ k := by simpa using h1
      replace h2 : k ≤ n := by simpa using h2
      replace h1 := hid h1
      replace h2 := hid h2
      go_wp2_with fail
      go_ret
      exact ⟨⟨k, rfl, h1.out, h2.out⟩, rfl⟩
    | succ m =>
      have hp : decide (((m + 1 : Nat) : Int) > 0) = true := by simp
      have e1 : IntKind.i64.wrap ((k : Int) + 1) = ((k + 1 : Nat) : Int) := by rw [IntKind.wrap_i64]; omega
      have e2 : wrap64 (((m : Int) + 1).tdiv 2) = (((m + 1) / 2 : Nat) : Int) := by
        have : ((m : Int) + 1).tdiv 2 = (((m + 1) / 2 : Nat) : Int) := by rw [Int.tdiv_eq_ediv_of_nonneg (by omega)]; omega
        rw [this]; unfold wrap64; omega
      have h3 : n < ((m + 1) / 2 + 1) * 2 ^ (k + 1) := by
        have : (m + 1 + 1) ≤ ((m + 1) / 2 + 1) * 2 := by omega
        have := Nat.mul_le_mul_right (2 ^ k) this
        rw [Nat.pow_succ]
        have e : ((m + 1) / 2 + 1) * (2 ^ k * 2) = ((m + 1) / 2 + 1) * 2 * 2 ^ k := by rw [Nat.mul_assoc, Nat.mul_comm (2 ^ k)]
        omega
      clear h1
      replace h2 := hid h2
      replace h3 := hid h3
      replace hn := hid hn
      go_wp2_with fail
      have h2 := h2.out
      go_roundg ((m + 1) / 2)
      case measure => omega
      case rel => exact ⟨rfl, (m + 1) / 2, k + 1, rfl, by simp [e2], by simp, h3, by omega⟩
end
end Go.Proofs.Bo
