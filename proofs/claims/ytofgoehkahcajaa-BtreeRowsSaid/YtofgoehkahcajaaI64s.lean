import Derived.Test.YtofgoehkahcajaaBoG
set_option linter.unusedVariables false
set_option linter.unusedSimpArgs false
namespace Go.Proofs.Bo
open Go Go.RowKit
/-- A slice of numbers that came in. -/
def encI (v : Int) : List Value := [.int .i64 v]
theorem wfI {a : Int} (h : (Lit.int .i64 a).wf = true) : -9223372036854775808 ≤ a ∧ a ≤ 9223372036854775807 := by
  simp [Lit.wf, IntKind.min, IntKind.max, IntKind.bits, IntKind.signed] at h
  omega
def GI (v : Int) : Prop := -9223372036854775808 ≤ v ∧ v ≤ 9223372036854775807
theorem fitI (cs : List Value) (h : Fit [.int .i64] cs) : ∃ b, encI b = cs ∧ GI b := by
  obtain ⟨v, vs, rfl, ⟨n, rfl, hn⟩, h2⟩ := h.cons_inv
  obtain rfl := h2.nil_inv
  exact ⟨n, rfl, wfI hn⟩
theorem RdS.int1 {w W : World} {b o : Nat} {zs : List Int} {k : Nat} (hc : ∀ i z, zs[i]? = some z → ∀ j u, (encI z)[j]? = some u → w.cell? ⟨b, o + i * 1 + j, none⟩ = some u) (B : Below w.heap.size w W) (hk : k < zs.length) :
    W.cell? ⟨b, o + k, none⟩ = some (.int .i64 zs[k]) := by
  have h := hc k zs[k] (by simp [hk]) 0 _ rfl
  rw [Nat.mul_one, Nat.add_zero] at h
  exact (B.cell (p := ⟨b, o + k, none⟩) (World.block_lt_of_cell? w _ h)).trans h
end Go.Proofs.Bo
