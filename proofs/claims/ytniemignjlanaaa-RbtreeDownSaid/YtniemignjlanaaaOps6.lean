import Derived.Test.YtniemignjlanaaaAlive6
import Derived.Test.YtniemignjlanaaaBoG
set_option linter.unusedVariables false
namespace Go.Proofs.Bo
open Go Go.RowKit

theorem wf64 {a : Int} (h : (Lit.int .i64 a).wf = true) : fit64 a := by
  simp [Lit.wf, IntKind.min, IntKind.max, IntKind.bits, IntKind.signed] at h
  unfold fit64
  omega
/-- An operation that can come in. -/
def GOp6 (o : Op6) : Prop := fit64 o.k ∧ fit64 o.s.ls ∧ fit64 o.s.la ∧ fit64 o.s.hs ∧ fit64 o.s.ha ∧ fit64 o.s.v
theorem fitOp6 (cs : List Value) (h : Fit [.int .i64, .int .i64, .int .i64, .int .i64, .int .i64, .int .i64] cs) : ∃ b, encO6 b = cs ∧ GOp6 b := by
  obtain ⟨v, vs, rfl, ⟨n, rfl, hn⟩, h2⟩ := h.cons_inv
  obtain ⟨v2, vs2, rfl, ⟨n2, rfl, hn2⟩, h3⟩ := h2.cons_inv
  obtain ⟨v3, vs3, rfl, ⟨n3, rfl, hn3⟩, h4⟩ := h3.cons_inv
  obtain ⟨v4, vs4, rfl, ⟨n4, rfl, hn4⟩, h5⟩ := h4.cons_inv
  obtain ⟨v5, vs5, rfl, ⟨n5, rfl, hn5⟩, h6⟩ := h5.cons_inv
  obtain ⟨v6, vs6, rfl, ⟨n6, rfl, hn6⟩, h7⟩ := h6.cons_inv
  obtain rfl := h7.nil_inv
  exact ⟨⟨n, n2, n3, n4, n5, n6⟩, rfl, wf64 hn, wf64 hn2, wf64 hn3, wf64 hn4, wf64 hn5, wf64 hn6⟩
/-- A script's call, where it stands, in a later world. -/
theorem RdS.op6 {w W : World} {b o : Nat} {zs : List Op6} {k : Nat} (hc : ∀ i z, zs[i]? = some z → ∀ j u, (encO6 z)[j]? = some u → w.cell? ⟨b, o + i * 6 + j, none⟩ = some u) (B : Below w.heap.size w W) (hk : k < zs.length) :
    W.cell? ⟨b, o + k * 6, none⟩ = some (.int .i64 zs[k].k) ∧ W.cell? ⟨b, o + k * 6 + 1, none⟩ = some (.int .i64 zs[k].s.ls) ∧ W.cell? ⟨b, o + k * 6 + 2, none⟩ = some (.int .i64 zs[k].s.la) ∧
    W.cell? ⟨b, o + k * 6 + 3, none⟩ = some (.int .i64 zs[k].s.hs) ∧ W.cell? ⟨b, o + k * 6 + 4, none⟩ = some (.int .i64 zs[k].s.ha) ∧ W.cell? ⟨b, o + k * 6 + 5, none⟩ = some (.int .i64 zs[k].s.v) := by
  have h : ∀ j u, (encO6 zs[k])[j]? = some u → w.cell? ⟨b, o + k * 6 + j, none⟩ = some u := fun j u hu => hc k zs[k] (by simp [hk]) j u hu
  have g : ∀ j u, (encO6 zs[k])[j]? = some u → W.cell? ⟨b, o + k * 6 + j, none⟩ = some u := fun j u hu =>
    (B.cell (p := ⟨b, o + k * 6 + j, none⟩) (World.block_lt_of_cell? w _ (h j u hu))).trans (h j u hu)
  exact ⟨g 0 _ rfl, g 1 _ rfl, g 2 _ rfl, g 3 _ rfl, g 4 _ rfl, g 5 _ rfl⟩
end Go.Proofs.Bo
