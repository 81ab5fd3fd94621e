import Derived.Test.YtniemignjlanaaaBo2
set_option linter.unusedVariables false
namespace Go.Proofs.Bo
open Go Go.RowKit
/-- A slice that came in: its elements' cells, made by f. -/
def RdS {β : Type} (f : β → List Value) (m : Nat) (w : World) (a : Option Addr) (len : Nat) (zs : List β) : Prop :=
  zs.length = len ∧ (∀ b, (f b).length = m) ∧ (0 < len → ∃ b o, a = some ⟨b, o, none⟩ ∧ ∀ i z, zs[i]? = some z → ∀ j u, (f z)[j]? = some u → w.cell? ⟨b, o + i * m + j, none⟩ = some u)
theorem RdS.below {β : Type} {f : β → List Value} {m : Nat} {w w' : World} {a : Option Addr} {len : Nat} {zs : List β} (h : RdS f m w a len zs) (hm : 0 < m) (hb : Below w.heap.size w w') : RdS f m w' a len zs := by
  refine ⟨h.1, h.2.1, fun hl => ?_⟩
  obtain ⟨b, o, e, hc⟩ := h.2.2 hl
  refine ⟨b, o, e, fun i z hz j u hu => ?_⟩
  have := hc i z hz j u hu
  exact (hb.cell (p := ⟨b, o + i * m + j, none⟩) (World.block_lt_of_cell? w _ this)).trans this
end Go.Proofs.Bo
