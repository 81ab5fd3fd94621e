import Derived.Test.YtgehgjaglgafdaaGreatG43
import Derived.Test.YtgehgjaglgafdaaGreatG41
set_option linter.unusedVariables false
set_option linter.unusedSimpArgs false
namespace Go.Proofs.Bo
open Go Go.RowKit
section
variable {w0 W W' : World} {mb cb d d' : Nat} {room : Int} {v v' : Value} {Lt Lv : List Sg} {c c' : Cu} {D : Nat → Prop}
theorem BothD.cur (h : BothD D w0 W mb cb d room v Lt c Lv) (R : MC (fun k => w0.heap.size ≤ k ∧ v.ownBlock ≠ some k ∧ ¬ D k) W' mb cb d room Lt c') (M : Mod (fun k => w0.heap.size ≤ k ∧ v.ownBlock ≠ some k ∧ ¬ D k) W W') : BothD D w0 W' mb cb d room v Lt c' Lv := h.map R.wide M
theorem bothD_seek (h : BothD D w0 W mb cb d room v Lt c Lv) (cs ca : Int) (hf : fit64 ca) : Calls Tryz.prog 12 #[.pointer (some ⟨cb, 0, none⟩), .agg #[.int .i64 cs, .int .i64 ca]] W fun e W' => e = .returned (.bool (nearS true true (kx cs ca) Lt).isSome) ∧ BothD D w0 W' mb cb d room v Lt (standC (nearS true true (kx cs ca) Lt)) Lv ∧ Mod (fun k => w0.heap.size ≤ k ∧ v.ownBlock ≠ some k ∧ ¬ D k) W W' :=
 (mc_seek h.1 cs ca hf).mono fun e w' ⟨a, b, c⟩ => ⟨a, h.cur b c, c⟩
theorem bothD_next (h : BothD D w0 W mb cb d room v Lt c Lv) : Calls Tryz.prog 13 #[.pointer (some ⟨cb, 0, none⟩)] W fun e W' => e = .returned (.bool (c.on && (nearS true false c.key Lt).isSome)) ∧ BothD D w0 W' mb cb d room v Lt (curC c (nearS true false c.key Lt)) Lv ∧ Mod (fun k => w0.heap.size ≤ k ∧ v.ownBlock ≠ some k ∧ ¬ D k) W W' :=
 (mc_next h.1).mono fun e w' ⟨a, b, c⟩ => ⟨a, h.cur b c, c⟩
theorem bothD_prev (h : BothD D w0 W mb cb d room v Lt c Lv) : Calls Tryz.prog 17 #[.pointer (some ⟨cb, 0, none⟩)] W fun e W' => e = .returned (.bool (c.on && (nearS false false c.key Lt).isSome)) ∧ BothD D w0 W' mb cb d room v Lt (curC c (nearS false false c.key Lt)) Lv ∧ Mod (fun k => w0.heap.size ≤ k ∧ v.ownBlock ≠ some k ∧ ¬ D k) W W' :=
 (mc_prev h.1).mono fun e w' ⟨a, b, c⟩ => ⟨a, h.cur b c, c⟩
theorem bothD_del (h : BothD D w0 W mb cb d room v Lt c Lv) (cs ca : Int) (hf : fit64 ca) : Calls Tryz.prog 15 #[.pointer (some ⟨mb, 0, none⟩), .agg #[.int .i64 cs, .int .i64 ca]] W fun e W' => e = .returned (.bool (hasK (kx cs ca) Lt)) ∧ BothD D w0 W' mb cb d room v (delL (kx cs ca) Lt) c Lv ∧ Mod (fun k => w0.heap.size ≤ k ∧ v.ownBlock ≠ some k ∧ ¬ D k) W W' :=
 (mc_del h.1 cs ca hf).mono fun e w' ⟨a, b, c⟩ => ⟨a, h.map b c, c⟩
end
end Go.Proofs.Bo
