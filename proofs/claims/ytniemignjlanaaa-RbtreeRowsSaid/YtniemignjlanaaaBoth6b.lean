import Derived.Test.YtniemignjlanaaaBoth6
set_option linter.unusedVariables false
namespace Go.Proofs.Bo
open Go Go.RowKit
section
variable {w0 W W' : World} {tb : Nat} {room : Int} {v v' : Value} {Lt Lv L L' : List Sg}
theorem BothP.row (h : BothP w0 W tb room v L Lv) (R : RowV W' v' L') (M : Mod (fun _ => False) W W') (H : Hence W v v') : BothP w0 W' tb room v' L L' := by
  refine ⟨(h.1.mono fun k hk hlt => ⟨hk.1, fun e => ?_⟩).mod0 M, R, fun k hk => ?_, h.2.2.2.trans' M⟩
  · rcases H k hk with e | e
    · exact h.2.2.1 k e
    · exact Nat.le_trans h.2.2.2.size e
  · rcases H k e with e | e
    · exact hk.2 e
    · omega
theorem BothP.tree (h : BothP w0 W tb room v Lt Lv) (R : RB (fun k => (w0.heap.size ≤ k ∧ v.ownBlock ≠ some k) ∨ W.heap.size ≤ k) W' tb room L) (M : Mod (fun k => w0.heap.size ≤ k ∧ v.ownBlock ≠ some k) W W') : BothP w0 W' tb room v L Lv := by
  refine ⟨R.mono fun k hk hlt => ?_, own_mod h.2.1 M fun k hk hX => hX.2 hk, h.2.2.1, h.2.2.2.trans M fun j hj => .inr hj.1⟩
  rcases hk with hk | hk
  · exact hk
  · exact ⟨Nat.le_trans h.2.2.2.size hk, fun e => by have := own_lt h.2.1 e; omega⟩
theorem both_rput (h : BothP w0 W tb room v L L) (s : Sg) (hf : fit64 s.la) : Calls Try.prog 12 #[v, .int .i64 room, .agg (encS s).toArray] W fun e W' => ∃ v', e = .returned (.tuple #[v', .int .i64 (putE room s L)]) ∧ BothP w0 W' tb room v' L (putL room s L) ∧ Mod (fun _ => False) W W' := by
  have hb := rb_bound h.1
  exact (putR h.2.1 (rb_row h.1) (by omega) room s hf).mono fun e W1 ⟨v', he, R, M, H⟩ => ⟨v', he, h.row R M H, M⟩
theorem both_put (h : BothP w0 W tb room v Lt Lv) (s : Sg) (hf : fit64 s.la) : Calls Try.prog 14 #[.pointer (some ⟨tb, 0, none⟩), .agg (encS s).toArray] W fun e W' => e = .returned (.int .i64 (putE room s Lt)) ∧ BothP w0 W' tb room v (putL room s Lt) Lv :=
  (rb_put h.1 s hf).mono fun e W1 ⟨he, R, M⟩ => ⟨he, h.tree R M⟩
theorem both_rdel (h : BothP w0 W tb room v L L) (cs ca : Int) (hf : fit64 ca) : Calls Try.prog 15 #[v, .agg #[.int .i64 cs, .int .i64 ca]] W fun e W' => ∃ v', e = .returned (.tuple #[v', .bool (hasK (kx cs ca) L)]) ∧ BothP w0 W' tb room v' L (delL (kx cs ca) L) ∧ Mod (fun _ => False) W W' := by
  have hb := rb_bound h.1
  exact (delR h.2.1 (rb_row h.1) (by omega) cs ca hf).mono fun e W1 ⟨v', he, R, M, H⟩ => ⟨v', he, h.row R M H, M⟩
theorem both_del (h : BothP w0 W tb room v Lt Lv) (cs ca : Int) (hf : fit64 ca) : Calls Try.prog 16 #[.pointer (some ⟨tb, 0, none⟩), .agg #[.int .i64 cs, .int .i64 ca]] W fun e W' => e = .returned (.bool (hasK (kx cs ca) Lt)) ∧ BothP w0 W' tb room v (delL (kx cs ca) Lt) Lv :=
  (rb_del h.1 cs ca hf).mono fun e W1 ⟨he, R, M⟩ => ⟨he, h.tree R M⟩
end
end Go.Proofs.Bo
