import Derived.Test.YtofgoehkahcajaaRngG
import Derived.Test.YtofgoehkahcajaaArG
set_option linter.unusedVariables false
set_option linter.unusedSimpArgs false
namespace Go.Proofs.Bo
open Go Go.RowKit

/-- The things of a row of places, each with its place, from a number on. -/
def itemsB {α : Type} : Nat → List (Option α) → List (Nat × α)
  | _, [] => []
  | k, none :: l => itemsB (k + 1) l
  | k, some v :: l => (k, v) :: itemsB (k + 1) l

theorem itemsB_drop {α : Type} (k : Nat) (l : List (Option α)) (b : Nat) : (hk : k < l.length) → itemsB (b + k) (l.drop k) = (match l[k] with | none => [] | some v => [(b + k, v)]) ++ itemsB (b + (k + 1)) (l.drop (k + 1)) := by
  intro hk
  rw [List.drop_eq_getElem_cons hk]
  cases l[k] <;> simp [itemsB, Nat.add_assoc]

section
variable {w : World} {ab : Nat} {lv fv : Value} {room : Int} {l : List (Option Bn)} {free : List Int}

set_option maxHeartbeats 400000 in
theorem eachB (w : World) (ab : Nat) : Calls Try.prog 69 #[.pointer (some ⟨ab, 0, none⟩)] w fun e w' => e = .returned (.func (.func 88) #[] #[.pointer (some ⟨w.heap.size, 0, none⟩)]) ∧ w' = w.alloc (.cells #[.pointer (some ⟨ab, 0, none⟩)] 75) := by
  go_enter Try.func69, Try.ntmps69
  go_wp2
  go_ret
  exact ⟨rfl, rfl⟩

def encBV (x : Nat × Bn) : Array Value := #[.int .i64 x.1, .agg #[.slice x.2.la x.2.ln x.2.lc, .slice x.2.ka x.2.kn x.2.kc]]

set_option maxHeartbeats 1000000 in
theorem eachB_iter {b : Nat} (h : ArB w ab lv fv room l free) (hb : w.heap[b]? = some (.cells #[.pointer (some ⟨ab, 0, none⟩)] 75 (0, 0))) :
    Iter Try.prog 88 #[.pointer (some ⟨b, 0, none⟩)] encBV (itemsB 0 l) (fun k => k = b ∨ Foot ab lv fv k) w := by
  intro yl J Jx W hW hJ hJx hY G h0 hH hG
  have hH0 : ∀ k, (k = b ∨ Foot ab lv fv k) → k < w.heap.size := by
    rintro k (rfl | hk)
    · exact blkl hb
    · exact h.lt hk
  have hHW : ∀ k, (k = b ∨ Foot ab lv fv k) → W.heap[k]? = w.heap[k]? := fun k hk => hW.block k (hH0 k hk) (by have := hH0 k hk; omega)
  have A : ArB W ab lv fv room l free := h.keep fun k hk => hHW k (.inr hk)
  have cb : W.cell? ⟨b, 0, none⟩ = some (.pointer (some ⟨ab, 0, none⟩)) := by
    have := (hHW b (.inl rfl)).trans hb
    simp [World.cell?, this]
  obtain ⟨LA, lc, rfl, hlc⟩ := own_slice A.row
  have c1 := A.c1
  obtain ⟨b1, b2⟩ := A.flen
  have hHs : ∀ k, (k = b ∨ Foot ab (.slice LA l.length lc) fv k) → k < W.heap.size := fun k hk => Nat.lt_of_lt_of_le (hH0 k hk) hW.size
  refine (callsIn_wide (n := 1)).1 (callsIn_of_wp Try.func88 rfl trivial ?_)
  simp only [Try.ntmps88, List.size_toArray, List.length_cons, List.length_nil, Nat.reduceAdd, Nat.reduceSub, Array.replicate_succ, Array.replicate_zero, List.push_toArray, List.append_toArray, List.nil_append, List.cons_append]
  gi_wp2_with fail
  gi_loopw [10] (fun c wr => ∃ (k : Nat) (pre : List (Nat × Bn)) (G : Nat → Prop), k ≤ l.length ∧ c = .int .i64 k ∧ itemsB 0 l = pre ++ itemsB k (l.drop k) ∧ J pre G wr ∧ (∀ j, (j = b ∨ Foot ab (.slice LA l.length lc) fv j) → wr.heap[j]? = W.heap[j]? ∧ ¬ G j) ∧ (∀ j, G j → j < wr.heap.size) ∧ W.heap.size ≤ wr.heap.size) (fun c _ => (l.length - intOf c).toNat)
  case atStart => exact ⟨0, [], G, by omega, rfl, by simp, h0, fun j hj => ⟨rfl, hH j hj⟩, hG, Nat.le_refl _⟩
  case round =>
    obtain ⟨k, pre, G1, hk, rfl, hpre, hJ1, hH1, hG1, hsz⟩ := hrel
    by_cases hlt : k < l.length
    · have hd := itemsB_drop k l 0 hlt
      simp only [Nat.zero_add] at hd
      have A1 : ArB wr ab (.slice LA l.length lc) fv room l free := A.keep fun j hj => (hH1 j (.inr hj)).1
      obtain ⟨lb, rfl⟩ := hlc.2.2 (by omega)
      have hp : l[k]? = some l[k] := by simp [hlt]
      cases hlk : l[k] with
      | none =>
        rw [hlk] at hp hd
        simp only [List.nil_append] at hd
        have d0 := (A1.cell (i := k) hp (j := 0) (u := .slice none 0 0) rfl).1
        have d1 := (A1.cell (i := k) hp (j := 1) (u := .slice none 0 0) rfl).1
        have d2 := (A1.cell (i := k) hp (j := 2) (u := .bool false) rfl).1
        simp only [zBn, List.length_cons, List.length_nil, Nat.zero_add, Nat.add_zero, Nat.reduceAdd] at d0 d1 d2
        have hpre' := hid (hpre.trans (by rw [hd]))
        have M1 : Mod (fun _ => False) wr (wr.alloc (.cells #[.slice none 0 0, .slice none 0 0, .bool false] 128)) := (Mod.refl _ _).alloc _
        have R1 := hJ _ _ _ _ _ hJ1 M1 fun _ h => h.elim
        clear hpre hd hlk hp A1
        gi_wp2_with fail
        refine ⟨fun _ _ => trivial, ?_⟩
        gi_wp2_with fail
        go_roundw
        case rel => exact ⟨k + 1, pre, G1, by omega, by go_num, hpre'.out, R1, fun j hj => ⟨(M1.block j (by have := hHs j hj; omega) (fun h => h)).trans (hH1 j hj).1, (hH1 j hj).2⟩, fun j hj => M1.lt (hG1 j hj), Nat.le_trans hsz M1.size⟩
        case measure => simp [intOf]; omega
      | some v =>
        rw [hlk] at hp hd
        simp only [List.cons_append, List.nil_append] at hd
        have d0 := (A1.cell (i := k) hp (j := 0) (u := .slice v.la v.ln v.lc) rfl).1
        have d1 := (A1.cell (i := k) hp (j := 1) (u := .slice v.ka v.kn v.kc) rfl).1
        have d2 := (A1.cell (i := k) hp (j := 2) (u := .bool true) rfl).1
        simp only [zBn, List.length_cons, List.length_nil, Nat.zero_add, Nat.add_zero, Nat.reduceAdd] at d0 d1 d2
        have hpre' := hid (hpre.trans (by rw [hd]))
        have M1 : Mod (fun _ => False) wr (wr.alloc (.cells #[.slice v.la v.ln v.lc, .slice v.ka v.kn v.kc, .bool true] 128)) := (Mod.refl _ _).alloc _
        have R1 := hJ _ _ _ _ _ hJ1 M1 fun _ h => h.elim
        obtain ⟨fn, tmps, assign, body, hy, hR⟩ := hY pre (k, v) _ G1 _ hpre'.out R1
        dsimp only [encBV] at hy
        clear hpre hd hlk hp A1
        gi_wp2_with fail
        refine hR.mono ?_
        clear hR hy hY R1
        have hsz1 := M1.size
        have kept : ∀ (W' : World), Mod G1 (wr.alloc (.cells #[.slice v.la v.ln v.lc, .slice v.ka v.kn v.kc, .bool true] 128)) W' → ∀ j, (j = b ∨ Foot ab (.slice (some ⟨lb, 0, none⟩) l.length lc) fv j) → W'.heap[j]? = W.heap[j]? := fun W' m j hj =>
          (m.block j (by have := hHs j hj; omega) (hH1 j hj).2).trans ((M1.block j (by have := hHs j hj; omega) (fun h => h)).trans (hH1 j hj).1)
        rintro e W' ⟨G', g1, g2, (⟨rfl, hJ'⟩ | ⟨rfl, hJ'⟩)⟩
        · gi_wp2_with fail
          go_roundw
          case rel =>
            refine ⟨k + 1, pre ++ [(k, v)], G', by omega, by go_num, by simpa using hpre'.out, hJ', fun j hj => ⟨kept W' g2 j hj, fun h => ?_⟩, fun j hj => (g1 j hj).2, Nat.le_trans hsz (Nat.le_trans hsz1 g2.size)⟩
            rcases (g1 j h).1 with h | h
            · exact (hH1 j hj).2 h
            · have := hHs j hj; omega
          case measure => simp [intOf]; omega
        · gi_wp2_with fail
          refine bodyPost_ret (results_none rfl _ _ _) rfl ⟨⟨_, rfl⟩, G', .inr ⟨pre ++ [(k, v)], ⟨itemsB (k + 1) (l.drop (k + 1)), by simpa using hpre'.out.symm⟩, hJ'⟩⟩
    · obtain rfl : k = l.length := by omega
      have hp2 : pre = itemsB 0 l := by rw [hpre]; simp [itemsB]
      clear hlt hpre
      gi_wp2_with fail
      go_end0
      exact ⟨⟨_, rfl⟩, G1, .inl (hp2 ▸ hJ1)⟩
end
end Go.Proofs.Bo
