import Derived.Test.YtofgoehkahcajaaGreatSmG
import Derived.Test.YtofgoehkahcajaaGreatPut7n
import Derived.Test.YtofgoehkahcajaaGreatDelG
import Derived.Test.YtofgoehkahcajaaGreatTold7
import Derived.Test.YtofgoehkahcajaaGreatBoG
import Derived.Test.YtofgoehkahcajaaGreatRDel
import Derived.Test.YtofgoehkahcajaaGreatRefG
set_option linter.unusedVariables false
set_option linter.unusedSimpArgs false
namespace Go.Proofs.Bo
open Go Go.RowKit

theorem Row.filter7 {l : List Sg} (h : Row l) (p : Sg → Bool) : Row (l.filter p) := ⟨h.1.sublist List.filter_sublist, fun s hs => h.2 s (List.mem_filter.1 hs).1⟩
theorem Row.ins7 {l : List Sg} (h : Row l) {s : Sg} (hs : KeyOK s) : Row (insL s l) := by
  unfold insL
  refine ⟨List.pairwise_append.2 ⟨h.1.sublist List.filter_sublist, List.pairwise_cons.2 ⟨fun x hx => by simpa using (List.mem_filter.1 hx).2, h.1.sublist List.filter_sublist⟩, fun a ha b hb => ?_⟩, fun x hx => ?_⟩
  · have h1 : ky a < ky s := by simpa using (List.mem_filter.1 ha).2
    rcases List.mem_cons.1 hb with rfl | hb
    · exact h1
    · have h2 : ky s < ky b := by simpa using (List.mem_filter.1 hb).2
      omega
  · rcases List.mem_append.1 hx with hx | hx
    · exact h.2 x (List.mem_filter.1 hx).1
    · rcases List.mem_cons.1 hx with rfl | hx
      · exact hs
      · exact h.2 x (List.mem_filter.1 hx).1
theorem ins_len_new {s : Sg} {l : List Sg} (h : hasK (ky s) l = false) : (insL s l).length = l.length + 1 := by
  have key : ∀ l : List Sg, hasK (ky s) l = false → (l.filter (fun x => decide (ky x < ky s))).length + (l.filter (fun x => decide (ky s < ky x))).length = l.length := by
    intro l
    induction l with
    | nil => simp
    | cons x l ih =>
      intro h
      have h1 : ky x ≠ ky s := hasK_none h x (by simp)
      have h2 := ih (by unfold hasK at h ⊢; simp at h ⊢; exact h.2)
      by_cases hx : ky x < ky s
      · have h3 : ¬ ky s < ky x := by omega
        simp [hx, h3]; omega
      · have h3 : ky s < ky x := by omega
        simp [hx, h3]; omega
  have := key l h
  unfold insL
  simp; omega
theorem ins_len_old {s : Sg} {l : List Sg} (hr : Row l) (h : hasK (ky s) l = true) : (insL s l).length = l.length := by
  obtain ⟨A, x, B, rfl, hx⟩ := hasK_split h
  have h1 := hr.1
  have ha : ∀ y ∈ A, ky y < ky s := fun y hy => by rw [← hx]; exact (List.pairwise_append.1 h1).2.2 y hy x (by simp)
  have hb : ∀ y ∈ B, ky s < ky y := fun y hy => by rw [← hx]; exact (List.pairwise_cons.1 (List.pairwise_append.1 h1).2.1).1 y hy
  rw [ins_old hx ha hb]
  simp
theorem del_len {k : Int} {l : List Sg} (hr : Row l) (h : hasK k l = true) : (delL k l).length + 1 = l.length := by
  obtain ⟨A, x, B, rfl, hx⟩ := hasK_split h
  rw [(del_split hr hx).1]
  simp; omega
/-- A height that a row's tree of a degree may have. -/
def HgtOK7 (d : Nat) (l : List Sg) (H : Nat) : Prop := (l = [] ∧ H = 0) ∨ ∃ h, H = h + 1 ∧ l ≠ [] ∧ 2 * d ^ h ≤ l.length + 1 ∧ l.length + 1 ≤ (2 * d) ^ (h + 1)
theorem sum_hi (m : Nat) (ps : List (List Sg)) (h : ∀ p ∈ ps, p.length + 1 ≤ m) : sumL ps + ps.length ≤ ps.length * m := by
  induction ps with
  | nil => simp [sumL]
  | cons p ps ih =>
    have h1 := h p (by simp)
    have h2 := ih fun q hq => h q (by simp [hq])
    have e : sumL (p :: ps) = p.length + sumL ps := by simp [sumL]
    rw [e, List.length_cons, Nat.succ_mul]
    omega
theorem Sub.hi {d : Nat} (hd : 2 ≤ d) {S : StB'} : ∀ {h lo i : Nat} {L : List Sg} {F : List Nat}, Sub d S h lo i L F → L.length + 1 ≤ (2 * d) ^ (h + 1)
  | 0, lo, i, L, F, ⟨h1, h2, h3, h4⟩ => by simp; omega
  | h + 1, lo, i, L, F, ⟨l, cs, h1, h2, h3, h4, h5, h6, h7⟩ => by
    have key := sum_hi ((2 * d) ^ (h + 1)) (cs.map Ch.L) (by
      intro p hp
      obtain ⟨c, hc, rfl⟩ := List.mem_map.1 hp
      exact Sub.hi hd (h5 c hc))
    have hlen := inter_len l (cs.map Ch.L) (by simpa using h4)
    rw [List.length_map, h4] at key
    have h8 : (l.length + 1) * (2 * d) ^ (h + 1) ≤ (2 * d) * (2 * d) ^ (h + 1) := Nat.mul_le_mul_right _ (by omega)
    rw [h6, hlen, Nat.pow_succ _ (h + 1), Nat.mul_comm _ (2 * d)]
    omega
theorem can_pos7 {s a : Int} (h : canS s a = s ∧ canA s a = a) (hs : 0 < s) : s = 1 ∧ a = 0 := by
  unfold canS canA at h
  grind

/-- A B-tree in memory that has a row; X: the blocks that it may have. -/
def BB (X : Nat → Prop) (w : World) (tb : Nat) (d : Nat) (room : Int) (l : List Sg) : Prop :=
  ∃ (ab : Nat) (lv fv : Value) (σ : List (Option Bn)) (free : List Int) (root : Int) (S : StB), MemB w tb ab lv fv σ free root (d : Int) room (l.length : Int) S ∧ PT d S root l ∧ Row l ∧ (2 ≤ d ∧ d ≤ 64) ∧ (l.length : Int) ≤ room ∧ room ≤ 4096 ∧ ∀ k, FootB tb ab lv fv σ k → X k

section
variable {w w' : World} {tb d : Nat} {room : Int} {l : List Sg} {X Y : Nat → Prop}

theorem BB.mod {R : Nat → Prop} (h : BB X w tb d room l) (hm : Mod R w w') (hs : ∀ k, X k → k < w.heap.size → ¬ R k) : BB X w' tb d room l := by
  obtain ⟨ab, lv, fv, σ, free, root, S, h1, h2, h3, h4, h5, h6, h7⟩ := h
  exact ⟨ab, lv, fv, σ, free, root, S, h1.mod hm fun k hk => hs k (h7 k hk) (h1.lt hk), h2, h3, h4, h5, h6, h7⟩
theorem BB.mod0 (h : BB X w tb d room l) (hm : Mod (fun _ => False) w w') : BB X w' tb d room l := h.mod hm fun _ _ _ h => h
theorem BB.mono (h : BB X w tb d room l) (hs : ∀ k, X k → k < w.heap.size → Y k) : BB Y w tb d room l := by
  obtain ⟨ab, lv, fv, σ, free, root, S, h1, h2, h3, h4, h5, h6, h7⟩ := h
  exact ⟨ab, lv, fv, σ, free, root, S, h1, h2, h3, h4, h5, h6, fun k hk => hs k (h7 k hk) (h1.lt hk)⟩
theorem bb_bound (h : BB X w tb d room l) : (l.length : Int) ≤ room ∧ room ≤ 4096 := by
  obtain ⟨ab, lv, fv, σ, free, root, S, h1, h2, h3, h4, h5, h6, h7⟩ := h
  exact ⟨h5, h6⟩
theorem bb_row (h : BB X w tb d room l) : Row l := by
  obtain ⟨ab, lv, fv, σ, free, root, S, h1, h2, h3, h4, h5, h6, h7⟩ := h
  exact h3
theorem bb_lt (h : BB X w tb d room l) : tb < w.heap.size := by
  obtain ⟨ab, lv, fv, σ, free, root, S, h1, h2, h3, h4, h5, h6, h7⟩ := h
  exact blkl h1.t

def PutP7 (X : Nat → Prop) (w : World) (tb d : Nat) (room : Int) (l : List Sg) (s : Sg) (e : Ending) (w' : World) : Prop :=
  e = .returned (.int .i64 (putE room s l)) ∧ BB (fun k => X k ∨ w.heap.size ≤ k) w' tb d room (putL room s l) ∧ Mod X w w'
theorem bb_put (h : BB X w tb d room l) (s : Sg) (hf : fit64 s.la) : Calls Tryz.prog 21 #[.pointer (some ⟨tb, 0, none⟩), .agg (encS s).toArray] w fun e w' => PutP7 X w tb d room l s e w' := by
  have h0 := h
  obtain ⟨ab, lv, fv, σ, free, root, S, h1, h2, h3, h4, h5, h6, h7⟩ := h
  have hgrow : ∀ {w' : World} {L : List Sg}, Row L → (L.length : Int) ≤ room → PutQ7 w tb ab lv fv σ d room (L.length : Int) L w' → BB (fun k => X k ∨ w.heap.size ≤ k) w' tb d room L ∧ Mod X w w' := by
    rintro w' L hL hl ⟨S', lv', fv', σ', free', root', T1, T2, T3, T4⟩
    exact ⟨⟨ab, lv', fv', σ', free', root', S', T1, T2, hL, h4, hl, h6, fun k hk => (T4 k hk).imp (h7 k) id⟩, T3.mono fun i hi => .inl (h7 i hi)⟩
  have hsame : ∀ {w' : World}, Mod (fun _ => False) w w' → BB (fun k => X k ∨ w.heap.size ≤ k) w' tb d room l ∧ Mod X w w' := fun m =>
    ⟨(h0.mod0 m).mono fun k hk _ => .inl hk, m.mono fun _ h => h.elim⟩
  unfold PutP7 putE putL
  by_cases hc : canS s.ls s.la = s.ls ∧ canA s.ls s.la = s.la
  · by_cases hs : 0 < s.ls
    · have hk : okB s = false := decide_eq_false fun h => by have := h.2.2; omega
      rw [hk]
      refine (putBZ_arg2 h1 h4 h2 h3 s hf (can_pos7 hc hs)).mono ?_
      rintro e w' ⟨rfl, hm⟩
      exact ⟨rfl, hsame hm⟩
    · have hk' : okKey s.ls s.la := ⟨hc.1, hc.2, by omega⟩
      have hk : okB s = true := by unfold okB; simpa using hk'
      rw [hk]
      simp only [if_true]
      by_cases ho : hasK (ky s) l = true
      · rw [ho]
        refine (putBZ_old h1 h4 h2 h3 s hf hk' ho).mono ?_
        rintro e w' ⟨rfl, hq⟩
        have hlen : (insL s l).length = l.length := ins_len_old h3 ho
        simp only [if_true]
        exact ⟨trivial, hgrow (h3.ins7 ⟨hk', hf⟩) (by rw [hlen]; exact h5) (by rw [hlen]; exact hq)⟩
      · replace ho : hasK (ky s) l = false := by simpa using ho
        rw [ho]
        simp only [Bool.false_eq_true, if_false]
        by_cases hz : room ≤ l.length
        · rw [if_pos hz, if_pos hz]
          refine (putBZ_full h1 h4 h2 h3 s hf hk' ho hz).mono ?_
          rintro e w' ⟨rfl, hm⟩
          exact ⟨rfl, hsame hm⟩
        · rw [if_neg hz, if_neg hz]
          refine (putBZ_new h1 h4 h2 h3 s hf hk' ho (by omega) h5 (by omega)).mono ?_
          rintro e w' ⟨rfl, hq⟩
          have hlen : (insL s l).length = l.length + 1 := ins_len_new ho
          exact ⟨rfl, hgrow (h3.ins7 ⟨hk', hf⟩) (by rw [hlen]; omega) (by rw [hlen]; simpa using hq)⟩
  · have hk : okB s = false := decide_eq_false fun h => hc ⟨h.1, h.2.1⟩
    rw [hk]
    refine (putBZ_arg1 h1 h4 h2 h3 s hf hc).mono ?_
    rintro e w' ⟨rfl, hm⟩
    exact ⟨rfl, hsame hm⟩

def DelP7 (X : Nat → Prop) (w : World) (tb d : Nat) (room : Int) (l : List Sg) (k : Int) (e : Ending) (w' : World) : Prop :=
  e = .returned (.bool (hasK k l)) ∧ BB (fun k => X k ∨ w.heap.size ≤ k) w' tb d room (delL k l) ∧ Mod X w w'
theorem bb_del (h : BB X w tb d room l) (cs ca : Int) (hf : fit64 ca) : Calls Tryz.prog 24 #[.pointer (some ⟨tb, 0, none⟩), .agg #[.int .i64 cs, .int .i64 ca]] w fun e w' => DelP7 X w tb d room l (kx cs ca) e w' := by
  have h0 := h
  obtain ⟨ab, lv, fv, σ, free, root, S, h1, h2, h3, h4, h5, h6, h7⟩ := h
  unfold DelP7
  by_cases ho : hasK (kx cs ca) l = true
  · rw [ho]
    have hl := del_len h3 ho
    refine (delBZ_yes h1 h4 h2 h3 (by omega) cs ca hf ho).mono ?_
    rintro e w' ⟨rfl, S', lv', fv', σ', free', root', T1, T2, T3, T4⟩
    rw [show (l.length : Int) - 1 = ((delL (kx cs ca) l).length : Int) by omega] at T1
    exact ⟨rfl, ⟨ab, lv', fv', σ', free', root', S', T1, T2, h3.filter7 _, h4, by omega, h6, fun k hk => (T4 k hk).imp (h7 k) id⟩, T3.mono fun i hi => .inl (h7 i hi)⟩
  · replace ho : hasK (kx cs ca) l = false := by simpa using ho
    rw [ho, del_none ho]
    refine (delBZ_no h1 h4 h2 h3 cs ca hf ho).mono ?_
    rintro e w' ⟨rfl, hm⟩
    exact ⟨rfl, (h0.mod0 hm).mono fun k hk _ => .inl hk, hm.mono fun _ h => h.elim⟩
theorem pt_nil (d : Nat) : PT d (fun _ => none) (-1) [] := .inl ⟨rfl, rfl, fun _ => rfl⟩
theorem row_nil7 : Row [] := ⟨List.Pairwise.nil, fun s hs => by simp at hs⟩
theorem bb_clear (h : BB X w tb d room l) : Calls Tryz.prog 49 #[.pointer (some ⟨tb, 0, none⟩)] w fun e w' => e = .returned (.tuple #[]) ∧ BB (fun k => X k ∨ w.heap.size ≤ k) w' tb d room [] ∧ Mod X w w' := by
  obtain ⟨ab, lv, fv, σ, free, root, S, h1, h2, h3, h4, h5, h6, h7⟩ := h
  refine (clearBZ h1).mono ?_
  rintro e w' ⟨rfl, T1, hm⟩
  refine ⟨rfl, ⟨ab, _, _, [], [], -1, _, T1, pt_nil d, row_nil7, h4, by simp; omega, h6, fun k hk => .inl (h7 k ?_)⟩, hm.mono fun i hi => .inl (h7 i hi)⟩
  rcases footB_nil hk with rfl | rfl
  · exact .inl rfl
  · exact .inr (.inl (.inl rfl))
theorem bb_len (h : BB X w tb d room l) : Calls Tryz.prog 25 #[.pointer (some ⟨tb, 0, none⟩)] w fun e w' => e = .returned (.int .i64 l.length) ∧ Mod (fun _ => False) w w' := by
  obtain ⟨ab, lv, fv, σ, free, root, S, h1, h2, h3, h4, h5, h6, h7⟩ := h
  exact lenBZ h1
theorem bb_degree (h : BB X w tb d room l) : Calls Tryz.prog 27 #[.pointer (some ⟨tb, 0, none⟩)] w fun e w' => e = .returned (.int .i64 (d : Int)) ∧ Mod (fun _ => False) w w' := by
  obtain ⟨ab, lv, fv, σ, free, root, S, h1, h2, h3, h4, h5, h6, h7⟩ := h
  exact degBZ h1
theorem bb_floor (h : BB X w tb d room l) (cs ca : Int) (hf : fit64 ca) : Calls Tryz.prog 11 #[.pointer (some ⟨tb, 0, none⟩), .agg #[.int .i64 cs, .int .i64 ca]] w fun e w' => e = .returned (optS (nearS false true (kx cs ca) l)) ∧ Mod (fun _ => False) w w' := by
  obtain ⟨ab, lv, fv, σ, free, root, S, h1, h2, h3, h4, h5, h6, h7⟩ := h
  exact floorBZ h1 h4.2 h2 h3 hf
theorem bb_high (h : BB X w tb d room l) (cs ca : Int) (hf : fit64 ca) : Calls Tryz.prog 13 #[.pointer (some ⟨tb, 0, none⟩), .agg #[.int .i64 cs, .int .i64 ca]] w fun e w' => e = .returned (optS (nearS true false (kx cs ca) l)) ∧ Mod (fun _ => False) w w' := by
  obtain ⟨ab, lv, fv, σ, free, root, S, h1, h2, h3, h4, h5, h6, h7⟩ := h
  exact highBZ h1 h4.2 h2 h3 hf
theorem bb_get (h : BB X w tb d room l) (cs ca : Int) (hf : fit64 ca) : Calls Tryz.prog 50 #[.pointer (some ⟨tb, 0, none⟩), .agg #[.int .i64 cs, .int .i64 ca]] w fun e w' => e = .returned (optS (getS (kx cs ca) l)) ∧ Mod (fun _ => False) w w' := by
  obtain ⟨ab, lv, fv, σ, free, root, S, h1, h2, h3, h4, h5, h6, h7⟩ := h
  exact getBZ h1 h4.2 h2 h3 hf
theorem pt_hgt {S : StB} {root : Int} (hd : 2 ≤ d) (h : PT d S root l) : ∃ H, HgtB d S root H ∧ HgtOK7 d l H := by
  rcases h with ⟨rfl, rfl, _⟩ | ⟨r, h, F, rfl, hs, _⟩
  · exact ⟨0, .inl ⟨rfl, rfl⟩, .inl ⟨rfl, rfl⟩⟩
  · have hp := hs.pow hd
    have h1 : 0 < d ^ h := Nat.pow_pos (by omega)
    refine ⟨h + 1, .inr ⟨r, h, 1, l, F, rfl, rfl, hs⟩, .inr ⟨h, rfl, ?_, hp, hs.hi hd⟩⟩
    intro e
    rw [e, List.length_nil] at hp
    omega
theorem HgtOK7.lt {H : Nat} (hd : 2 ≤ d) (h : HgtOK7 d l H) : H ≤ l.length + 1 := by
  rcases h with ⟨_, rfl⟩ | ⟨h, rfl, _, hp⟩
  · omega
  · replace hp := hp.1
    have h1 : h < 2 ^ h := Nat.lt_two_pow_self
    have h2 : 2 ^ h ≤ d ^ h := Nat.pow_le_pow_left hd h
    omega
theorem bb_height (h : BB X w tb d room l) : Calls Tryz.prog 23 #[.pointer (some ⟨tb, 0, none⟩)] w fun e w' => ∃ k : Nat, HgtOK7 d l k ∧ e = .returned (.int .i64 k) ∧ Mod (fun _ => False) w w' := by
  obtain ⟨ab, lv, fv, σ, free, root, S, h1, h2, h3, h4, h5, h6, h7⟩ := h
  obtain ⟨H, q1, q2⟩ := pt_hgt h4.1 h2
  have := q2.lt h4.1
  exact (heightBZ h1 q1 (by omega)).mono fun e w' ⟨a, b⟩ => ⟨H, q2, a, b⟩
theorem bb_new (hd : 2 ≤ d ∧ d ≤ 64) (h0 : 0 ≤ room ∧ room ≤ 4096) (w : World) : Calls Tryz.prog 17 #[.int .i64 (d : Int), .int .i64 room] w fun e w' => ∃ tb, e = .returned (.tuple #[.pointer (some ⟨tb, 0, none⟩), .int .i64 0]) ∧ BB (fun k => w.heap.size ≤ k) w' tb d room [] ∧ w.heap.size ≤ tb ∧ Mod (fun _ => False) w w' := by
  refine (newBZ (d : Int) room (by omega) h0 w).mono ?_
  rintro e w' ⟨tb, rfl, T1, hz, hm⟩
  refine ⟨tb, rfl, ⟨_, _, _, [], [], -1, _, T1, pt_nil d, row_nil7, hd, by simp; omega, h0.2, fun k hk => ?_⟩, hz, hm⟩
  rcases footB_nil hk with rfl | rfl
  · exact hz
  · exact Nat.le_refl _
end
end Go.Proofs.Bo
set_option linter.unusedVariables false
set_option linter.unusedSimpArgs false
namespace Go.Proofs.Bo
open Go Go.RowKit

section
variable {w w' : World} {tb d : Nat} {room : Int} {l : List Sg} {X : Nat → Prop}

def Do7P (X : Nat → Prop) (w : World) (tb d : Nat) (room : Int) (l : List Sg) (o : Op6) (e : Ending) (w' : World) : Prop :=
  e = .returned (.tuple #[.bool (do6B o l), .int .i64 (do6E room o l)]) ∧ BB (fun k => X k ∨ w.heap.size ≤ k) w' tb d room (do6L room o l) ∧ Mod X w w'

theorem doesB (h : BB X w tb d room l) (o : Op6) (hf : fit64 o.s.la) : Calls Tryz.prog 19 #[.pointer (some ⟨tb, 0, none⟩), .agg (encO6 o).toArray] w fun e w' => Do7P X w tb d room l o e w' := by
  obtain ⟨w0, hw0, b0, M0⟩ := boxO w o
  obtain ⟨d0, e0⟩ := blkc b0
  have hsz := M0.size
  have h0 := h.mod0 M0
  have fin : ∀ (w' : World) (L : List Sg), BB (fun k => X k ∨ w0.heap.size ≤ k) w' tb d room L → Mod X w0 w' → BB (fun k => X k ∨ w.heap.size ≤ k) w' tb d room L ∧ Mod X w w' := fun _ _ a b =>
    ⟨a.mono fun k hk _ => hk.imp id (fun h => by omega), (M0.mono fun _ h => h.elim).trans b fun j h => .inl h⟩
  replace fin := hid fin
  have P1 := bb_put h0 o.s hf
  have P2 := bb_del h0 o.s.ls o.s.la hf
  have P3 := bb_clear h0
  obtain ⟨k, ls, la, hs, ha, v⟩ := o
  unfold Do7P do6B do6E do6L
  simp only [ky, encO6, encS] at *
  replace hsz := hid hsz
  clear h
  by_cases k0 : k = 0
  · subst k0
    simp only [if_true]
    clear P2 P3
    go_enter Tryz.func19, Tryz.ntmps19
    go_wp2_with fail
    refine P1.mono ?_; rintro e w1 ⟨rfl, R1, M1⟩
    go_wp2_with fail
    go_ret2
    exact ⟨rfl, fin.out _ _ R1 M1⟩
  · rw [if_neg k0, if_neg k0, if_neg k0]
    clear P1
    by_cases k1 : k = 1
    · subst k1
      simp only [if_true]
      clear P3
      go_enter Tryz.func19, Tryz.ntmps19
      go_wp2_with fail
      refine P2.mono ?_; rintro e w1 ⟨rfl, R1, M1⟩
      go_wp2_with fail
      go_ret2
      exact ⟨rfl, fin.out _ _ R1 M1⟩
    · rw [if_neg k1, if_neg k1]
      clear P2
      by_cases k2 : k = 2
      · subst k2
        simp only [if_true]
        go_enter Tryz.func19, Tryz.ntmps19
        go_wp2_with fail
        refine P3.mono ?_; rintro e w1 ⟨rfl, R1, M1⟩
        go_wp2_with fail
        go_ret2
        exact ⟨rfl, fin.out _ _ R1 M1⟩
      · rw [if_neg k2]
        clear P3
        go_enter Tryz.func19, Tryz.ntmps19
        go_wp2_with fail
        go_ret2
        exact ⟨rfl, fin.out _ _ (h0.mono fun k hk _ => .inl hk) (Mod.refl _ _)⟩

theorem segB (n : Int) (w : World) : Calls Tryz.prog 22 #[.int .i64 n] w fun e w' => e = .returned (.agg (encS (segN n)).toArray) ∧ Mod (fun _ => False) w w' := by
  obtain ⟨w0, hw0, b0, M0⟩ : ∃ w0, w.alloc (.cells #[.int .i64 0, .int .i64 0, .int .i64 0, .int .i64 0, .int .i64 0] 39) = w0 ∧ w0.heap[w.heap.size]? = some (.cells #[.int .i64 0, .int .i64 0, .int .i64 0, .int .i64 0, .int .i64 0] 39 (0, 0)) ∧ Mod (fun _ => False) w w0 :=
    ⟨_, rfl, alloc_0 _ _, (Mod.refl _ _).alloc _⟩
  obtain ⟨d0, e0⟩ := blkc b0
  go_enter Tryz.func22, Tryz.ntmps22
  go_wp2_with fail
  exact ret_row w.heap.size [.int .i64 0, .int .i64 n, .int .i64 0, .int .i64 0, .int .i64 n] rfl rfl (setL_whole (cs := [.int .i64 0, .int .i64 0, .int .i64 0, .int .i64 0, .int .i64 0]) (us := [.int .i64 0, .int .i64 n, .int .i64 0, .int .i64 0, .int .i64 n]) b0 rfl) Tryz.underlying39 rfl (by kernel_rfl) rfl
    ⟨rfl, ((((M0.setCell (.inr (Nat.le_refl _)) _).setCell (.inr (Nat.le_refl _)) _).setCell (.inr (Nat.le_refl _)) _).setCell (.inr (Nat.le_refl _)) _).setCell (.inr (Nat.le_refl _)) _⟩

end
end Go.Proofs.Bo
set_option linter.unusedVariables false
set_option linter.unusedSimpArgs false
namespace Go.Proofs.Bo
open Go Go.RowKit

/-- A tree of blocks that were made since w0; nothing else has changed. -/
def FB7 (w0 w : World) (tb d : Nat) (room : Int) (l : List Sg) : Prop := BB (fun k => w0.heap.size ≤ k) w tb d room l ∧ Mod (fun _ => False) w0 w

section
variable {w0 w w' : World} {tb d : Nat} {room : Int} {l l' : List Sg}
theorem FB7.mod0 (h : FB7 w0 w tb d room l) (m : Mod (fun _ => False) w w') : FB7 w0 w' tb d room l := ⟨h.1.mod0 m, h.2.trans' m⟩
theorem FB7.grow (h : FB7 w0 w tb d room l) (a : BB (fun k => w0.heap.size ≤ k ∨ w.heap.size ≤ k) w' tb d room l') (m : Mod (fun k => w0.heap.size ≤ k) w w') : FB7 w0 w' tb d room l' :=
  ⟨a.mono fun k hk _ => by have := h.2.size; omega, h.2.trans m fun j h => .inr h⟩
theorem FB7.below (h : FB7 w0 w tb d room l) : Below w0.heap.size w0 w := h.2.to_below (Nat.le_refl _) fun _ h => h.elim
theorem fb7_new (hd : 2 ≤ d ∧ d ≤ 64) (h0 : 0 ≤ room ∧ room ≤ 4096) (w : World) : Calls Tryz.prog 17 #[.int .i64 (d : Int), .int .i64 room] w fun e w' => ∃ tb, e = .returned (.tuple #[.pointer (some ⟨tb, 0, none⟩), .int .i64 0]) ∧ FB7 w w' tb d room [] :=
  (bb_new hd h0 w).mono fun e w' ⟨tb, h1, h2, h3, h4⟩ => ⟨tb, h1, h2, h4⟩
theorem fb7_put (h : FB7 w0 w tb d room l) (s : Sg) (hf : fit64 s.la) : Calls Tryz.prog 21 #[.pointer (some ⟨tb, 0, none⟩), .agg (encS s).toArray] w fun e w' => e = .returned (.int .i64 (putE room s l)) ∧ FB7 w0 w' tb d room (putL room s l) :=
  (bb_put h.1 s hf).mono fun e w' ⟨a, b, c⟩ => ⟨a, h.grow b c⟩
theorem fb7_del (h : FB7 w0 w tb d room l) (cs ca : Int) (hf : fit64 ca) : Calls Tryz.prog 24 #[.pointer (some ⟨tb, 0, none⟩), .agg #[.int .i64 cs, .int .i64 ca]] w fun e w' => e = .returned (.bool (hasK (kx cs ca) l)) ∧ FB7 w0 w' tb d room (delL (kx cs ca) l) :=
  (bb_del h.1 cs ca hf).mono fun e w' ⟨a, b, c⟩ => ⟨a, h.grow b c⟩
theorem fb7_does (h : FB7 w0 w tb d room l) (o : Op6) (hf : fit64 o.s.la) : Calls Tryz.prog 19 #[.pointer (some ⟨tb, 0, none⟩), .agg (encO6 o).toArray] w fun e w' => e = .returned (.tuple #[.bool (do6B o l), .int .i64 (do6E room o l)]) ∧ FB7 w0 w' tb d room (do6L room o l) :=
  (doesB h.1 o hf).mono fun e w' ⟨a, b, c⟩ => ⟨a, h.grow b c⟩

/-- A segment is stored in a new block. -/
theorem put5s (w : World) (s : Sg) : ∃ w0 W, w.alloc (.cells #[.int .i64 0, .int .i64 0, .int .i64 0, .int .i64 0, .int .i64 0] 39) = w0 ∧
    ((((w0.setCell ⟨w.heap.size, 0, none⟩ (.int .i64 s.ls)).setCell ⟨w.heap.size, 1, none⟩ (.int .i64 s.la)).setCell ⟨w.heap.size, 2, none⟩ (.int .i64 s.hs)).setCell ⟨w.heap.size, 3, none⟩ (.int .i64 s.ha)).setCell ⟨w.heap.size, 4, none⟩ (.int .i64 s.v) = W ∧
    w0.heap[w.heap.size]? = some (.cells #[.int .i64 0, .int .i64 0, .int .i64 0, .int .i64 0, .int .i64 0] 39 (0, 0)) ∧
    W.heap[w.heap.size]? = some (.cells (encS s).toArray 39 (0, 0)) ∧ Mod (fun _ => False) w W := by
  have M0 : Mod (fun _ => False) w (w.alloc (.cells #[.int .i64 0, .int .i64 0, .int .i64 0, .int .i64 0, .int .i64 0] 39)) := (Mod.refl _ _).alloc _
  exact ⟨_, _, rfl, rfl, alloc_0 _ _, setL_whole (cs := [.int .i64 0, .int .i64 0, .int .i64 0, .int .i64 0, .int .i64 0]) (us := encS s) (alloc_0 _ _) rfl,
    ((((M0.setCell (.inr (Nat.le_refl _)) _).setCell (.inr (Nat.le_refl _)) _).setCell (.inr (Nat.le_refl _)) _).setCell (.inr (Nat.le_refl _)) _).setCell (.inr (Nat.le_refl _)) _⟩

end
end Go.Proofs.Bo
set_option linter.unusedVariables false
set_option linter.unusedSimpArgs false
namespace Go.Proofs.Bo
open Go Go.RowKit

/-- A tree of Lt and a row of Lv, both of blocks that were made since w0, apart. -/
def BothB (w0 W : World) (tb d : Nat) (room : Int) (v : Value) (Lt Lv : List Sg) : Prop :=
  BB (fun k => w0.heap.size ≤ k ∧ v.ownBlock ≠ some k) W tb d room Lt ∧ RowV W v Lv ∧ (∀ k, v.ownBlock = some k → w0.heap.size ≤ k) ∧ Mod (fun _ => False) w0 W

section
variable {w0 W W' : World} {tb d : Nat} {room : Int} {v : Value} {Lt Lv L : List Sg}
theorem BothB.mod0 (h : BothB w0 W tb d room v Lt Lv) (m : Mod (fun _ => False) W W') : BothB w0 W' tb d room v Lt Lv := ⟨h.1.mod0 m, h.2.1.keep m, h.2.2.1, h.2.2.2.trans' m⟩
theorem BothB.back {w00 : World} (h : BothB w0 W tb d room v Lt Lv) (M : Mod (fun _ => False) w00 w0) : BothB w00 W tb d room v Lt Lv := ⟨h.1.mono fun k hk _ => ⟨Nat.le_trans M.size hk.1, hk.2⟩, h.2.1, fun k hk => Nat.le_trans M.size (h.2.2.1 k hk), M.trans' h.2.2.2⟩
theorem BothB.fb7 (h : BothB w0 W tb d room v Lt Lv) : FB7 w0 W tb d room Lt := ⟨h.1.mono fun _ hk _ => hk.1, h.2.2.2⟩
theorem BothB.below (h : BothB w0 W tb d room v Lt Lv) : Below w0.heap.size w0 W := h.2.2.2.to_below (Nat.le_refl _) fun _ h => h.elim
theorem BothB.start (h : FB7 w0 W tb d room Lt) : BothB w0 W tb d room (.slice none 0 0) Lt [] := ⟨h.1.mono fun k hk _ => ⟨hk, by intro e; cases e⟩, RowV.nil _, (by intro k hk; cases hk), h.2⟩
theorem bothB_do (h : BothB w0 W tb d room v L L) (o : Op6) (hf : fit64 o.s.la) : Calls Tryz.prog 18 #[v, .int .i64 room, .agg (encO6 o).toArray] W fun e W' => ∃ v', e = .returned (.tuple #[v', .bool (do6B o L), .int .i64 (do6E room o L)]) ∧ BothB w0 W' tb d room v' L (do6L room o L) ∧ Mod (fun _ => False) W W' := by
  have hb := bb_bound h.1
  refine (doR h.2.1 (bb_row h.1) (by omega) room o hf).mono ?_
  rintro e W1 ⟨v', rfl, R, M, H⟩
  refine ⟨v', rfl, ⟨(h.1.mono fun k hk hlt => ⟨hk.1, fun e => ?_⟩).mod0 M, R, fun k hk => ?_, h.2.2.2.trans' M⟩, M⟩
  · rcases H k hk with e | e
    · exact h.2.2.1 k e
    · exact Nat.le_trans h.2.2.2.size e
  · rcases H k e with e | e
    · exact hk.2 e
    · omega
theorem bothB_does (h : BothB w0 W tb d room v Lt Lv) (o : Op6) (hf : fit64 o.s.la) : Calls Tryz.prog 19 #[.pointer (some ⟨tb, 0, none⟩), .agg (encO6 o).toArray] W fun e W' => e = .returned (.tuple #[.bool (do6B o Lt), .int .i64 (do6E room o Lt)]) ∧ BothB w0 W' tb d room v (do6L room o Lt) Lv := by
  refine (doesB h.1 o hf).mono ?_
  rintro e W1 ⟨rfl, R, M⟩
  refine ⟨rfl, R.mono fun k hk hlt => ?_, own_mod h.2.1 M fun k hk hX => hX.2 hk, h.2.2.1, h.2.2.2.trans M fun j hj => .inr hj.1⟩
  rcases hk with hk | hk
  · exact hk
  · exact ⟨Nat.le_trans h.2.2.2.size hk, fun e => by have := own_lt h.2.1 e; omega⟩
end
section
variable {w0 W W' : World} {tb d : Nat} {room : Int} {v v' : Value} {Lt Lv L L' : List Sg}
theorem BothB.row (h : BothB w0 W tb d room v L Lv) (R : RowV W' v' L') (M : Mod (fun _ => False) W W') (H : Hence W v v') : BothB w0 W' tb d room v' L L' := by
  refine ⟨(h.1.mono fun k hk hlt => ⟨hk.1, fun e => ?_⟩).mod0 M, R, fun k hk => ?_, h.2.2.2.trans' M⟩
  · rcases H k hk with e | e
    · exact h.2.2.1 k e
    · exact Nat.le_trans h.2.2.2.size e
  · rcases H k e with e | e
    · exact hk.2 e
    · omega
theorem BothB.tree (h : BothB w0 W tb d room v Lt Lv) (R : BB (fun k => (w0.heap.size ≤ k ∧ v.ownBlock ≠ some k) ∨ W.heap.size ≤ k) W' tb d room L) (M : Mod (fun k => w0.heap.size ≤ k ∧ v.ownBlock ≠ some k) W W') : BothB w0 W' tb d room v L Lv := by
  refine ⟨R.mono fun k hk hlt => ?_, own_mod h.2.1 M fun k hk hX => hX.2 hk, h.2.2.1, h.2.2.2.trans M fun j hj => .inr hj.1⟩
  rcases hk with hk | hk
  · exact hk
  · exact ⟨Nat.le_trans h.2.2.2.size hk, fun e => by have := own_lt h.2.1 e; omega⟩
theorem bothB_rput (h : BothB w0 W tb d room v L L) (s : Sg) (hf : fit64 s.la) : Calls Tryz.prog 46 #[v, .int .i64 room, .agg (encS s).toArray] W fun e W' => ∃ v', e = .returned (.tuple #[v', .int .i64 (putE room s L)]) ∧ BothB w0 W' tb d room v' L (putL room s L) ∧ Mod (fun _ => False) W W' := by
  have hb := bb_bound h.1
  exact (putR h.2.1 (bb_row h.1) (by omega) room s hf).mono fun e W1 ⟨v', he, R, M, H⟩ => ⟨v', he, h.row R M H, M⟩
theorem bothB_put (h : BothB w0 W tb d room v Lt Lv) (s : Sg) (hf : fit64 s.la) : Calls Tryz.prog 21 #[.pointer (some ⟨tb, 0, none⟩), .agg (encS s).toArray] W fun e W' => e = .returned (.int .i64 (putE room s Lt)) ∧ BothB w0 W' tb d room v (putL room s Lt) Lv :=
  (bb_put h.1 s hf).mono fun e W1 ⟨he, R, M⟩ => ⟨he, h.tree R M⟩
theorem bothB_rdel (h : BothB w0 W tb d room v L L) (cs ca : Int) (hf : fit64 ca) : Calls Tryz.prog 47 #[v, .agg #[.int .i64 cs, .int .i64 ca]] W fun e W' => ∃ v', e = .returned (.tuple #[v', .bool (hasK (kx cs ca) L)]) ∧ BothB w0 W' tb d room v' L (delL (kx cs ca) L) ∧ Mod (fun _ => False) W W' := by
  have hb := bb_bound h.1
  exact (delR h.2.1 (bb_row h.1) (by omega) cs ca hf).mono fun e W1 ⟨v', he, R, M, H⟩ => ⟨v', he, h.row R M H, M⟩
theorem bothB_del (h : BothB w0 W tb d room v Lt Lv) (cs ca : Int) (hf : fit64 ca) : Calls Tryz.prog 24 #[.pointer (some ⟨tb, 0, none⟩), .agg #[.int .i64 cs, .int .i64 ca]] W fun e W' => e = .returned (.bool (hasK (kx cs ca) Lt)) ∧ BothB w0 W' tb d room v (delL (kx cs ca) Lt) Lv :=
  (bb_del h.1 cs ca hf).mono fun e W1 ⟨he, R, M⟩ => ⟨he, h.tree R M⟩
end
end Go.Proofs.Bo
