import Derived.Test.YtofgoehkahcajaaGreatPBG
import Derived.Test.YtofgoehkahcajaaGreatSmG
set_option linter.unusedVariables false
set_option linter.unusedSimpArgs false
namespace Go.Proofs.Bo
open Go Go.RowKit

def encW (s : Nat × Nat) : List Value := [.int .i64 (s.1 : Int), .int .i64 (s.2 : Int)]
theorem infoSt : (Tryz.prog.info? 117).map (fun i => (i.zero, i.size, i.bytes)) = some (some (.agg #[.int .i64 0, .int .i64 0]), 2, 16) := by kernel_rfl

/-- A way in memory (its last node first): a slice, in block b. -/
structure WayM (w : World) (b : Nat) (v : Value) (ws : List (Nat × Nat)) : Prop where
  box : w.heap[b]? = some (.cells #[v] 115 (0, 0))
  row : w.ownsRow 0 117 2 v ws.length (ws.reverse.flatMap encW)
  ne : v.ownBlock ≠ some b

section
variable {w w' : World} {tb ab : Nat} {lv fv : Value} {σ : List (Option Bn)} {free : List Int} {root deg room many : Int} {S : StB} {d : Nat} {L : List Sg}

theorem WayM.mod {R : Nat → Prop} {b : Nat} {v : Value} {ws : List (Nat × Nat)} (h : WayM w b v ws) (m : Mod R w w') (h1 : ¬ R b) (h2 : ∀ k, v.ownBlock = some k → ¬ R k) : WayM w' b v ws :=
  ⟨m.heap h.box h1, own_mod h.row m h2, h.ne⟩
theorem WayM.push {b : Nat} {v v1 : Value} {ws : List (Nat × Nat)} (h : WayM w b v ws) (x : Nat × Nat) {w1 : World} (own : w1.ownsRow 0 117 2 v1 (ws.length + 1) (ws.reverse.flatMap encW ++ encW x)) (gr : w.grownBy w1 v.ownBlock)
    (bl : ∀ k, v1.ownBlock = some k → v.ownBlock = some k ∨ w.heap.size ≤ k) : WayM (w1.setCell ⟨b, 0, none⟩ v1) b v1 (x :: ws) ∧ Mod (fun k => k = b ∨ v.ownBlock = some k) w (w1.setCell ⟨b, 0, none⟩ v1) := by
  have Mg : Mod (fun k => v.ownBlock = some k) w w1 := Mod.of_grown gr
  have hb := Mg.heap h.box h.ne
  have hne : v1.ownBlock ≠ some b := fun e => by
    rcases bl b e with e | e
    · exact h.ne e
    · have := blkl h.box; omega
  have MS : Mod (fun k => k = b) w1 (w1.setCell ⟨b, 0, none⟩ v1) := Mod.setCell (S := fun k => k = b) (p := ⟨b, 0, none⟩) (Mod.refl _ _) (.inl rfl) _
  refine ⟨⟨setL_whole (cs := [v]) (us := [v1]) hb rfl, own_mod ?_ MS fun k hk e => hne (by rw [← show k = b from e]; exact hk), hne⟩, (Mg.mono fun k hk => .inl (.inr hk)).trans MS fun k hk => .inl (.inl hk)⟩
  simpa using own

/-- Where a way down stands: at a node, or at none. -/
def DownN (d : Nat) (S : StB) (g : Nat) (i : Int) (Lk : List Sg) (n : Nat) : Prop := (i = -1 ∧ g = 0 ∧ Lk = [] ∧ n = 0) ∨ ∃ (r h lo : Nat) (F : List Nat), i = r ∧ g = h + 1 ∧ Sub d S h lo r Lk F ∧ n = F.length
def DownX (w : World) (d : Nat) (S : StB) (wb : Nat) (v0 : Value) (T : List Sg) (N : Nat) (g : Nat) (i : Value) (W : World) : Prop :=
  ∃ (iv : Int) (Lk R : List Sg) (n m : Nat) (v : Value) (ws : List (Nat × Nat)), i = .int .i64 iv ∧ DownN d S g iv Lk n ∧ WayB d S ws R m ∧ T = Lk ++ R ∧ N = n + m ∧ WayM W wb v ws ∧ Mod (fun k => k = wb ∨ v0.ownBlock = some k) w W ∧ (∀ k, v.ownBlock = some k → v0.ownBlock = some k ∨ w.heap.size ≤ k)

set_option maxHeartbeats 2000000 in
theorem downC (h : MemB w tb ab lv fv σ free root deg room many S) {wb tx : Nat} {v : Value} {ws : List (Nat × Nat)} (hw : WayM w wb v ws) (htx : w.heap[tx]? = some (.cells #[.pointer (some ⟨tb, 0, none⟩)] 27 (0, 0)))
    (hap : ∀ k, FootB tb ab lv fv σ k → k ≠ wb ∧ v.ownBlock ≠ some k) (hx : tx ≠ wb ∧ v.ownBlock ≠ some tx) {g0 n m : Nat} {i : Int} {Lk R : List Sg} (hi : DownN d S g0 i Lk n) (hW : WayB d S ws R m) (hN : n + m ≤ 65536) :
    Calls Tryz.prog 75 #[.int .i64 i, .pointer (some ⟨wb, 0, none⟩), .pointer (some ⟨tx, 0, none⟩)] w fun e w' => e = .returned (.tuple #[]) ∧ ∃ v' ws', WayM w' wb v' ws' ∧ WayB d S ws' (Lk ++ R) (n + m) ∧ Mod (fun k => k = wb ∨ v.ownBlock = some k) w w' ∧ (∀ k, v'.ownBlock = some k → v.ownBlock = some k ∨ w.heap.size ≤ k) := by
  obtain ⟨T, hT⟩ : ∃ T, Lk ++ R = T := ⟨_, rfl⟩
  obtain ⟨N, hNN⟩ : ∃ N, n + m = N := ⟨_, rfl⟩
  rw [hT, hNN]
  rw [hNN] at hN
  replace hT := hid hT
  replace hNN := hid hNN
  go_enter Tryz.func75, Tryz.ntmps75
  go_wp2_with fail
  go_loopg [0] g0 (fun g i W => DownX w d S wb v T N g i W)
  case atStart => exact ⟨i, Lk, R, n, m, v, ws, rfl, hi, hW, hT.out.symm, hNN.out.symm, hw, Mod.refl _ _, fun k hk => .inl hk⟩
  case round =>
    obtain ⟨iv, Lk', R', n', m', v', ws', rfl, hi', hW', eT, eN, hw', M, hv'⟩ := hrel
    clear hi hW hw hT hNN
    have hm : MemB wr tb ab lv fv σ free root deg room many S := h.mod M fun k hk e => by
      rcases e with e | e
      · exact (hap k hk).1 e
      · exact (hap k hk).2 e
    have htx' := M.heap htx fun e => by
      rcases e with e | e
      · exact hx.1 e
      · exact hx.2 e
    rcases hi' with ⟨rfl, rfl, rfl, rfl⟩ | ⟨r, hh, lo, F, rfl, rfl, hS, rfl⟩
    · clear hm h htx htx'
      replace hW' := hid hW'
      replace eT := hid eT
      replace eN := hid eN
      go_wp2_with fail
      go_end0
      refine ⟨rfl, v', ws', hw', ?_, M, hv'⟩
      have e1 := eT.out
      have e2 := eN.out
      simp only [List.nil_append, Nat.zero_add] at e1 e2
      rw [e1, e2]
      exact hW'.out
    · obtain ⟨l, ks, hSr, hl1, hl2, hks⟩ := hS.node
      obtain ⟨b, hb, hn⟩ := hm.live hSr
      obtain ⟨lb, c, rfl⟩ := hm.lbS hb
      obtain ⟨q1, q2⟩ := blkc hw'.box
      obtain ⟨t1, t2⟩ := blkc htx'
      have hlen := hW'.len
      have hlen2 : ws'.length ≤ 65536 := by omega
      have hr0 : ((r : Int) != -1) = true := by simp
      have hrow := hw'.row
      have hwl := blkl hw'.box
      have htl := blkl htx'
      have hwz : w.heap.size ≤ wr.heap.size := M.size
      have hFL : ∀ k, FootB tb ab (.slice (some ⟨lb, 0, none⟩) σ.length c) fv σ k → k < w.heap.size := fun k hk => h.lt hk
      have htw := blkl htx
      replace hks := hid hks
      replace hl2 := hid hl2
      replace hS := hid hS
      replace hW' := hid hW'
      replace eT := hid eT
      replace eN := hid eN
      replace hap := hid hap
      replace hv' := hid hv'
      clear h htx
      go_wp2_with (at_builtin; refine app_one [.int .i64 (r : Int), .int .i64 (0 : Int)] v' ws'.length (ws'.reverse.flatMap encW) (.tmp 6) (.tmp 9) 115 117 (.agg #[.int .i64 0, .int .i64 0]) 2 16 rfl rfl Tryz.underlying115 infoSt rfl (by omega) (by omega) rfl rfl hrow rfl (by simp [Value.oneCell']) (by omega) ?_)
      intro v1 w1 own gr bl
      obtain ⟨P1, P2⟩ := hw'.push (r, 0) own gr bl
      obtain ⟨A1, c1, rfl, _⟩ := own_slice own
      obtain ⟨w3, hw3⟩ : ∃ w3, w1.setCell ⟨wb, 0, none⟩ (.slice A1 (ws'.length + 1) c1) = w3 := ⟨_, rfl⟩
      have Mg : Mod (fun k => v'.ownBlock = some k) wr w1 := Mod.of_grown gr
      obtain ⟨u1, u2⟩ := blkc (Mg.heap hw'.box hw'.ne)
      rw [hw3] at P1 P2
      have hXv : ∀ k, (k = wb ∨ v'.ownBlock = some k) → k = wb ∨ v.ownBlock = some k ∨ w.heap.size ≤ k := fun k hk => hk.elim (fun e => .inl e) fun e => (hv'.out k e).elim (fun e => .inr (.inl e)) fun e => .inr (.inr e)
      have m3 := hm.mod P2 fun k hk e => by
        rcases hXv k e with e | e | e
        · exact (hap.out k hk).1 e
        · exact (hap.out k hk).2 e
        · have := hFL k hk; omega
      have htx3 := P2.heap htx' fun e => by
        rcases hXv tx e with e | e | e
        · exact hx.1 e
        · exact hx.2 e
        · omega
      obtain ⟨t5, t6⟩ := blkc htx3
      obtain ⟨l', ks', e', hn3⟩ := m3.node r b hb
      rw [hSr] at e'; cases e'
      have PA := atM m3 hb
      have PL := leafM m3 hb hn3
      obtain ⟨q5, q6, q7, q8⟩ := m3.cells hb
      have hnk := hn3.kn
      have M3 : Mod (fun k => k = wb ∨ v.ownBlock = some k) w w3 := M.trans P2 fun k hk => (hXv k hk).elim (fun e => .inl (.inl e)) fun e => e.elim (fun e => .inl (.inr e)) fun e => .inr e
      have hv1 : ∀ k, (Value.slice A1 (ws'.length + 1) c1).ownBlock = some k → v.ownBlock = some k ∨ w.heap.size ≤ k := fun k hk => by
        rcases bl k hk with e | e
        · exact hv'.out k e
        · exact .inr (by omega)
      replace hXv := hid hXv
      replace hFL := hid hFL
      replace bl := hid bl
      replace hv1 := hid hv1
      clear gr Mg hrow t1 t2 q1 q2
      rcases hS.out.step hSr with ⟨rfl, hst⟩ | ⟨h', kid, L0, F0, R1, n1, rfl, hk0, hS0, hst, eL, eF⟩
      · simp only [decide_true] at PL
        replace hst := hid hst
        go_wp2_with fail
        refine PA.mono ?_; rintro e w4 ⟨rfl, hw4⟩; subst hw4
        go_wp2_with fail
        refine PL.mono ?_; rintro e w4 ⟨rfl, hw4⟩; subst hw4
        go_wp2_with fail
        refine bodyPost_ret (results_none rfl _ _ _) rfl ⟨rfl, _, _, P1, ?_, M3, hv1.out⟩
        rw [eT.out, eN.out]
        exact ⟨hh, _, _, R', m', hst.out, hW'.out, rfl, rfl⟩
      · rw [show decide (ks = []) = false from by simp; rintro rfl; simp at hk0] at PL
        obtain ⟨h0, hkk⟩ := List.getElem?_eq_some_iff.1 hk0
        obtain ⟨gk, hgk, yk⟩ := hn3.kidC h0
        rw [hkk] at yk
        rw [hnk, hgk] at q6
        have h0I : (0 : Int) < ks.length := by omega
        replace hst := hid hst
        replace hS0 := hid hS0
        replace eL := hid eL
        replace eF := hid eF
        replace hk0 := hid hk0
        replace hkk := hid hkk
        clear hn hn3 hSr hl1
        go_wp2_with fail
        refine PA.mono ?_; rintro e w4 ⟨rfl, hw4⟩; subst hw4
        go_wp2_with fail
        refine PL.mono ?_; rintro e w4 ⟨rfl, hw4⟩; subst hw4
        go_wp2_with fail
        refine PA.mono ?_; rintro e w4 ⟨rfl, hw4⟩; subst hw4
        go_wp2_with fail
        go_roundg (h' + 1)
        case measure => omega
        case rel =>
          refine ⟨kid, L0, R1 ++ R', F0.length, n1 + m', _, (r, 0) :: ws', rfl, .inr ⟨kid, h', d - 1, F0, rfl, rfl, hS0.out, rfl⟩, ⟨_, _, _, R', m', hst.out, hW'.out, rfl, rfl⟩, ?_, ?_, P1, M3, hv1.out⟩
          · rw [eT.out, eL.out, List.append_assoc]
          · rw [eN.out, eF.out]; omega
end
end Go.Proofs.Bo
