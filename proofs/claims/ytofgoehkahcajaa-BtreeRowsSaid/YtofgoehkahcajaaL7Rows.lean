import Derived.Test.YtofgoehkahcajaaAMG
import Derived.Test.YtofgoehkahcajaaAll7
import Derived.Test.YtofgoehkahcajaaRefG
import Derived.Test.YtofgoehkahcajaaCopy7
import Derived.Test.YtofgoehkahcajaaI64s
set_option linter.unusedVariables false
set_option linter.unusedSimpArgs false
namespace Go.Proofs.Bo
open Go Go.RowKit

section
variable {w w0 Wc W W' : World} {tb d : Nat} {room : Int} {v v' : Value} {l Lt Lv L : List Sg} {X T0 : Nat → Prop}

theorem bb_copy (h : BB X w tb d room l) : Calls Try.prog 40 #[.pointer (some ⟨tb, 0, none⟩)] w fun e w' => ∃ nt, e = .returned (.pointer (some ⟨nt, 0, none⟩)) ∧ BB (fun k => w.heap.size ≤ k) w' nt d room l ∧ Mod (fun _ => False) w w' := by
  obtain ⟨ab, lv, fv, σ, free, root, S, h1, h2, h3, h4, h5, h6, h7⟩ := h
  have hS : ∀ i l ks, S i = some (l, ks) → l.length ≤ 65536 ∧ ks.length ≤ 65536 := fun i l ks hi => by
    rcases h2 with ⟨_, _, hn⟩ | ⟨r, hh, F, _, hs, _, hF⟩
    · rw [hn i] at hi; cases hi
    · have := hs.bound (by omega) i ((hF i).2 (by rw [hi]; simp)) l ks hi
      omega
  refine (copyBZ h1 hS).mono ?_
  rintro e w' ⟨nt, nb, lv', fv', σ', rfl, m1, m2, m3⟩
  exact ⟨nt, rfl, ⟨nb, lv', fv', σ', free, root, S, m1, h2, h3, h4, h5, h6, m2⟩, m3⟩

/-- A tree and a row; since Wc blocks of T0 alone have changed. -/
def BothG (T0 : Nat → Prop) (Wc W : World) (tb d : Nat) (room : Int) (v : Value) (Lt Lv : List Sg) : Prop :=
  BB (fun k => (T0 k ∨ Wc.heap.size ≤ k) ∧ v.ownBlock ≠ some k) W tb d room Lt ∧ RowV W v Lv ∧ Mod T0 Wc W
theorem BothG.mod0 (h : BothG T0 Wc W tb d room v Lt Lv) (m : Mod (fun _ => False) W W') : BothG T0 Wc W' tb d room v Lt Lv := ⟨h.1.mod0 m, h.2.1.keep m, h.2.2.trans m fun _ h => h.elim⟩
theorem bothG_rdel (h : BothG T0 Wc W tb d room v L L) (cs ca : Int) (hf : fit64 ca) : Calls Try.prog 41 #[v, .agg #[.int .i64 cs, .int .i64 ca]] W fun e W' => ∃ v', e = .returned (.tuple #[v', .bool (hasK (kx cs ca) L)]) ∧ BothG T0 Wc W' tb d room v' L (delL (kx cs ca) L) := by
  have hb := bb_bound h.1
  refine (delR h.2.1 (bb_row h.1) (by omega) cs ca hf).mono ?_
  rintro e W1 ⟨v', rfl, R, M, H⟩
  refine ⟨v', rfl, (h.1.mono fun k hk hlt => ⟨hk.1, fun e => ?_⟩).mod0 M, R, h.2.2.trans M fun _ h => h.elim⟩
  rcases H k e with e | e
  · exact hk.2 e
  · omega
theorem bothG_del (h : BothG T0 Wc W tb d room v Lt Lv) (cs ca : Int) (hf : fit64 ca) : Calls Try.prog 42 #[.pointer (some ⟨tb, 0, none⟩), .agg #[.int .i64 cs, .int .i64 ca]] W fun e W' => e = .returned (.bool (hasK (kx cs ca) Lt)) ∧ BothG T0 Wc W' tb d room v (delL (kx cs ca) Lt) Lv := by
  refine (bb_del h.1 cs ca hf).mono ?_
  rintro e W1 ⟨rfl, R, M⟩
  refine ⟨rfl, R.mono fun k hk hlt => ?_, own_mod h.2.1 M fun k hk hX => hX.2 hk, h.2.2.trans M fun k hk => hk.1⟩
  rcases hk with hk | hk
  · exact hk
  · exact ⟨.inr (Nat.le_trans h.2.2.size hk), fun e => by have := own_lt h.2.1 e; omega⟩
end

set_option maxHeartbeats 4000000 in
theorem rows7 (deg : Int) (a1 : Option Addr) (len1 cap1 : Nat) (zs1 : List Int) (a2 : Option Addr) (len2 cap2 : Nat) (zs2 : List Int) (w : World) (hr1 : RdS encI 1 w a1 len1 zs1) (hG1 : ∀ z ∈ zs1, GI z) (hl1 : len1 * 8 ≤ 140737488351232)
    (hr2 : RdS encI 1 w a2 len2 zs2) (hG2 : ∀ z ∈ zs2, GI z) (hl2 : len2 * 8 ≤ 140737488351232) :
    Calls Try.prog 8 #[.int .i64 deg, .slice a1 len1 cap1, .slice a2 len2 cap2] w fun e w' => e = .returned (.bool true) ∧ Below w.heap.size w w' := by
  by_cases hb : deg < 2 ∨ 64 < deg
  · have P := newBZ_no deg 4096 (by omega) w
    clear hb
    go_enter Try.func8, Try.ntmps8
    go_wp2_with fail
    refine P.mono ?_
    rintro e w1 ⟨rfl, hw⟩
    rw [hw]; clear hw P
    go_wp2_with fail
    refine (alive7 _).mono ?_
    rintro e w2 ⟨rfl, B2⟩
    go_wp2_with fail
    go_ret
    exact ⟨rfl, B2⟩
  obtain ⟨d, rfl⟩ : ∃ d : Nat, deg = d := ⟨deg.toNat, by omega⟩
  have hd : 2 ≤ d ∧ d ≤ 64 := by omega
  clear hb
  have P := fb7_new hd (room := 4096) (by omega) w
  by_cases h2 : 300 < len1 + len2
  · have h2' : (300 : Int) < (len1 : Int) + len2 := by omega
    go_enter Try.func8, Try.ntmps8
    go_wp2_with fail
    refine P.mono ?_
    rintro e w1 ⟨tb, rfl, F1⟩
    go_wp2_with fail
    refine (alive7 _).mono ?_
    rintro e w2 ⟨rfl, B2⟩
    go_wp2_with fail
    go_ret
    exact ⟨rfl, F1.below.trans (B2.mono F1.below.size)⟩
  have h2' : ¬ (300 : Int) < (len1 : Int) + len2 := by omega
  go_enter Try.func8, Try.ntmps8
  go_wp2_with fail
  refine P.mono ?_
  rintro e w1 ⟨tb, rfl, F1⟩
  clear P
  replace F1 := BothB.start F1
  go_wp2_with fail
  go_loopw [9, 42] (fun v c W => ∃ (k : Nat) (L : List Sg), k ≤ len1 ∧ c = .int .i64 k ∧ BothB w W tb d 4096 v L L) (fun _ c _ => (len1 - intOf c).toNat)
  case atStart => exact ⟨0, _, by omega, rfl, F1⟩
  case round =>
    clear F1
    obtain ⟨k, L, hk, rfl, F⟩ := hrel
    by_cases hlt : k < len1
    · have hzl : k < zs1.length := by rw [hr1.1]; exact hlt
      obtain ⟨b, o, rfl, hc⟩ := hr1.2.2 (by omega)
      have c0 := RdS.int1 hc F.below hzl
      have hg := hG1 zs1[k] (by simp)
      generalize zs1[k] = z at c0 hg
      clear hc hr1 hr2 hG1 hG2 hzl
      have hf : fit64 (segN z).la := by unfold fit64 segN; unfold GI at hg; exact hg
      have hkb : (k : Int) < 400 := by omega
      clear hg
      go_wp2_with fail
      refine (segB z _).mono ?_
      rintro e w2 ⟨rfl, M2⟩
      replace F := F.mod0 M2
      go_wp2_with fail
      refine (bothB_rput F (segN z) hf).mono ?_
      rintro e w3 ⟨v', rfl, F3, M3⟩
      clear F c0
      go_wp2_with fail
      refine (segB z _).mono ?_
      rintro e w4 ⟨rfl, M4⟩
      replace F3 := F3.mod0 M4
      go_wp2_with fail
      refine (bothB_put F3 (segN z) hf).mono ?_
      rintro e w5 ⟨rfl, F5⟩
      clear F3
      generalize putE 4096 (segN z) L = r1, putL 4096 (segN z) L = L2 at F5 ⊢
      go_wp2_with fail
      refine (bb_check F5.1).mono ?_
      rintro e w6 ⟨rfl, M6⟩
      replace F5 := F5.mod0 M6
      go_wp2_with fail
      go_roundw
      case rel => exact ⟨k + 1, L2, by omega, by simp, F5⟩
      case measure => simp [intOf]; omega
    · obtain rfl : k = len1 := by omega
      clear hlt hk hr1 hG1
      have hWlt : w.heap.size ≤ wr.heap.size := F.2.2.2.size
      go_wp2_with fail
      refine (bb_copy F.1).mono ?_
      rintro e Wc ⟨nt, rfl, CT, MC⟩
      have hbd := bb_bound F.1
      have Bc : Below w.heap.size w Wc := (F.mod0 MC).below
      have hWc := MC.size
      have G : BothG (fun k => k < wr.heap.size ∧ w.heap.size ≤ k ∧ u9.ownBlock ≠ some k) Wc Wc tb d 4096 u9 L L := by
        have := F.mod0 MC
        refine ⟨F.1.mono (fun k hk hlt => ⟨.inl ⟨hlt, hk⟩, hk.2⟩) |>.mod0 MC, this.2.1, Mod.refl _ _⟩
      have RW := (F.mod0 MC).2.1
      have hvlt := fun k (hk : u9.ownBlock = some k) => own_lt F.2.1 hk
      have RC : ∀ W, Mod (fun k => k < wr.heap.size ∧ w.heap.size ≤ k ∧ u9.ownBlock ≠ some k) Wc W → RowV W u9 L ∧ BB (fun k => wr.heap.size ≤ k) W nt d 4096 L := fun W M =>
        ⟨own_mod RW M fun k hk h => h.2.2 hk, CT.mod M fun k hk _ h => by omega⟩
      replace RC := hid RC
      have hvlt' : ∀ k, u9.ownBlock = some k → k < wr.heap.size := hvlt
      clear hvlt RW CT F
      obtain ⟨wn, hwn⟩ : ∃ wn, wr.heap.size = wn := ⟨_, rfl⟩
      rw [hwn] at G RC hWlt hWc hvlt'
      have hL0 : L.length ≤ 4096 := by omega
      clear hbd hwn MC
      replace hWlt := hid hWlt
      replace hWc := hid hWc
      replace hvlt' := hid hvlt'
      obtain ⟨A0, c0, rfl, _⟩ := G.2.1.slice
      go_wp2_with fail
      go_loopw [9, 73] (fun v c W => ∃ (k : Nat) (L2 : List Sg), k ≤ len2 ∧ c = .int .i64 k ∧ BothG (fun k => k < wn ∧ w.heap.size ≤ k ∧ (Value.slice A0 L.length c0).ownBlock ≠ some k) Wc W tb d 4096 v L2 L2) (fun _ c _ => (len2 - intOf c).toNat)
      case atStart => exact ⟨0, _, by omega, rfl, G⟩
      case round =>
        clear G
        obtain ⟨j, L2, hj, rfl, G⟩ := hrel
        have BW : Below w.heap.size w wr := Bc.trans (G.2.2.to_below (B := w.heap.size) Bc.size fun k hk => hk.2.1)
        by_cases hlt : j < len2
        · have hzl : j < zs2.length := by rw [hr2.1]; exact hlt
          obtain ⟨b, o, rfl, hc⟩ := hr2.2.2 (by omega)
          have c1 := RdS.int1 hc BW hzl
          have hg := hG2 zs2[j] (by simp)
          generalize zs2[j] = z at c1 hg
          clear hc hr2 hG2 hzl
          have hf : fit64 z := by unfold fit64; unfold GI at hg; exact hg
          have hkb : (j : Int) < 400 := by omega
          clear hg BW
          go_wp2_with fail
          refine (bothG_rdel G 0 z hf).mono ?_
          rintro e w3 ⟨v', rfl, F3⟩
          clear G c1
          go_wp2_with fail
          refine (bothG_del F3 0 z hf).mono ?_
          rintro e w5 ⟨rfl, F5⟩
          clear F3
          generalize hasK (kx 0 z) L2 = r1, delL (kx 0 z) L2 = L3 at F5 ⊢
          go_wp2_with fail
          refine (bb_check F5.1).mono ?_
          rintro e w6 ⟨rfl, M6⟩
          replace F5 := F5.mod0 M6
          go_wp2_with fail
          go_roundw
          case rel => exact ⟨j + 1, L3, by omega, by simp, F5⟩
          case measure => simp [intOf]; omega
        · obtain rfl : j = len2 := by omega
          clear hlt hj hr2 hG2 BW
          go_wp2_with fail
          refine (alive7 _).mono ?_
          rintro e w4 ⟨rfl, B4⟩
          replace G := G.mod0 (Mod.of_below B4)
          have hb := bb_bound G.1
          go_wp2_with fail
          refine (allR7 G.1 (by omega)).mono ?_
          rintro e w5 ⟨v5, rfl, R5, H5, M5⟩
          replace G := G.mod0 M5
          go_wp2_with fail
          refine (sameR R5 G.2.1 (by omega)).mono ?_
          rintro e w6 ⟨rfl, M6⟩
          replace G := G.mod0 M6
          obtain ⟨RW6, CT6⟩ := RC.out _ G.2.2
          clear hb
          go_wp2_with fail
          refine (allR7 CT6 (by omega)).mono ?_
          rintro e w7 ⟨v7, rfl, R7, H7, M7⟩
          replace G := G.mod0 M7
          obtain ⟨RW7, CT7⟩ := RC.out _ G.2.2
          go_wp2_with fail
          refine (sameR R7 RW7 (by omega)).mono ?_
          rintro e w8 ⟨rfl, M8⟩
          replace G := G.mod0 M8
          obtain ⟨RW8, CT8⟩ := RC.out _ G.2.2
          go_wp2_with fail
          refine (bb_check CT8).mono ?_
          rintro e w9 ⟨rfl, M9⟩
          replace G := G.mod0 M9
          have BW : Below w.heap.size w w9 := Bc.trans (G.2.2.to_below (B := w.heap.size) Bc.size fun k hk => hk.2.1)
          go_wp2_with fail
          go_ret
          exact ⟨rfl, BW⟩
theorem rows7r (deg : Int) (a1 : Option Addr) (len1 cap1 : Nat) (zs1 : List Int) (a2 : Option Addr) (len2 cap2 : Nat) (zs2 : List Int) (w : World) (_ : (Lit.int .i64 deg).wf = true) (hr1 : RdS encI 1 w a1 len1 zs1) (hG1 : ∀ z ∈ zs1, GI z) (hl1 : len1 * 8 ≤ 140737488351232)
    (hr2 : RdS encI 1 w a2 len2 zs2) (hG2 : ∀ z ∈ zs2, GI z) (hl2 : len2 * 8 ≤ 140737488351232) :
    Calls Try.prog 8 #[.int .i64 deg, .slice a1 len1 cap1, .slice a2 len2 cap2] w fun e w' => e = .returned (.bool true) ∧ Below w.heap.size w w' :=
  rows7 deg a1 len1 cap1 zs1 a2 len2 cap2 zs2 w hr1 hG1 hl1 hr2 hG2 hl2
end Go.Proofs.Bo
