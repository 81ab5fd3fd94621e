import Derived.Test.YtofgoehkahcajaaLoad7
set_option linter.unusedVariables false
set_option linter.unusedSimpArgs false
namespace Go.Proofs.Bo
open Go Go.RowKit

def RLoadQ (w : World) (room : Int) (zs : List Sg) (e : Ending) (w' : World) : Prop :=
  ((¬ OkTo zs zs.length ∧ e = .returned (.int .i64 1)) ∨ (OkTo zs zs.length ∧ room < zs.length ∧ e = .returned (.int .i64 50)) ∨ (OkTo zs zs.length ∧ (zs.length : Int) ≤ room ∧ e = .returned (.int .i64 0))) ∧ Mod (fun _ => False) w w'

attribute [local irreducible] wpQuiet in
set_option maxHeartbeats 4000000 in
set_option maxRecDepth 100000 in
theorem loadR_no (deg room : Int) (hb : ¬ (2 ≤ deg ∧ deg ≤ 64 ∧ 0 ≤ room ∧ room ≤ 4096)) (a : Option Addr) (len cap : Nat) (w : World) :
    Calls Try.prog 36 #[.int .i64 deg, .int .i64 room, .slice a len cap] w fun e w' => e = .returned (.int .i64 1) ∧ w' = w := by
  have PR := rightR deg room w
  rw [decide_eq_false hb] at PR
  clear hb
  go_enter Try.func36, Try.ntmps36
  go_wp2_with fail
  refine PR.mono ?_
  rintro e w1 ⟨rfl, hw⟩
  rw [hw]; clear hw PR
  go_wp2_with fail
  go_ret
  exact ⟨rfl, rfl⟩

attribute [local irreducible] wpQuiet in
set_option maxHeartbeats 4000000 in
set_option maxRecDepth 100000 in
theorem loadR (d : Nat) (room : Int) (hd : 2 ≤ d ∧ d ≤ 64) (h0 : 0 ≤ room ∧ room ≤ 4096) (a : Option Addr) (len cap : Nat) (zs : List Sg) (w : World) (hr : RdS encS 5 w a len zs) (hG : ∀ z ∈ zs, GSg z) (hl : len ≤ 300) :
    Calls Try.prog 36 #[.int .i64 (d : Int), .int .i64 room, .slice a len cap] w fun e w' => RLoadQ w room zs e w' := by
  have PR := rightR (d : Int) room w
  rw [decide_eq_true (by omega : 2 ≤ (d : Int) ∧ (d : Int) ≤ 64 ∧ 0 ≤ room ∧ room ≤ 4096)] at PR
  have hzl : zs.length = len := hr.1
  go_enter Try.func36, Try.ntmps36
  go_wp2_with fail
  refine PR.mono ?_
  rintro e w1 ⟨rfl, hw⟩
  rw [hw]; clear hw PR
  go_wp2_with fail
  go_loopw [7] (fun c W => ∃ k : Nat, k ≤ len ∧ c = .int .i64 (k : Int) ∧ OkTo zs k ∧ Mod (fun _ => False) w W) (fun c _ => (len - intOf c).toNat)
  case atStart => exact ⟨0, by omega, rfl, fun j hj => by omega, Mod.refl _ _⟩
  case round =>
    obtain ⟨k, hk, rfl, hok, F⟩ := hrel
    by_cases hlt : k < len
    · have hkz : k < zs.length := by omega
      obtain ⟨b, o, rfl, hc⟩ := hr.2.2 (by omega)
      have hBel : ∀ W, Mod (fun _ => False) w W → Below w.heap.size w W := fun W M => M.to_below (Nat.le_refl _) fun _ h => h.elim
      obtain ⟨x0, x1, _, _, _⟩ := RdS.seg hc (hBel _ F) hkz
      obtain ⟨u8, W8, g8, k8, b8, B8, N8⟩ := put2 wr zs[k].ls zs[k].la
      obtain ⟨d8, e8⟩ := blkc b8
      have F8 := F.trans' N8
      have HP := hid (fun w' (M : CM W8 w') => fun j (hj : j < zs.length) => RdS.seg hc (hBel _ (F8.trans' M)) hj)
      have HB := hid (fun w' (M : CM W8 w') => (blkc (M.heap B8 fun h => h)).1)
      have hokk : okAt zs k → OkTo zs (k + 1) := hok.succ
      have hdefk : okAt zs k ↔ okKey zs[k].ls zs[k].la ∧ (0 < k → ky zs[k - 1] < ky zs[k]) := ⟨fun h => h hkz, fun h _ => h⟩
      have hGk : ∀ j (hj : j < zs.length), fit64 zs[j].la := fun j hj => (hG _ (List.getElem_mem hj)).2.1
      have hbad : ¬ okAt zs k → ¬ OkTo zs zs.length := fun h1 h2 => h1 (h2 k hkz)
      clear hc hr hG
      have hky : ky zs[k] = kx zs[k].ls zs[k].la := rfl
      rw [hky] at hdefk
      have hgk := hGk k hkz
      have hpair : ∀ j (e : k = j + 1), ∀ w' (M : CM W8 w'), Calls Try.prog 61 #[.agg #[.int .i64 (zs[j]'(by omega)).ls, .int .i64 (zs[j]'(by omega)).la], .agg #[.int .i64 zs[k].ls, .int .i64 zs[k].la]] w' fun e w'' => e = .returned (.bool (decide (kx (zs[j]'(by omega)).ls (zs[j]'(by omega)).la < kx zs[k].ls zs[k].la))) ∧ CM W8 w'' := fun j e w' M =>
        (lessR (hGk j (by omega)) hgk w').mono fun e w'' ⟨h1, h2⟩ => ⟨h1, M.trans' h2⟩
      replace hpair := hid hpair
      have hprev : ∀ j (e : k = j + 1), okAt zs k ↔ okKey zs[k].ls zs[k].la ∧ ky (zs[j]'(by omega)) < ky zs[k] := fun j e => by
        subst e
        exact hdefk.trans ⟨fun h => ⟨h.1, h.2 (by omega)⟩, fun h => ⟨h.1, fun _ => h.2⟩⟩
      have hfirst : k = 0 → (okAt zs k ↔ okKey zs[k].ls zs[k].la) := fun e => hdefk.trans ⟨fun h => h.1, fun h => ⟨h, fun h => by omega⟩⟩
      have hkey : okAt zs k → okKey zs[k].ls zs[k].la := fun h => (hdefk.1 h).1
      have HR : ∀ w', CM W8 w' → Calls Try.prog 54 #[.agg #[.int .i64 zs[k].ls, .int .i64 zs[k].la]] w' fun e w'' => e = .returned (.agg #[.int .i64 (canS zs[k].ls zs[k].la), .int .i64 (canA zs[k].ls zs[k].la)]) ∧ CM W8 w'' := fun w' M => (canonR _ _ w').mono fun e w'' ⟨h1, h2⟩ => ⟨h1, M.trans' h2⟩
      clear hky hdefk
      obtain ⟨s, hs⟩ : ∃ s, zs[k] = s := ⟨_, rfl⟩
      simp only [hs] at HR hpair hprev hfirst hkey hokk hbad g8 k8 b8 B8 x0 x1 hgk HB d8
      clear F hok
      obtain ⟨ls, la, hs', ha, sv⟩ := s
      have hkn : (k : Int) < (len : Int) := by omega
      have e17 : IntKind.i64.wrap ((k : Int) + 1) = (k : Int) + 1 := by rw [IntKind.wrap_i64]; omega
      have hk00 : (0 : Int) ≤ (k : Int) := by omega
      by_cases hcan : canS ls la = ls ∧ canA ls la = la
      · simp only [hcan.1, hcan.2] at HR
        replace HR := hid HR
        by_cases hpos : 0 < ls
        · have hbad2 : ¬ OkTo zs zs.length := hbad fun h => by have h2 : ls ≤ 0 := (hkey h).2.2; omega
          have hpd : decide (ls > 0) = true := decide_eq_true hpos
          clear hbad hkey hfirst hprev hokk hpos hcan
          go_wp2_with fail
          refine cq_region (by kernel_rfl) (by kernel_rfl) ?_
          iterate 25 (refine wpQuiet_step (fun K hK => ?_); go_simp; first | (refine hK _ ?_; clear hK K) | (refine ⟨_, fun _ _ => rfl, hK _ ?_⟩; clear hK K) | (apply Exists.intro; refine ⟨fun wq hq => ?_, hK _ ?_⟩; (focus (first | (go_at_call 54; exact HR.out _ hq) | (have t1 := HB.out _ hq; go_simp; try with_reducible rfl))); clear hK K))
          refine wpQuiet_nil ?_
          intro w9 M9
          go_wp2_with fail
          go_ret
          exact ⟨.inl ⟨hbad2, rfl⟩, F8.trans' M9⟩
        · have hk3 : okKey ls la := ⟨hcan.1, hcan.2, by omega⟩
          have hpd : decide (ls > 0) = false := decide_eq_false hpos
          rcases Nat.eq_zero_or_pos k with hk0 | hk0
          · subst hk0
            simp only [Nat.zero_mul, Nat.add_zero] at x0 x1
            have hok1 := hokk ((hfirst rfl).2 hk3)
            replace hok1 := hid hok1
            clear hbad hkey hfirst hprev hokk hpos hcan hk3 hpair HP
            go_wp2_with fail
            refine cq_region (by kernel_rfl) (by kernel_rfl) ?_
            iterate 25 (refine wpQuiet_step (fun K hK => ?_); go_simp; first | (refine hK _ ?_; clear hK K) | (refine ⟨_, fun _ _ => rfl, hK _ ?_⟩; clear hK K) | (apply Exists.intro; refine ⟨fun wq hq => ?_, hK _ ?_⟩; (focus (first | (go_at_call 54; exact HR.out _ hq) | (have t1 := HB.out _ hq; go_simp; try with_reducible rfl))); clear hK K))
            refine wpQuiet_nil ?_
            intro w9 M9
            go_wp2_with fail
            go_roundw
            case rel => exact ⟨1, hlt, rfl, hok1.out, F8.trans' M9⟩
            case measure => simp [intOf]; omega
          · obtain ⟨j, rfl⟩ : ∃ j, k = j + 1 := ⟨k - 1, by omega⟩
            have HC := hpair.out j rfl
            have hjz : j < zs.length := by omega
            have HPj := fun w' (M : CM W8 w') => HP.out w' M j hjz
            have hiff := hprev j rfl
            generalize zs[j] = y at HC HPj hiff
            obtain ⟨yls, yla, yhs, yha, yv⟩ := y
            have hwj : IntKind.i64.wrap (j : Int) = (j : Int) := by rw [IntKind.wrap_i64]; omega
            have hj0 : (0 : Int) ≤ (j : Int) := by omega
            have hjn : (j : Int) < (len : Int) := by omega
            have hj1 : decide ((j : Int) + 1 > 0) = true := decide_eq_true (by omega)
            have htn : ((j : Int) + 1).toNat = j + 1 := by omega
            clear hfirst hkey hpair HP hprev
            by_cases hcmp : kx yls yla < kx ls la
            · have hok1 := hokk (hiff.2 ⟨hk3, hcmp⟩)
              simp only [decide_eq_true hcmp] at HC
              replace HC := hid HC
              replace HPj := hid HPj
              replace hok1 := hid hok1
              clear hbad hokk hpos hcan hk3 hcmp hiff
              go_wp2_with fail
              refine cq_region (by kernel_rfl) (by kernel_rfl) ?_
              iterate 25 (refine wpQuiet_step (fun K hK => ?_); go_simp; first | (refine hK _ ?_; clear hK K) | (refine ⟨_, fun _ _ => rfl, hK _ ?_⟩; clear hK K) | (apply Exists.intro; refine ⟨fun wq hq => ?_, hK _ ?_⟩; (focus (first | (go_at_call 54; exact HR.out _ hq) | (go_simp; exact HC.out _ hq) | ((have t1 := HB.out _ hq; obtain ⟨t2, t3, _⟩ := HPj.out _ hq); go_simp; try with_reducible rfl))); clear hK K))
              refine wpQuiet_nil ?_
              intro w9 M9
              go_wp2_with fail
              go_roundw
              case rel => exact ⟨j + 1 + 1, hlt, by simp, hok1.out, F8.trans' M9⟩
              case measure => simp [intOf]; omega
            · have hbad2 : ¬ OkTo zs zs.length := hbad fun h => hcmp (hiff.1 h).2
              simp only [decide_eq_false hcmp] at HC
              replace HC := hid HC
              replace HPj := hid HPj
              clear hbad hokk hpos hcan hk3 hcmp hiff
              go_wp2_with fail
              refine cq_region (by kernel_rfl) (by kernel_rfl) ?_
              iterate 25 (refine wpQuiet_step (fun K hK => ?_); go_simp; first | (refine hK _ ?_; clear hK K) | (refine ⟨_, fun _ _ => rfl, hK _ ?_⟩; clear hK K) | (apply Exists.intro; refine ⟨fun wq hq => ?_, hK _ ?_⟩; (focus (first | (go_at_call 54; exact HR.out _ hq) | (go_simp; exact HC.out _ hq) | ((have t1 := HB.out _ hq; obtain ⟨t2, t3, _⟩ := HPj.out _ hq); go_simp; try with_reducible rfl))); clear hK K))
              refine wpQuiet_nil ?_
              intro w9 M9
              go_wp2_with fail
              go_ret
              exact ⟨.inl ⟨hbad2, rfl⟩, F8.trans' M9⟩
      · have hbad2 : ¬ OkTo zs zs.length := hbad fun h => hcan ⟨(hkey h).1, (hkey h).2.1⟩
        clear hbad hkey hfirst hprev hokk
        have hcc : ((canS ls la == ls) = false) ∨ ((canS ls la == ls) = true ∧ (canA ls la == la) = false) := by
          by_cases e : canS ls la = ls
          · exact .inr ⟨by simpa using e, by simpa using fun e2 => hcan ⟨e, e2⟩⟩
          · exact .inl (by simpa using e)
        clear hcan
        generalize canS ls la = p, canA ls la = q at HR hcc
        replace HR := hid HR
        rcases hcc with hc1 | ⟨hc1, hc2⟩
        all_goals
          go_wp2_with fail
          refine cq_region (by kernel_rfl) (by kernel_rfl) ?_
          iterate 25 (refine wpQuiet_step (fun K hK => ?_); go_simp; first | (refine hK _ ?_; clear hK K) | (refine ⟨_, fun _ _ => rfl, hK _ ?_⟩; clear hK K) | (apply Exists.intro; refine ⟨fun wq hq => ?_, hK _ ?_⟩; (focus (first | (go_at_call 54; exact HR.out _ hq) | (have t1 := HB.out _ hq; go_simp; try with_reducible rfl))); clear hK K))
          refine wpQuiet_nil ?_
          intro w9 M9
          go_wp2_with fail
          go_ret
          exact ⟨.inl ⟨hbad2, rfl⟩, F8.trans' M9⟩
    · obtain rfl : k = len := by omega
      have hall : OkTo zs zs.length := by rw [hzl]; exact hok
      clear hlt hk hok
      by_cases hroom : room < (k : Int)
      · have hroom' : decide ((k : Int) > room) = true := decide_eq_true hroom
        go_wp2_with fail
        go_ret
        exact ⟨.inr (.inl ⟨hall, by rw [hzl]; exact hroom, rfl⟩), F⟩
      · have hroom' : decide ((k : Int) > room) = false := decide_eq_false hroom
        have hzr : (zs.length : Int) ≤ room := by omega
        go_wp2_with fail
        go_ret
        exact ⟨.inr (.inr ⟨hall, hzr, rfl⟩), F⟩
end Go.Proofs.Bo
