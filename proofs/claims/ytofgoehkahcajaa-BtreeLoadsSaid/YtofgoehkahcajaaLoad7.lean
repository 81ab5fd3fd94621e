import Derived.Test.YtofgoehkahcajaaAMG
import Derived.Test.YtofgoehkahcajaaApiG
set_option linter.unusedVariables false
set_option linter.unusedSimpArgs false
namespace Go.Proofs.Bo
open Go Go.RowKit

/-- A segment that can come in. -/
def GSg (s : Sg) : Prop := fit64 s.ls ∧ fit64 s.la ∧ fit64 s.hs ∧ fit64 s.ha ∧ fit64 s.v
theorem fitSg (cs : List Value) (h : Fit [.int .i64, .int .i64, .int .i64, .int .i64, .int .i64] cs) : ∃ b, encS b = cs ∧ GSg b := by
  obtain ⟨v2, vs2, rfl, ⟨n2, rfl, hn2⟩, h3⟩ := h.cons_inv
  obtain ⟨v3, vs3, rfl, ⟨n3, rfl, hn3⟩, h4⟩ := h3.cons_inv
  obtain ⟨v4, vs4, rfl, ⟨n4, rfl, hn4⟩, h5⟩ := h4.cons_inv
  obtain ⟨v5, vs5, rfl, ⟨n5, rfl, hn5⟩, h6⟩ := h5.cons_inv
  obtain ⟨v6, vs6, rfl, ⟨n6, rfl, hn6⟩, h7⟩ := h6.cons_inv
  obtain rfl := h7.nil_inv
  exact ⟨⟨n2, n3, n4, n5, n6⟩, rfl, wf64 hn2, wf64 hn3, wf64 hn4, wf64 hn5, wf64 hn6⟩
theorem RdS.seg {w W : World} {b o : Nat} {zs : List Sg} {k : Nat} (hc : ∀ i z, zs[i]? = some z → ∀ j u, (encS z)[j]? = some u → w.cell? ⟨b, o + i * 5 + j, none⟩ = some u) (B : Below w.heap.size w W) (hk : k < zs.length) :
    W.cell? ⟨b, o + k * 5, none⟩ = some (.int .i64 zs[k].ls) ∧ W.cell? ⟨b, o + k * 5 + 1, none⟩ = some (.int .i64 zs[k].la) ∧ W.cell? ⟨b, o + k * 5 + 2, none⟩ = some (.int .i64 zs[k].hs) ∧
    W.cell? ⟨b, o + k * 5 + 3, none⟩ = some (.int .i64 zs[k].ha) ∧ W.cell? ⟨b, o + k * 5 + 4, none⟩ = some (.int .i64 zs[k].v) := by
  have h : ∀ j u, (encS zs[k])[j]? = some u → w.cell? ⟨b, o + k * 5 + j, none⟩ = some u := fun j u hu => hc k zs[k] (by simp [hk]) j u hu
  have g : ∀ j u, (encS zs[k])[j]? = some u → W.cell? ⟨b, o + k * 5 + j, none⟩ = some u := fun j u hu =>
    (B.cell (p := ⟨b, o + k * 5 + j, none⟩) (World.block_lt_of_cell? w _ (h j u hu))).trans (h j u hu)
  exact ⟨g 0 _ rfl, g 1 _ rfl, g 2 _ rfl, g 3 _ rfl, g 4 _ rfl⟩

/-- A row of segments that may be a tree's, up to a number. -/
def okAt (zs : List Sg) (k : Nat) : Prop := ∀ h : k < zs.length, okKey zs[k].ls zs[k].la ∧ (0 < k → ky zs[k - 1] < ky zs[k])
def OkTo (zs : List Sg) (k : Nat) : Prop := ∀ j, j < k → okAt zs j
theorem OkTo.succ {zs : List Sg} {k : Nat} (h : OkTo zs k) (h2 : okAt zs k) : OkTo zs (k + 1) := fun j hj => by
  rcases Nat.lt_succ_iff_lt_or_eq.1 hj with hj | rfl
  · exact h j hj
  · exact h2
theorem OkTo.lt {zs : List Sg} {k : Nat} (h : OkTo zs k) : ∀ (j : Nat) (hj : j < zs.length), j < k → ∀ (i : Nat) (hi : i < j), ky (zs[i]'(by omega)) < ky zs[j] := by
  intro j
  induction j with
  | zero => intro _ _ i hi; omega
  | succ j ih =>
    intro hj hjk i hi
    have h1 := (h (j + 1) hjk hj).2 (by omega)
    have h1 : ky (zs[j]'(by omega)) < ky zs[j + 1] := h1
    rcases Nat.lt_succ_iff_lt_or_eq.1 hi with hi | rfl
    · exact Int.lt_trans (ih (by omega) (by omega) i hi) h1
    · exact h1
theorem OkTo.row {zs : List Sg} {k : Nat} (h : OkTo zs k) (hf : ∀ z ∈ zs, GSg z) : Row (zs.take k) := by
  constructor
  · show List.Pairwise _ _
    rw [List.pairwise_iff_getElem]
    intro i j hi hj hij
    simp only [List.length_take] at hi hj
    simp only [List.getElem_take]
    exact h.lt j (by omega) (by omega) i hij
  · intro z hz
    obtain ⟨i, hi, rfl⟩ := List.getElem_of_mem hz
    simp only [List.length_take] at hi
    simp only [List.getElem_take]
    exact ⟨(h i (by omega) (by omega)).1, (hf _ (List.getElem_mem _)).2.1⟩
theorem OkTo.put {zs : List Sg} {k : Nat} {room : Int} (h : OkTo zs (k + 1)) (hf : ∀ z ∈ zs, GSg z) (hk : k < zs.length) (hr : (zs.length : Int) ≤ room) : putE room zs[k] (zs.take k) = 0 ∧ putL room zs[k] (zs.take k) = zs.take (k + 1) := by
  have hrow := h.row hf
  rw [List.take_succ_eq_append_getElem hk] at hrow ⊢
  have hlt : ∀ y ∈ zs.take k, ky y < ky zs[k] := fun y hy => (List.pairwise_append.1 hrow.1).2.2 y hy _ (by simp)
  have hok : okB zs[k] = true := decide_eq_true (h k (by omega) hk).1
  have hno : hasK (ky zs[k]) (zs.take k) = false := by
    unfold hasK
    rw [List.any_eq_false]
    intro y hy
    have := hlt y hy
    simp; omega
  have hl : ¬ room ≤ ((zs.take k).length : Int) := by simp only [List.length_take]; omega
  unfold putE putL
  simp only [hok, hno, if_true, Bool.false_eq_true, if_false, if_neg hl]
  refine ⟨trivial, ?_⟩
  have := ins_new (a := zs.take k) (b := []) hlt (by simp)
  simpa using this

def LoadQ (w : World) (d : Nat) (room : Int) (zs : List Sg) (e : Ending) (w' : World) : Prop :=
  (¬ OkTo zs zs.length ∧ e = .returned (.tuple #[.pointer none, .int .i64 1]) ∧ Below w.heap.size w w') ∨ (OkTo zs zs.length ∧ room < zs.length ∧ e = .returned (.tuple #[.pointer none, .int .i64 50]) ∧ Below w.heap.size w w') ∨
  (OkTo zs zs.length ∧ (zs.length : Int) ≤ room ∧ ∃ tb, e = .returned (.tuple #[.pointer (some ⟨tb, 0, none⟩), .int .i64 0]) ∧ FB7 w w' tb d room zs)

attribute [local irreducible] wpQuiet in
set_option maxHeartbeats 4000000 in
set_option maxRecDepth 100000 in
theorem loadBZ (d : Nat) (room : Int) (hd : 2 ≤ d ∧ d ≤ 64) (h0 : 0 ≤ room ∧ room ≤ 4096) (a : Option Addr) (len cap : Nat) (zs : List Sg) (w : World) (hr : RdS encS 5 w a len zs) (hG : ∀ z ∈ zs, GSg z) (hl : len ≤ 300) :
    Calls Try.prog 35 #[.int .i64 (d : Int), .int .i64 room, .slice a len cap] w fun e w' => LoadQ w d room zs e w' := by
  have P := fb7_new hd h0 w
  have hzl : zs.length = len := hr.1
  go_enter Try.func35, Try.ntmps35
  go_wp2_with fail
  refine P.mono ?_
  rintro e w1 ⟨tb, rfl, F1⟩
  clear P
  go_wp2_with fail
  go_loopw [25] (fun c W => ∃ k : Nat, k ≤ len ∧ c = .int .i64 (k : Int) ∧ OkTo zs k ∧ FB7 w W tb d room []) (fun c _ => (len - intOf c).toNat)
  case atStart => exact ⟨0, by omega, rfl, fun j hj => by omega, F1⟩
  case round =>
    clear F1
    obtain ⟨k, hk, rfl, hok, F⟩ := hrel
    by_cases hlt : k < len
    · have hkz : k < zs.length := by omega
      obtain ⟨b, o, rfl, hc⟩ := hr.2.2 (by omega)
      obtain ⟨x0, x1, x2, x3, x4⟩ := RdS.seg hc F.below hkz
      have hg := hG zs[k] (by simp)
      obtain ⟨u8, W8, g8, k8, b8, B8, N8⟩ := put5s wr zs[k]
      obtain ⟨d8, e8⟩ := blkc b8
      have F8 := F.mod0 N8
      have HP := hid (fun w' (M : CM W8 w') => fun j (hj : j < zs.length) => RdS.seg hc (F8.mod0 M).below hj)
      have HB := hid (fun w' (M : CM W8 w') => (blkc (M.heap B8 fun h => h)).1)
      have hokk : okAt zs k → OkTo zs (k + 1) := hok.succ
      have hdefk : okAt zs k ↔ okKey zs[k].ls zs[k].la ∧ (0 < k → ky zs[k - 1] < ky zs[k]) := ⟨fun h => h hkz, fun h _ => h⟩
      have hGk : ∀ j (hj : j < zs.length), fit64 zs[j].la := fun j hj => (hG _ (List.getElem_mem hj)).2.1
      have hbad : ¬ okAt zs k → ¬ OkTo zs zs.length := fun h1 h2 => h1 (h2 k hkz)
      clear hc hr hG
      have hky : ky zs[k] = kx zs[k].ls zs[k].la := rfl
      rw [hky] at hdefk
      have hgk := hGk k hkz
      have hpair : ∀ j (e : k = j + 1), ∀ w' (M : CM W8 w'), Calls Try.prog 48 #[.agg #[.int .i64 (zs[j]'(by omega)).ls, .int .i64 (zs[j]'(by omega)).la], .agg #[.int .i64 zs[k].ls, .int .i64 zs[k].la]] w' fun e w'' => e = .returned (.int .i64 (cmpI (ky (zs[j]'(by omega))) (ky zs[k]))) ∧ CM W8 w'' := fun j e w' M =>
        (compareZ (hGk j (by omega)) hgk w').mono fun e w'' ⟨h1, h2⟩ => ⟨h1, M.trans' h2⟩
      replace hpair := hid hpair
      have hprev : ∀ j (e : k = j + 1), okAt zs k ↔ okKey zs[k].ls zs[k].la ∧ ky (zs[j]'(by omega)) < ky zs[k] := fun j e => by
        subst e
        exact hdefk.trans ⟨fun h => ⟨h.1, h.2 (by omega)⟩, fun h => ⟨h.1, fun _ => h.2⟩⟩
      have hfirst : k = 0 → (okAt zs k ↔ okKey zs[k].ls zs[k].la) := fun e => hdefk.trans ⟨fun h => h.1, fun h => ⟨h, fun h => by omega⟩⟩
      have hkey : okAt zs k → okKey zs[k].ls zs[k].la := fun h => (hdefk.1 h).1
      have HR : ∀ w', CM W8 w' → Calls Try.prog 60 #[.agg #[.int .i64 zs[k].ls, .int .i64 zs[k].la]] w' fun e w'' => e = .returned (.bool (decide (canS zs[k].ls zs[k].la = zs[k].ls ∧ canA zs[k].ls zs[k].la = zs[k].la))) ∧ CM W8 w'' := fun w' M => (rightZ _ _ w').mono fun e w'' ⟨h1, h2⟩ => ⟨h1, M.trans' h2⟩
      have HL : ∀ w', CM W8 w' → Calls Try.prog 56 #[] w' fun e w'' => e = .returned (.agg #[.int .i64 1, .int .i64 0]) ∧ CM W8 w'' := fun w' M => (lastZ w').mono fun e w'' ⟨h1, h2⟩ => ⟨h1, M.trans' h2⟩
      replace HL := hid HL
      clear hky hdefk
      obtain ⟨s, hs⟩ : ∃ s, zs[k] = s := ⟨_, rfl⟩
      simp only [hs] at HR hpair hprev hfirst hkey hokk hbad g8 k8 b8 B8 x0 x1 x2 x3 x4 hgk HB d8
      clear F hg hok
      obtain ⟨ls, la, hs', ha, sv⟩ := s
      simp only [encS] at d8 k8 g8 HB

      have hkn : (k : Int) < (len : Int) := by omega
      by_cases hcan : canS ls la = ls ∧ canA ls la = la
      · simp only [decide_eq_true hcan] at HR
        replace HR := hid HR
        by_cases hpos : 0 < ls
        · obtain ⟨rfl, rfl⟩ := can_pos7 hcan hpos
          have hbad2 : ¬ OkTo zs zs.length := hbad fun h => by have h2 : (1 : Int) ≤ 0 := (hkey h).2.2; omega
          clear hbad hkey hfirst hprev hokk hpos hcan
          go_wp2_with fail
          refine cq_region (by kernel_rfl) (by kernel_rfl) ?_
          iterate 30 (refine wpQuiet_step (fun K hK => ?_); go_simp; first | (refine hK _ ?_; clear hK K) | (refine ⟨_, fun _ _ => rfl, hK _ ?_⟩; clear hK K) | (apply Exists.intro; refine ⟨fun wq hq => ?_, hK _ ?_⟩; (focus (first | (go_at_call 60; exact HR.out _ hq) | (go_at_call 56; exact HL.out _ hq) | (have t1 := HB.out _ hq; go_simp; try with_reducible rfl))); clear hK K))
          refine wpQuiet_nil ?_
          intro w9 M9
          go_wp2_with fail
          go_ret2
          exact .inl ⟨hbad2, rfl, (F8.mod0 M9).below⟩
        · have hk3 : okKey ls la := ⟨hcan.1, hcan.2, by omega⟩
          have hx1 : (ls == 1) = false := by simp; omega
          rcases Nat.eq_zero_or_pos k with hk0 | hk0
          · subst hk0
            simp only [Nat.zero_mul, Nat.add_zero] at x0 x1 x2 x3 x4
            have hok1 := hokk ((hfirst rfl).2 hk3)
            replace hok1 := hid hok1
            clear hbad hkey hfirst hprev hokk hpos hcan hk3 hpair HP
            go_wp2_with fail
            refine cq_region (by kernel_rfl) (by kernel_rfl) ?_
            iterate 30 (refine wpQuiet_step (fun K hK => ?_); go_simp; first | (refine hK _ ?_; clear hK K) | (refine ⟨_, fun _ _ => rfl, hK _ ?_⟩; clear hK K) | (apply Exists.intro; refine ⟨fun wq hq => ?_, hK _ ?_⟩; (focus (first | (go_at_call 60; exact HR.out _ hq) | (go_at_call 56; exact HL.out _ hq) | (have t1 := HB.out _ hq; go_simp; try with_reducible rfl))); clear hK K))
            refine wpQuiet_nil ?_
            intro w9 M9
            go_wp2_with fail
            go_roundw
            case rel => exact ⟨1, hlt, rfl, hok1.out, F8.mod0 M9⟩
            case measure => simp [intOf]; omega
          · obtain ⟨j, rfl⟩ : ∃ j, k = j + 1 := ⟨k - 1, by omega⟩
            have HC := hpair.out j rfl
            have hjz : j < zs.length := by omega
            have HPj := fun w' (M : CM W8 w') => HP.out w' M j hjz
            have hiff := hprev j rfl
            generalize zs[j] = y at HC HPj hiff
            obtain ⟨yls, yla, yhs, yha, yv⟩ := y
            have hwj : IntKind.i64.wrap (j : Int) = (j : Int) := by rw [IntKind.wrap_i64]; omega
            have hj0 : (0 : Int) ≤ (j : Int) := by omega
            have hjn : (j : Int) < (len : Int) := by omega
            have hj1 : decide ((j : Int) + 1 > 0) = true := decide_eq_true (by omega)
            clear hfirst hkey hpair HP hprev
            by_cases hcmp : ky (⟨yls, yla, yhs, yha, yv⟩ : Sg) < kx ls la
            · have hok1 := hokk (hiff.2 ⟨hk3, hcmp⟩)
              rw [show cmpI (ky (⟨yls, yla, yhs, yha, yv⟩ : Sg)) (ky (⟨ls, la, hs', ha, sv⟩ : Sg)) = -1 from cmpI_lt hcmp] at HC
              replace HC := hid HC
              replace HPj := hid HPj
              replace hok1 := hid hok1
              clear hbad hokk hpos hcan hk3 hcmp hiff
              go_wp2_with fail
              refine cq_region (by kernel_rfl) (by kernel_rfl) ?_
              iterate 30 (refine wpQuiet_step (fun K hK => ?_); go_simp; first | (refine hK _ ?_; clear hK K) | (refine ⟨_, fun _ _ => rfl, hK _ ?_⟩; clear hK K) | (apply Exists.intro; refine ⟨fun wq hq => ?_, hK _ ?_⟩; (focus (first | (go_at_call 60; exact HR.out _ hq) | (go_at_call 56; exact HL.out _ hq) | (go_simp; exact HC.out _ hq) | ((have t1 := HB.out _ hq; obtain ⟨t2, t3, _⟩ := HPj.out _ hq); go_simp; try with_reducible rfl))); clear hK K))
              refine wpQuiet_nil ?_
              intro w9 M9
              go_wp2_with fail
              go_roundw
              case rel => exact ⟨j + 1 + 1, hlt, by simp, hok1.out, F8.mod0 M9⟩
              case measure => simp [intOf]; omega
            · have hbad2 : ¬ OkTo zs zs.length := hbad fun h => hcmp (hiff.1 h).2
              obtain ⟨cv, hcv, hcv0⟩ : ∃ cv, cmpI (ky (⟨yls, yla, yhs, yha, yv⟩ : Sg)) (ky (⟨ls, la, hs', ha, sv⟩ : Sg)) = cv ∧ 0 ≤ cv := ⟨_, rfl, by unfold cmpI; have h : ¬ ky (⟨yls, yla, yhs, yha, yv⟩ : Sg) < ky (⟨ls, la, hs', ha, sv⟩ : Sg) := hcmp; rw [if_neg h]; split <;> omega⟩
              rw [hcv] at HC
              have hcv1 : decide (cv ≥ 0) = true := decide_eq_true hcv0
              replace HC := hid HC
              replace HPj := hid HPj
              clear hbad hokk hpos hcan hk3 hcmp hiff hcv
              go_wp2_with fail
              refine cq_region (by kernel_rfl) (by kernel_rfl) ?_
              iterate 30 (refine wpQuiet_step (fun K hK => ?_); go_simp; first | (refine hK _ ?_; clear hK K) | (refine ⟨_, fun _ _ => rfl, hK _ ?_⟩; clear hK K) | (apply Exists.intro; refine ⟨fun wq hq => ?_, hK _ ?_⟩; (focus (first | (go_at_call 60; exact HR.out _ hq) | (go_at_call 56; exact HL.out _ hq) | (go_simp; exact HC.out _ hq) | ((have t1 := HB.out _ hq; obtain ⟨t2, t3, _⟩ := HPj.out _ hq); go_simp; try with_reducible rfl))); clear hK K))
              refine wpQuiet_nil ?_
              intro w9 M9
              go_wp2_with fail
              go_ret2
              exact .inl ⟨hbad2, rfl, (F8.mod0 M9).below⟩
      · simp only [decide_eq_false hcan] at HR
        replace HR := hid HR
        have hbad2 : ¬ OkTo zs zs.length := hbad fun h => hcan ⟨(hkey h).1, (hkey h).2.1⟩
        clear hbad hkey hfirst hprev hokk hcan
        go_wp2_with fail
        refine cq_region (by kernel_rfl) (by kernel_rfl) ?_
        iterate 30 (refine wpQuiet_step (fun K hK => ?_); go_simp; first | (refine hK _ ?_; clear hK K) | (refine ⟨_, fun _ _ => rfl, hK _ ?_⟩; clear hK K) | (apply Exists.intro; refine ⟨fun wq hq => ?_, hK _ ?_⟩; (focus (first | (go_at_call 60; exact HR.out _ hq) | (go_at_call 56; exact HL.out _ hq) | (have t1 := HB.out _ hq; go_simp; try with_reducible rfl))); clear hK K))
        refine wpQuiet_nil ?_
        intro w9 M9
        go_wp2_with fail
        go_ret2
        exact .inl ⟨hbad2, rfl, (F8.mod0 M9).below⟩
    · obtain rfl : k = len := by omega
      have hall : OkTo zs zs.length := by rw [hzl]; exact hok
      clear hlt hk hok
      by_cases hroom : room < (k : Int)
      · have hroom' : decide ((k : Int) > room) = true := decide_eq_true hroom
        go_wp2_with fail
        go_ret2
        exact .inr (.inl ⟨hall, by rw [hzl]; exact hroom, rfl, F.below⟩)
      · have hroom' : decide ((k : Int) > room) = false := decide_eq_false hroom
        have hzr : (zs.length : Int) ≤ room := by omega
        replace hroom := hid hroom
        replace hzr := hid hzr
        replace hall := hid hall
        go_wp2_with fail
        go_loopw [67] (fun c W => ∃ j : Nat, j ≤ k ∧ c = .int .i64 (j : Int) ∧ FB7 w W tb d room (zs.take j)) (fun c _ => (k - intOf c).toNat)
        case atStart => exact ⟨0, by omega, rfl, by simpa using F⟩
        case round =>
          clear F
          obtain ⟨j, hj, rfl, F⟩ := hrel
          by_cases hlt : j < k
          · have hjz : j < zs.length := by omega
            obtain ⟨b, o, rfl, hc⟩ := hr.2.2 (by omega)
            obtain ⟨x0, x1, x2, x3, x4⟩ := RdS.seg hc F.below hjz
            have hg := (hG zs[j] (by simp)).2.1
            obtain ⟨u8, W8, g8, k8, b8, B8, N8⟩ := put5s wr zs[j]
            obtain ⟨d8, e8⟩ := blkc b8
            obtain ⟨d9, e9⟩ := blkc B8
            replace F := F.mod0 N8
            obtain ⟨p1, p2⟩ := OkTo.put (k := j) (room := room) (fun i hi => hall.out i (by omega)) hG hjz hzr.out
            have PP := fb7_put F zs[j] hg
            rw [p1, p2] at PP
            clear hc hr hG p1 p2
            generalize zs[j] = s at *
            obtain ⟨ls, la, hs', ha, sv⟩ := s
            simp only [encS] at d9 k8 PP
            have hjn : (j : Int) < (k : Int) := by omega
            have hj0 : (0 : Int) ≤ (j : Int) := by omega
            clear d8 e8 b8 B8
            obtain ⟨d8, e8⟩ : (∀ j, u8.cell? ⟨wr.heap.size, j, none⟩ = #[Value.int .i64 0, .int .i64 0, .int .i64 0, .int .i64 0, .int .i64 0][j]?) ∧ (∀ j, u8.frozen? ⟨wr.heap.size, j, none⟩ = false) := by rw [← g8]; exact blkc (alloc_0 _ _)
            go_wp2_with fail
            refine PP.mono ?_
            rintro e w9 ⟨rfl, F9⟩
            go_wp2_with fail
            go_roundw
            case rel => exact ⟨j + 1, hlt, by simp, F9⟩
            case measure => simp [intOf]; omega
          · obtain rfl : j = k := by omega
            have hzs : zs.take j = zs := List.take_of_length_le (by omega)
            rw [hzs] at F
            clear hlt hj hzs
            go_wp2_with fail
            go_ret2
            exact .inr (.inr ⟨hall.out, hzr.out, tb, rfl, F⟩)
end Go.Proofs.Bo
