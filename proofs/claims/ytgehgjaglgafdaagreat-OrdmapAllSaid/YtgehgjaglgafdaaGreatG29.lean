import Derived.Test.YtgehgjaglgafdaaGreatG28
import Derived.Deep.CutBlock
set_option linter.unusedVariables false
set_option linter.unusedSimpArgs false
namespace Go.Proofs.Bo
open Go Go.RowKit
section
variable {w w' : World} {tb ab : Nat} {lv fv : Value} {σ : List (Option Bn)} {free : List Int} {root room many : Int} {S : StB} {d : Nat} {L : List Sg}
set_option maxHeartbeats 4000000 in
set_option maxRecDepth 100000 in
theorem putBZ_new (h : MemB w tb ab lv fv σ free root (d : Int) room many S) (hd : 2 ≤ d ∧ d ≤ 64) (hT : PT d S root L) (hr : Row L) (s : Sg) (hf : fit64 s.la) (hk : okKey s.ls s.la) (ho : hasK (ky s) L = false) (hm : many < room) (hn : (L.length : Int) ≤ room) (hmr : 0 ≤ many ∧ room ≤ 65536) :
  Calls Tryz.prog 110 #[.pointer (some ⟨tb, 0, none⟩), .agg (encS s).toArray] w fun e w' => e = .returned (.int .i64 0) ∧ PutQ7 w tb ab lv fv σ d room (many + 1) (insL s L) w' := by
 obtain ⟨w0, hw0, b0, M0⟩ := boxS w s
 obtain ⟨d0, e0⟩ := blkc b0
 obtain ⟨wz, wa, hwz, hwa, bz, ba, Ma⟩ := put2 w0 s.ls s.la
 obtain ⟨dz, ez⟩ := blkc bz
 obtain ⟨d1, e1⟩ := blkc ba
 have m1 := (h.mod0 M0).mod0 Ma
 have HG := getBZ m1 hd.2 hT hr (cs := s.ls) (ca := s.la) hf
 have hgh := get_has (kx s.ls s.la) L
 obtain ⟨o, ho⟩ : ∃ o, getS (kx s.ls s.la) L = o := ⟨_, rfl⟩
 rw [ho] at HG hgh
 unfold optS at HG
 rw [hgh] at HG
 have hky : kx s.ls s.la = ky s := rfl
 rw [hky] at HG
 generalize oS o = so at HG
 have hs0 := M0.size
 have hsa := Ma.size
 have hb0 := blkl b0
 have hba := blkl ba
 replace b0 := hid (Ma.heap b0 fun h => h)
 replace ba := hid ba
 replace M0 := M0.trans' Ma
 clear hgh ho Ma hky
 dsimp only [encS]
 go_enter Tryz.func110, Tryz.ntmps110
 go_upto_block 0 with (go_at_call 105; refine HG.mono ?_; rintro e w1 ⟨rfl, M1⟩; obtain ⟨u1, W1, g1, k1, x1, X1, N1⟩ := put5z w1 so; obtain ⟨d2, e2⟩ := blkc x1)
 have hs1 := M1.size
 have hs2 := N1.size
 replace b0 := N1.heap (M1.heap b0.out fun h => h) fun h => h
 replace ba := N1.heap (M1.heap ba.out fun h => h) fun h => h
 replace M0 := (M0.trans' M1).trans' N1
 clear d0 e0 d1 e1 dz ez d2 e2 hwz hwa hw0 g1 k1 x1 X1 N1 M1 HG m1 bz
 have m2 := h.mod0 M0
 have hx1 : (s.ls == 1) = false := by have := hk.2.2; simp; omega
 have hok : canS s.ls s.la = s.ls ∧ canA s.ls s.la = s.la := ⟨hk.1, hk.2.1⟩
 have nfb : ∀ x, FootB tb ab lv fv σ x → x < w.heap.size := fun x hx => h.lt hx
 replace ba := hid ba
 replace b0 := hid b0
 replace ho := hid ho
 replace hT := hid hT
 replace hr := hid hr
 replace hn := hid hn
 replace hk := hid hk
 replace hmr := hid hmr
 clear h
 go_cut [] (fun W => ∃ H lo0 r0, PutS7 W1 tb ab lv fv σ d room many L H lo0 r0 (ky s) H r0 W ∧ (lo0 = 1 ∨ (H = 0 ∧ L = [])))
 case first =>
  go_upto_region 3 with fail
  have HR := hid (fun w1 (M : CM W1 w1) => (rightZ s.ls s.la w1).mono fun e w' ⟨h1, h2⟩ => (⟨h1, Mod.trans' M h2⟩ : e = Ending.returned (.bool (decide (canS s.ls s.la = s.ls ∧ canA s.ls s.la = s.la))) ∧ CM W1 w'))
  have HL := hid (fun w1 (M : CM W1 w1) => (lastZ w1).mono fun e w' ⟨h1, h2⟩ => (⟨h1, Mod.trans' M h2⟩ : e = Ending.returned (.agg #[.int .i64 1, .int .i64 0]) ∧ CM W1 w'))
  have HB := hid (fun w1 (M : CM W1 w1) => blkc (Mod.heap M ba.out fun h => h))
  rw [decide_eq_true hok] at HR
  go_cut [23] (fun v W => v = .bool false ∧ Mod (fun _ => False) W1 W)
  case first =>
   refine cq_region (by kernel_rfl) (by kernel_rfl) ?_
   iterate 9 (refine wpQuiet_step (fun K hK => ?_); go_simp; first | (refine hK _ ?_; clear hK K) | (refine ⟨_, fun _ _ => rfl, hK _ ?_⟩; clear hK K) | (apply Exists.intro; refine ⟨fun wq hq => ?_, hK _ ?_⟩; (focus (first | (go_at_call 122; exact HR.out _ hq) | (go_at_call 73; exact HL.out _ hq) | (obtain ⟨d1, e1⟩ := HB.out _ hq; go_simp; try with_reducible rfl))); clear hK K))
   refine wpQuiet_nil ?_
   intro w1 M1
   go_wp2_with fail
   go_meet
   exact ⟨rfl, M1⟩
  case rest =>
   obtain ⟨rfl, M1⟩ := hcut
   clear HR HL HB
   have m3 := m2.mod0 M1
   have HT := hid (fun W (M : CM wc W) => (blkc (m3.mod0 M).t))
   obtain ⟨t0, t1⟩ := HT.out _ (Mod.refl _ _)
   have hge : decide (many ≥ room) = false := by simpa using hm
   clear hx1 m2
   go_upto_region 8 with fail
   go_cut [37] (fun v W => v = .bool false ∧ Mod (fun _ => False) wc W)
   case first =>
    refine cq_region (by kernel_rfl) (by kernel_rfl) ?_
    iterate 10 (refine wpQuiet_step (fun K hK => ?_); go_simp; first | (refine hK _ ?_; clear hK K) | (refine ⟨_, fun _ _ => rfl, hK _ ?_⟩; clear hK K) | (apply Exists.intro; refine ⟨fun wq hq => ?_, hK _ ?_⟩; (focus (first  | (obtain ⟨t0, t1⟩ := HT.out _ hq; go_simp; try with_reducible rfl))); clear hK K))
    refine wpQuiet_nil ?_
    intro w2 M2
    go_wp2_with fail
    go_meet
    exact ⟨rfl, M2⟩
   case rest =>
    obtain ⟨rfl, M2⟩ := hcut
    have m4 := m3.mod0 M2
    have N2 := hid (M1.trans' M2)
    have hsz2 := hid N2.out.size
    clear HT t0 t1 m3 M1 M2 hge
    obtain ⟨t0, t1⟩ := blkc m4.t
    rcases hT.out with ⟨rfl, rfl, hS0⟩ | ⟨r0, H, F, rfl, hS0, hnd, hall⟩
    ·have PM := makeM m4 ⟨none, 0, 0, none, 0, 0⟩ (l := []) (ks := []) ⟨own_none0, own_none0⟩ (fun x k e => by cases x <;> cases e) (by rw [m4.count (F := []) ⟨List.nodup_nil, fun i => by simp [hS0]⟩]; simp; have := hn.out; simp at this; omega)
     dsimp only [encBn] at PM
     replace hS0 := hid hS0
     go_wp2_with fail
     refine PM.mono ?_; rintro e w5 ⟨j, rfl, lv', fv', σ', free', hj, hσj, m5, M5, F5, _⟩
     clear t0 t1 PM hσj
     replace hj := hid hj
     obtain ⟨t0, t1⟩ := blkc m5.t
     go_wp2_with fail
     go_meet
     have m6 := m5.setT j many (w' := w5.setCell ⟨tb, 1, none⟩ (.int .i64 (j : Int))) (by simpa using heap_setCell_same w5 tb 1 _ 111 (.int .i64 (j : Int)) m5.t) ((Mod.refl (fun k => k = tb) w5).setCell (p := ⟨tb, 1, none⟩) (.inl rfl) _)
     have M6 : Mod (FootB tb ab lv' fv' σ') w5 (w5.setCell ⟨tb, 1, none⟩ (.int .i64 (j : Int))) := (Mod.refl _ w5).setCell (p := ⟨tb, 1, none⟩) (.inl (.inl rfl)) _
     have F7 : ∀ x, FootB tb ab lv' fv' σ' x → FootB tb ab lv fv σ x ∨ W1.heap.size ≤ x := fun x hx => by
      rcases F5 x hx with a | a | ⟨y, a⟩
      ·exact .inl a
      ·exact .inr (Nat.le_trans hsz2.out a)
      ·cases y <;> cases a
     have hSj : (S.set j (some ([], []))) j = some ([], []) := StB.set_self ..
     refine ⟨0, 0, j, ⟨_, lv', fv', σ', free', m6, ⟨[], [], [], [], [], [j], 0, [], [], rfl, ?_, by simp, by simp, ⟨hSj, rfl, Nat.le_refl _, Nat.zero_le _⟩, Hole.root _ _ _ _ _, hSj, Nat.zero_le _⟩, ((N2.out.mono fun _ h => h.elim).trans' M5).trans M6 F7, F7⟩, by simp⟩
     exact (Alls.cons (F := []) (S := S) ⟨List.nodup_nil, fun i => by simp [hS0.out]⟩ hj.out (by rw [hSj]; simp) (fun x hx => StB.set_ne _ _ hx)).nil
    ·obtain ⟨l, ks, hSr, hl1, hl2, hks⟩ := hS0.node
     obtain ⟨b, hb, hnb⟩ := m4.live hSr
     obtain ⟨lb, c, rfl⟩ := m4.lbS hb
     have PF := fullM m4 hb hnb ⟨by omega, by omega⟩
     have hr0 : ((r0 : Int) == -1) = false := by simp
     have hAll : Alls S F := ⟨hnd, hall⟩
     have hcnt0 := m4.count hAll
     have hsize := (hS0.size hd.1).1 (Nat.le_refl _)
     have hroom : cntB σ free < 2 * room + 4 := by rw [hcnt0]; have := hn.out; omega
     by_cases hfull : l.length = 2 * d - 1
     ·rw [show decide ((l.length : Int) = 2 * (d : Int) - 1) = true from decide_eq_true (by omega)] at PF
      replace hks := hid hks
      replace hnd := hid hnd
      replace hall := hid hall
      replace hfull := hid hfull
      replace hcnt0 := hid hcnt0
      replace hSr := hid hSr
      replace hAll := hid hAll
      go_wp2_with fail
      refine PF.mono ?_; rintro e w5 ⟨rfl, M5⟩
      have m5 := m4.mod0 M5
      replace N2 := hid (N2.out.trans' M5)
      replace hsz2 := hid N2.out.size
      clear t0 t1 PF M5 m4 hnb
      obtain ⟨t0, t1⟩ := blkc m5.t
      have Ma : Mod (fun _ => False) w5 (w5.alloc (.cells #[.int .i64 (r0 : Int)] 3)) := (Mod.refl _ _).alloc _
      have PM := makeM (m5.mod0 Ma) ⟨none, 0, 0, some ⟨w5.heap.size, 0, none⟩, 1, 1⟩ (l := []) (ks := [r0]) ⟨own_none0, ⟨by simp [numsV], .inr ⟨w5.heap.size, 1, #[.int .i64 (r0 : Int)], rfl, Nat.zero_le _, heap_alloc_new w5 _, Nat.le_refl _, by simp [maxLen], by simp, by simp [numsV]⟩⟩⟩
       (fun x k e hf => by
        have := m5.lt hf
        cases x
        ·cases e
        ·have e2 : some w5.heap.size = some k := e
         cases e2; omega) hroom
      dsimp only [encBn] at PM
      go_wp2_with fail
      refine PM.mono ?_; rintro e w6 ⟨j, rfl, lv', fv', σ', free', hj, hσj, m6, M6, F6, hcnt6⟩
      clear t0 t1 PM hσj
      obtain ⟨t0, t1⟩ := blkc m6.t
      have m7 := m6.setT j many (w' := w6.setCell ⟨tb, 1, none⟩ (.int .i64 (j : Int))) (by simpa using heap_setCell_same w6 tb 1 _ 111 (.int .i64 (j : Int)) m6.t) ((Mod.refl (fun k => k = tb) w6).setCell (p := ⟨tb, 1, none⟩) (.inl rfl) _)
      have M7 : Mod (FootB tb ab lv' fv' σ') w6 (w6.setCell ⟨tb, 1, none⟩ (.int .i64 (j : Int))) := (Mod.refl _ w6).setCell (p := ⟨tb, 1, none⟩) (.inl (.inl rfl)) _
      have hSj : (S.set j (some ([], [r0]))) j = some ([], [r0]) := StB.set_self ..
      have hjF : ∀ x ∈ F, x ≠ j := fun x hx e => by subst e; exact (hAll.out.2 x).1 hx hj
      have hr0j : r0 ≠ j := hjF _ hS0.mem
      have sub1 := hS0.above (S' := S.set j (some ([], [r0]))) hSr.out (by have := hfull.out; omega) hSj (fun x hx => StB.set_ne _ _ (hjF x hx))
      have all1 : Alls (S.set j (some ([], [r0]))) (j :: F) := hAll.out.cons hj (by rw [hSj]; simp) (fun x hx => StB.set_ne _ _ hx)
      have SP := splitBZ m7 hd sub1 hSj all1.1 (k := 0) (Nat.zero_le _) (kid := r0) rfl (by rw [StB.set_ne _ _ hr0j]; exact hSr.out) hfull.out (by simp; omega) (by rw [hcnt6, hcnt0.out]; have := hn.out; omega)
      have hS6 := M6.size
      have hsa := Ma.size
      have F7 : ∀ x, FootB tb ab lv' fv' σ' x → FootB tb ab (.slice (some ⟨lb, 0, none⟩) σ.length c) fv σ x ∨ W1.heap.size ≤ x := fun x hx => by
       rcases F6 x hx with a | a | ⟨y, a⟩
       ·exact .inl a
       ·exact .inr (Nat.le_trans hsz2.out (Nat.le_trans hsa a))
       ·cases y
        ·cases a
        ·have e2 : some w5.heap.size = some x := a
         cases e2; exact .inr hsz2.out
      replace sub1 := hid sub1
      replace all1 := hid all1
      replace F7 := hid F7
      replace hSj := hid hSj
      replace hcnt6 := hid hcnt6
      replace hj := hid hj
      replace hjF := hid hjF
      replace F6 := hid F6
      replace hS6 := hid hS6
      replace hsa := hid hsa
      go_wp2_with fail
      refine SP.mono ?_; rintro e w8 ⟨rfl, S8, lv8, fv8, σ8, free8, l8, ks8, F8, up, m8, e8, el, sub8, chg, hkt, M8, Fo8⟩
      go_wp2_with fail
      go_meet
      have MM := (((N2.out.trans' Ma).mono (T := FootB tb ab (.slice (some ⟨lb, 0, none⟩) σ.length c) fv σ) fun _ h => h.elim).trans' M6).trans M7 F7.out
      have hsz7 := MM.size
      have F9 : ∀ x, FootB tb ab lv8 fv8 σ8 x → FootB tb ab (.slice (some ⟨lb, 0, none⟩) σ.length c) fv σ x ∨ W1.heap.size ≤ x := fun x hx => by
       rcases Fo8 x hx with a | a
       ·exact F7.out x a
       ·exact .inr (Nat.le_trans hsz7 a)
      have all8 := (chg.all all1.out.nil (fun x hx => sub8.live x hx)).1
      exact ⟨H + 1, 1, j, ⟨S8, lv8, fv8, σ8, free8, m8, ⟨[], [], L, [], [], F8, 1, l8, ks8, by simp, all8, by simp, by simp, sub8, Hole.root _ _ _ _ _, e8, by rw [el]; simp; omega⟩, MM.trans M8 F7.out, F9⟩, .inl rfl⟩
     ·rw [show decide ((l.length : Int) = 2 * (d : Int) - 1) = false from decide_eq_false (by omega)] at PF
      replace hnd := hid hnd
      replace hall := hid hall
      replace hks := hid hks
      replace hcnt0 := hid hcnt0
      replace hSr := hid hSr
      replace hAll := hid hAll
      replace hnfull := hid hfull
      clear hfull
      go_wp2_with fail
      refine PF.mono ?_; rintro e w5 ⟨rfl, M5⟩
      go_wp2_with fail
      go_meet
      exact ⟨H, 1, r0, ⟨S, _, fv, σ, free, m4.mod0 M5, ⟨[], [], L, [], [], F, 1, l, ks, by simp, hAll.out.nil, by simp, by simp, hS0, Hole.root _ _ _ _ _, hSr.out, by have := hnfull.out; omega⟩, (N2.out.trans' M5).mono fun _ h => h.elim, fun x hx => .inl hx⟩, .inl rfl⟩
 case rest =>
  obtain ⟨H, lo0, r0, ⟨S0, lv0, fv0, σ0, free0, m0, at0, MM0, FF0⟩, hlo0⟩ := hcut
  have hsz1 : w.heap.size ≤ w0.heap.size := hs0
  have hcb : w0.heap.size < W1.heap.size := blkl ba.out
  have hsb : w.heap.size < W1.heap.size := blkl b0.out
  have ncb : ∀ (lv' fv' : Value) (σ' : List (Option Bn)), (∀ x, FootB tb ab lv' fv' σ' x → FootB tb ab lv fv σ x ∨ W1.heap.size ≤ x) → ¬ FootB tb ab lv' fv' σ' w0.heap.size := fun lv' fv' σ' hx e => by
   rcases hx _ e with q | q
   ·have := nfb _ q; omega
   ·omega
  have nsb : ∀ (lv' fv' : Value) (σ' : List (Option Bn)), (∀ x, FootB tb ab lv' fv' σ' x → FootB tb ab lv fv σ x ∨ W1.heap.size ≤ x) → ¬ FootB tb ab lv' fv' σ' w.heap.size := fun lv' fv' σ' hx e => by
   rcases hx _ e with q | q
   ·have := nfb _ q; omega
   ·omega
  have kcb : ∀ W, Mod (FootB tb ab lv fv σ) W1 W → W.heap[w0.heap.size]? = some (.cells #[.int .i64 s.ls, .int .i64 s.la] 34 (0, 0)) := fun W M => M.heap ba.out fun e => by have := nfb _ e; omega
  have ksb : ∀ W, Mod (FootB tb ab lv fv σ) W1 W → W.heap[w.heap.size]? = some (.cells #[.int .i64 s.ls, .int .i64 s.la, .int .i64 s.hs, .int .i64 s.ha, .int .i64 s.v] 38 (0, 0)) := fun W M => M.heap b0.out fun e => by have := nfb _ e; omega
  obtain ⟨t0, t1⟩ := blkc m0.t
  have hw1 : IntKind.i64.wrap (many + 1) = many + 1 := by rw [IntKind.wrap_i64]; have := hmr.out; omega
  have mi := m0.setT (r0 : Int) (many + 1) (w' := wc.setCell ⟨tb, 4, none⟩ (.int .i64 (many + 1))) (by simpa using heap_setCell_same wc tb 4 _ 111 (.int .i64 (many + 1)) m0.t) ((Mod.refl (fun k => k = tb) wc).setCell (p := ⟨tb, 4, none⟩) (.inl rfl) _)
  have Mi := MM0.trans (Mod.setCell (S := FootB tb ab lv0 fv0 σ0) (p := ⟨tb, 4, none⟩) (Mod.refl _ wc) (.inl (.inl rfl)) (.int .i64 (many + 1))) FF0
  have start := hid (show PutS7 W1 tb ab lv fv σ d room (many + 1) L H lo0 r0 (ky s) H r0 (wc.setCell ⟨tb, 4, none⟩ (.int .i64 (many + 1))) from ⟨S0, lv0, fv0, σ0, free0, mi, at0, Mi, FF0⟩)
  replace hlo0 := hid hlo0
  replace ncb := hid ncb
  replace nsb := hid nsb
  replace kcb := hid kcb
  replace ksb := hid ksb
  replace nfb := hid nfb
  replace M0 := hid M0
  replace ho := hid ho.out
  clear mi Mi m0 at0 MM0 FF0 hx1 hok hs0 hsa hb0 hba hs1 hs2
  replace hsz1 := hid hsz1
  replace hcb := hid hcb
  replace hsb := hid hsb
  go_wp2_with fail
  go_loopg [8] H (fun g i W => ∃ r : Nat, i = .int .i64 r ∧ PutS7 W1 tb ab lv fv σ d room (many + 1) L H lo0 r0 (ky s) g r W)
  case atStart => exact ⟨r0, rfl, start.out⟩
  case round =>
   clear start t0 t1
   obtain ⟨r, rfl, S', lv', fv', σ', free', m, hat, M, Fo⟩ := hrel
   obtain ⟨A, B, Li, Fl, Fr, F, lo, l, ks, hL, hAll, hA, hB, hS, hH, hSr, hl⟩ := hat
   obtain ⟨b, hb, hnb⟩ := m.live hSr
   obtain ⟨lb, c, rfl⟩ := m.lbS hb
   have PA := atM m hb
   have PL := leafM m hb hnb
   have hat := hid (show At9 d S' L H lo0 r0 (ky s) gk r from ⟨A, B, Li, Fl, Fr, F, lo, l, ks, hL, hAll, hA, hB, hS, hH, hSr, hl⟩)
   have hrl : Row l := hr.out.sub (by rw [hL]; exact ((hS.row hSr).trans (List.sublist_append_left _ _)).trans (List.sublist_append_right _ _))
   cases gk with
   | zero =>
    obtain rfl := (hS.kidsLen hSr).1 rfl
    rw [show decide (([] : List Nat) = []) = true from rfl] at PL
    have FIN := hid (fun (S'' : StB) (h1 : S'' r = some (l.take (posL (ky s) l) ++ s :: l.drop (posL (ky s) l), [])) (h2 : ∀ x, x ≠ r → S'' x = S' x) => hat.out.put hr.out.1 ho.out (by omega) hSr h1 h2 (hlo0.out))
    have PP := (placeM m hb hnb hrl (by omega) s.ls s.la hf).mono fun e w'' ⟨h1, h2⟩ => (⟨h1, h2⟩ : e = Ending.returned (.tuple #[.int .i64 (posL (ky s) l), .bool (hasK (ky s) l)]) ∧ Mod (fun _ => False) wr w'')
    have hkl := posL_le (ky s) l
    have HM := hid (And.intro M Fo)
    obtain ⟨c0, f0⟩ := blkc (kcb.out wr M)
    obtain ⟨x0, y0⟩ := blkc (ksb.out wr M)
    have hsg := hid (ksb.out wr M)
    have hnsb := hid (nsb.out _ _ _ Fo)
    have hnb0 := hid hnb
    have mm := hid m
    clear hat hAll hA hB hS hH hL hrl M Fo hlo0
    replace hSr := hid hSr
    generalize hpk : posL (ky s) l = k at *
    replace hpk := hid hpk
    replace hkl := hid hkl
    replace hl := hid hl
    clear m hnb
    go_wp2_with fail
    refine PA.mono ?_; rintro e w2 ⟨rfl, hw2⟩; subst hw2
    go_wp2_with fail
    refine PL.mono ?_; rintro e w2 ⟨rfl, hw2⟩; subst hw2
    go_wp2_with fail
    refine PA.mono ?_; rintro e w2 ⟨rfl, hw2⟩; subst hw2
    go_wp2_with fail
    refine PP.mono ?_; rintro e w3 ⟨rfl, M3⟩
    clear PA PL PP c0 f0 x0 y0
    have m3 := mm.out.mod0 M3
    have hn3 : NodeB w3 b l [] := hnb0.out.keep fun x k e => M3.block k (hnb0.out.lt e) fun h => h
    have sg3 := hid (M3.heap hsg.out fun h => h)
    obtain ⟨t0, t1⟩ := blkc sg3.out
    obtain ⟨q0, q1, q2, q3⟩ := m3.cells hb
    have hln := hid hn3.ln
    go_wp2_with fail
    have INS := hid (fun (W : World) (q : Mod (fun _ => False) w3 W) (vb : Nat) (hv : W.heap[vb]? = some (.cells #[.int .i64 s.ls, .int .i64 s.la, .int .i64 s.hs, .int .i64 s.ha, .int .i64 s.v] 38 (0, 0))) (hvb : w3.heap.size ≤ vb) =>
     insSg (w := W) (v := b.v false) (n := l.length) (k := k) (xs := l.flatMap encS) (x := encS s) (vb := vb) (own_keep hn3.1 fun x e => q.block x (hn3.lt e) fun h => h) (one_segs _) hv (fun j e he => by have := hn3.lt e; omega) rfl (by simpa using one_segs [s]) hkl.out (by have := hl.out; omega))
    have hv' := hid (show b.v false = .slice b.la b.ln b.lc from rfl)
    rw [hv'.out] at INS
    obtain ⟨wa', hwa, ba', Ma⟩ := boxS w3 s
    have Mq := Ma.drew
    have bq : wa'.drew.heap[w3.heap.size]? = some (.cells #[.int .i64 s.ls, .int .i64 s.la, .int .i64 s.hs, .int .i64 s.ha, .int .i64 s.v] 38 (0, 0)) := ba'
    obtain ⟨p0, _⟩ := blkc (Mq.heap sg3.out fun h => h)
    have mq := m3.mod0 Mq
    obtain ⟨p1, _⟩ := mq.cells hb
    have IN := INS.out _ Mq _ bq (Nat.le_refl _)
    have HH := hid (fun (W : World) (q : Mod (fun j => (b.v false).ownBlock = some j) wa'.drew W) => by
     have A1 := mq.a.mod q (fun k hk e => (m3.away r b false k hb e).2 hk)
     have := A1.cell (i := r) (p := some b) hb (j := 0) (u := .slice b.la b.ln b.lc) rfl
     simp only [zBn, List.length_cons, List.length_nil, Nat.zero_add, Nat.add_zero, Nat.reduceAdd] at this
     exact this)
    have hgn : ∀ x, (b.v false).ownBlock = some x → x ≠ w.heap.size := fun x e e2 => hnsb.out (.inr (.inr ⟨r, b, false, hb, by rw [e, e2]⟩))
    have hgl2 : lb ≠ w.heap.size := fun e => hnsb.out (.inr (.inl (.inr (.inl (by rw [← e]; rfl)))))
    have HG := hid (fun (W : World) (q : Mod (fun j => (b.v false).ownBlock = some j) wa'.drew W) => (blkc (q.heap (Mq.heap sg3.out fun h => h) fun e => hgn _ e rfl)).1)
    have HL' := hid (fun (W : World) (q : Mod (fun j => (b.v false).ownBlock = some j) wa'.drew W) (u : Value) => (blkc (((Mod.refl (fun k => k = lb) W).setCell (p := ⟨lb, r * 3, none⟩) (.inl rfl) u).heap (q.heap (Mq.heap sg3.out fun h => h) fun e => hgn _ e rfl) fun e => hgl2 e.symm)).1)
    have mq' := hid mq
    clear ba' mq m3 hgn hgl2
    subst hwa
    go_region_with ((go_at_call 128; refine IN.mono ?_; rintro e w13 ⟨v13, rfl, own13, M13, F13⟩; obtain ⟨A13, c13, rfl, h13⟩ := own_slice own13; obtain ⟨y0, y1⟩ := HH.out _ M13; have y2 := HG.out _ M13; have y3 := HL'.out _ M13 (.slice A13 (l.length + 1) c13)))
    all_goals
     have NB : NodeB w13 (b.upd false A13 (l.length + 1) c13) (l.take k ++ s :: l.drop k) [] := by
      refine ⟨?_, ?_⟩
      ·rw [Bn.v_upd]
       have := own13
       rw [flat5_ins l k s hkl.out] at this
       rw [show (l.take k ++ s :: l.drop k).length = l.length + 1 by have := hkl.out; simp; omega]
       exact this
      ·rw [Bn.v_upd_ne _ (by decide)]
       exact own_keep hn3.2 fun x e => (M13.block x (Nat.lt_of_lt_of_le (hn3.lt (x := true) e) Mq.size) fun e2 => absurd (hn3.ne (x := true) (y := false) e e2) (by decide)).trans (Mq.block x (hn3.lt (x := true) e) fun h => h)
     obtain ⟨m14, X14, F14⟩ := mq'.out.setF (x := false) hb M13 A13 (l.length + 1) c13 (l.take k ++ s :: l.drop k) [] NB F13 0 rfl
     simp only [Nat.add_zero] at m14 X14
     clear q0 q1 q2 q3 y0 y1 y2 y3 p0 p1 t0 t1
     go_wp2_with fail
     go_ret
     have N14 := ((HM.out.1.trans' (M3.mono fun _ h => h.elim)).trans' (Mq.mono fun _ h => h.elim)).trans X14 HM.out.2
     have z1 := (HM.out.1.trans' (M3.mono fun _ h => h.elim)).size
     have z2 := M0.out.size
     have z3 := Mq.size
     refine ⟨rfl, _, _, _, _, _, _, m14, FIN.out _ (StB.set_self ..) (fun x hx => StB.set_ne _ _ hx), (M0.out.mono fun _ h => h.elim).trans' N14, fun x hx => ?_⟩
     rcases F14 x hx with q | q
     ·rcases HM.out.2 x q with q | q
      ·exact .inl q
      ·exact .inr (Nat.le_trans z2 q)
     ·exact .inr (by omega)
   | succ g =>
    have hks := (hS.kidsLen hSr).2 (by omega)
    rw [show decide (ks = []) = false from decide_eq_false (by intro e; rw [e] at hks; simp at hks)] at PL
    obtain ⟨C1, a, C2, q1, q2, q3, q4, q5, q6, q7, q8, q9, q10⟩ := hS.one hSr (posL (ky s) l) (posL_le _ _)
    have hkt : ks[posL (ky s) l]? = some a.i := by rw [q1]; exact (take_mid (by simpa using q2)).2.2
    obtain ⟨lt, kk, hSt, hlt1, hlt2, -⟩ := q5.node
    obtain ⟨bt, hbt, hnt⟩ := m.live hSt
    have hnf : l.length + 1 ≤ 2 * d - 1 := by omega
    have hroom : cntB σ' free' < 2 * room + 4 := by
     rw [m.count hAll]
     have q := ((hH S' Li F (fun _ _ => rfl) hS).size hd.1).2
     have q2 : (A ++ (Li ++ B)).length = L.length := by rw [hL]
     have := hn.out
     omega
    have hndF : F.Nodup := (List.nodup_append.1 (List.nodup_append.1 hAll.1).2.1).1
    have hkl := posL_le (ky s) l
    have FIN0 := hid (fun (e : lt.length ≤ 2 * d - 2) => At9.down hS hSr hr.out.1 hL hA hB ho.out hH hAll hkt hSt e)
    have FIN1 := hid (fun (S2 : StB) (l2 : List Sg) (ks2 F2 : List Nat) (up : Sg) (e2 : S2 r = some (l2, ks2)) (el : l2 = l.take (posL (ky s) l) ++ up :: l.drop (posL (ky s) l)) (sub2 : Sub d S2 (g + 1) (lo + 1) r Li F2) (chg : Chg S' S2 F F2)
      (hk2 : ∀ t, t = posL (ky s) l ∨ t = posL (ky s) l + 1 → ∃ kt lt kk, ks2[t]? = some kt ∧ S2 kt = some (lt, kk) ∧ lt.length = d - 1) => by
     obtain ⟨a1, a2⟩ := chg.all hAll (fun x hx => sub2.live x hx)
     obtain ⟨kt, lt2, kk2, z1, z2, z3⟩ := hk2 (posL (ky s) l2) (by rw [el]; exact posL_up up _)
     exact (⟨kt, z1, At9.down sub2 e2 hr.out.1 hL hA hB ho.out ((hH.keep a2).low (Nat.le_succ lo)) a1 z1 z2 (by omega)⟩ : ∃ kt, ks2[posL (ky s) l2]? = some kt ∧ At9 d S2 L H lo0 r0 (ky s) g kt))
    have HAt := hid (fun W (M : CM wr W) => (atM (m.mod0 M) hb).mono fun e w'' ⟨h1, h2⟩ => (⟨h1, by rw [h2]; exact M⟩ : e = Ending.returned (.pointer (some ⟨lb, r * 3, none⟩)) ∧ CM wr w''))
    have HPl := hid (fun W (M : CM wr W) => (placeM (m.mod0 M) hb (hnb.keep fun x k e => Mod.block M k (hnb.lt e) fun h => h) hrl (by omega) s.ls s.la hf).mono fun e w'' ⟨h1, h2⟩ => (⟨h1, Mod.trans' M h2⟩ : e = Ending.returned (.tuple #[.int .i64 (posL (ky s) l), .bool (hasK (ky s) l)]) ∧ CM wr w''))
    have HCc := hid (fun W (M' : CM wr W) => blkc (Mod.heap M' (kcb.out wr M) fun h => h))
    have HM := hid (And.intro M Fo)
    have mm := hid m
    have hnb0 := hid hnb
    have hnt0 := hid hnt
    have hrl0 := hid hrl
    have hL0 := hid hL
    have hkk := hid (List.getElem?_eq_some_iff.1 hkt)
    have hkI : (posL (ky s) l : Int) < ks.length := by omega
    have SPL := hid (fun (W : World) (q : Mod (fun _ => False) wr W) (hfull : lt.length = 2 * d - 1) => splitBZ (m.mod0 q) hd hS hSr hndF hkl hkt hSt hfull hnf hroom)
    clear hat hAll hA hB hS hH hL hrl M Fo hlo0 hkl hkt q1 q2 q3 q4 q5 q6 q7 q8 q9 q10 hks hnf hroom hndF hSt hSr m hnb hnt
    generalize hpk : posL (ky s) l = k at *
    replace hpk := hid hpk
    replace hl := hid hl
    replace hlt1 := hid hlt1
    replace hlt2 := hid hlt2
    go_wp2_with fail
    refine PA.mono ?_; rintro e w2 ⟨rfl, hw2⟩; subst hw2
    go_wp2_with fail
    refine PL.mono ?_; rintro e w2 ⟨rfl, hw2⟩; subst hw2
    clear PA PL
    go_wp2_with fail
    refine cq_region (by kernel_rfl) (by kernel_rfl) ?_
    iterate 10 (refine wpQuiet_step (fun K hK => ?_); go_simp; first | (refine hK _ ?_; clear hK K) | (refine ⟨_, fun _ _ => rfl, hK _ ?_⟩; clear hK K) | (apply Exists.intro; refine ⟨fun wq hq => ?_, hK _ ?_⟩; (focus (first | (go_at_call 114; exact HAt.out _ hq) | (go_at_call 127; exact HPl.out _ hq) | (obtain ⟨d1, e1⟩ := HCc.out _ hq; go_simp; try with_reducible rfl))); clear hK K))
    refine wpQuiet_nil ?_
    intro w3 M3
    have m3 := mm.out.mod0 M3
    have hn3 : NodeB w3 b l ks := hnb0.out.keep fun x k e => M3.block k (hnb0.out.lt e) fun h => h
    have PA := atM m3 hb
    have PF := fullM m3 hbt (hnt0.out.keep fun x k e => M3.block k (hnt0.out.lt e) fun h => h) ⟨by omega, by omega⟩
    obtain ⟨q0, q1, q2, q3⟩ := m3.cells hb
    obtain ⟨ht2, hki⟩ := hkk.out
    obtain ⟨gk, hgk, yk⟩ := hn3.kidC ht2
    have hbkn := hn3.kn
    rw [hbkn, hgk] at q1
    rw [hki] at yk
    clear hki
    by_cases hfull : lt.length = 2 * d - 1
    ·rw [show decide ((lt.length : Int) = 2 * (d : Int) - 1) = true from decide_eq_true (by omega)] at PF
     replace hfull := hid hfull
     replace m3 := hid m3
     clear hn3
     go_wp2_with fail
     refine PA.mono ?_; rintro e w4 ⟨rfl, hw4⟩; subst hw4
     go_wp2_with fail
     refine PF.mono ?_; rintro e w5 ⟨rfl, M5⟩
     have SP := SPL.out _ (M3.trans' M5) hfull.out
     have N5 := hid (HM.out.1.trans' ((M3.trans' M5).mono fun _ h => h.elim))
     clear q0 q1 q2 q3 yk PA PF M5
     go_wp2_with fail
     refine SP.mono ?_; rintro e w6 ⟨rfl, S2, lv2, fv2, σ2, free2, l2, ks2, F2, up, m6, e6, el, sub2, chg, hkt2, M6, Fo6⟩
     obtain ⟨kt, hk6, at6⟩ := FIN1.out S2 l2 ks2 F2 up e6 el sub2 chg hkt2
     have at6 := hid at6
     have N6 := hid (N5.out.trans M6 HM.out.2)
     have FF6 := hid (show ∀ x, FootB tb ab lv2 fv2 σ2 x → FootB tb ab lv fv σ x ∨ W1.heap.size ≤ x from fun x hx => (Fo6 x hx).elim (HM.out.2 x) fun q => .inr (Nat.le_trans N5.out.size q))
     have hrl2 : Row l2 := hr.out.sub (by rw [hL0.out]; exact ((sub2.row e6).trans (List.sublist_append_left _ _)).trans (List.sublist_append_right _ _))
     have hll2 : l2.length ≤ 65536 := by rw [el]; have := hl.out; simp; omega
     obtain ⟨b6, hb6, hn6⟩ := m6.live e6
     obtain ⟨lb6, c6, rfl⟩ := m6.lbS hb6
     have HAt6 := hid (fun W (M : CM w6 W) => (atM (m6.mod0 M) hb6).mono fun e w'' ⟨h1, h2⟩ => (⟨h1, by rw [h2]; exact M⟩ : e = Ending.returned (.pointer (some ⟨lb6, r * 3, none⟩)) ∧ CM w6 w''))
     have HPl6 := hid (fun W (M : CM w6 W) => (placeM (m6.mod0 M) hb6 (hn6.keep fun x k e => Mod.block M k (hn6.lt e) fun h => h) hrl2 hll2 s.ls s.la hf).mono fun e w'' ⟨h1, h2⟩ => (⟨h1, Mod.trans' M h2⟩ : e = Ending.returned (.tuple #[.int .i64 (posL (ky s) l2), .bool (hasK (ky s) l2)]) ∧ CM w6 w''))
     have HC6 := hid (fun W (M' : CM w6 W) => blkc (Mod.heap M' (kcb.out w6 N6.out) fun h => h))
     obtain ⟨ht6, hki6⟩ := List.getElem?_eq_some_iff.1 hk6
     have HK6 := hid (fun W (M : CM w6 W) => And.intro (atM (m6.mod0 M) hb6) (And.intro ((m6.mod0 M).cells hb6) ((hn6.keep (w' := W) fun x k e => Mod.block M k (hn6.lt e) fun h => h).kidC ht6)))
     have hbkn6 := hn6.kn
     have hkI6 : (posL (ky s) l2 : Int) < ks2.length := by omega
     rw [hki6] at HK6
     have m6h := hid m6
     clear hki6 hk6 hrl2 hll2 m6 hn6 e6 el sub2 chg hkt2 M6 Fo6 hkI SP FIN1 FIN0 SPL HAt HPl HCc M3
     generalize posL (ky s) l2 = k2 at *
     generalize hasK (ky s) l2 = z2 at *
     replace ht6 := hid ht6
     replace ht2 := hid ht2
     go_wp2_with fail
     refine cq_region (by kernel_rfl) (by kernel_rfl) ?_
     iterate 9 (refine wpQuiet_step (fun K hK => ?_); go_simp; first | (refine hK _ ?_; clear hK K) | (refine ⟨_, fun _ _ => rfl, hK _ ?_⟩; clear hK K) | (apply Exists.intro; refine ⟨fun wq hq => ?_, hK _ ?_⟩; (focus (first | (go_at_call 114; exact HAt6.out _ hq) | (go_at_call 127; exact HPl6.out _ hq) | (obtain ⟨d1, e1⟩ := HC6.out _ hq; go_simp; try with_reducible rfl))); clear hK K))
     refine wpQuiet_nil ?_
     intro w7 M7
     obtain ⟨PA7, ⟨q0, q1, q2, q3⟩, gk6, hgk6, yk6⟩ := HK6.out _ M7
     rw [hbkn6, hgk6] at q1
     clear HAt6 HPl6 HC6 HK6
     go_wp2_with fail
     refine PA7.mono ?_; rintro e w8 ⟨rfl, hw8⟩; subst hw8
     go_wp2_with fail
     go_roundg g
     case measure => omega
     case rel => exact ⟨kt, rfl, S2, _, fv2, σ2, free2, m6h.out.mod0 M7, at6.out, N6.out.trans' (M7.mono fun _ h => h.elim), FF6.out⟩
    ·rw [show decide ((lt.length : Int) = 2 * (d : Int) - 1) = false from decide_eq_false (by omega)] at PF
     have at6 := hid (FIN0.out (by have := hlt2.out; omega))
     have HPF := hid (fun (W : World) (M : Mod (fun _ => False) w3 W) => And.intro (atM (m3.mod0 M) hb) (And.intro ((m3.mod0 M).cells hb) ((hn3.keep (w' := W) fun x k e => M.block k (hn3.lt e) fun h => h).kidC ht2)))
     rw [hbkn] at HPF
     obtain ⟨_, hki⟩ := hkk.out
     rw [hki] at HPF
     have hm3 := hid m3
     clear hki hfull m3 hn3 FIN1 FIN0 SPL HAt HPl HCc
     replace ht2 := hid ht2
     go_wp2_with fail
     refine PA.mono ?_; rintro e w4 ⟨rfl, hw4⟩; subst hw4
     go_wp2_with fail
     refine PF.mono ?_; rintro e w5 ⟨rfl, M5⟩
     clear q0 q1 q2 q3 yk PA PF
     obtain ⟨PA5, ⟨q0, q1, q2, q3⟩, gk5, hgk5, yk5⟩ := HPF.out _ M5
     rw [hgk5] at q1
     go_wp2_with fail
     refine PA5.mono ?_; rintro e w6 ⟨rfl, hw6⟩; subst hw6
     go_wp2_with fail
     go_roundg g
     case measure => omega
     case rel => exact ⟨a.i, rfl, S', _, fv', σ', free', hm3.out.mod0 M5, at6.out, HM.out.1.trans' ((M3.trans' M5).mono fun _ h => h.elim), HM.out.2⟩
end
end Go.Proofs.Bo
