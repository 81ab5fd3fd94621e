import Derived.Test.YtgehgjaglgafdaaGreatG17
import Derived.Test.YtgehgjaglgafdaaGreatG20
set_option linter.unusedVariables false
set_option linter.unusedSimpArgs false
namespace Go.Proofs.Bo
open Go Go.RowKit
def PT (d : Nat) (S : StB) (root : Int) (L : List Sg) : Prop :=
 (root = -1 ∧ L = [] ∧ ∀ i, S i = none) ∨ ∃ (r h : Nat) (F : List Nat), root = r ∧ Sub d S h 1 r L F ∧ F.Nodup ∧ ∀ i, i ∈ F ↔ S i ≠ none
section
variable {w w' : World} {tb ab : Nat} {lv fv : Value} {σ : List (Option Bn)} {free : List Int} {root deg room many : Int} {S : StB}
def At7 (d : Nat) (S : StB) (L : List Sg) (dd own : Bool) (k : Int) (g : Nat) (i : Int) (A B : List Sg) : Prop :=
 (∀ x ∈ A, fitB dd own k (ky x) = !dd) ∧ (∀ x ∈ B, fitB dd own k (ky x) = dd) ∧ ((i = -1 ∧ g = 0 ∧ L = A ++ B) ∨ ∃ (r h lo : Nat) (Li : List Sg) (F : List Nat), i = r ∧ g = h + 1 ∧ Sub d S h lo r Li F ∧ L = A ++ (Li ++ B))
def NearX7 (d : Nat) (S : StB) (w : World) (cs ca : Int) (L : List Sg) (dd own : Bool) (k : Int) (g : Nat) (found i : Value) (W : World) : Prop :=
 ∃ (iv : Int) (A B : List Sg), i = .int .i64 iv ∧ At7 d S L dd own k g iv A B ∧ found = .bool (bst7 dd A B).isSome ∧ Mod (fun _ => False) w W ∧ W.heap[w.heap.size]? = some (.cells #[.int .i64 (canS cs ca), .int .i64 (canA cs ca)] 34 (0, 0)) ∧
  W.heap[w.heap.size + 1]? = some (.cells #[.int .i64 0, .int .i64 0, .int .i64 0, .int .i64 0, .int .i64 0] 38 (0, 0)) ∧ W.heap[w.heap.size + 1 + 1]? = some (.cells (encS (oS (bst7 dd A B))).toArray 38 (0, 0))
theorem NodeB.segC {b : Bn} {l : List Sg} {ks : List Nat} (h : NodeB w b l ks) {j : Nat} (hj : j < l.length) : ∃ g, b.la = some ⟨g, 0, none⟩ ∧ w.cell? ⟨g, j * 5, none⟩ = some (.int .i64 l[j].ls) ∧ w.cell? ⟨g, j * 5 + 1, none⟩ = some (.int .i64 l[j].la) ∧ w.cell? ⟨g, j * 5 + 2, none⟩ = some (.int .i64 l[j].hs) ∧
  w.cell? ⟨g, j * 5 + 3, none⟩ = some (.int .i64 l[j].ha) ∧ w.cell? ⟨g, j * 5 + 4, none⟩ = some (.int .i64 l[j].v) := by
 have hr := h.row
 obtain ⟨A, c, e, hA⟩ := hr.slice
 obtain ⟨g, rfl⟩ := hA (by omega)
 injection e with e1 e2 e3
 rw [e1, e2, e3] at hr
 exact ⟨g, e1, hr.cells hj⟩
theorem NodeB.kidC {b : Bn} {l : List Sg} {ks : List Nat} (h : NodeB w b l ks) {j : Nat} (hj : j < ks.length) : ∃ g, b.ka = some ⟨g, 0, none⟩ ∧ w.cell? ⟨g, j, none⟩ = some (.int .i64 (ks[j] : Int)) := by
 obtain ⟨A, c, e, _, _, hA⟩ := own_slice h.2
 obtain ⟨g, rfl⟩ := hA (by omega)
 have e : Value.slice b.ka b.kn b.kc = .slice (some ⟨g, 0, none⟩) ks.length c := e
 injection e with e1 e2 e3
 have h2 : w.ownsRow 0 3 1 (.slice b.ka b.kn b.kc) ks.length (numsV ks) := h.2
 rw [e1, e2, e3] at h2
 exact ⟨g, e1, (own_cell h2 (j := j) (by simp [numsV, hj])).1⟩
set_option maxHeartbeats 8000000 in
set_option maxRecDepth 100000 in
theorem nearBZ (dd own : Bool) (h : MemB w tb ab lv fv σ free root deg room many S) {d : Nat} (hd : d ≤ 64) {L : List Sg} (hT : PT d S root L) (hr : Row L) (cs ca : Int) (hf : fit64 ca) :
  Calls Tryz.prog 116 #[.pointer (some ⟨tb, 0, none⟩), .agg #[.int .i64 cs, .int .i64 ca], .bool (!dd), .bool own] w fun e w' => e = .returned (optS (nearS dd own (kx cs ca) L)) ∧ Mod (fun _ => False) w w' := by
 obtain ⟨w0, hw0, b0, b1, b2, M0⟩ : ∃ w0, ((w.alloc (.cells #[.int .i64 cs, .int .i64 ca] 34)).alloc (.cells #[.int .i64 0, .int .i64 0, .int .i64 0, .int .i64 0, .int .i64 0] 38)).alloc (.cells #[.int .i64 0, .int .i64 0, .int .i64 0, .int .i64 0, .int .i64 0] 38) = w0 ∧
  w0.heap[w.heap.size]? = some (.cells #[.int .i64 cs, .int .i64 ca] 34 (0, 0)) ∧ w0.heap[w.heap.size + 1]? = some (.cells #[.int .i64 0, .int .i64 0, .int .i64 0, .int .i64 0, .int .i64 0] 38 (0, 0)) ∧ w0.heap[w.heap.size + 1 + 1]? = some (.cells #[.int .i64 0, .int .i64 0, .int .i64 0, .int .i64 0, .int .i64 0] 38 (0, 0)) ∧ Mod (fun _ => False) w w0 :=
  ⟨_, rfl, alloc3_0 _ _ _ _, alloc3_1 _ _ _ _, alloc3_2 _ _ _ _, (((Mod.refl _ _).alloc _).alloc _).alloc _⟩
 obtain ⟨d0, e0⟩ := blkc b0
 have HC := canonZ cs ca w0
 go_enter Tryz.func116, Tryz.ntmps116
 go_wp2_with fail
 refine HC.mono ?_
 rintro e w1 ⟨rfl, M1⟩
 obtain ⟨W1, hW1, c0, M2⟩ : ∃ W1, (w1.setCell ⟨w.heap.size, 0, none⟩ (.int .i64 (canS cs ca))).setCell ⟨w.heap.size, 1, none⟩ (.int .i64 (canA cs ca)) = W1 ∧ W1.heap[w.heap.size]? = some (.cells #[.int .i64 (canS cs ca), .int .i64 (canA cs ca)] 34 (0, 0)) ∧ Mod (fun j => j = w.heap.size) w1 W1 :=
  ⟨_, rfl, setL_whole (cs := [.int .i64 cs, .int .i64 ca]) (us := [.int .i64 (canS cs ca), .int .i64 (canA cs ca)]) (M1.heap b0 fun h => h) rfl, Mod.setCell (S := fun j => j = w.heap.size) (p := ⟨w.heap.size, 1, none⟩) (Mod.setCell (S := fun j => j = w.heap.size) (p := ⟨w.heap.size, 0, none⟩) (Mod.refl _ _) (.inl rfl) _) (.inl rfl) _⟩
 obtain ⟨d1, e1⟩ := blkc (M1.heap b0 fun h => h)
 have c1 := M2.heap (M1.heap b1 fun h => h) (by omega)
 have c2 := M2.heap (M1.heap b2 fun h => h) (by omega)
 have M3 : Mod (fun _ => False) w W1 := (M0.trans' M1).trans M2 fun j hj => .inr (by have : j = w.heap.size := hj; omega)
 have h1 := h.mod0 M3
 obtain ⟨t0, t1⟩ := blkc h1.t
 have hkx : kx (canS cs ca) (canA cs ca) = kx cs ca := kx_can cs ca
 have hf2 : fit64 (canA cs ca) := can_fit hf
 clear d0 e0 HC b0 b1 b2 M1 M2 M0
 obtain ⟨g0, hAt⟩ : ∃ g0, At7 d S L dd own (kx cs ca) g0 root [] [] := by
  rcases hT with ⟨rfl, rfl, _⟩ | ⟨r, hh, F, rfl, q, _⟩
  ·exact ⟨0, by simp, by simp, .inl ⟨rfl, rfl, rfl⟩⟩
  ·exact ⟨hh + 1, by simp, by simp, .inr ⟨r, hh, 1, L, F, rfl, rfl, q, by simp⟩⟩
 replace hAt := hid hAt
 go_wp2_with fail
 go_loopg [11, 12] g0 (fun g found i W => NearX7 d S w cs ca L dd own (kx cs ca) g found i W)
 case atStart => exact ⟨root, [], [], rfl, hAt.out, by cases dd <;> rfl, M3, c0, c1, by cases dd <;> exact c2⟩
 case round =>
  clear hAt c0 c1 c2 M3 h1 t0 t1 d1 e1
  obtain ⟨iv, A, B, rfl, ⟨hA, hB, hAt⟩, rfl, M, c0, c1, c2⟩ := hrel
  rcases hAt with ⟨rfl, rfl, rfl⟩ | ⟨r, hh, lo, Li, F, rfl, rfl, hS, rfl⟩
  ·have hres := bst_end hA hB
   obtain ⟨t3, t4⟩ := blkc c2
   obtain ⟨t5, t6⟩ := blkc c1
   clear hA hB hr hT
   generalize bst7 dd A B = o at *
   dsimp only [encS] at t3
   replace hres := hid hres
   go_wp2_with fail
   obtain ⟨b3, M3⟩ := store5 (a' := .int .i64 (oS o).ls) (b' := .int .i64 (oS o).la) (c' := .int .i64 (oS o).hs) (d' := .int .i64 (oS o).ha) (e' := .int .i64 (oS o).v) c1 (by omega) M
   exact ret_row_tmp (fn := Tryz.f116) (w.heap.size + 1) (encS (oS o)) rfl rfl b3 Tryz.underlying38 rfl (by kernel_rfl) rfl ⟨by rw [hres.out]; rfl, M3⟩
  ·obtain ⟨l, ks, hSr, hl1, hl2, hks⟩ := hS.node
   obtain ⟨b, hb, hn⟩ := h.live hSr
   obtain ⟨lb, c, rfl⟩ := h.lbS hb
   have hsub : l.Sublist (A ++ (Li ++ B)) := ((hS.row hSr).trans (List.sublist_append_left _ _)).trans (List.sublist_append_right _ _)
   have hsL : Srt Li := (List.pairwise_append.1 (List.pairwise_append.1 hr.1).2.1).1
   have hrl : Row l := hr.sub hsub
   have HM := hid (fun (W' : World) (M' : Mod (fun j => w.heap.size ≤ j) w W') => h.mod M' (fun k hk e => by have := h.lt hk; omega))
   have HN := hid (fun (W' : World) (M' : Mod (fun j => w.heap.size ≤ j) w W') => (hn.keep (w' := W') fun x k e => M'.block k (hn.lt e) fun h => by have := hn.lt e; omega))
   have MX : Mod (fun j => w.heap.size ≤ j) w wr := M.mono fun _ h => h.elim
   have PA := atM (HM.out _ MX) hb
   have PP := placeM (HM.out _ MX) hb (HN.out _ MX) hrl (by omega) (canS cs ca) (canA cs ca) hf2
   rw [hkx] at PP
   obtain ⟨s0, s1⟩ := blkc c0
   have hnb := hn.ln
   have hnk := hn.kn
   have hpl := posL_le (kx cs ca) l
   have hpos := hasK_pos (k := kx cs ca) hrl.1
   have hlen : l.length ≤ 127 := by omega
   have hr0 : ((r : Int) != -1) = true := by simp
   replace hkx := hid hkx
   replace hl1 := hid hl1
   replace hl2 := hid hl2
   by_cases hret : hasK (kx cs ca) l = true ∧ own = true
   ·obtain ⟨hk1, rfl⟩ := hret
    obtain ⟨hp, hpe⟩ := hpos.1 hk1
    rw [hk1] at PP
    have hres : nearS dd true (kx cs ca) (A ++ (Li ++ B)) = some l[posL (kx cs ca) l] := by
     obtain ⟨P, Q, e⟩ := List.append_of_mem ((hS.row hSr).subset (List.getElem_mem hp))
     have e2 : A ++ (Li ++ B) = (A ++ P) ++ l[posL (kx cs ca) l] :: (Q ++ B) := by rw [e]; simp
     rw [e2]; exact near_own (by rw [← e2]; exact hr.1) hpe
    have HG := hid (fun W' M' => (HN.out W' M').segC hp)
    generalize l[posL (kx cs ca) l] = x at hres HG hpe
    generalize posL (kx cs ca) l = k at PP HG hp
    clear hpos hpe hA hB hks hk1 hsub hsL hrl hpl
    replace hres := hid hres
    have hpI : (k : Int) < l.length := by omega
    obtain ⟨xs, xa, xh, xg, xv⟩ := x
    go_wp2_with fail
    refine PA.mono ?_; rintro e w2 ⟨rfl, hw⟩; subst hw
    go_wp2_with fail
    refine PP.mono ?_; rintro e w3 ⟨rfl, M3⟩
    have MY : Mod (fun j => w.heap.size ≤ j) w w3 := (M.trans' M3).mono fun _ h => h.elim
    obtain ⟨q0, q1, q2, q3⟩ := (HM.out _ MY).cells hb
    obtain ⟨gg, hgg, z0, z1, z2, z3, z4⟩ := HG.out _ MY
    rw [hnb, hgg] at q0
    try dsimp only at z0 z1 z2 z3 z4
    obtain ⟨t5, t6⟩ := blkc (M3.heap c1 fun h => h)
    clear PA PP s0 s1
    go_wp2_with fail
    obtain ⟨b3, M4⟩ := store5 (a' := .int .i64 xs) (b' := .int .i64 xa) (c' := .int .i64 xh) (d' := .int .i64 xg) (e' := .int .i64 xv) (M3.heap c1 fun h => h) (by omega) (M.trans' M3)
    exact ret_row_tmp (fn := Tryz.f116) (w.heap.size + 1) (encS ⟨xs, xa, xh, xg, xv⟩) rfl rfl b3 Tryz.underlying38 rfl (by kernel_rfl) rfl ⟨by rw [hres.out]; rfl, M4⟩
   ·have hw := way_le (d := dd) (k := kx cs ca) hrl.1
    obtain ⟨t, ht⟩ : ∃ t, t = wayT dd (kx cs ca) l := ⟨_, rfl⟩
    rw [← ht] at hw
    have key : ∃ P Q : List Sg, PartB l t P Q ∧ ((hh = 0 ∧ ks = [] ∧ Li = P ++ Q) ∨ ∃ (h' : Nat) (ht2 : t < ks.length) (L' : List Sg) (F' : List Nat), hh = h' + 1 ∧ Sub d S h' (d - 1) ks[t] L' F' ∧ Li = P ++ (L' ++ Q)) := by
     cases hh with
     | zero =>
      obtain ⟨a1, a2, a3, a4⟩ := hS.leaf hSr t
      exact ⟨_, _, a4, .inl ⟨rfl, a1, a3⟩⟩
     | succ h' =>
      obtain ⟨ht2, P, Q, L', F', a1, a2, a3⟩ := hS.inner hSr hsL t hw
      exact ⟨P, Q, a3, .inr ⟨h', ht2, L', F', rfl, a1, a2⟩⟩
    obtain ⟨P, Q, part, key⟩ := key
    have nx := near_step (d := dd) (own := own) hr.1 hA hB hret (P := P) (Q := Q) (ht ▸ part.lt) (ht ▸ part.ge) hrl.1
    have bn := bst_next (A := A) (B := B) part hw
    have fin : ∀ W, Mod (fun _ => False) w W → W.heap[w.heap.size]? = some (.cells #[.int .i64 (canS cs ca), .int .i64 (canA cs ca)] 34 (0, 0)) →
      W.heap[w.heap.size + 1]? = some (.cells #[.int .i64 0, .int .i64 0, .int .i64 0, .int .i64 0, .int .i64 0] 38 (0, 0)) → W.heap[w.heap.size + 1 + 1]? = some (.cells (encS (oS (bst7 dd (A ++ P) (Q ++ B)))).toArray 38 (0, 0)) →
      ∀ (h' : Nat) (ht2 : t < ks.length) (L' : List Sg) (F' : List Nat), Sub d S h' (d - 1) ks[t] L' F' → Li = P ++ (L' ++ Q) →
      NearX7 d S w cs ca (A ++ (Li ++ B)) dd own (kx cs ca) (h' + 1) (.bool (bst7 dd (A ++ P) (Q ++ B)).isSome) (.int .i64 (ks[t] : Int)) W :=
     fun W m a1 a2 a3 h' ht2 L' F' hs' e => ⟨_, A ++ P, Q ++ B, rfl, ⟨nx.1, nx.2, .inr ⟨_, h', d - 1, L', F', rfl, rfl, hs', by rw [e]; simp⟩⟩, rfl, m, a1, a2, a3⟩
    have hfinal : hh = 0 → Li = P ++ Q → nearS dd own (kx cs ca) (A ++ (Li ++ B)) = bst7 dd (A ++ P) (Q ++ B) := fun _ e => by rw [← bst_end nx.1 nx.2, e]; simp
    clear hA hB part nx hr hsub hsL hT hS hks
    replace fin := hid fin
    replace hfinal := hid hfinal
    cases dd
    ·cases hK : hasK (kx cs ca) l
     ·rw [hK] at PP hpos
      rw [show wayT false (kx cs ca) l = posL (kx cs ca) l from by simp [wayT, hK]] at ht
      subst ht
      clear hpos hK
      try clear hret
      generalize posL (kx cs ca) l = k at *
      replace bn := bn.1
      by_cases hc : 0 < k
      ·obtain ⟨m, rfl⟩ : ∃ m, k = m + 1 := ⟨k - 1, by omega⟩
       have hmI : (m : Int) < (l.length : Int) := by omega
       rcases key with ⟨h0, hk0, hLi⟩ | ⟨h', ht2, L', F', h0, hS', hLi⟩
       ·have HG := hid (fun W' M' => (HN.out W' M').segC (j := m) (by omega))
        obtain ⟨x, hx⟩ : ∃ x, l[m]'(by omega) = x := ⟨_, rfl⟩
        have bn' : bst7 false (A ++ P) (Q ++ B) = some x := by rw [bn]; first | (rw [dif_pos (by omega)]; rw [← hx]; congr 1) | (rw [dif_pos (by omega), ← hx])
        simp only [hx] at HG
        obtain ⟨xs, xa, xh, xg, xv⟩ := x
        replace hx := hid hx
        rw [bn'] at fin hfinal
        clear bn bn'
        go_wp2_with fail
        refine PA.mono ?_; rintro e w2 ⟨rfl, hw2⟩; subst hw2
        go_wp2_with fail
        refine PP.mono ?_; rintro e w3 ⟨rfl, M3⟩
        have MY : Mod (fun j => w.heap.size ≤ j) w w3 := (M.trans' M3).mono fun _ h => h.elim
        obtain ⟨q0, q1, q2, q3⟩ := (HM.out _ MY).cells hb
        have d0 := M3.heap c0 fun h => h
        have d1 := M3.heap c1 fun h => h
        have d2 := M3.heap c2 fun h => h
        have MZ := M.trans' M3
        obtain ⟨gg, hgg, z0, z1, z2, z3, z4⟩ := HG.out _ MY
        rw [hnb, hgg] at q0
        try dsimp only at z0 z1 z2 z3 z4
        obtain ⟨W4, hW4, b4, M4⟩ : ∃ W4, ((((w3.setCell ⟨w.heap.size + 1 + 1, 0, none⟩ (.int .i64 xs)).setCell ⟨w.heap.size + 1 + 1, 1, none⟩ (.int .i64 xa)).setCell ⟨w.heap.size + 1 + 1, 2, none⟩ (.int .i64 xh)).setCell ⟨w.heap.size + 1 + 1, 3, none⟩ (.int .i64 xg)).setCell ⟨w.heap.size + 1 + 1, 4, none⟩ (.int .i64 xv) = W4 ∧ W4.heap[w.heap.size + 1 + 1]? = some (.cells (encS ⟨xs, xa, xh, xg, xv⟩).toArray 38 (0, 0)) ∧ Mod (fun j => j = w.heap.size + 1 + 1) w3 W4 :=
         ⟨_, rfl, (store5 (w := w) d2 (by omega) MZ).1, ((((Mod.setCell (S := fun j => j = w.heap.size + 1 + 1) (p := ⟨w.heap.size + 1 + 1, 0, none⟩) (Mod.refl _ _) (.inl rfl) _).setCell (.inl rfl) _).setCell (.inl rfl) _).setCell (.inl rfl) _).setCell (.inl rfl) _⟩
        obtain ⟨t7, t8⟩ := blkc d2
        have MW := MZ.trans M4 fun j hj => .inr (by have : j = w.heap.size + 1 + 1 := hj; omega)
        replace d0 := M4.heap d0 (by omega)
        replace d1 := M4.heap d1 (by omega)
        dsimp only [encS] at t7
        have MV : Mod (fun j => w.heap.size ≤ j) w W4 := MW.mono fun _ h => h.elim
        have PL := leafM (HM.out _ MV) hb (HN.out _ MV)
        rw [hk0] at PL
        simp only [decide_true] at PL
        clear PA PP s0 s1
        go_wp2_with fail
        refine PL.mono ?_; rintro e w5 ⟨rfl, hw5⟩; subst hw5
        clear PL
        obtain ⟨r1, r2⟩ := blkc b4
        obtain ⟨r3, r4⟩ := blkc d1
        dsimp only [encS] at r1
        have hres := hid (hfinal.out h0 hLi)
        clear q0 q1 q2 q3 b4
        go_wp2_with fail
        obtain ⟨b5, M5⟩ := store5 (a' := .int .i64 xs) (b' := .int .i64 xa) (c' := .int .i64 xh) (d' := .int .i64 xg) (e' := .int .i64 xv) d1 (by omega) MW
        exact ret_row_tmp (fn := Tryz.f116) (w.heap.size + 1) (encS ⟨xs, xa, xh, xg, xv⟩) rfl rfl b5 Tryz.underlying38 rfl (by kernel_rfl) rfl ⟨by rw [hres.out]; rfl, M5⟩
       ·have HG := hid (fun W' M' => (HN.out W' M').segC (j := m) (by omega))
        obtain ⟨x, hx⟩ : ∃ x, l[m]'(by omega) = x := ⟨_, rfl⟩
        have bn' : bst7 false (A ++ P) (Q ++ B) = some x := by rw [bn]; first | (rw [dif_pos (by omega)]; rw [← hx]; congr 1) | (rw [dif_pos (by omega), ← hx])
        simp only [hx] at HG
        obtain ⟨xs, xa, xh, xg, xv⟩ := x
        replace hx := hid hx
        rw [bn'] at fin hfinal
        clear bn bn'
        go_wp2_with fail
        refine PA.mono ?_; rintro e w2 ⟨rfl, hw2⟩; subst hw2
        go_wp2_with fail
        refine PP.mono ?_; rintro e w3 ⟨rfl, M3⟩
        have MY : Mod (fun j => w.heap.size ≤ j) w w3 := (M.trans' M3).mono fun _ h => h.elim
        obtain ⟨q0, q1, q2, q3⟩ := (HM.out _ MY).cells hb
        have d0 := M3.heap c0 fun h => h
        have d1 := M3.heap c1 fun h => h
        have d2 := M3.heap c2 fun h => h
        have MZ := M.trans' M3
        obtain ⟨gg, hgg, z0, z1, z2, z3, z4⟩ := HG.out _ MY
        rw [hnb, hgg] at q0
        try dsimp only at z0 z1 z2 z3 z4
        obtain ⟨W4, hW4, b4, M4⟩ : ∃ W4, ((((w3.setCell ⟨w.heap.size + 1 + 1, 0, none⟩ (.int .i64 xs)).setCell ⟨w.heap.size + 1 + 1, 1, none⟩ (.int .i64 xa)).setCell ⟨w.heap.size + 1 + 1, 2, none⟩ (.int .i64 xh)).setCell ⟨w.heap.size + 1 + 1, 3, none⟩ (.int .i64 xg)).setCell ⟨w.heap.size + 1 + 1, 4, none⟩ (.int .i64 xv) = W4 ∧ W4.heap[w.heap.size + 1 + 1]? = some (.cells (encS ⟨xs, xa, xh, xg, xv⟩).toArray 38 (0, 0)) ∧ Mod (fun j => j = w.heap.size + 1 + 1) w3 W4 :=
         ⟨_, rfl, (store5 (w := w) d2 (by omega) MZ).1, ((((Mod.setCell (S := fun j => j = w.heap.size + 1 + 1) (p := ⟨w.heap.size + 1 + 1, 0, none⟩) (Mod.refl _ _) (.inl rfl) _).setCell (.inl rfl) _).setCell (.inl rfl) _).setCell (.inl rfl) _).setCell (.inl rfl) _⟩
        obtain ⟨t7, t8⟩ := blkc d2
        have MW := MZ.trans M4 fun j hj => .inr (by have : j = w.heap.size + 1 + 1 := hj; omega)
        replace d0 := M4.heap d0 (by omega)
        replace d1 := M4.heap d1 (by omega)
        dsimp only [encS] at t7
        have MV : Mod (fun j => w.heap.size ≤ j) w W4 := MW.mono fun _ h => h.elim
        have PL := leafM (HM.out _ MV) hb (HN.out _ MV)
        rw [show decide (ks = []) = false from by simp; intro e; rw [e] at ht2; simp at ht2] at PL
        obtain ⟨y0, y1, y2, y3⟩ := (HM.out _ MV).cells hb
        obtain ⟨gk, hgk, yk⟩ := (HN.out _ MV).kidC ht2
        rw [hnk, hgk] at y1
        replace fin := fin.out W4 MW d0 d1 b4 h' ht2 L' F' hS' hLi
        have ht3 : (m : Int) + 1 < ks.length := by omega
        replace fin := hid fin
        clear PA PP s0 s1
        go_wp2_with fail
        refine PL.mono ?_; rintro e w5 ⟨rfl, hw5⟩; subst hw5
        clear PL
        go_wp2_with fail
        go_roundg (h' + 1)
        case measure => omega
        case rel => exact fin.out
      ·obtain rfl : k = 0 := by omega
       rcases key with ⟨h0, hk0, hLi⟩ | ⟨h', ht2, L', F', h0, hS', hLi⟩
       ·have bn' : bst7 false (A ++ P) (Q ++ B) = bst7 false A B := by rw [bn, dif_neg (by omega)]
        rw [bn'] at fin hfinal
        clear bn bn'
        go_wp2_with fail
        refine PA.mono ?_; rintro e w2 ⟨rfl, hw2⟩; subst hw2
        go_wp2_with fail
        refine PP.mono ?_; rintro e w3 ⟨rfl, M3⟩
        have MY : Mod (fun j => w.heap.size ≤ j) w w3 := (M.trans' M3).mono fun _ h => h.elim
        obtain ⟨q0, q1, q2, q3⟩ := (HM.out _ MY).cells hb
        have d0 := M3.heap c0 fun h => h
        have d1 := M3.heap c1 fun h => h
        have d2 := M3.heap c2 fun h => h
        have MZ := M.trans' M3
        obtain ⟨W4, rfl, b4, MW⟩ : ∃ W4, W4 = w3 ∧ W4.heap[w.heap.size + 1 + 1]? = some (.cells (encS (oS (bst7 false A B))).toArray 38 (0, 0)) ∧ Mod (fun _ => False) w W4 := ⟨_, rfl, d2, MZ⟩
        rw [hnb] at q0
        have MV : Mod (fun j => w.heap.size ≤ j) w W4 := MW.mono fun _ h => h.elim
        have PL := leafM (HM.out _ MV) hb (HN.out _ MV)
        rw [hk0] at PL
        simp only [decide_true] at PL
        clear PA PP s0 s1
        go_wp2_with fail
        refine PL.mono ?_; rintro e w5 ⟨rfl, hw5⟩; subst hw5
        clear PL
        obtain ⟨r1, r2⟩ := blkc b4
        obtain ⟨r3, r4⟩ := blkc d1
        dsimp only [encS] at r1
        have hres := hid (hfinal.out h0 hLi)
        clear q0 q1 q2 q3 b4
        generalize bst7 false A B = o at *
        go_wp2_with fail
        obtain ⟨b5, M5⟩ := store5 (a' := .int .i64 (oS o).ls) (b' := .int .i64 (oS o).la) (c' := .int .i64 (oS o).hs) (d' := .int .i64 (oS o).ha) (e' := .int .i64 (oS o).v) d1 (by omega) MW
        exact ret_row_tmp (fn := Tryz.f116) (w.heap.size + 1) (encS (oS o)) rfl rfl b5 Tryz.underlying38 rfl (by kernel_rfl) rfl ⟨by rw [hres.out]; rfl, M5⟩
       ·have bn' : bst7 false (A ++ P) (Q ++ B) = bst7 false A B := by rw [bn, dif_neg (by omega)]
        rw [bn'] at fin hfinal
        clear bn bn'
        go_wp2_with fail
        refine PA.mono ?_; rintro e w2 ⟨rfl, hw2⟩; subst hw2
        go_wp2_with fail
        refine PP.mono ?_; rintro e w3 ⟨rfl, M3⟩
        have MY : Mod (fun j => w.heap.size ≤ j) w w3 := (M.trans' M3).mono fun _ h => h.elim
        obtain ⟨q0, q1, q2, q3⟩ := (HM.out _ MY).cells hb
        have d0 := M3.heap c0 fun h => h
        have d1 := M3.heap c1 fun h => h
        have d2 := M3.heap c2 fun h => h
        have MZ := M.trans' M3
        obtain ⟨W4, rfl, b4, MW⟩ : ∃ W4, W4 = w3 ∧ W4.heap[w.heap.size + 1 + 1]? = some (.cells (encS (oS (bst7 false A B))).toArray 38 (0, 0)) ∧ Mod (fun _ => False) w W4 := ⟨_, rfl, d2, MZ⟩
        rw [hnb] at q0
        have MV : Mod (fun j => w.heap.size ≤ j) w W4 := MW.mono fun _ h => h.elim
        have PL := leafM (HM.out _ MV) hb (HN.out _ MV)
        rw [show decide (ks = []) = false from by simp; intro e; rw [e] at ht2; simp at ht2] at PL
        obtain ⟨y0, y1, y2, y3⟩ := (HM.out _ MV).cells hb
        obtain ⟨gk, hgk, yk⟩ := (HN.out _ MV).kidC ht2
        rw [hnk, hgk] at y1
        replace fin := fin.out W4 MW d0 d1 b4 h' ht2 L' F' hS' hLi
        have ht3 : (0 : Int) < ks.length := by omega
        replace fin := hid fin
        clear PA PP s0 s1
        go_wp2_with fail
        refine PL.mono ?_; rintro e w5 ⟨rfl, hw5⟩; subst hw5
        clear PL
        go_wp2_with fail
        go_roundg (h' + 1)
        case measure => omega
        case rel => exact fin.out
     ·rw [hK] at PP hpos
      obtain ⟨hp, _⟩ := hpos.1 rfl
      have how : own = false := by cases own; rfl; exact absurd ⟨hK, rfl⟩ hret
      subst how
      rw [show wayT false (kx cs ca) l = posL (kx cs ca) l from by simp [wayT, hK]] at ht
      subst ht
      clear hpos hK
      try clear hret
      generalize posL (kx cs ca) l = k at *
      replace bn := bn.1
      by_cases hc : 0 < k
      ·obtain ⟨m, rfl⟩ : ∃ m, k = m + 1 := ⟨k - 1, by omega⟩
       have hmI : (m : Int) < (l.length : Int) := by omega
       rcases key with ⟨h0, hk0, hLi⟩ | ⟨h', ht2, L', F', h0, hS', hLi⟩
       ·have HG := hid (fun W' M' => (HN.out W' M').segC (j := m) (by omega))
        obtain ⟨x, hx⟩ : ∃ x, l[m]'(by omega) = x := ⟨_, rfl⟩
        have bn' : bst7 false (A ++ P) (Q ++ B) = some x := by rw [bn]; first | (rw [dif_pos (by omega)]; rw [← hx]; congr 1) | (rw [dif_pos (by omega), ← hx])
        simp only [hx] at HG
        obtain ⟨xs, xa, xh, xg, xv⟩ := x
        replace hx := hid hx
        rw [bn'] at fin hfinal
        clear bn bn'
        go_wp2_with fail
        refine PA.mono ?_; rintro e w2 ⟨rfl, hw2⟩; subst hw2
        go_wp2_with fail
        refine PP.mono ?_; rintro e w3 ⟨rfl, M3⟩
        have MY : Mod (fun j => w.heap.size ≤ j) w w3 := (M.trans' M3).mono fun _ h => h.elim
        obtain ⟨q0, q1, q2, q3⟩ := (HM.out _ MY).cells hb
        have d0 := M3.heap c0 fun h => h
        have d1 := M3.heap c1 fun h => h
        have d2 := M3.heap c2 fun h => h
        have MZ := M.trans' M3
        obtain ⟨gg, hgg, z0, z1, z2, z3, z4⟩ := HG.out _ MY
        rw [hnb, hgg] at q0
        try dsimp only at z0 z1 z2 z3 z4
        obtain ⟨W4, hW4, b4, M4⟩ : ∃ W4, ((((w3.setCell ⟨w.heap.size + 1 + 1, 0, none⟩ (.int .i64 xs)).setCell ⟨w.heap.size + 1 + 1, 1, none⟩ (.int .i64 xa)).setCell ⟨w.heap.size + 1 + 1, 2, none⟩ (.int .i64 xh)).setCell ⟨w.heap.size + 1 + 1, 3, none⟩ (.int .i64 xg)).setCell ⟨w.heap.size + 1 + 1, 4, none⟩ (.int .i64 xv) = W4 ∧ W4.heap[w.heap.size + 1 + 1]? = some (.cells (encS ⟨xs, xa, xh, xg, xv⟩).toArray 38 (0, 0)) ∧ Mod (fun j => j = w.heap.size + 1 + 1) w3 W4 :=
         ⟨_, rfl, (store5 (w := w) d2 (by omega) MZ).1, ((((Mod.setCell (S := fun j => j = w.heap.size + 1 + 1) (p := ⟨w.heap.size + 1 + 1, 0, none⟩) (Mod.refl _ _) (.inl rfl) _).setCell (.inl rfl) _).setCell (.inl rfl) _).setCell (.inl rfl) _).setCell (.inl rfl) _⟩
        obtain ⟨t7, t8⟩ := blkc d2
        have MW := MZ.trans M4 fun j hj => .inr (by have : j = w.heap.size + 1 + 1 := hj; omega)
        replace d0 := M4.heap d0 (by omega)
        replace d1 := M4.heap d1 (by omega)
        dsimp only [encS] at t7
        have MV : Mod (fun j => w.heap.size ≤ j) w W4 := MW.mono fun _ h => h.elim
        have PL := leafM (HM.out _ MV) hb (HN.out _ MV)
        rw [hk0] at PL
        simp only [decide_true] at PL
        clear PA PP s0 s1
        go_wp2_with fail
        refine PL.mono ?_; rintro e w5 ⟨rfl, hw5⟩; subst hw5
        clear PL
        obtain ⟨r1, r2⟩ := blkc b4
        obtain ⟨r3, r4⟩ := blkc d1
        dsimp only [encS] at r1
        have hres := hid (hfinal.out h0 hLi)
        clear q0 q1 q2 q3 b4
        go_wp2_with fail
        obtain ⟨b5, M5⟩ := store5 (a' := .int .i64 xs) (b' := .int .i64 xa) (c' := .int .i64 xh) (d' := .int .i64 xg) (e' := .int .i64 xv) d1 (by omega) MW
        exact ret_row_tmp (fn := Tryz.f116) (w.heap.size + 1) (encS ⟨xs, xa, xh, xg, xv⟩) rfl rfl b5 Tryz.underlying38 rfl (by kernel_rfl) rfl ⟨by rw [hres.out]; rfl, M5⟩
       ·have HG := hid (fun W' M' => (HN.out W' M').segC (j := m) (by omega))
        obtain ⟨x, hx⟩ : ∃ x, l[m]'(by omega) = x := ⟨_, rfl⟩
        have bn' : bst7 false (A ++ P) (Q ++ B) = some x := by rw [bn]; first | (rw [dif_pos (by omega)]; rw [← hx]; congr 1) | (rw [dif_pos (by omega), ← hx])
        simp only [hx] at HG
        obtain ⟨xs, xa, xh, xg, xv⟩ := x
        replace hx := hid hx
        rw [bn'] at fin hfinal
        clear bn bn'
        go_wp2_with fail
        refine PA.mono ?_; rintro e w2 ⟨rfl, hw2⟩; subst hw2
        go_wp2_with fail
        refine PP.mono ?_; rintro e w3 ⟨rfl, M3⟩
        have MY : Mod (fun j => w.heap.size ≤ j) w w3 := (M.trans' M3).mono fun _ h => h.elim
        obtain ⟨q0, q1, q2, q3⟩ := (HM.out _ MY).cells hb
        have d0 := M3.heap c0 fun h => h
        have d1 := M3.heap c1 fun h => h
        have d2 := M3.heap c2 fun h => h
        have MZ := M.trans' M3
        obtain ⟨gg, hgg, z0, z1, z2, z3, z4⟩ := HG.out _ MY
        rw [hnb, hgg] at q0
        try dsimp only at z0 z1 z2 z3 z4
        obtain ⟨W4, hW4, b4, M4⟩ : ∃ W4, ((((w3.setCell ⟨w.heap.size + 1 + 1, 0, none⟩ (.int .i64 xs)).setCell ⟨w.heap.size + 1 + 1, 1, none⟩ (.int .i64 xa)).setCell ⟨w.heap.size + 1 + 1, 2, none⟩ (.int .i64 xh)).setCell ⟨w.heap.size + 1 + 1, 3, none⟩ (.int .i64 xg)).setCell ⟨w.heap.size + 1 + 1, 4, none⟩ (.int .i64 xv) = W4 ∧ W4.heap[w.heap.size + 1 + 1]? = some (.cells (encS ⟨xs, xa, xh, xg, xv⟩).toArray 38 (0, 0)) ∧ Mod (fun j => j = w.heap.size + 1 + 1) w3 W4 :=
         ⟨_, rfl, (store5 (w := w) d2 (by omega) MZ).1, ((((Mod.setCell (S := fun j => j = w.heap.size + 1 + 1) (p := ⟨w.heap.size + 1 + 1, 0, none⟩) (Mod.refl _ _) (.inl rfl) _).setCell (.inl rfl) _).setCell (.inl rfl) _).setCell (.inl rfl) _).setCell (.inl rfl) _⟩
        obtain ⟨t7, t8⟩ := blkc d2
        have MW := MZ.trans M4 fun j hj => .inr (by have : j = w.heap.size + 1 + 1 := hj; omega)
        replace d0 := M4.heap d0 (by omega)
        replace d1 := M4.heap d1 (by omega)
        dsimp only [encS] at t7
        have MV : Mod (fun j => w.heap.size ≤ j) w W4 := MW.mono fun _ h => h.elim
        have PL := leafM (HM.out _ MV) hb (HN.out _ MV)
        rw [show decide (ks = []) = false from by simp; intro e; rw [e] at ht2; simp at ht2] at PL
        obtain ⟨y0, y1, y2, y3⟩ := (HM.out _ MV).cells hb
        obtain ⟨gk, hgk, yk⟩ := (HN.out _ MV).kidC ht2
        rw [hnk, hgk] at y1
        replace fin := fin.out W4 MW d0 d1 b4 h' ht2 L' F' hS' hLi
        have ht3 : (m : Int) + 1 < ks.length := by omega
        replace fin := hid fin
        clear PA PP s0 s1
        go_wp2_with fail
        refine PL.mono ?_; rintro e w5 ⟨rfl, hw5⟩; subst hw5
        clear PL
        go_wp2_with fail
        go_roundg (h' + 1)
        case measure => omega
        case rel => exact fin.out
      ·obtain rfl : k = 0 := by omega
       rcases key with ⟨h0, hk0, hLi⟩ | ⟨h', ht2, L', F', h0, hS', hLi⟩
       ·have bn' : bst7 false (A ++ P) (Q ++ B) = bst7 false A B := by rw [bn, dif_neg (by omega)]
        rw [bn'] at fin hfinal
        clear bn bn'
        go_wp2_with fail
        refine PA.mono ?_; rintro e w2 ⟨rfl, hw2⟩; subst hw2
        go_wp2_with fail
        refine PP.mono ?_; rintro e w3 ⟨rfl, M3⟩
        have MY : Mod (fun j => w.heap.size ≤ j) w w3 := (M.trans' M3).mono fun _ h => h.elim
        obtain ⟨q0, q1, q2, q3⟩ := (HM.out _ MY).cells hb
        have d0 := M3.heap c0 fun h => h
        have d1 := M3.heap c1 fun h => h
        have d2 := M3.heap c2 fun h => h
        have MZ := M.trans' M3
        obtain ⟨W4, rfl, b4, MW⟩ : ∃ W4, W4 = w3 ∧ W4.heap[w.heap.size + 1 + 1]? = some (.cells (encS (oS (bst7 false A B))).toArray 38 (0, 0)) ∧ Mod (fun _ => False) w W4 := ⟨_, rfl, d2, MZ⟩
        rw [hnb] at q0
        have MV : Mod (fun j => w.heap.size ≤ j) w W4 := MW.mono fun _ h => h.elim
        have PL := leafM (HM.out _ MV) hb (HN.out _ MV)
        rw [hk0] at PL
        simp only [decide_true] at PL
        clear PA PP s0 s1
        go_wp2_with fail
        refine PL.mono ?_; rintro e w5 ⟨rfl, hw5⟩; subst hw5
        clear PL
        obtain ⟨r1, r2⟩ := blkc b4
        obtain ⟨r3, r4⟩ := blkc d1
        dsimp only [encS] at r1
        have hres := hid (hfinal.out h0 hLi)
        clear q0 q1 q2 q3 b4
        generalize bst7 false A B = o at *
        go_wp2_with fail
        obtain ⟨b5, M5⟩ := store5 (a' := .int .i64 (oS o).ls) (b' := .int .i64 (oS o).la) (c' := .int .i64 (oS o).hs) (d' := .int .i64 (oS o).ha) (e' := .int .i64 (oS o).v) d1 (by omega) MW
        exact ret_row_tmp (fn := Tryz.f116) (w.heap.size + 1) (encS (oS o)) rfl rfl b5 Tryz.underlying38 rfl (by kernel_rfl) rfl ⟨by rw [hres.out]; rfl, M5⟩
       ·have bn' : bst7 false (A ++ P) (Q ++ B) = bst7 false A B := by rw [bn, dif_neg (by omega)]
        rw [bn'] at fin hfinal
        clear bn bn'
        go_wp2_with fail
        refine PA.mono ?_; rintro e w2 ⟨rfl, hw2⟩; subst hw2
        go_wp2_with fail
        refine PP.mono ?_; rintro e w3 ⟨rfl, M3⟩
        have MY : Mod (fun j => w.heap.size ≤ j) w w3 := (M.trans' M3).mono fun _ h => h.elim
        obtain ⟨q0, q1, q2, q3⟩ := (HM.out _ MY).cells hb
        have d0 := M3.heap c0 fun h => h
        have d1 := M3.heap c1 fun h => h
        have d2 := M3.heap c2 fun h => h
        have MZ := M.trans' M3
        obtain ⟨W4, rfl, b4, MW⟩ : ∃ W4, W4 = w3 ∧ W4.heap[w.heap.size + 1 + 1]? = some (.cells (encS (oS (bst7 false A B))).toArray 38 (0, 0)) ∧ Mod (fun _ => False) w W4 := ⟨_, rfl, d2, MZ⟩
        rw [hnb] at q0
        have MV : Mod (fun j => w.heap.size ≤ j) w W4 := MW.mono fun _ h => h.elim
        have PL := leafM (HM.out _ MV) hb (HN.out _ MV)
        rw [show decide (ks = []) = false from by simp; intro e; rw [e] at ht2; simp at ht2] at PL
        obtain ⟨y0, y1, y2, y3⟩ := (HM.out _ MV).cells hb
        obtain ⟨gk, hgk, yk⟩ := (HN.out _ MV).kidC ht2
        rw [hnk, hgk] at y1
        replace fin := fin.out W4 MW d0 d1 b4 h' ht2 L' F' hS' hLi
        have ht3 : (0 : Int) < ks.length := by omega
        replace fin := hid fin
        clear PA PP s0 s1
        go_wp2_with fail
        refine PL.mono ?_; rintro e w5 ⟨rfl, hw5⟩; subst hw5
        clear PL
        go_wp2_with fail
        go_roundg (h' + 1)
        case measure => omega
        case rel => exact fin.out
    ·cases hK : hasK (kx cs ca) l
     ·rw [hK] at PP hpos
      rw [show wayT true (kx cs ca) l = posL (kx cs ca) l from by simp [wayT, hK]] at ht
      subst ht
      clear hpos hK
      try clear hret
      generalize posL (kx cs ca) l = k at *
      replace bn := bn.2
      by_cases hc : k < l.length
      ·have hcI : (k : Int) < (l.length : Int) := by omega
       rcases key with ⟨h0, hk0, hLi⟩ | ⟨h', ht2, L', F', h0, hS', hLi⟩
       ·have HG := hid (fun W' M' => (HN.out W' M').segC (j := k) (by omega))
        obtain ⟨x, hx⟩ : ∃ x, l[k]'(by omega) = x := ⟨_, rfl⟩
        have bn' : bst7 true (A ++ P) (Q ++ B) = some x := by rw [bn]; first | (rw [dif_pos (by omega)]; rw [← hx]; congr 1) | (rw [dif_pos (by omega), ← hx])
        simp only [hx] at HG
        obtain ⟨xs, xa, xh, xg, xv⟩ := x
        replace hx := hid hx
        rw [bn'] at fin hfinal
        clear bn bn'
        go_wp2_with fail
        refine PA.mono ?_; rintro e w2 ⟨rfl, hw2⟩; subst hw2
        go_wp2_with fail
        refine PP.mono ?_; rintro e w3 ⟨rfl, M3⟩
        have MY : Mod (fun j => w.heap.size ≤ j) w w3 := (M.trans' M3).mono fun _ h => h.elim
        obtain ⟨q0, q1, q2, q3⟩ := (HM.out _ MY).cells hb
        have d0 := M3.heap c0 fun h => h
        have d1 := M3.heap c1 fun h => h
        have d2 := M3.heap c2 fun h => h
        have MZ := M.trans' M3
        obtain ⟨gg, hgg, z0, z1, z2, z3, z4⟩ := HG.out _ MY
        rw [hnb, hgg] at q0
        try dsimp only at z0 z1 z2 z3 z4
        obtain ⟨W4, hW4, b4, M4⟩ : ∃ W4, ((((w3.setCell ⟨w.heap.size + 1 + 1, 0, none⟩ (.int .i64 xs)).setCell ⟨w.heap.size + 1 + 1, 1, none⟩ (.int .i64 xa)).setCell ⟨w.heap.size + 1 + 1, 2, none⟩ (.int .i64 xh)).setCell ⟨w.heap.size + 1 + 1, 3, none⟩ (.int .i64 xg)).setCell ⟨w.heap.size + 1 + 1, 4, none⟩ (.int .i64 xv) = W4 ∧ W4.heap[w.heap.size + 1 + 1]? = some (.cells (encS ⟨xs, xa, xh, xg, xv⟩).toArray 38 (0, 0)) ∧ Mod (fun j => j = w.heap.size + 1 + 1) w3 W4 :=
         ⟨_, rfl, (store5 (w := w) d2 (by omega) MZ).1, ((((Mod.setCell (S := fun j => j = w.heap.size + 1 + 1) (p := ⟨w.heap.size + 1 + 1, 0, none⟩) (Mod.refl _ _) (.inl rfl) _).setCell (.inl rfl) _).setCell (.inl rfl) _).setCell (.inl rfl) _).setCell (.inl rfl) _⟩
        obtain ⟨t7, t8⟩ := blkc d2
        have MW := MZ.trans M4 fun j hj => .inr (by have : j = w.heap.size + 1 + 1 := hj; omega)
        replace d0 := M4.heap d0 (by omega)
        replace d1 := M4.heap d1 (by omega)
        dsimp only [encS] at t7
        have MV : Mod (fun j => w.heap.size ≤ j) w W4 := MW.mono fun _ h => h.elim
        have PL := leafM (HM.out _ MV) hb (HN.out _ MV)
        rw [hk0] at PL
        simp only [decide_true] at PL
        clear PA PP s0 s1
        go_wp2_with fail
        refine PL.mono ?_; rintro e w5 ⟨rfl, hw5⟩; subst hw5
        clear PL
        obtain ⟨r1, r2⟩ := blkc b4
        obtain ⟨r3, r4⟩ := blkc d1
        dsimp only [encS] at r1
        have hres := hid (hfinal.out h0 hLi)
        clear q0 q1 q2 q3 b4
        go_wp2_with fail
        obtain ⟨b5, M5⟩ := store5 (a' := .int .i64 xs) (b' := .int .i64 xa) (c' := .int .i64 xh) (d' := .int .i64 xg) (e' := .int .i64 xv) d1 (by omega) MW
        exact ret_row_tmp (fn := Tryz.f116) (w.heap.size + 1) (encS ⟨xs, xa, xh, xg, xv⟩) rfl rfl b5 Tryz.underlying38 rfl (by kernel_rfl) rfl ⟨by rw [hres.out]; rfl, M5⟩
       ·have HG := hid (fun W' M' => (HN.out W' M').segC (j := k) (by omega))
        obtain ⟨x, hx⟩ : ∃ x, l[k]'(by omega) = x := ⟨_, rfl⟩
        have bn' : bst7 true (A ++ P) (Q ++ B) = some x := by rw [bn]; first | (rw [dif_pos (by omega)]; rw [← hx]; congr 1) | (rw [dif_pos (by omega), ← hx])
        simp only [hx] at HG
        obtain ⟨xs, xa, xh, xg, xv⟩ := x
        replace hx := hid hx
        rw [bn'] at fin hfinal
        clear bn bn'
        go_wp2_with fail
        refine PA.mono ?_; rintro e w2 ⟨rfl, hw2⟩; subst hw2
        go_wp2_with fail
        refine PP.mono ?_; rintro e w3 ⟨rfl, M3⟩
        have MY : Mod (fun j => w.heap.size ≤ j) w w3 := (M.trans' M3).mono fun _ h => h.elim
        obtain ⟨q0, q1, q2, q3⟩ := (HM.out _ MY).cells hb
        have d0 := M3.heap c0 fun h => h
        have d1 := M3.heap c1 fun h => h
        have d2 := M3.heap c2 fun h => h
        have MZ := M.trans' M3
        obtain ⟨gg, hgg, z0, z1, z2, z3, z4⟩ := HG.out _ MY
        rw [hnb, hgg] at q0
        try dsimp only at z0 z1 z2 z3 z4
        obtain ⟨W4, hW4, b4, M4⟩ : ∃ W4, ((((w3.setCell ⟨w.heap.size + 1 + 1, 0, none⟩ (.int .i64 xs)).setCell ⟨w.heap.size + 1 + 1, 1, none⟩ (.int .i64 xa)).setCell ⟨w.heap.size + 1 + 1, 2, none⟩ (.int .i64 xh)).setCell ⟨w.heap.size + 1 + 1, 3, none⟩ (.int .i64 xg)).setCell ⟨w.heap.size + 1 + 1, 4, none⟩ (.int .i64 xv) = W4 ∧ W4.heap[w.heap.size + 1 + 1]? = some (.cells (encS ⟨xs, xa, xh, xg, xv⟩).toArray 38 (0, 0)) ∧ Mod (fun j => j = w.heap.size + 1 + 1) w3 W4 :=
         ⟨_, rfl, (store5 (w := w) d2 (by omega) MZ).1, ((((Mod.setCell (S := fun j => j = w.heap.size + 1 + 1) (p := ⟨w.heap.size + 1 + 1, 0, none⟩) (Mod.refl _ _) (.inl rfl) _).setCell (.inl rfl) _).setCell (.inl rfl) _).setCell (.inl rfl) _).setCell (.inl rfl) _⟩
        obtain ⟨t7, t8⟩ := blkc d2
        have MW := MZ.trans M4 fun j hj => .inr (by have : j = w.heap.size + 1 + 1 := hj; omega)
        replace d0 := M4.heap d0 (by omega)
        replace d1 := M4.heap d1 (by omega)
        dsimp only [encS] at t7
        have MV : Mod (fun j => w.heap.size ≤ j) w W4 := MW.mono fun _ h => h.elim
        have PL := leafM (HM.out _ MV) hb (HN.out _ MV)
        rw [show decide (ks = []) = false from by simp; intro e; rw [e] at ht2; simp at ht2] at PL
        obtain ⟨y0, y1, y2, y3⟩ := (HM.out _ MV).cells hb
        obtain ⟨gk, hgk, yk⟩ := (HN.out _ MV).kidC ht2
        rw [hnk, hgk] at y1
        replace fin := fin.out W4 MW d0 d1 b4 h' ht2 L' F' hS' hLi
        have ht3 : ((k : Int) : Int) < ks.length := by omega
        replace fin := hid fin
        clear PA PP s0 s1
        go_wp2_with fail
        refine PL.mono ?_; rintro e w5 ⟨rfl, hw5⟩; subst hw5
        clear PL
        go_wp2_with fail
        go_roundg (h' + 1)
        case measure => omega
        case rel => exact fin.out
      ·have hcI : ¬ (k : Int) < (l.length : Int) := by omega
       have hkI : (k : Int) ≤ 127 := by omega
       rcases key with ⟨h0, hk0, hLi⟩ | ⟨h', ht2, L', F', h0, hS', hLi⟩
       ·have bn' : bst7 true (A ++ P) (Q ++ B) = bst7 true A B := by rw [bn, dif_neg (by omega)]
        rw [bn'] at fin hfinal
        clear bn bn'
        go_wp2_with fail
        refine PA.mono ?_; rintro e w2 ⟨rfl, hw2⟩; subst hw2
        go_wp2_with fail
        refine PP.mono ?_; rintro e w3 ⟨rfl, M3⟩
        have MY : Mod (fun j => w.heap.size ≤ j) w w3 := (M.trans' M3).mono fun _ h => h.elim
        obtain ⟨q0, q1, q2, q3⟩ := (HM.out _ MY).cells hb
        have d0 := M3.heap c0 fun h => h
        have d1 := M3.heap c1 fun h => h
        have d2 := M3.heap c2 fun h => h
        have MZ := M.trans' M3
        obtain ⟨W4, rfl, b4, MW⟩ : ∃ W4, W4 = w3 ∧ W4.heap[w.heap.size + 1 + 1]? = some (.cells (encS (oS (bst7 true A B))).toArray 38 (0, 0)) ∧ Mod (fun _ => False) w W4 := ⟨_, rfl, d2, MZ⟩
        rw [hnb] at q0
        have MV : Mod (fun j => w.heap.size ≤ j) w W4 := MW.mono fun _ h => h.elim
        have PL := leafM (HM.out _ MV) hb (HN.out _ MV)
        rw [hk0] at PL
        simp only [decide_true] at PL
        clear PA PP s0 s1
        go_wp2_with fail
        refine PL.mono ?_; rintro e w5 ⟨rfl, hw5⟩; subst hw5
        clear PL
        obtain ⟨r1, r2⟩ := blkc b4
        obtain ⟨r3, r4⟩ := blkc d1
        dsimp only [encS] at r1
        have hres := hid (hfinal.out h0 hLi)
        clear q0 q1 q2 q3 b4
        generalize bst7 true A B = o at *
        go_wp2_with fail
        obtain ⟨b5, M5⟩ := store5 (a' := .int .i64 (oS o).ls) (b' := .int .i64 (oS o).la) (c' := .int .i64 (oS o).hs) (d' := .int .i64 (oS o).ha) (e' := .int .i64 (oS o).v) d1 (by omega) MW
        exact ret_row_tmp (fn := Tryz.f116) (w.heap.size + 1) (encS (oS o)) rfl rfl b5 Tryz.underlying38 rfl (by kernel_rfl) rfl ⟨by rw [hres.out]; rfl, M5⟩
       ·have bn' : bst7 true (A ++ P) (Q ++ B) = bst7 true A B := by rw [bn, dif_neg (by omega)]
        rw [bn'] at fin hfinal
        clear bn bn'
        go_wp2_with fail
        refine PA.mono ?_; rintro e w2 ⟨rfl, hw2⟩; subst hw2
        go_wp2_with fail
        refine PP.mono ?_; rintro e w3 ⟨rfl, M3⟩
        have MY : Mod (fun j => w.heap.size ≤ j) w w3 := (M.trans' M3).mono fun _ h => h.elim
        obtain ⟨q0, q1, q2, q3⟩ := (HM.out _ MY).cells hb
        have d0 := M3.heap c0 fun h => h
        have d1 := M3.heap c1 fun h => h
        have d2 := M3.heap c2 fun h => h
        have MZ := M.trans' M3
        obtain ⟨W4, rfl, b4, MW⟩ : ∃ W4, W4 = w3 ∧ W4.heap[w.heap.size + 1 + 1]? = some (.cells (encS (oS (bst7 true A B))).toArray 38 (0, 0)) ∧ Mod (fun _ => False) w W4 := ⟨_, rfl, d2, MZ⟩
        rw [hnb] at q0
        have MV : Mod (fun j => w.heap.size ≤ j) w W4 := MW.mono fun _ h => h.elim
        have PL := leafM (HM.out _ MV) hb (HN.out _ MV)
        rw [show decide (ks = []) = false from by simp; intro e; rw [e] at ht2; simp at ht2] at PL
        obtain ⟨y0, y1, y2, y3⟩ := (HM.out _ MV).cells hb
        obtain ⟨gk, hgk, yk⟩ := (HN.out _ MV).kidC ht2
        rw [hnk, hgk] at y1
        replace fin := fin.out W4 MW d0 d1 b4 h' ht2 L' F' hS' hLi
        have ht3 : ((k : Int) : Int) < ks.length := by omega
        replace fin := hid fin
        clear PA PP s0 s1
        go_wp2_with fail
        refine PL.mono ?_; rintro e w5 ⟨rfl, hw5⟩; subst hw5
        clear PL
        go_wp2_with fail
        go_roundg (h' + 1)
        case measure => omega
        case rel => exact fin.out
     ·rw [hK] at PP hpos
      obtain ⟨hp, _⟩ := hpos.1 rfl
      have how : own = false := by cases own; rfl; exact absurd ⟨hK, rfl⟩ hret
      subst how
      rw [show wayT true (kx cs ca) l = posL (kx cs ca) l + 1 from by simp [wayT, hK]] at ht
      subst ht
      clear hpos hK
      try clear hret
      generalize posL (kx cs ca) l = k at *
      replace bn := bn.2
      by_cases hc : k + 1 < l.length
      ·have hcI : (k : Int) + 1 < (l.length : Int) := by omega
       rcases key with ⟨h0, hk0, hLi⟩ | ⟨h', ht2, L', F', h0, hS', hLi⟩
       ·have HG := hid (fun W' M' => (HN.out W' M').segC (j := k + 1) (by omega))
        obtain ⟨x, hx⟩ : ∃ x, l[k + 1]'(by omega) = x := ⟨_, rfl⟩
        have bn' : bst7 true (A ++ P) (Q ++ B) = some x := by rw [bn]; first | (rw [dif_pos (by omega)]; rw [← hx]; congr 1) | (rw [dif_pos (by omega), ← hx])
        simp only [hx] at HG
        obtain ⟨xs, xa, xh, xg, xv⟩ := x
        replace hx := hid hx
        rw [bn'] at fin hfinal
        clear bn bn'
        go_wp2_with fail
        refine PA.mono ?_; rintro e w2 ⟨rfl, hw2⟩; subst hw2
        go_wp2_with fail
        refine PP.mono ?_; rintro e w3 ⟨rfl, M3⟩
        have MY : Mod (fun j => w.heap.size ≤ j) w w3 := (M.trans' M3).mono fun _ h => h.elim
        obtain ⟨q0, q1, q2, q3⟩ := (HM.out _ MY).cells hb
        have d0 := M3.heap c0 fun h => h
        have d1 := M3.heap c1 fun h => h
        have d2 := M3.heap c2 fun h => h
        have MZ := M.trans' M3
        obtain ⟨gg, hgg, z0, z1, z2, z3, z4⟩ := HG.out _ MY
        rw [hnb, hgg] at q0
        try dsimp only at z0 z1 z2 z3 z4
        obtain ⟨W4, hW4, b4, M4⟩ : ∃ W4, ((((w3.setCell ⟨w.heap.size + 1 + 1, 0, none⟩ (.int .i64 xs)).setCell ⟨w.heap.size + 1 + 1, 1, none⟩ (.int .i64 xa)).setCell ⟨w.heap.size + 1 + 1, 2, none⟩ (.int .i64 xh)).setCell ⟨w.heap.size + 1 + 1, 3, none⟩ (.int .i64 xg)).setCell ⟨w.heap.size + 1 + 1, 4, none⟩ (.int .i64 xv) = W4 ∧ W4.heap[w.heap.size + 1 + 1]? = some (.cells (encS ⟨xs, xa, xh, xg, xv⟩).toArray 38 (0, 0)) ∧ Mod (fun j => j = w.heap.size + 1 + 1) w3 W4 :=
         ⟨_, rfl, (store5 (w := w) d2 (by omega) MZ).1, ((((Mod.setCell (S := fun j => j = w.heap.size + 1 + 1) (p := ⟨w.heap.size + 1 + 1, 0, none⟩) (Mod.refl _ _) (.inl rfl) _).setCell (.inl rfl) _).setCell (.inl rfl) _).setCell (.inl rfl) _).setCell (.inl rfl) _⟩
        obtain ⟨t7, t8⟩ := blkc d2
        have MW := MZ.trans M4 fun j hj => .inr (by have : j = w.heap.size + 1 + 1 := hj; omega)
        replace d0 := M4.heap d0 (by omega)
        replace d1 := M4.heap d1 (by omega)
        dsimp only [encS] at t7
        have MV : Mod (fun j => w.heap.size ≤ j) w W4 := MW.mono fun _ h => h.elim
        have PL := leafM (HM.out _ MV) hb (HN.out _ MV)
        rw [hk0] at PL
        simp only [decide_true] at PL
        clear PA PP s0 s1
        go_wp2_with fail
        refine PL.mono ?_; rintro e w5 ⟨rfl, hw5⟩; subst hw5
        clear PL
        obtain ⟨r1, r2⟩ := blkc b4
        obtain ⟨r3, r4⟩ := blkc d1
        dsimp only [encS] at r1
        have hres := hid (hfinal.out h0 hLi)
        clear q0 q1 q2 q3 b4
        go_wp2_with fail
        obtain ⟨b5, M5⟩ := store5 (a' := .int .i64 xs) (b' := .int .i64 xa) (c' := .int .i64 xh) (d' := .int .i64 xg) (e' := .int .i64 xv) d1 (by omega) MW
        exact ret_row_tmp (fn := Tryz.f116) (w.heap.size + 1) (encS ⟨xs, xa, xh, xg, xv⟩) rfl rfl b5 Tryz.underlying38 rfl (by kernel_rfl) rfl ⟨by rw [hres.out]; rfl, M5⟩
       ·have HG := hid (fun W' M' => (HN.out W' M').segC (j := k + 1) (by omega))
        obtain ⟨x, hx⟩ : ∃ x, l[k + 1]'(by omega) = x := ⟨_, rfl⟩
        have bn' : bst7 true (A ++ P) (Q ++ B) = some x := by rw [bn]; first | (rw [dif_pos (by omega)]; rw [← hx]; congr 1) | (rw [dif_pos (by omega), ← hx])
        simp only [hx] at HG
        obtain ⟨xs, xa, xh, xg, xv⟩ := x
        replace hx := hid hx
        rw [bn'] at fin hfinal
        clear bn bn'
        go_wp2_with fail
        refine PA.mono ?_; rintro e w2 ⟨rfl, hw2⟩; subst hw2
        go_wp2_with fail
        refine PP.mono ?_; rintro e w3 ⟨rfl, M3⟩
        have MY : Mod (fun j => w.heap.size ≤ j) w w3 := (M.trans' M3).mono fun _ h => h.elim
        obtain ⟨q0, q1, q2, q3⟩ := (HM.out _ MY).cells hb
        have d0 := M3.heap c0 fun h => h
        have d1 := M3.heap c1 fun h => h
        have d2 := M3.heap c2 fun h => h
        have MZ := M.trans' M3
        obtain ⟨gg, hgg, z0, z1, z2, z3, z4⟩ := HG.out _ MY
        rw [hnb, hgg] at q0
        try dsimp only at z0 z1 z2 z3 z4
        obtain ⟨W4, hW4, b4, M4⟩ : ∃ W4, ((((w3.setCell ⟨w.heap.size + 1 + 1, 0, none⟩ (.int .i64 xs)).setCell ⟨w.heap.size + 1 + 1, 1, none⟩ (.int .i64 xa)).setCell ⟨w.heap.size + 1 + 1, 2, none⟩ (.int .i64 xh)).setCell ⟨w.heap.size + 1 + 1, 3, none⟩ (.int .i64 xg)).setCell ⟨w.heap.size + 1 + 1, 4, none⟩ (.int .i64 xv) = W4 ∧ W4.heap[w.heap.size + 1 + 1]? = some (.cells (encS ⟨xs, xa, xh, xg, xv⟩).toArray 38 (0, 0)) ∧ Mod (fun j => j = w.heap.size + 1 + 1) w3 W4 :=
         ⟨_, rfl, (store5 (w := w) d2 (by omega) MZ).1, ((((Mod.setCell (S := fun j => j = w.heap.size + 1 + 1) (p := ⟨w.heap.size + 1 + 1, 0, none⟩) (Mod.refl _ _) (.inl rfl) _).setCell (.inl rfl) _).setCell (.inl rfl) _).setCell (.inl rfl) _).setCell (.inl rfl) _⟩
        obtain ⟨t7, t8⟩ := blkc d2
        have MW := MZ.trans M4 fun j hj => .inr (by have : j = w.heap.size + 1 + 1 := hj; omega)
        replace d0 := M4.heap d0 (by omega)
        replace d1 := M4.heap d1 (by omega)
        dsimp only [encS] at t7
        have MV : Mod (fun j => w.heap.size ≤ j) w W4 := MW.mono fun _ h => h.elim
        have PL := leafM (HM.out _ MV) hb (HN.out _ MV)
        rw [show decide (ks = []) = false from by simp; intro e; rw [e] at ht2; simp at ht2] at PL
        obtain ⟨y0, y1, y2, y3⟩ := (HM.out _ MV).cells hb
        obtain ⟨gk, hgk, yk⟩ := (HN.out _ MV).kidC ht2
        rw [hnk, hgk] at y1
        replace fin := fin.out W4 MW d0 d1 b4 h' ht2 L' F' hS' hLi
        have ht3 : ((k : Int) + 1 : Int) < ks.length := by omega
        replace fin := hid fin
        clear PA PP s0 s1
        go_wp2_with fail
        refine PL.mono ?_; rintro e w5 ⟨rfl, hw5⟩; subst hw5
        clear PL
        go_wp2_with fail
        go_roundg (h' + 1)
        case measure => omega
        case rel => exact fin.out
      ·have hcI : ¬ (k : Int) + 1 < (l.length : Int) := by omega
       have hkI : (k : Int) ≤ 127 := by omega
       rcases key with ⟨h0, hk0, hLi⟩ | ⟨h', ht2, L', F', h0, hS', hLi⟩
       ·have bn' : bst7 true (A ++ P) (Q ++ B) = bst7 true A B := by rw [bn, dif_neg (by omega)]
        rw [bn'] at fin hfinal
        clear bn bn'
        go_wp2_with fail
        refine PA.mono ?_; rintro e w2 ⟨rfl, hw2⟩; subst hw2
        go_wp2_with fail
        refine PP.mono ?_; rintro e w3 ⟨rfl, M3⟩
        have MY : Mod (fun j => w.heap.size ≤ j) w w3 := (M.trans' M3).mono fun _ h => h.elim
        obtain ⟨q0, q1, q2, q3⟩ := (HM.out _ MY).cells hb
        have d0 := M3.heap c0 fun h => h
        have d1 := M3.heap c1 fun h => h
        have d2 := M3.heap c2 fun h => h
        have MZ := M.trans' M3
        obtain ⟨W4, rfl, b4, MW⟩ : ∃ W4, W4 = w3 ∧ W4.heap[w.heap.size + 1 + 1]? = some (.cells (encS (oS (bst7 true A B))).toArray 38 (0, 0)) ∧ Mod (fun _ => False) w W4 := ⟨_, rfl, d2, MZ⟩
        rw [hnb] at q0
        have MV : Mod (fun j => w.heap.size ≤ j) w W4 := MW.mono fun _ h => h.elim
        have PL := leafM (HM.out _ MV) hb (HN.out _ MV)
        rw [hk0] at PL
        simp only [decide_true] at PL
        clear PA PP s0 s1
        go_wp2_with fail
        refine PL.mono ?_; rintro e w5 ⟨rfl, hw5⟩; subst hw5
        clear PL
        obtain ⟨r1, r2⟩ := blkc b4
        obtain ⟨r3, r4⟩ := blkc d1
        dsimp only [encS] at r1
        have hres := hid (hfinal.out h0 hLi)
        clear q0 q1 q2 q3 b4
        generalize bst7 true A B = o at *
        go_wp2_with fail
        obtain ⟨b5, M5⟩ := store5 (a' := .int .i64 (oS o).ls) (b' := .int .i64 (oS o).la) (c' := .int .i64 (oS o).hs) (d' := .int .i64 (oS o).ha) (e' := .int .i64 (oS o).v) d1 (by omega) MW
        exact ret_row_tmp (fn := Tryz.f116) (w.heap.size + 1) (encS (oS o)) rfl rfl b5 Tryz.underlying38 rfl (by kernel_rfl) rfl ⟨by rw [hres.out]; rfl, M5⟩
       ·have bn' : bst7 true (A ++ P) (Q ++ B) = bst7 true A B := by rw [bn, dif_neg (by omega)]
        rw [bn'] at fin hfinal
        clear bn bn'
        go_wp2_with fail
        refine PA.mono ?_; rintro e w2 ⟨rfl, hw2⟩; subst hw2
        go_wp2_with fail
        refine PP.mono ?_; rintro e w3 ⟨rfl, M3⟩
        have MY : Mod (fun j => w.heap.size ≤ j) w w3 := (M.trans' M3).mono fun _ h => h.elim
        obtain ⟨q0, q1, q2, q3⟩ := (HM.out _ MY).cells hb
        have d0 := M3.heap c0 fun h => h
        have d1 := M3.heap c1 fun h => h
        have d2 := M3.heap c2 fun h => h
        have MZ := M.trans' M3
        obtain ⟨W4, rfl, b4, MW⟩ : ∃ W4, W4 = w3 ∧ W4.heap[w.heap.size + 1 + 1]? = some (.cells (encS (oS (bst7 true A B))).toArray 38 (0, 0)) ∧ Mod (fun _ => False) w W4 := ⟨_, rfl, d2, MZ⟩
        rw [hnb] at q0
        have MV : Mod (fun j => w.heap.size ≤ j) w W4 := MW.mono fun _ h => h.elim
        have PL := leafM (HM.out _ MV) hb (HN.out _ MV)
        rw [show decide (ks = []) = false from by simp; intro e; rw [e] at ht2; simp at ht2] at PL
        obtain ⟨y0, y1, y2, y3⟩ := (HM.out _ MV).cells hb
        obtain ⟨gk, hgk, yk⟩ := (HN.out _ MV).kidC ht2
        rw [hnk, hgk] at y1
        replace fin := fin.out W4 MW d0 d1 b4 h' ht2 L' F' hS' hLi
        have ht3 : ((k : Int) + 1 : Int) < ks.length := by omega
        replace fin := hid fin
        clear PA PP s0 s1
        go_wp2_with fail
        refine PL.mono ?_; rintro e w5 ⟨rfl, hw5⟩; subst hw5
        clear PL
        go_wp2_with fail
        go_roundg (h' + 1)
        case measure => omega
        case rel => exact fin.out
end
end Go.Proofs.Bo
