import Derived.Test.YtgehgjaglgafdaaGreatG03
import Derived.Deep.RegionLaw
set_option linter.unusedVariables false
set_option linter.unusedSimpArgs false
namespace Go.Proofs.Bo
open Go Go.RowKit
theorem step_appS {P : Program} {w : World} {ops : Array Oper} {o : Oper} {a : Act} {K : Act → World → Prop} {Q : Exit → Act → World → Prop} {E : Prop} (news : List Value) (v : Value) (n : Nat) (xs : List Value) (ad : Addr) (m c : Nat) (s x : Operand) (t e : TypeId) (z : Value) (size bytes : Nat) (hgd : o.guard = none)
  (ho : o.op = .call { callee := .builtin .append, args := #[s, x], argTypes := #[t, t] })
  (ht : P.underlying t = some (.slice e)) (hinfo : (P.info? e).map (fun i => (i.zero, i.size, i.bytes)) = some (some z, size, bytes)) (hz : z.cells.size = size) (hz0 : 0 < size) (hb0 : 0 < bytes)
  (hs : a.eval s = v) (hx : a.eval x = .slice (some ad) m c) (HO : w.ownsRow 0 e size v n xs) (hnews : ∀ j u, news[j]? = some u → w.cell? (ad.add j) = some u)
  (hnl : news.length = m * size) (h1 : ∀ u ∈ news, u.oneCell' = true) (hl : (n + m) * bytes ≤ 140737488355328)
  (h : ∀ v1 w1, w1.ownsRow 0 e size v1 (n + m) (xs ++ news) → w.grownBy w1 v.ownBlock → (∀ k, v1.ownBlock = some k → v.ownBlock = some k ∨ w.heap.size ≤ k) → K (a.put o.dst v1) w1) :
  if Region.wanted o (yielded ops a.tmps) = true then Oper.wp P o a w K Q else E := by
 have hw : Region.wanted o (yielded ops a.tmps) = true := by simp [Region.wanted, hgd]
 rw [if_pos hw]
 obtain ⟨i0, hi, hzz⟩ := Option.map_eq_some_iff.1 hinfo
 simp only [Prod.mk.injEq] at hzz
 obtain ⟨hz0', hz1, hz2⟩ := hzz
 have hlen : n + m ≤ 140737488355328 := Nat.le_trans (Nat.le_mul_of_pos_right _ hb0) hl
 obtain ⟨v', w', hr, h2, h3, _, h5⟩ := run_append_own_at (P := P) w 0 t o.type e i0 z size bytes ht hi hz0' hz1 hz2 hz hz0 v n xs HO ad m c news hnl hnews h1 (by simp only [maxLen]; omega) hl (by simp)
 unfold Oper.wp execOp
 simp only [ho, resolve, invoke, builtin, Sem.run_bind, Sem.run_pure, Result.andThen_ok, List.map_toArray, List.map_cons, List.map_nil, hs, hx, hr]
 refine h _ _ h2 h3 fun k hk => ?_
 rcases h5 with h5 | h5
 ·exact .inl (h5 ▸ hk)
 ·rw [h5] at hk; cases hk; exact .inr (Nat.le_refl _)
theorem infoSg : (Tryz.prog.info? 38).map (fun i => (i.zero, i.size, i.bytes)) = some (some (.agg #[.int .i64 0, .int .i64 0, .int .i64 0, .int .i64 0, .int .i64 0]), 5, 40) := by kernel_rfl
theorem one_seg (l : List Sg) : ∀ u ∈ l.flatMap encS, u.oneCell' = true := by
 intro u hu
 obtain ⟨s, _, h⟩ := List.mem_flatMap.1 hu
 simp only [encS, List.mem_cons, List.not_mem_nil, or_false] at h
 rcases h with rfl | rfl | rfl | rfl | rfl <;> rfl
theorem len_seg (l : List Sg) : (l.flatMap encS).length = l.length * 5 := by
 induction l with
 | nil => rfl
 | cons x l ih => simp [List.flatMap_cons, ih, encS]; omega
theorem RowV.part {w : World} {g n c : Nat} {pre mid post : List Sg} (h : RowV w (.slice (some ⟨g, 0, none⟩) n c) (pre ++ (mid ++ post))) :
  ∀ j u, (mid.flatMap encS)[j]? = some u → w.cell? ((⟨g, pre.length * 5, none⟩ : Addr).add j) = some u := by
 intro j u hu
 have hj : j < (mid.flatMap encS).length := (List.getElem?_eq_some_iff.1 hu).1
 have h2 : ((pre ++ (mid ++ post)).flatMap encS)[pre.length * 5 + j]? = some u := by
  rw [List.flatMap_append, List.flatMap_append, List.getElem?_append_right (by rw [len_seg]; omega), len_seg, Nat.add_sub_cancel_left, List.getElem?_append_left hj]
  exact hu
 have := World.ownsRow.cells h rfl _ u h2
 have e : ∀ (o n : Nat), (⟨g, o, none⟩ : Addr).add n = ⟨g, o + n, none⟩ := by intro o n; unfold Addr.add; split <;> simp_all
 rw [e] at this ⊢
 simpa using this
theorem del_none {k : Int} {l : List Sg} (h : hasK k l = false) : delL k l = l := by
 unfold delL hasK at *
 rw [List.filter_eq_self]
 intro x hx
 simp only [List.any_eq_false] at h
 simpa using h x hx
theorem del_split {k : Int} {pre rest : List Sg} {x : Sg} (hr : Row (pre ++ x :: rest)) (hx : ky x = k) : delL k (pre ++ x :: rest) = pre ++ rest ∧ ∀ y ∈ pre, ky y ≠ k := by
 obtain ⟨h1, h2, h3⟩ := List.pairwise_append.1 hr.1
 have hp : ∀ y ∈ pre, ky y < k := fun y hy => hx ▸ h3 y hy x (by simp)
 have hq : ∀ y ∈ rest, k < ky y := fun y hy => hx ▸ (List.pairwise_cons.1 h2).1 y hy
 refine ⟨?_, fun y hy => by have := hp y hy; omega⟩
 unfold delL
 rw [List.filter_append, List.filter_cons_of_neg (by simpa using hx), List.filter_eq_self.2 (fun y hy => by have := hp y hy; simp; omega), List.filter_eq_self.2 (fun y hy => by have := hq y hy; simp; omega)]
theorem hasK_split {k : Int} {l : List Sg} (h : hasK k l = true) : ∃ pre x rest, l = pre ++ x :: rest ∧ ky x = k := by
 unfold hasK at h
 obtain ⟨x, hx, e⟩ := List.any_eq_true.1 h
 obtain ⟨pre, rest, rfl⟩ := List.append_of_mem hx
 exact ⟨pre, x, rest, rfl, by simpa using e⟩
theorem hasK_none {k : Int} {l : List Sg} (h : hasK k l = false) : ∀ y ∈ l, ky y ≠ k := by
 unfold hasK at h
 intro y hy e
 rw [List.any_eq_false] at h
 exact h y hy (by simpa using e)
def Hence (w : World) (v v' : Value) : Prop := ∀ k, v'.ownBlock = some k → v.ownBlock = some k ∨ w.heap.size ≤ k
theorem Hence.refl (w : World) (v : Value) : Hence w v v := fun _ h => .inl h
theorem Hence.mono {w w' : World} {v v' : Value} (h : Hence w' v v') (hs : w.heap.size ≤ w'.heap.size) : Hence w v v' := fun k hk => (h k hk).imp id (Nat.le_trans hs)
def DelRP (w : World) (v : Value) (l : List Sg) (k : Int) (e : Ending) (w' : World) : Prop := ∃ v', e = .returned (.tuple #[v', .bool (hasK k l)]) ∧ RowV w' v' (delL k l) ∧ Mod (fun _ => False) w w' ∧ Hence w v v'
set_option maxHeartbeats 1000000 in
theorem delR {w : World} {v : Value} {l : List Sg} (h : RowV w v l) (hr : Row l) (hlen : l.length ≤ 65536) (cs ca : Int) (hf : fit64 ca) :
  Calls Tryz.prog 71 #[v, .agg #[.int .i64 cs, .int .i64 ca]] w fun e w' => DelRP w v l (kx cs ca) e w' := by
 obtain ⟨w0, hw0, b0, M0⟩ := boxC w cs ca
 obtain ⟨d0, e0⟩ := blkc b0
 replace h := h.keep M0
 have PF := findR h hr hlen cs ca hf
 unfold DelRP
 by_cases hk : hasK (kx cs ca) l = true
 ·rw [hk]
  obtain ⟨pre, x, rest, rfl, hx⟩ := hasK_split hk
  obtain ⟨hd, hp⟩ := del_split hr hx
  rw [findI_pre pre rest hp hx] at PF
  rw [hd]
  obtain ⟨A, c, rfl, hA⟩ := h.slice
  obtain ⟨g, rfl⟩ := hA (by simp; omega)
  obtain ⟨n, hn⟩ : ∃ n, (pre ++ x :: rest).length = n := ⟨_, rfl⟩
  have hn2 : pre.length + (rest.length + 1) = n := by rw [← hn]; simp
  rw [hn] at h PF hlen ⊢
  obtain ⟨k, hkk⟩ : ∃ k, pre.length = k := ⟨_, rfl⟩
  rw [hkk] at PF hn2
  have hc : n ≤ c := by
   rcases h.2 with ⟨e, _⟩ | ⟨_, _, _, e, _, _, h3, _⟩
   ·cases e
   ·cases e; exact h3
  have hk1 : (0 : Int) ≤ k ∧ (k : Int) + 1 ≤ n ∧ (n : Int) ≤ 65536 := by omega
  have hnc : (n : Int) ≤ c := by omega
  clear hk hd hp
  replace hn := hid hn
  replace hkk := hid hkk
  replace hn2 := hid hn2
  go_enter Tryz.func71, Tryz.ntmps71
  go_wp2_with fail
  refine PF.mono ?_; rintro e w1 ⟨rfl, M1⟩
  clear PF d0 e0
  replace h := h.keep M1
  obtain ⟨w2, hw2, own2, M2⟩ : ∃ w2, w1.alloc (.cells #[] 38) = w2 ∧ w2.ownsRow 0 38 5 (.slice (some ⟨w1.heap.size, 0, none⟩) 0 0) 0 [] ∧ Mod (fun _ => False) w1 w2 :=
   ⟨_, rfl, ⟨by simp, .inr ⟨w1.heap.size, 0, #[], rfl, Nat.zero_le _, heap_alloc_new w1 _, Nat.le_refl _, by simp [maxLen], by simp, by simp⟩⟩, (Mod.refl _ _).alloc _⟩
  have h2 : RowV w2 (.slice (some ⟨g, 0, none⟩) n c) ([] ++ (pre ++ (x :: rest))) := h.keep M2
  have hg2 := M2.size
  have hgl : g < w1.heap.size := by
   rcases h.2 with ⟨e, _⟩ | ⟨_, _, _, e, _, e2, _⟩
   ·cases e
   ·cases e; exact (Array.getElem?_eq_some_iff.1 e2).1
  have MD : Mod (fun _ => False) w2 w2.drew := (Mod.refl _ _).drew
  have own2d := own_mod own2 MD fun _ _ h => h
  replace h2 := h2.keep MD
  have P1 := h2.part
  have hl1 : (pre.flatMap encS).length = k * 5 := by rw [len_seg, hkk.out]
  have hl2 : (rest.flatMap encS).length = rest.length * 5 := len_seg rest
  obtain ⟨m, hm⟩ : ∃ m, rest.length = m := ⟨_, rfl⟩
  rw [hm] at hl2
  have hm2 : n - (k + 1) = m := by have := hn2.out; omega
  have e1 : IntKind.i64.wrap ((k : Int) + 1) = (k : Int) + 1 := by rw [IntKind.wrap_i64]; omega
  have hkc : k ≤ c := by omega
  have hp0 : (0 : Int) ≤ (k : Int) + 1 := by omega
  have hkn : k + 1 ≤ n := by omega
  have hbk : (k + m) * 40 ≤ 140737488355328 := by omega
  replace hm := hid hm
  have G : ∀ {v3 : Value} {w3 : World}, w2.drew.grownBy w3 (some w1.heap.size) → Mod (fun _ => False) w1 w3 ∧ RowV w3 (.slice (some ⟨g, 0, none⟩) n c) ((pre ++ [x]) ++ (rest ++ [])) := by
   intro v3 w3 gr
   have M3 : Mod (fun j => j = w1.heap.size) w2.drew w3 := (Mod.of_grown gr).mono (by intro i h; cases h; exact .inl rfl)
   refine ⟨(M2.trans' MD).trans M3 (fun i h => .inr (by omega)), ?_⟩
   have := own_mod h2 M3 (fun j hj e => by cases hj; have e : g = w1.heap.size := e; omega)
   simpa [RowV] using this
  have D : ∀ {v4 : Value} {w3 w4 : World}, w4.ownsRow 0 38 5 v4 (k + m) (pre.flatMap encS ++ rest.flatMap encS) → RowV w4 v4 (pre ++ rest) := by
   intro v4 w3 w4 h
   unfold RowV
   rw [List.flatMap_append, List.length_append, hkk.out, hm.out]; exact h
  replace G := @G
  by_cases hkc2 : c = k + 1
  ·subst hkc2
   obtain rfl : m = 0 := by omega
   have hp1 : (k : Int) ≤ (k : Int) + 1 := by omega
   go_wp2_with fail
   go_region_law (first
    | (refine step_appS (pre.flatMap encS) (.slice (some ⟨w1.heap.size, 0, none⟩) 0 0) 0 [] ⟨g, 0, none⟩ k (k + 1) (.tmp 13) (.tmp 16) 28 38 _ 5 40 rfl rfl Tryz.underlying28 infoSg rfl (by omega) (by omega) (by simp [Act.eval, Act.put]) (by simp [Act.eval, Act.put]) own2d (by simpa using P1) hl1 (one_seg _) (by omega) ?_
       intro v3 w3 own3 gr3 bl3
       simp only [Nat.zero_add, List.nil_append] at own3
       obtain ⟨M3, h3⟩ := G (v3 := v3) gr3
       have P2 := h3.part)
    | (refine step_appS (rest.flatMap encS) v3 k (pre.flatMap encS) ⟨g, 0, none⟩ 0 0 (.tmp 17) (.tmp 21) 28 38 _ 5 40 rfl rfl Tryz.underlying28 infoSg rfl (by omega) (by omega) (by simp [Act.eval, Act.put]) (by simp [Act.eval, Act.put]) own3 (fun j u hu => by have := (List.getElem?_eq_some_iff.1 hu).1; rw [hl2] at this; omega) hl2 (one_seg _) hbk ?_
       intro v4 w4 own4 gr4 bl4))
   all_goals go_wp2_with fail
   all_goals go_ret2
   all_goals exact ⟨v4, rfl, D (w3 := w3) own4, (((M0.trans' M1).trans' M3).trans (Mod.of_grown gr4) fun i hi => .inr (by
    have hgw : w.heap.size ≤ w1.heap.size := Nat.le_trans M0.size M1.size
    rcases bl3 i hi with e | e
    ·cases e; exact hgw
    ·have : w2.heap.size ≤ i := e
     omega)), fun i hi => .inr (by
    have hgw : w.heap.size ≤ w1.heap.size := Nat.le_trans M0.size M1.size
    have hz3 := M3.size
    rcases bl4 i hi with e | e
    ·rcases bl3 i e with e | e
     ·cases e; exact hgw
     ·have : w2.heap.size ≤ i := e
      omega
    ·omega)⟩
  ·have hkc3 : ¬ c - (k + 1) = 0 := by omega
   go_wp2_with fail
   go_region_law (first
    | (refine step_appS (pre.flatMap encS) (.slice (some ⟨w1.heap.size, 0, none⟩) 0 0) 0 [] ⟨g, 0, none⟩ k c (.tmp 13) (.tmp 16) 28 38 _ 5 40 rfl rfl Tryz.underlying28 infoSg rfl (by omega) (by omega) (by simp [Act.eval, Act.put]) (by simp [Act.eval, Act.put]) own2d (by simpa using P1) hl1 (one_seg _) (by omega) ?_
       intro v3 w3 own3 gr3 bl3
       simp only [Nat.zero_add, List.nil_append] at own3
       obtain ⟨M3, h3⟩ := G (v3 := v3) gr3
       have P2 := h3.part)
    | (refine step_appS (rest.flatMap encS) v3 k (pre.flatMap encS) ⟨g, (k + 1) * 5, none⟩ m (c - (k + 1)) (.tmp 17) (.tmp 21) 28 38 _ 5 40 rfl rfl Tryz.underlying28 infoSg rfl (by omega) (by omega) (by simp [Act.eval, Act.put]) (by simp [Act.eval, Act.put]) own3 (by simpa [hkk.out] using P2) hl2 (one_seg _) hbk ?_
       intro v4 w4 own4 gr4 bl4))
   all_goals go_wp2_with fail
   all_goals go_ret2
   all_goals exact ⟨v4, rfl, D (w3 := w3) own4, (((M0.trans' M1).trans' M3).trans (Mod.of_grown gr4) fun i hi => .inr (by
    have hgw : w.heap.size ≤ w1.heap.size := Nat.le_trans M0.size M1.size
    rcases bl3 i hi with e | e
    ·cases e; exact hgw
    ·have : w2.heap.size ≤ i := e
     omega)), fun i hi => .inr (by
    have hgw : w.heap.size ≤ w1.heap.size := Nat.le_trans M0.size M1.size
    have hz3 := M3.size
    rcases bl4 i hi with e | e
    ·rcases bl3 i e with e | e
     ·cases e; exact hgw
     ·have : w2.heap.size ≤ i := e
      omega
    ·omega)⟩
 ·replace hk : hasK (kx cs ca) l = false := by simpa using hk
  rw [hk, del_none hk]
  rw [findI_none l (hasK_none hk)] at PF
  go_enter Tryz.func71, Tryz.ntmps71
  go_wp2_with fail
  refine PF.mono ?_; rintro e w1 ⟨rfl, M1⟩
  go_wp2_with fail
  go_ret2
  exact ⟨_, rfl, h.keep M1, M0.trans' M1, Hence.refl _ _⟩
open Go Go.RowKit
theorem fld0 (x y : Int) (w : World) : (Instr.field 34 (.agg #[.int .i64 x, .int .i64 y]) 0).run Tryz.prog w = .ok (.int .i64 x) w := by
 simp [Instr.field, run_underlying Tryz.underlying34, part, asAgg, go_sem]
def PutRP (w : World) (v : Value) (l : List Sg) (room : Int) (s : Sg) (e : Ending) (w' : World) : Prop := ∃ v', e = .returned (.tuple #[v', .int .i64 (putE room s l)]) ∧ RowV w' v' (putL room s l) ∧ Mod (fun _ => False) w w' ∧ Hence w v v'
set_option maxHeartbeats 1000000 in
set_option maxRecDepth 100000 in
theorem putR_arg {w : World} {v : Value} {l : List Sg} (h : RowV w v l) (room : Int) (s : Sg) (hs : ¬ okKey s.ls s.la) :
  Calls Tryz.prog 70 #[v, .int .i64 room, .agg (encS s).toArray] w fun e w' => PutRP w v l room s e w' := by
 unfold PutRP putE putL
 rw [show okB s = false from decide_eq_false hs]
 simp only [Bool.false_eq_true, if_false]
 obtain ⟨w0, hw0, b0, M0⟩ := boxS w s
 have fl0 := hid fld0
 replace h := h.keep M0
 have HB := hid (fun (w' : World) (M : CM w0 w') => blkc (Mod.heap M b0 fun h => h))
 have HK := hid (fun (w' : World) (M : CM w0 w') => (keyR s w').mono fun e w'' ⟨h1, h2⟩ => (⟨h1, Mod.trans' M h2⟩ : e = Ending.returned (.agg #[.int .i64 s.ls, .int .i64 s.la]) ∧ CM w0 w''))
 have HC := hid (fun (w' : World) (M : CM w0 w') => (canonR s.ls s.la w').mono fun e w'' ⟨h1, h2⟩ => (⟨h1, Mod.trans' M h2⟩ : e = Ending.returned (.agg #[.int .i64 (canS s.ls s.la), .int .i64 (canA s.ls s.la)]) ∧ CM w0 w''))
 unfold okKey at hs
 obtain ⟨ls, la, hs', ha, sv⟩ := s
 dsimp only at hs
 unfold encS
 dsimp only
 generalize canS ls la = p, canA ls la = q at HC hs
 by_cases e1 : p = ls
 ·subst e1
  by_cases e2 : q = la
  ·subst e2
   have hp : 0 < p := by omega
   clear hs
   have fl := fun w => fld0 p q w
   go_enter Tryz.func70, Tryz.ntmps70
   go_wp2_with fail
   refine cq_region (by kernel_rfl) (by kernel_rfl) ?_
   iterate 12 (refine wpQuiet_step (fun K hK => ?_); go_simp; first | (refine hK _ ?_; clear hK K) | (refine ⟨_, fun _ _ => rfl, hK _ ?_⟩; clear hK K) | (apply Exists.intro; refine ⟨fun wq hq => ?_, hK _ ?_⟩; (focus (first | (go_at_call 46; exact HK.out _ hq) | (go_at_call 47; exact HC.out _ hq) | (obtain ⟨t1, t2⟩ := HB.out _ hq; go_simp; try with_reducible rfl))); clear hK K))
   refine wpQuiet_nil ?_
   intro w1 M1
   clear HB HK HC
   go_wp2_with fail
   go_ret2
   exact ⟨_, rfl, h.keep M1, M0.trans' M1, Hence.refl _ _⟩
  ·clear hs
   go_enter Tryz.func70, Tryz.ntmps70
   go_wp2_with fail
   refine cq_region (by kernel_rfl) (by kernel_rfl) ?_
   iterate 12 (refine wpQuiet_step (fun K hK => ?_); go_simp; first | (refine hK _ ?_; clear hK K) | (refine ⟨_, fun _ _ => rfl, hK _ ?_⟩; clear hK K) | (apply Exists.intro; refine ⟨fun wq hq => ?_, hK _ ?_⟩; (focus (first | (go_at_call 46; exact HK.out _ hq) | (go_at_call 47; exact HC.out _ hq) | (obtain ⟨t1, t2⟩ := HB.out _ hq; go_simp; try with_reducible rfl))); clear hK K))
   refine wpQuiet_nil ?_
   intro w1 M1
   clear HB HK HC
   go_wp2_with fail
   go_ret2
   exact ⟨_, rfl, h.keep M1, M0.trans' M1, Hence.refl _ _⟩
 ·clear hs
  go_enter Tryz.func70, Tryz.ntmps70
  go_wp2_with fail
  refine cq_region (by kernel_rfl) (by kernel_rfl) ?_
  iterate 12 (refine wpQuiet_step (fun K hK => ?_); go_simp; first | (refine hK _ ?_; clear hK K) | (refine ⟨_, fun _ _ => rfl, hK _ ?_⟩; clear hK K) | (apply Exists.intro; refine ⟨fun wq hq => ?_, hK _ ?_⟩; (focus (first | (go_at_call 46; exact HK.out _ hq) | (go_at_call 47; exact HC.out _ hq) | (obtain ⟨t1, t2⟩ := HB.out _ hq; go_simp; try with_reducible rfl))); clear hK K))
  refine wpQuiet_nil ?_
  intro w1 M1
  clear HB HK HC
  go_wp2_with fail
  go_ret2
  exact ⟨_, rfl, h.keep M1, M0.trans' M1, Hence.refl _ _⟩
set_option maxHeartbeats 1000000 in
set_option maxRecDepth 100000 in
theorem putR_full {w : World} {v : Value} {l : List Sg} (h : RowV w v l) (hr : Row l) (hlen : l.length ≤ 65536) (room : Int) (s : Sg) (hk : okKey s.ls s.la) (hf : fit64 s.la) (ho : hasK (ky s) l = false) (hz : room ≤ l.length) :
  Calls Tryz.prog 70 #[v, .int .i64 room, .agg (encS s).toArray] w fun e w' => PutRP w v l room s e w' := by
 unfold PutRP putE putL
 rw [show okB s = true from decide_eq_true hk]
 simp only [if_true]
 obtain ⟨w0, hw0, b0, M0⟩ := boxS w s
 have fl0 := hid fld0
 replace h := h.keep M0
 have HB := hid (fun (w' : World) (M : CM w0 w') => blkc (Mod.heap M b0 fun h => h))
 have HK := hid (fun (w' : World) (M : CM w0 w') => (keyR s w').mono fun e w'' ⟨h1, h2⟩ => (⟨h1, Mod.trans' M h2⟩ : e = Ending.returned (.agg #[.int .i64 s.ls, .int .i64 s.la]) ∧ CM w0 w''))
 have HC := hid (fun (w' : World) (M : CM w0 w') => (canonR s.ls s.la w').mono fun e w'' ⟨h1, h2⟩ => (⟨h1, Mod.trans' M h2⟩ : e = Ending.returned (.agg #[.int .i64 (canS s.ls s.la), .int .i64 (canA s.ls s.la)]) ∧ CM w0 w''))
 have hky : kx s.ls s.la = ky s := rfl
 rw [hk.1, hk.2.1] at HC
 have hle : ¬ 0 < s.ls := by have := hk.2.2; omega
 clear hk
 rw [ho, if_pos hz, if_pos hz]
 simp only [Bool.false_eq_true, if_false]
 have hfi := hid (findI_none l (hasK_none ho))
 rw [← hky] at hfi
 clear ho hky
 obtain ⟨A, c, rfl, _⟩ := h.slice
 replace hr := hid hr
 obtain ⟨ls, la, hs', ha, sv⟩ := s
 unfold encS
 dsimp only
 have fl := fun w => fld0 ls la w
 go_enter Tryz.func70, Tryz.ntmps70
 go_wp2_with fail
 refine cq_region (by kernel_rfl) (by kernel_rfl) ?_
 iterate 12 (refine wpQuiet_step (fun K hK => ?_); go_simp; first | (refine hK _ ?_; clear hK K) | (refine ⟨_, fun _ _ => rfl, hK _ ?_⟩; clear hK K) | (apply Exists.intro; refine ⟨fun wq hq => ?_, hK _ ?_⟩; (focus (first | (go_at_call 46; exact HK.out _ hq) | (go_at_call 47; exact HC.out _ hq) | (obtain ⟨t1, t2⟩ := HB.out _ hq; go_simp; try with_reducible rfl))); clear hK K))
 refine wpQuiet_nil ?_
 intro w1 M1
 clear HB HK HC
 obtain ⟨d1, e1⟩ := blkc (Mod.heap M1 b0 fun h => h)
 go_wp2_with fail
 refine (keyR ⟨ls, la, hs', ha, sv⟩ w1).mono ?_; rintro e w2 ⟨rfl, M2⟩
 clear d1 e1
 have PF := findR (h.keep (Mod.trans' M1 M2)) hr.out hlen ls la hf
 rw [hfi.out] at PF
 go_wp2_with fail
 refine PF.mono ?_; rintro e w3 ⟨rfl, M3⟩
 clear PF
 have N3 : Mod (fun _ => False) w0 w3 := (Mod.trans' M1 M2).trans' M3
 replace h := h.keep N3
 replace b0 := N3.heap b0 fun h => h
 replace M0 := M0.trans' N3
 clear M1 M2 M3 N3 hw0
 obtain ⟨d1, e1⟩ := blkc b0
 go_wp2_with fail
 go_ret2
 exact ⟨_, rfl, h, M0, Hence.refl _ _⟩
set_option maxHeartbeats 1000000 in
set_option maxRecDepth 100000 in
theorem putR_old {w : World} {v : Value} {l : List Sg} (h : RowV w v l) (hr : Row l) (hlen : l.length ≤ 65536) (room : Int) (s : Sg) (hk : okKey s.ls s.la) (hf : fit64 s.la) (ho : hasK (ky s) l = true) :
  Calls Tryz.prog 70 #[v, .int .i64 room, .agg (encS s).toArray] w fun e w' => PutRP w v l room s e w' := by
 unfold PutRP putE putL
 rw [show okB s = true from decide_eq_true hk]
 simp only [if_true]
 obtain ⟨w0, hw0, b0, M0⟩ := boxS w s
 have fl0 := hid fld0
 replace h := h.keep M0
 have HB := hid (fun (w' : World) (M : CM w0 w') => blkc (Mod.heap M b0 fun h => h))
 have HK := hid (fun (w' : World) (M : CM w0 w') => (keyR s w').mono fun e w'' ⟨h1, h2⟩ => (⟨h1, Mod.trans' M h2⟩ : e = Ending.returned (.agg #[.int .i64 s.ls, .int .i64 s.la]) ∧ CM w0 w''))
 have HC := hid (fun (w' : World) (M : CM w0 w') => (canonR s.ls s.la w').mono fun e w'' ⟨h1, h2⟩ => (⟨h1, Mod.trans' M h2⟩ : e = Ending.returned (.agg #[.int .i64 (canS s.ls s.la), .int .i64 (canA s.ls s.la)]) ∧ CM w0 w''))
 have hky : kx s.ls s.la = ky s := rfl
 rw [hk.1, hk.2.1] at HC
 have hle : ¬ 0 < s.ls := by have := hk.2.2; omega
 clear hk
 rw [ho]
 simp only [if_true]
 obtain ⟨pre, y, rest, rfl, hy⟩ := hasK_split ho
 have hp := (del_split hr hy).2
 have hins : insL s (pre ++ y :: rest) = pre ++ s :: rest := by
  obtain ⟨h1, h2, h3⟩ := List.pairwise_append.1 hr.1
  exact ins_old hy (fun z hz => hy ▸ h3 z hz y (by simp)) (fun z hz => hy ▸ (List.pairwise_cons.1 h2).1 z hz)
 have hfi := hid (findI_pre pre rest hp hy)
 rw [← hky] at hfi
 rw [hins]
 clear ho hky hins hp hy
 obtain ⟨A, c, rfl, hA⟩ := h.slice
 obtain ⟨l, hl⟩ : ∃ l, pre ++ y :: rest = l := ⟨_, rfl⟩
 have hset : pre ++ s :: rest = l.set pre.length s := by rw [← hl]; simp
 have hkl : pre.length < l.length := by rw [← hl]; simp
 rw [hset]
 rw [hl] at h hA hlen hfi hr ⊢
 clear hset hl
 obtain ⟨k, hkk⟩ : ∃ k, pre.length = k := ⟨_, rfl⟩
 rw [hkk] at hfi hkl ⊢
 clear hkk pre y rest
 have hk0 : (0 : Int) ≤ k := by omega
 replace hr := hid hr
 obtain ⟨ls, la, hs', ha, sv⟩ := s
 unfold encS
 dsimp only
 have fl := fun w => fld0 ls la w
 go_enter Tryz.func70, Tryz.ntmps70
 go_wp2_with fail
 refine cq_region (by kernel_rfl) (by kernel_rfl) ?_
 iterate 12 (refine wpQuiet_step (fun K hK => ?_); go_simp; first | (refine hK _ ?_; clear hK K) | (refine ⟨_, fun _ _ => rfl, hK _ ?_⟩; clear hK K) | (apply Exists.intro; refine ⟨fun wq hq => ?_, hK _ ?_⟩; (focus (first | (go_at_call 46; exact HK.out _ hq) | (go_at_call 47; exact HC.out _ hq) | (obtain ⟨t1, t2⟩ := HB.out _ hq; go_simp; try with_reducible rfl))); clear hK K))
 refine wpQuiet_nil ?_
 intro w1 M1
 clear HB HK HC
 obtain ⟨d1, e1⟩ := blkc (Mod.heap M1 b0 fun h => h)
 go_wp2_with fail
 refine (keyR ⟨ls, la, hs', ha, sv⟩ w1).mono ?_; rintro e w2 ⟨rfl, M2⟩
 clear d1 e1
 have PF := findR (h.keep (Mod.trans' M1 M2)) hr.out hlen ls la hf
 rw [hfi.out] at PF
 go_wp2_with fail
 refine PF.mono ?_; rintro e w3 ⟨rfl, M3⟩
 clear PF
 have N3 : Mod (fun _ => False) w0 w3 := (Mod.trans' M1 M2).trans' M3
 replace h := h.keep N3
 replace b0 := N3.heap b0 fun h => h
 replace M0 := M0.trans' N3
 clear M1 M2 M3 N3 hw0
 obtain ⟨d1, e1⟩ := blkc b0
 go_wp2_with (at_builtin; refine app_copy (.slice A l.length c) l.length (l.flatMap encS) (.tmp 32) (.tmp 33) 28 38 (.agg #[.int .i64 0, .int .i64 0, .int .i64 0, .int .i64 0, .int .i64 0]) 5 40 rfl rfl Tryz.underlying28 infoSg rfl (by omega) (by omega) (by simp [Act.eval]) (by simp [Act.eval]) h (one_seg _) (by omega) ?_)
 intro v1 w4 own m4 kb4
 obtain ⟨A1, c1, rfl, hA1⟩ := RowV.slice own
 obtain ⟨g, rfl⟩ := hA1 (by omega)
 have hg3 : w3.heap.size ≤ g := kb4 g rfl
 have hw3 := M0.size
 obtain ⟨t1, t2, t3, t4, t5⟩ := RowV.cells own hkl
 have fz : ∀ j, w4.frozen? ⟨g, j, none⟩ = false := by
  rcases own.2 with ⟨e, _⟩ | ⟨_, _, _, e, _, e2, _⟩
  ·cases e
  ·cases e; exact (blkc e2).2
 obtain ⟨d2, e2⟩ := blkc (m4.heap b0 fun h => h)
 have own5 := own_place encS (fun _ => rfl) own (List.getElem?_eq_getElem hkl) ⟨ls, la, hs', ha, sv⟩
 have M5 : Mod (fun _ => False) w (setL w4 g (k * 5) (encS ⟨ls, la, hs', ha, sv⟩)) := setL_mod g (.inr (Nat.le_trans hw3 hg3)) _ _ _ (M0.trans' m4)
 have hkl' : (k : Int) < l.length := by omega
 clear d1 e1
 replace own5 := hid own5
 replace M5 := hid M5
 go_wp2_with fail
 go_ret2
 exact ⟨_, rfl, by unfold RowV; rw [List.length_set]; exact own5.out, M5.out, fun i hi => by cases hi; exact .inr (Nat.le_trans hw3 hg3)⟩
theorem row_split {k : Int} : ∀ {l : List Sg}, Srt l → hasK k l = false → ∃ lo hi, l = lo ++ hi ∧ (∀ x ∈ lo, ky x < k) ∧ ∀ x ∈ hi, k < ky x
 | [], _, _ => ⟨[], [], rfl, by simp, by simp⟩
 | x :: l, hs, hk => by
  have h1 : ky x ≠ k := hasK_none hk x (by simp)
  have h2 : hasK k l = false := by simp only [hasK, List.any_cons, Bool.or_eq_false_iff] at hk; exact hk.2
  obtain ⟨h3, h4⟩ := List.pairwise_cons.1 hs
  by_cases hlt : ky x < k
  ·obtain ⟨lo, hi, rfl, h5, h6⟩ := row_split h4 h2
   exact ⟨x :: lo, hi, rfl, by intro y hy; rcases List.mem_cons.1 hy with rfl | hy; exact hlt; exact h5 y hy, h6⟩
  ·exact ⟨[], x :: l, rfl, by simp, by intro y hy; rcases List.mem_cons.1 hy with rfl | hy; omega; have := h3 y hy; omega⟩
def Mk (wB W : World) (v : Value) (O : List Sg) : Prop := RowV W v O ∧ (∀ b, v.ownBlock = some b → wB.heap.size ≤ b) ∧ Mod (fun _ => False) wB W
theorem Mk.keep {wB W W' : World} {v : Value} {O : List Sg} (h : Mk wB W v O) (m : Mod (fun _ => False) W W') : Mk wB W' v O := ⟨h.1.keep m, h.2.1, h.2.2.trans' m⟩
theorem Mk.grow {wB W W' : World} {v v' : Value} {O : List Sg} (h : Mk wB W v O) {x : Sg} (own : W'.ownsRow 0 38 5 v' (O.length + 1) (O.flatMap encS ++ encS x)) (gr : W.grownBy W' v.ownBlock) (bl : ∀ k, v'.ownBlock = some k → v.ownBlock = some k ∨ W.heap.size ≤ k) : Mk wB W' v' (O ++ [x]) := by
 refine ⟨?_, fun b hb => ?_, h.2.2.trans (Mod.of_grown gr) fun i hi => .inr (h.2.1 i hi)⟩
 ·unfold RowV
  rw [List.flatMap_append, List.length_append]
  simpa using own
 ·rcases bl b hb with e | e
  ·exact h.2.1 b e
  ·exact Nat.le_trans h.2.2.size e
def PutL (lo hi : List Sg) (s : Sg) (wB : World) (vo vd vi : Value) (W : World) : Prop := ∃ (k : Nat) (O : List Sg), k ≤ (lo ++ hi).length ∧ vi = .int .i64 k ∧ Mk wB W vo O ∧
 ((vd = .bool false ∧ k ≤ lo.length ∧ O = (lo ++ hi).take k) ∨ (vd = .bool true ∧ lo.length < k ∧ O = lo ++ s :: ((lo ++ hi).take k).drop lo.length))
theorem putl_len {lo hi : List Sg} {s : Sg} {k : Nat} {O : List Sg} (hk : k ≤ (lo ++ hi).length) (h : O = (lo ++ hi).take k ∨ O = lo ++ s :: ((lo ++ hi).take k).drop lo.length) : O.length ≤ (lo ++ hi).length + 1 := by
 rcases h with rfl | rfl
 ·simp; omega
 ·simp; omega
theorem put_step {lo hi O : List Sg} {s x : Sg} {k : Nat} {K : Int} {vd : Value} (hx : (lo ++ hi)[k]? = some x) (hlo : ∀ x ∈ lo, ky x < K) (hhi : ∀ x ∈ hi, K < ky x)
  (hD : (vd = .bool false ∧ k ≤ lo.length ∧ O = (lo ++ hi).take k) ∨ (vd = .bool true ∧ lo.length < k ∧ O = lo ++ s :: ((lo ++ hi).take k).drop lo.length)) :
  (vd = .bool true ∧ lo.length < k + 1 ∧ O ++ [x] = lo ++ s :: ((lo ++ hi).take (k + 1)).drop lo.length) ∨
  (vd = .bool false ∧ ¬ K < ky x ∧ k + 1 ≤ lo.length ∧ O ++ [x] = (lo ++ hi).take (k + 1)) ∨
  (vd = .bool false ∧ K < ky x ∧ lo.length < k + 1 ∧ O ++ [s] ++ [x] = lo ++ s :: ((lo ++ hi).take (k + 1)).drop lo.length) := by
 have ht : (lo ++ hi).take (k + 1) = (lo ++ hi).take k ++ [x] := by rw [List.take_add_one, hx]; rfl
 have hkl := (List.getElem?_eq_some_iff.1 hx).1
 rcases hD with ⟨rfl, h1, rfl⟩ | ⟨rfl, h1, rfl⟩
 ·rcases Nat.lt_or_eq_of_le h1 with h2 | h2
  ·right; left
   rw [List.getElem?_append_left h2] at hx
   have := hlo x (List.mem_of_getElem? hx)
   exact ⟨rfl, by omega, h2, ht.symm⟩
  ·right; right
   rw [List.getElem?_append_right (by omega)] at hx
   have := hhi x (List.mem_of_getElem? hx)
   refine ⟨rfl, this, by omega, ?_⟩
   rw [ht]
   have h3 : (lo ++ hi).take k = lo := by rw [h2]; simp
   rw [h3]; simp
 ·left
  refine ⟨rfl, by omega, ?_⟩
  rw [ht, List.drop_append_of_le_length (by rw [List.length_take]; omega)]
  simp
attribute [local irreducible] wpQuiet
set_option maxHeartbeats 2000000 in
set_option maxRecDepth 100000 in
theorem putR_new {w : World} {v : Value} {l : List Sg} (h : RowV w v l) (hr : Row l) (hlen : l.length ≤ 65536) (room : Int) (s : Sg) (hk : okKey s.ls s.la) (hf : fit64 s.la) (ho : hasK (ky s) l = false) (hz : ¬ room ≤ l.length) :
  Calls Tryz.prog 70 #[v, .int .i64 room, .agg (encS s).toArray] w fun e w' => PutRP w v l room s e w' := by
 unfold PutRP putE putL
 rw [show okB s = true from decide_eq_true hk]
 simp only [if_true]
 obtain ⟨w0, hw0, b0, M0⟩ := boxS w s
 have fl0 := hid fld0
 replace h := h.keep M0
 have HB := hid (fun (w' : World) (M : CM w0 w') => blkc (Mod.heap M b0 fun h => h))
 have HK := hid (fun (w' : World) (M : CM w0 w') => (keyR s w').mono fun e w'' ⟨h1, h2⟩ => (⟨h1, Mod.trans' M h2⟩ : e = Ending.returned (.agg #[.int .i64 s.ls, .int .i64 s.la]) ∧ CM w0 w''))
 have HC := hid (fun (w' : World) (M : CM w0 w') => (canonR s.ls s.la w').mono fun e w'' ⟨h1, h2⟩ => (⟨h1, Mod.trans' M h2⟩ : e = Ending.returned (.agg #[.int .i64 (canS s.ls s.la), .int .i64 (canA s.ls s.la)]) ∧ CM w0 w''))
 have hky : kx s.ls s.la = ky s := rfl
 rw [hk.1, hk.2.1] at HC
 have hle : ¬ 0 < s.ls := by have := hk.2.2; omega
 clear hk
 rw [ho, if_neg hz, if_neg hz]
 simp only [Bool.false_eq_true, if_false]
 have hfi := hid (findI_none l (hasK_none ho))
 obtain ⟨lo, hi, hll, hlo, hhi⟩ := row_split hr.1 ho
 have hins : insL s l = lo ++ s :: hi := by rw [hll]; exact ins_new hlo hhi
 rw [hins]
 rw [← hky] at hfi hlo hhi
 clear ho hky hins
 obtain ⟨A, c, rfl, hA⟩ := h.slice
 replace hr := hid hr
 replace hll := hid hll
 obtain ⟨ls, la, hs', ha, sv⟩ := s
 unfold encS
 dsimp only at hlo hhi ⊢
 replace hlo := hid hlo
 replace hhi := hid hhi
 have hzl : (l.length : Int) < room := by omega
 have fl := fun w => fld0 ls la w
 go_enter Tryz.func70, Tryz.ntmps70
 go_wp2_with fail
 refine cq_region (by kernel_rfl) (by kernel_rfl) ?_
 iterate 12 (refine wpQuiet_step (fun K hK => ?_); go_simp; first | (refine hK _ ?_; clear hK K) | (refine ⟨_, fun _ _ => rfl, hK _ ?_⟩; clear hK K) | (apply Exists.intro; refine ⟨fun wq hq => ?_, hK _ ?_⟩; (focus (first | (go_at_call 46; exact HK.out _ hq) | (go_at_call 47; exact HC.out _ hq) | (obtain ⟨t1, t2⟩ := HB.out _ hq; go_simp; try with_reducible rfl))); clear hK K))
 refine wpQuiet_nil ?_
 intro w1 M1
 clear HB HK HC
 obtain ⟨d1, e1⟩ := blkc (Mod.heap M1 b0 fun h => h)
 go_wp2_with fail
 refine (keyR ⟨ls, la, hs', ha, sv⟩ w1).mono ?_; rintro e w2 ⟨rfl, M2⟩
 clear d1 e1
 have PF := findR (h.keep (Mod.trans' M1 M2)) hr.out hlen ls la hf
 rw [hfi.out] at PF
 go_wp2_with fail
 refine PF.mono ?_; rintro e w3 ⟨rfl, M3⟩
 clear PF
 have N3 : Mod (fun _ => False) w0 w3 := (Mod.trans' M1 M2).trans' M3
 replace h := h.keep N3
 replace b0 := N3.heap b0 fun h => h
 replace M0 := M0.trans' N3
 clear M1 M2 M3 N3 hw0
 obtain ⟨d1, e1⟩ := blkc b0
 go_wp2_with fail
 go_loopw [10, 11, 12] (fun vo vd vi W => PutL lo hi ⟨ls, la, hs', ha, sv⟩ w3 vo vd vi W) (fun _ _ vi _ => (l.length - intOf vi).toNat)
 case atStart => exact ⟨0, [], by omega, rfl, ⟨RowV.nil _, fun b hb => (by cases hb), Mod.refl _ _⟩, .inl ⟨rfl, by omega, rfl⟩⟩
 case round =>
  obtain ⟨k, O, hk, rfl, hM, hD⟩ := hrel
  have hM0 := hM
  by_cases hlt : k < l.length
  ·obtain ⟨g, rfl⟩ := hA (by omega)
   have hO : O.length ≤ l.length + 1 := by rw [hll.out]; exact putl_len hk (hD.elim (fun h => .inl h.2.2) (fun h => .inr h.2.2))
   have hcs := hid fun (w' : World) (M : Mod (fun _ => False) w3 w') => (h.keep M).cells hlt
   have hx : (lo ++ hi)[k]? = some l[k] := by rw [← hll.out]; exact List.getElem?_eq_getElem hlt
   have hxf : fit64 l[k].la := (hr.out.2 l[k] (by simp)).2
   generalize l[k] = x at hcs hx hxf
   obtain hstep := put_step hx hlo.out hhi.out hD
   obtain ⟨xl, xa, xh, xg, xv⟩ := x
   have hk1 : Hid (k + 1 ≤ (lo ++ hi).length) := by rw [← hll.out]; exact hid hlt
   have HB := hid (fun (w' : World) (M : CM wr w') => And.intro (blkc (Mod.heap (hM.2.2.trans' M) b0 fun h => h)) (hcs.out w' (hM.2.2.trans' M)))
   have HK := hid (fun (w' : World) (M : CM wr w') => (keyR ⟨ls, la, hs', ha, sv⟩ w').mono fun e w'' ⟨h1, h2⟩ => (⟨h1, Mod.trans' M h2⟩ : e = Ending.returned (.agg #[.int .i64 ls, .int .i64 la]) ∧ CM wr w''))
   have HX := hid (fun (w' : World) (M : CM wr w') => (keyR ⟨xl, xa, xh, xg, xv⟩ w').mono fun e w'' ⟨h1, h2⟩ => (⟨h1, Mod.trans' M h2⟩ : e = Ending.returned (.agg #[.int .i64 xl, .int .i64 xa]) ∧ CM wr w''))
   have HL := hid (fun (w' : World) (M : CM wr w') => (lessR (s := ls) (s' := xl) (a' := xa) hf hxf w').mono fun e w'' ⟨h1, h2⟩ => (⟨h1, Mod.trans' M h2⟩ : e = Ending.returned (.bool (decide (kx ls la < kx xl xa))) ∧ CM wr w''))
   have hkl2 : (k : Int) < l.length := by omega
   have hkl3 : (k : Int) + 1 ≤ 65536 := by omega
   clear hD hx hA d1 e1 h hxf
   rcases hstep with ⟨rfl, q1, q2⟩ | ⟨rfl, q0, q1, q2⟩ | ⟨rfl, q0, q1, q2⟩
   ·have DD := hid (And.intro q1 q2)
    clear q1 q2
    go_wp2_with fail
    refine cq_region (by kernel_rfl) (by kernel_rfl) ?_
    iterate 12 (refine wpQuiet_step (fun K hK => ?_); go_simp; first | (refine hK _ ?_; clear hK K) | (refine ⟨_, fun _ _ => rfl, hK _ ?_⟩; clear hK K) | (apply Exists.intro; refine ⟨fun wq hq => ?_, hK _ ?_⟩; (focus (first | (go_at_call 46; exact HK.out _ hq) | (go_at_call 46; exact HX.out _ hq) | (go_at_call 48; exact HL.out _ hq) | (obtain ⟨⟨t1, t2⟩, t3, t4, t5, t6, t7⟩ := HB.out _ hq; go_simp; try with_reducible rfl))); clear hK K))
    refine wpQuiet_nil ?_
    intro w5 M5
    obtain ⟨⟨t1, t2⟩, t3, t4, t5, t6, t7⟩ := HB.out _ M5
    have hM5 := hM.keep M5
    clear HB HK HX HL
    go_wp2_with (at_builtin; refine app_one [.int .i64 xl, .int .i64 xa, .int .i64 xh, .int .i64 xg, .int .i64 xv] u10 O.length (O.flatMap encS) (.tmp 67) (.tmp 72) 28 38 (.agg #[.int .i64 0, .int .i64 0, .int .i64 0, .int .i64 0, .int .i64 0]) 5 40 rfl rfl Tryz.underlying28 infoSg rfl (by omega) (by omega) rfl rfl hM5.1 rfl (by simp [Value.oneCell']) (by (try simp only [List.length_append, List.length_cons, List.length_nil]); omega) ?_)
    intro v6 w6 own gr bl
    have hM6 := hM5.grow (x := ⟨xl, xa, xh, xg, xv⟩) own gr bl
    go_wp2_with fail
    go_roundw
    case rel => exact ⟨k + 1, O ++ [⟨xl, xa, xh, xg, xv⟩], hk1.out, by simp, hM6, .inr ⟨rfl, DD.out⟩⟩
    case measure => simp [intOf]; omega
   ·have DD := hid (And.intro q1 q2)
    rw [decide_eq_false (show ¬ kx ls la < kx xl xa from q0)] at HL
    clear q0 q1 q2
    go_wp2_with fail
    refine cq_region (by kernel_rfl) (by kernel_rfl) ?_
    iterate 12 (refine wpQuiet_step (fun K hK => ?_); go_simp; first | (refine hK _ ?_; clear hK K) | (refine ⟨_, fun _ _ => rfl, hK _ ?_⟩; clear hK K) | (apply Exists.intro; refine ⟨fun wq hq => ?_, hK _ ?_⟩; (focus (first | (go_at_call 46; exact HK.out _ hq) | (go_at_call 46; exact HX.out _ hq) | (go_at_call 48; exact HL.out _ hq) | (obtain ⟨⟨t1, t2⟩, t3, t4, t5, t6, t7⟩ := HB.out _ hq; go_simp; try with_reducible rfl))); clear hK K))
    refine wpQuiet_nil ?_
    intro w5 M5
    obtain ⟨⟨t1, t2⟩, t3, t4, t5, t6, t7⟩ := HB.out _ M5
    have hM5 := hM.keep M5
    clear HB HK HX HL
    go_wp2_with (at_builtin; refine app_one [.int .i64 xl, .int .i64 xa, .int .i64 xh, .int .i64 xg, .int .i64 xv] u10 O.length (O.flatMap encS) (.tmp 67) (.tmp 72) 28 38 (.agg #[.int .i64 0, .int .i64 0, .int .i64 0, .int .i64 0, .int .i64 0]) 5 40 rfl rfl Tryz.underlying28 infoSg rfl (by omega) (by omega) rfl rfl hM5.1 rfl (by simp [Value.oneCell']) (by (try simp only [List.length_append, List.length_cons, List.length_nil]); omega) ?_)
    intro v6 w6 own gr bl
    have hM6 := hM5.grow (x := ⟨xl, xa, xh, xg, xv⟩) own gr bl
    go_wp2_with fail
    go_roundw
    case rel => exact ⟨k + 1, O ++ [⟨xl, xa, xh, xg, xv⟩], hk1.out, by simp, hM6, .inl ⟨rfl, DD.out⟩⟩
    case measure => simp [intOf]; omega
   ·have DD := hid (And.intro q1 q2)
    rw [decide_eq_true (show kx ls la < kx xl xa from q0)] at HL
    clear q0 q1 q2
    go_wp2_with fail
    refine cq_region (by kernel_rfl) (by kernel_rfl) ?_
    iterate 12 (refine wpQuiet_step (fun K hK => ?_); go_simp; first | (refine hK _ ?_; clear hK K) | (refine ⟨_, fun _ _ => rfl, hK _ ?_⟩; clear hK K) | (apply Exists.intro; refine ⟨fun wq hq => ?_, hK _ ?_⟩; (focus (first | (go_at_call 46; exact HK.out _ hq) | (go_at_call 46; exact HX.out _ hq) | (go_at_call 48; exact HL.out _ hq) | (obtain ⟨⟨t1, t2⟩, t3, t4, t5, t6, t7⟩ := HB.out _ hq; go_simp; try with_reducible rfl))); clear hK K))
    refine wpQuiet_nil ?_
    intro w5 M5
    obtain ⟨⟨t1, t2⟩, t3, t4, t5, t6, t7⟩ := HB.out _ M5
    have hM5 := hM.keep M5
    clear HB HK HX HL
    go_wp2_with (at_builtin; refine app_one [.int .i64 ls, .int .i64 la, .int .i64 hs', .int .i64 ha, .int .i64 sv] u10 O.length (O.flatMap encS) (.tmp 63) (.tmp 65) 28 38 (.agg #[.int .i64 0, .int .i64 0, .int .i64 0, .int .i64 0, .int .i64 0]) 5 40 rfl rfl Tryz.underlying28 infoSg rfl (by omega) (by omega) rfl rfl hM5.1 rfl (by simp [Value.oneCell']) (by (try simp only [List.length_append, List.length_cons, List.length_nil]); omega) ?_)
    intro v4 w4 own gr bl
    have hM4 := hM5.grow (x := ⟨ls, la, hs', ha, sv⟩) own gr bl
    obtain ⟨t3, t4, t5, t6, t7⟩ := hcs.out w4 hM4.2.2
    obtain ⟨O2, hO2⟩ : ∃ O2, O ++ [(⟨ls, la, hs', ha, sv⟩ : Sg)] = O2 := ⟨_, rfl⟩
    have hO3 : O2.length = O.length + 1 := by rw [← hO2]; simp
    rw [hO2] at hM4 DD
    replace hO2 := hid hO2
    replace hO3 := hid hO3
    have hO4 : O2.length ≤ 65540 := by rw [hO3.out]; omega
    go_wp2_with (at_builtin; refine app_one [.int .i64 xl, .int .i64 xa, .int .i64 xh, .int .i64 xg, .int .i64 xv] v4 O2.length (O2.flatMap encS) (.tmp 67) (.tmp 72) 28 38 (.agg #[.int .i64 0, .int .i64 0, .int .i64 0, .int .i64 0, .int .i64 0]) 5 40 rfl rfl Tryz.underlying28 infoSg rfl (by omega) (by omega) rfl rfl hM4.1 rfl (by simp [Value.oneCell']) (by (try simp only [List.length_append, List.length_cons, List.length_nil]); omega) ?_)
    intro v6 w6 own gr bl
    have hM6 := hM4.grow (x := ⟨xl, xa, xh, xg, xv⟩) own gr bl
    go_wp2_with fail
    go_roundw
    case rel => exact ⟨k + 1, O2 ++ [⟨xl, xa, xh, xg, xv⟩], hk1.out, by simp, hM6, .inr ⟨rfl, DD.out⟩⟩
    case measure => simp [intOf]; omega
  ·have hkl : k = l.length := by have := hk; rw [← hll.out] at this; omega
   subst hkl
   have hO : O.length ≤ l.length + 1 := by rw [hll.out] at hD ⊢; exact putl_len (Nat.le_refl _) (hD.elim (fun h => .inl h.2.2) (fun h => .inr h.2.2))
   have hln : l.length = lo.length + hi.length := by rw [hll.out]; simp
   obtain ⟨t1, t2⟩ := blkc (hM.2.2.heap b0 fun h => h)
   clear d1 e1
   rcases hD with ⟨rfl, q1, q2⟩ | ⟨rfl, q1, q2⟩
   ·have hR : O ++ [⟨ls, la, hs', ha, sv⟩] = lo ++ ⟨ls, la, hs', ha, sv⟩ :: hi := by
     have h0 : hi = [] := List.length_eq_zero_iff.1 (by omega)
     rw [q2, h0, List.append_nil, List.take_of_length_le (by omega)]
    replace hR := hid hR
    replace hln := hid hln
    clear q1 q2
    go_wp2_with (at_builtin; refine app_one [.int .i64 ls, .int .i64 la, .int .i64 hs', .int .i64 ha, .int .i64 sv] u10 O.length (O.flatMap encS) (.tmp 76) (.tmp 78) 28 38 (.agg #[.int .i64 0, .int .i64 0, .int .i64 0, .int .i64 0, .int .i64 0]) 5 40 rfl rfl Tryz.underlying28 infoSg rfl (by omega) (by omega) rfl rfl hM.1 rfl (by simp [Value.oneCell']) (by (try simp only [List.length_append, List.length_cons, List.length_nil]); omega) ?_)
    intro v6 w6 own gr bl
    have hM6 := hM.grow (x := ⟨ls, la, hs', ha, sv⟩) own gr bl
    go_wp2_with fail
    go_ret2
    exact ⟨_, rfl, by rw [← hR.out]; exact hM6.1, M0.trans' hM6.2.2, fun i hi => .inr (Nat.le_trans M0.size (hM6.2.1 i hi))⟩
   ·have hR : O = lo ++ ⟨ls, la, hs', ha, sv⟩ :: hi := by
     rw [q2, List.take_of_length_le (by simp; omega)]; simp
    replace hR := hid hR
    replace hln := hid hln
    clear q1 q2
    go_wp2_with fail
    go_ret2
    exact ⟨_, rfl, by rw [← hR.out]; exact hM.1, M0.trans' hM.2.2, fun i hi => .inr (Nat.le_trans M0.size (hM.2.1 i hi))⟩
theorem putR {w : World} {v : Value} {l : List Sg} (h : RowV w v l) (hr : Row l) (hlen : l.length ≤ 65536) (room : Int) (s : Sg) (hf : fit64 s.la) :
  Calls Tryz.prog 70 #[v, .int .i64 room, .agg (encS s).toArray] w fun e w' => PutRP w v l room s e w' := by
 by_cases hk : okKey s.ls s.la
 ·by_cases ho : hasK (ky s) l = true
  ·exact putR_old h hr hlen room s hk hf ho
  ·replace ho : hasK (ky s) l = false := by simpa using ho
   by_cases hz : room ≤ l.length
   ·exact putR_full h hr hlen room s hk hf ho hz
   ·exact putR_new h hr hlen room s hk hf ho hz
 ·exact putR_arg h room s hk
end Go.Proofs.Bo
