import Derived.Test.YtgehgjaglgafdaaGreatG16
import Derived.Test.YtgehgjaglgafdaaGreatG37
import Derived.Test.YtgehgjaglgafdaaGreatG02
import Derived.Test.YtgehgjaglgafdaaGreatG01
set_option linter.unusedVariables false
set_option linter.unusedSimpArgs false
namespace Go.Proofs.Bo
open Go Go.RowKit
def TT (X : Nat → Prop) (w : World) (v : Value) (d : Nat) (room : Int) (l : List Sg) : Prop :=
 ∃ tb, (v = .iface 93 (.pointer (some ⟨tb, 0, none⟩)) ∧ d = 0 ∧ room ≤ 4096 ∧ RB X w tb room l) ∨ (v = .iface 91 (.pointer (some ⟨tb, 0, none⟩)) ∧ BB X w tb d room l)
def OM (X : Nat → Prop) (w : World) (mb d : Nat) (room : Int) (l : List Sg) : Prop :=
 ∃ v, w.heap[mb]? = some (.cells #[v] 82 (0, 0)) ∧ X mb ∧ TT (fun k => X k ∧ k ≠ mb) w v d room l
def IMe (w : World) (v : Value) (nm : String) (args : Array Value) (Q : Ending → World → Prop) : Prop :=
 ∃ T tb K, v = .iface T (.pointer (some ⟨tb, 0, none⟩)) ∧ (∀ args w, (callFunc K args).run Tryz.prog w = .ok (.enter K args) w) ∧
  (∀ w, (method 316 T (.pointer (some ⟨tb, 0, none⟩)) nm).run Tryz.prog w = .ok (K, .pointer (some ⟨tb, 0, none⟩)) w) ∧ Calls Tryz.prog K (#[.pointer (some ⟨tb, 0, none⟩)] ++ args) w Q
theorem IMe.cm {w : World} {v : Value} {nm : String} {args : Array Value} {r : Ending} (h : ∀ w', Mod (fun _ => False) w w' → IMe w' v nm args fun e w'' => e = r ∧ Mod (fun _ => False) w' w'') :
  ∃ T tb K, v = .iface T (.pointer (some ⟨tb, 0, none⟩)) ∧ (∀ args w, (callFunc K args).run Tryz.prog w = .ok (.enter K args) w) ∧ (∀ w, (method 316 T (.pointer (some ⟨tb, 0, none⟩)) nm).run Tryz.prog w = .ok (K, .pointer (some ⟨tb, 0, none⟩)) w) ∧
   Hid (∀ w', CM w w' → Calls Tryz.prog K (#[.pointer (some ⟨tb, 0, none⟩)] ++ args) w' fun e w'' => e = r ∧ CM w w'') := by
 obtain ⟨T, tb, K, rfl, hn, hm, _⟩ := h w (Mod.refl _ _)
 refine ⟨T, tb, K, rfl, hn, hm, hid fun w' M => ?_⟩
 obtain ⟨T', tb', K', e, _, hm', hc⟩ := h w' M
 cases e
 have e1 := hm w
 rw [hm' w] at e1
 cases e1
 exact hc.mono fun e w'' ⟨h1, h2⟩ => ⟨h1, Mod.trans' M h2⟩
section
variable {w w' : World} {v : Value} {mb d : Nat} {room : Int} {l : List Sg} {X Y R : Nat → Prop}
theorem TT.mod (h : TT X w v d room l) (hm : Mod R w w') (hs : ∀ k, X k → k < w.heap.size → ¬ R k) : TT X w' v d room l := by
 obtain ⟨tb, ⟨h1, h2, h3, h4⟩ | ⟨h1, h2⟩⟩ := h
 ·exact ⟨tb, .inl ⟨h1, h2, h3, h4.mod hm hs⟩⟩
 ·exact ⟨tb, .inr ⟨h1, h2.mod hm hs⟩⟩
theorem TT.mod0 (h : TT X w v d room l) (hm : Mod (fun _ => False) w w') : TT X w' v d room l := h.mod hm fun _ _ _ h => h
theorem TT.mono (h : TT X w v d room l) (hs : ∀ k, X k → k < w.heap.size → Y k) : TT Y w v d room l := by
 obtain ⟨tb, ⟨h1, h2, h3, h4⟩ | ⟨h1, h2⟩⟩ := h
 ·exact ⟨tb, .inl ⟨h1, h2, h3, h4.mono hs⟩⟩
 ·exact ⟨tb, .inr ⟨h1, h2.mono hs⟩⟩
theorem tt_bound (h : TT X w v d room l) : (l.length : Int) ≤ room ∧ room ≤ 4096 := by
 obtain ⟨tb, ⟨h1, h2, h3, h4⟩ | ⟨h1, h2⟩⟩ := h
 ·exact ⟨(rb_bound h4).1, h3⟩
 ·exact bb_bound h2
theorem tt_row (h : TT X w v d room l) : Row l := by
 obtain ⟨tb, ⟨h1, h2, h3, h4⟩ | ⟨h1, h2⟩⟩ := h
 ·exact rb_row h4
 ·exact bb_row h2
theorem bb_deg (h : BB X w mb d room l) : 2 ≤ d ∧ d ≤ 64 := by
 obtain ⟨ab, lv, fv, σ, free, root, S, h1, h2, h3, h4, h5, h6, h7⟩ := h
 exact h4
theorem tt_deg (h : TT X w v d room l) : d = 0 ∨ (2 ≤ d ∧ d ≤ 64) := by
 obtain ⟨tb, ⟨h1, h2, h3, h4⟩ | ⟨h1, h2⟩⟩ := h
 ·exact .inl h2
 ·exact .inr (bb_deg h2)
theorem OM.mod (h : OM X w mb d room l) (hm : Mod R w w') (hs : ∀ k, X k → k < w.heap.size → ¬ R k) : OM X w' mb d room l := by
 obtain ⟨v, h1, h2, h3⟩ := h
 exact ⟨v, hm.heap h1 (hs mb h2 (blkl h1)), h2, h3.mod hm fun k hk hl => hs k hk.1 hl⟩
theorem OM.mod0 (h : OM X w mb d room l) (hm : Mod (fun _ => False) w w') : OM X w' mb d room l := h.mod hm fun _ _ _ h => h
theorem OM.mono (h : OM X w mb d room l) (hs : ∀ k, X k → k < w.heap.size → Y k) : OM Y w mb d room l := by
 obtain ⟨v, h1, h2, h3⟩ := h
 exact ⟨v, h1, hs mb h2 (blkl h1), h3.mono fun k hk hl => ⟨hs k hk.1 hl, hk.2⟩⟩
theorem om_bound (h : OM X w mb d room l) : (l.length : Int) ≤ room ∧ room ≤ 4096 := by
 obtain ⟨v, h1, h2, h3⟩ := h
 exact tt_bound h3
theorem om_row (h : OM X w mb d room l) : Row l := by
 obtain ⟨v, h1, h2, h3⟩ := h
 exact tt_row h3
theorem om_deg (h : OM X w mb d room l) : d = 0 ∨ (2 ≤ d ∧ d ≤ 64) := by
 obtain ⟨v, h1, h2, h3⟩ := h
 exact tt_deg h3
theorem om_lt (h : OM X w mb d room l) : mb < w.heap.size := by
 obtain ⟨v, h1, h2, h3⟩ := h
 exact blkl h1
theorem OM.tree {v : Value} {d' : Nat} {l' : List Sg} {w0 : World} (hb : w.heap[mb]? = some (.cells #[v] 82 (0, 0))) (hX : X mb) (hlt : mb < w0.heap.size) (h : TT (fun k => (X k ∧ k ≠ mb) ∨ w.heap.size ≤ k) w' v d' room l') (hm : Mod (fun k => X k ∧ k ≠ mb) w w') (M0 : Mod (fun _ => False) w0 w) :
  OM (fun k => X k ∨ w0.heap.size ≤ k) w' mb d' room l' ∧ Mod X w0 w' := by
 have hs := M0.size
 have hl := blkl hb
 refine ⟨⟨v, hm.heap hb fun h => h.2 rfl, .inl hX, h.mono fun k hk hkl => ?_⟩, (M0.mono fun _ h => h.elim).trans hm fun j hj => .inl hj.1⟩
 rcases hk with hk | hk
 ·exact ⟨.inl hk.1, hk.2⟩
 ·exact ⟨.inr (by omega), by omega⟩
theorem tt_floor (h : TT X w v d room l) (cs ca : Int) (hf : fit64 ca) : IMe w v "Floor" #[.agg #[.int .i64 cs, .int .i64 ca]] fun e w' => e = .returned (optS (nearS false true (kx cs ca) l)) ∧ Mod (fun _ => False) w w' := by
 obtain ⟨tb, ⟨rfl, rfl, h3, h4⟩ | ⟨rfl, h2⟩⟩ := h
 ·exact ⟨_, tb, 155, rfl, enters_of Tryz.func155 (by kernel_rfl) rfl, fun _ => by kernel_rfl, (rb_floor h4 cs ca hf).mono fun e w' h => h⟩
 ·exact ⟨_, tb, 104, rfl, enters_of Tryz.func104 (by kernel_rfl) rfl, fun _ => by kernel_rfl, (bb_floor h2 cs ca hf).mono fun e w' h => h⟩
theorem tt_lower (h : TT X w v d room l) (cs ca : Int) (hf : fit64 ca) : IMe w v "Lower" #[.agg #[.int .i64 cs, .int .i64 ca]] fun e w' => e = .returned (optS (nearS false false (kx cs ca) l)) ∧ Mod (fun _ => False) w w' := by
 obtain ⟨tb, ⟨rfl, rfl, h3, h4⟩ | ⟨rfl, h2⟩⟩ := h
 ·exact ⟨_, tb, 160, rfl, enters_of Tryz.func160 (by kernel_rfl) rfl, fun _ => by kernel_rfl, (rb_lower h4 cs ca hf).mono fun e w' h => h⟩
 ·exact ⟨_, tb, 109, rfl, enters_of Tryz.func109 (by kernel_rfl) rfl, fun _ => by kernel_rfl, (bb_lower h2 cs ca hf).mono fun e w' h => h⟩
theorem tt_ceil (h : TT X w v d room l) (cs ca : Int) (hf : fit64 ca) : IMe w v "Ceiling" #[.agg #[.int .i64 cs, .int .i64 ca]] fun e w' => e = .returned (optS (nearS true true (kx cs ca) l)) ∧ Mod (fun _ => False) w w' := by
 obtain ⟨tb, ⟨rfl, rfl, h3, h4⟩ | ⟨rfl, h2⟩⟩ := h
 ·exact ⟨_, tb, 150, rfl, enters_of Tryz.func150 (by kernel_rfl) rfl, fun _ => by kernel_rfl, (rb_ceil h4 cs ca hf).mono fun e w' h => h⟩
 ·exact ⟨_, tb, 99, rfl, enters_of Tryz.func99 (by kernel_rfl) rfl, fun _ => by kernel_rfl, (bb_ceil h2 cs ca hf).mono fun e w' h => h⟩
theorem tt_high (h : TT X w v d room l) (cs ca : Int) (hf : fit64 ca) : IMe w v "Higher" #[.agg #[.int .i64 cs, .int .i64 ca]] fun e w' => e = .returned (optS (nearS true false (kx cs ca) l)) ∧ Mod (fun _ => False) w w' := by
 obtain ⟨tb, ⟨rfl, rfl, h3, h4⟩ | ⟨rfl, h2⟩⟩ := h
 ·exact ⟨_, tb, 157, rfl, enters_of Tryz.func157 (by kernel_rfl) rfl, fun _ => by kernel_rfl, (rb_high h4 cs ca hf).mono fun e w' h => h⟩
 ·exact ⟨_, tb, 106, rfl, enters_of Tryz.func106 (by kernel_rfl) rfl, fun _ => by kernel_rfl, (bb_high h2 cs ca hf).mono fun e w' h => h⟩
theorem tt_get (h : TT X w v d room l) (cs ca : Int) (hf : fit64 ca) : IMe w v "Get" #[.agg #[.int .i64 cs, .int .i64 ca]] fun e w' => e = .returned (optS (getS (kx cs ca) l)) ∧ Mod (fun _ => False) w w' := by
 obtain ⟨tb, ⟨rfl, rfl, h3, h4⟩ | ⟨rfl, h2⟩⟩ := h
 ·exact ⟨_, tb, 156, rfl, enters_of Tryz.func156 (by kernel_rfl) rfl, fun _ => by kernel_rfl, (rb_get h4 cs ca hf).mono fun e w' h => h⟩
 ·exact ⟨_, tb, 105, rfl, enters_of Tryz.func105 (by kernel_rfl) rfl, fun _ => by kernel_rfl, (bb_get h2 cs ca hf).mono fun e w' h => h⟩
theorem tt_first (h : TT X w v d room l) : IMe w v "First" #[] fun e w' => e = .returned (optS l.head?) ∧ Mod (fun _ => False) w w' := by
 obtain ⟨tb, ⟨rfl, rfl, h3, h4⟩ | ⟨rfl, h2⟩⟩ := h
 ·exact ⟨_, tb, 154, rfl, enters_of Tryz.func154 (by kernel_rfl) rfl, fun _ => by kernel_rfl, (rb_first h4).mono fun e w' h => h⟩
 ·exact ⟨_, tb, 103, rfl, enters_of Tryz.func103 (by kernel_rfl) rfl, fun _ => by kernel_rfl, (bb_first h2).mono fun e w' h => h⟩
theorem tt_last (h : TT X w v d room l) : IMe w v "Last" #[] fun e w' => e = .returned (optS l.getLast?) ∧ Mod (fun _ => False) w w' := by
 obtain ⟨tb, ⟨rfl, rfl, h3, h4⟩ | ⟨rfl, h2⟩⟩ := h
 ·exact ⟨_, tb, 158, rfl, enters_of Tryz.func158 (by kernel_rfl) rfl, fun _ => by kernel_rfl, (rb_last h4).mono fun e w' h => h⟩
 ·exact ⟨_, tb, 107, rfl, enters_of Tryz.func107 (by kernel_rfl) rfl, fun _ => by kernel_rfl, (bb_last h2).mono fun e w' h => h⟩
theorem tt_len (h : TT X w v d room l) : IMe w v "Len" #[] fun e w' => e = .returned (.int .i64 l.length) ∧ Mod (fun _ => False) w w' := by
 obtain ⟨tb, ⟨rfl, rfl, h3, h4⟩ | ⟨rfl, h2⟩⟩ := h
 ·exact ⟨_, tb, 159, rfl, enters_of Tryz.func159 (by kernel_rfl) rfl, fun _ => by kernel_rfl, (rb_len h4).mono fun e w' h => h⟩
 ·exact ⟨_, tb, 108, rfl, enters_of Tryz.func108 (by kernel_rfl) rfl, fun _ => by kernel_rfl, (bb_len h2).mono fun e w' h => h⟩
theorem tt_room (h : TT X w v d room l) : IMe w v "Room" #[] fun e w' => e = .returned (.int .i64 room) ∧ Mod (fun _ => False) w w' := by
 obtain ⟨tb, ⟨rfl, rfl, h3, h4⟩ | ⟨rfl, h2⟩⟩ := h
 ·exact ⟨_, tb, 162, rfl, enters_of Tryz.func162 (by kernel_rfl) rfl, fun _ => by kernel_rfl, (rb_room h4).mono fun e w' h => h⟩
 ·exact ⟨_, tb, 111, rfl, enters_of Tryz.func111 (by kernel_rfl) rfl, fun _ => by kernel_rfl, (bb_room h2).mono fun e w' h => h⟩
theorem tt_put (h : TT X w v d room l) (s : Sg) (hf : fit64 s.la) : IMe w v "Put" #[.agg (encS s).toArray] fun e w' => e = .returned (.int .i64 (putE room s l)) ∧ TT (fun k => X k ∨ w.heap.size ≤ k) w' v d room (putL room s l) ∧ Mod X w w' := by
 obtain ⟨tb, ⟨rfl, rfl, h3, h4⟩ | ⟨rfl, h2⟩⟩ := h
 ·exact ⟨_, tb, 161, rfl, enters_of Tryz.func161 (by kernel_rfl) rfl, fun _ => by kernel_rfl, (rb_put h4 s hf).mono fun e w' ⟨a, b, c⟩ => ⟨a, ⟨tb, .inl ⟨rfl, rfl, h3, b⟩⟩, c⟩⟩
 ·exact ⟨_, tb, 110, rfl, enters_of Tryz.func110 (by kernel_rfl) rfl, fun _ => by kernel_rfl, (bb_put h2 s hf).mono fun e w' ⟨a, b, c⟩ => ⟨a, ⟨tb, .inr ⟨rfl, b⟩⟩, c⟩⟩
theorem tt_del (h : TT X w v d room l) (cs ca : Int) (hf : fit64 ca) : IMe w v "Delete" #[.agg #[.int .i64 cs, .int .i64 ca]] fun e w' => e = .returned (.bool (hasK (kx cs ca) l)) ∧ TT (fun k => X k ∨ w.heap.size ≤ k) w' v d room (delL (kx cs ca) l) ∧ Mod X w w' := by
 obtain ⟨tb, ⟨rfl, rfl, h3, h4⟩ | ⟨rfl, h2⟩⟩ := h
 ·exact ⟨_, tb, 153, rfl, enters_of Tryz.func153 (by kernel_rfl) rfl, fun _ => by kernel_rfl, (rb_del h4 cs ca hf).mono fun e w' ⟨a, b, c⟩ => ⟨a, ⟨tb, .inl ⟨rfl, rfl, h3, b⟩⟩, c⟩⟩
 ·exact ⟨_, tb, 102, rfl, enters_of Tryz.func102 (by kernel_rfl) rfl, fun _ => by kernel_rfl, (bb_del h2 cs ca hf).mono fun e w' ⟨a, b, c⟩ => ⟨a, ⟨tb, .inr ⟨rfl, b⟩⟩, c⟩⟩
theorem tt_clear (h : TT X w v d room l) : IMe w v "Clear" #[] fun e w' => e = .returned (.tuple #[]) ∧ TT (fun k => X k ∨ w.heap.size ≤ k) w' v d room [] ∧ Mod X w w' := by
 obtain ⟨tb, ⟨rfl, rfl, h3, h4⟩ | ⟨rfl, h2⟩⟩ := h
 ·exact ⟨_, tb, 152, rfl, enters_of Tryz.func152 (by kernel_rfl) rfl, fun _ => by kernel_rfl, (rb_clear h4).mono fun e w' ⟨a, b, c⟩ => ⟨a, ⟨tb, .inl ⟨rfl, rfl, h3, b⟩⟩, c⟩⟩
 ·exact ⟨_, tb, 101, rfl, enters_of Tryz.func101 (by kernel_rfl) rfl, fun _ => by kernel_rfl, (bb_clear h2).mono fun e w' ⟨a, b, c⟩ => ⟨a, ⟨tb, .inr ⟨rfl, b⟩⟩, c⟩⟩
set_option maxRecDepth 100000 in
theorem om_floor (h : OM X w mb d room l) (cs ca : Int) (hf : fit64 ca) : Calls Tryz.prog 18 #[.pointer (some ⟨mb, 0, none⟩), .agg #[.int .i64 cs, .int .i64 ca]] w fun e w' => e = .returned (optS (nearS false true (kx cs ca) l)) ∧ Mod (fun _ => False) w w' := by
 obtain ⟨v, hb, hX, hT⟩ := h
 obtain ⟨wa, hwa, ba, Ma⟩ := boxC w cs ca
 obtain ⟨w0, hw0, b0, M0⟩ := boxZ wa
 have hg := hid Ma.size
 replace ba := M0.heap ba fun h => h
 replace M0 := Ma.trans' M0
 clear Ma
 replace hb := M0.heap hb fun h => h
 replace hT := hT.mod0 M0
 obtain ⟨T, tb, K, rfl, hn, hm, HC⟩ := IMe.cm (fun w' M => tt_floor (hT.mod0 M) cs ca hf)
 generalize (nearS false true (kx cs ca) l) = o at HC ⊢
 obtain ⟨s, hs⟩ : ∃ s, oS o = s := ⟨_, rfl⟩
 unfold optS at HC
 rw [hs] at HC
 simp only [List.append_toArray, List.cons_append, List.nil_append] at HC
 replace hs := hid hs
 have HB := hid fun w' (M : CM w0 w') => And.intro (blkc (Mod.heap M hb fun h => h)) (blkc (Mod.heap M ba fun h => h))
 clear hT hX hb
 go_enter Tryz.func18, Tryz.ntmps18
 go_wp2_with fail
 refine cq_tail 8 (by kernel_rfl) (by kernel_rfl) ?_
 simp only [List.take_succ_cons, List.take_zero, List.drop_succ_cons, List.drop_zero]
 iterate 8 (refine wpQuiet_step (fun K hK => ?_); go_simp; first | (refine hK _ ?_; clear hK K) | (refine ⟨_, fun _ _ => rfl, hK _ ?_⟩; clear hK K) | (apply Exists.intro; refine ⟨fun wq hq => ?_, hK _ ?_⟩; (focus (first | (with_reducible exact HC.out _ hq) | (obtain ⟨⟨t0, t1⟩, t2, t3⟩ := HB.out _ hq; go_simp; try with_reducible rfl))); clear hK K))
 refine wpQuiet_nil ?_
 intro w3 M3
 have b3 := Mod.heap M3 b0 fun h => h
 replace M0 := M0.trans' M3
 clear M3 b0 HB HC hm
 obtain ⟨d0, e0⟩ := blkc b3
 go_wp2_with fail
 obtain ⟨b4, M4⟩ := store5 (a' := .int .i64 s.ls) (b' := .int .i64 s.la) (c' := .int .i64 s.hs) (d' := .int .i64 s.ha) (e' := .int .i64 s.v) b3 hg.out M0
 exact ret_row_tmp wa.heap.size [.int .i64 s.ls, .int .i64 s.la, .int .i64 s.hs, .int .i64 s.ha, .int .i64 s.v] rfl rfl b4 Tryz.underlying38 rfl (by kernel_rfl) rfl ⟨by first | rfl | (unfold optS; rw [hs.out]; rfl), M4⟩
set_option maxRecDepth 100000 in
theorem om_lower (h : OM X w mb d room l) (cs ca : Int) (hf : fit64 ca) : Calls Tryz.prog 19 #[.pointer (some ⟨mb, 0, none⟩), .agg #[.int .i64 cs, .int .i64 ca]] w fun e w' => e = .returned (optS (nearS false false (kx cs ca) l)) ∧ Mod (fun _ => False) w w' := by
 obtain ⟨v, hb, hX, hT⟩ := h
 obtain ⟨wa, hwa, ba, Ma⟩ := boxC w cs ca
 obtain ⟨w0, hw0, b0, M0⟩ := boxZ wa
 have hg := hid Ma.size
 replace ba := M0.heap ba fun h => h
 replace M0 := Ma.trans' M0
 clear Ma
 replace hb := M0.heap hb fun h => h
 replace hT := hT.mod0 M0
 obtain ⟨T, tb, K, rfl, hn, hm, HC⟩ := IMe.cm (fun w' M => tt_lower (hT.mod0 M) cs ca hf)
 generalize (nearS false false (kx cs ca) l) = o at HC ⊢
 obtain ⟨s, hs⟩ : ∃ s, oS o = s := ⟨_, rfl⟩
 unfold optS at HC
 rw [hs] at HC
 simp only [List.append_toArray, List.cons_append, List.nil_append] at HC
 replace hs := hid hs
 have HB := hid fun w' (M : CM w0 w') => And.intro (blkc (Mod.heap M hb fun h => h)) (blkc (Mod.heap M ba fun h => h))
 clear hT hX hb
 go_enter Tryz.func19, Tryz.ntmps19
 go_wp2_with fail
 refine cq_tail 8 (by kernel_rfl) (by kernel_rfl) ?_
 simp only [List.take_succ_cons, List.take_zero, List.drop_succ_cons, List.drop_zero]
 iterate 8 (refine wpQuiet_step (fun K hK => ?_); go_simp; first | (refine hK _ ?_; clear hK K) | (refine ⟨_, fun _ _ => rfl, hK _ ?_⟩; clear hK K) | (apply Exists.intro; refine ⟨fun wq hq => ?_, hK _ ?_⟩; (focus (first | (with_reducible exact HC.out _ hq) | (obtain ⟨⟨t0, t1⟩, t2, t3⟩ := HB.out _ hq; go_simp; try with_reducible rfl))); clear hK K))
 refine wpQuiet_nil ?_
 intro w3 M3
 have b3 := Mod.heap M3 b0 fun h => h
 replace M0 := M0.trans' M3
 clear M3 b0 HB HC hm
 obtain ⟨d0, e0⟩ := blkc b3
 go_wp2_with fail
 obtain ⟨b4, M4⟩ := store5 (a' := .int .i64 s.ls) (b' := .int .i64 s.la) (c' := .int .i64 s.hs) (d' := .int .i64 s.ha) (e' := .int .i64 s.v) b3 hg.out M0
 exact ret_row_tmp wa.heap.size [.int .i64 s.ls, .int .i64 s.la, .int .i64 s.hs, .int .i64 s.ha, .int .i64 s.v] rfl rfl b4 Tryz.underlying38 rfl (by kernel_rfl) rfl ⟨by first | rfl | (unfold optS; rw [hs.out]; rfl), M4⟩
set_option maxRecDepth 100000 in
theorem om_ceil (h : OM X w mb d room l) (cs ca : Int) (hf : fit64 ca) : Calls Tryz.prog 20 #[.pointer (some ⟨mb, 0, none⟩), .agg #[.int .i64 cs, .int .i64 ca]] w fun e w' => e = .returned (optS (nearS true true (kx cs ca) l)) ∧ Mod (fun _ => False) w w' := by
 obtain ⟨v, hb, hX, hT⟩ := h
 obtain ⟨wa, hwa, ba, Ma⟩ := boxC w cs ca
 obtain ⟨w0, hw0, b0, M0⟩ := boxZ wa
 have hg := hid Ma.size
 replace ba := M0.heap ba fun h => h
 replace M0 := Ma.trans' M0
 clear Ma
 replace hb := M0.heap hb fun h => h
 replace hT := hT.mod0 M0
 obtain ⟨T, tb, K, rfl, hn, hm, HC⟩ := IMe.cm (fun w' M => tt_ceil (hT.mod0 M) cs ca hf)
 generalize (nearS true true (kx cs ca) l) = o at HC ⊢
 obtain ⟨s, hs⟩ : ∃ s, oS o = s := ⟨_, rfl⟩
 unfold optS at HC
 rw [hs] at HC
 simp only [List.append_toArray, List.cons_append, List.nil_append] at HC
 replace hs := hid hs
 have HB := hid fun w' (M : CM w0 w') => And.intro (blkc (Mod.heap M hb fun h => h)) (blkc (Mod.heap M ba fun h => h))
 clear hT hX hb
 go_enter Tryz.func20, Tryz.ntmps20
 go_wp2_with fail
 refine cq_tail 8 (by kernel_rfl) (by kernel_rfl) ?_
 simp only [List.take_succ_cons, List.take_zero, List.drop_succ_cons, List.drop_zero]
 iterate 8 (refine wpQuiet_step (fun K hK => ?_); go_simp; first | (refine hK _ ?_; clear hK K) | (refine ⟨_, fun _ _ => rfl, hK _ ?_⟩; clear hK K) | (apply Exists.intro; refine ⟨fun wq hq => ?_, hK _ ?_⟩; (focus (first | (with_reducible exact HC.out _ hq) | (obtain ⟨⟨t0, t1⟩, t2, t3⟩ := HB.out _ hq; go_simp; try with_reducible rfl))); clear hK K))
 refine wpQuiet_nil ?_
 intro w3 M3
 have b3 := Mod.heap M3 b0 fun h => h
 replace M0 := M0.trans' M3
 clear M3 b0 HB HC hm
 obtain ⟨d0, e0⟩ := blkc b3
 go_wp2_with fail
 obtain ⟨b4, M4⟩ := store5 (a' := .int .i64 s.ls) (b' := .int .i64 s.la) (c' := .int .i64 s.hs) (d' := .int .i64 s.ha) (e' := .int .i64 s.v) b3 hg.out M0
 exact ret_row_tmp wa.heap.size [.int .i64 s.ls, .int .i64 s.la, .int .i64 s.hs, .int .i64 s.ha, .int .i64 s.v] rfl rfl b4 Tryz.underlying38 rfl (by kernel_rfl) rfl ⟨by first | rfl | (unfold optS; rw [hs.out]; rfl), M4⟩
set_option maxRecDepth 100000 in
theorem om_high (h : OM X w mb d room l) (cs ca : Int) (hf : fit64 ca) : Calls Tryz.prog 21 #[.pointer (some ⟨mb, 0, none⟩), .agg #[.int .i64 cs, .int .i64 ca]] w fun e w' => e = .returned (optS (nearS true false (kx cs ca) l)) ∧ Mod (fun _ => False) w w' := by
 obtain ⟨v, hb, hX, hT⟩ := h
 obtain ⟨wa, hwa, ba, Ma⟩ := boxC w cs ca
 obtain ⟨w0, hw0, b0, M0⟩ := boxZ wa
 have hg := hid Ma.size
 replace ba := M0.heap ba fun h => h
 replace M0 := Ma.trans' M0
 clear Ma
 replace hb := M0.heap hb fun h => h
 replace hT := hT.mod0 M0
 obtain ⟨T, tb, K, rfl, hn, hm, HC⟩ := IMe.cm (fun w' M => tt_high (hT.mod0 M) cs ca hf)
 generalize (nearS true false (kx cs ca) l) = o at HC ⊢
 obtain ⟨s, hs⟩ : ∃ s, oS o = s := ⟨_, rfl⟩
 unfold optS at HC
 rw [hs] at HC
 simp only [List.append_toArray, List.cons_append, List.nil_append] at HC
 replace hs := hid hs
 have HB := hid fun w' (M : CM w0 w') => And.intro (blkc (Mod.heap M hb fun h => h)) (blkc (Mod.heap M ba fun h => h))
 clear hT hX hb
 go_enter Tryz.func21, Tryz.ntmps21
 go_wp2_with fail
 refine cq_tail 8 (by kernel_rfl) (by kernel_rfl) ?_
 simp only [List.take_succ_cons, List.take_zero, List.drop_succ_cons, List.drop_zero]
 iterate 8 (refine wpQuiet_step (fun K hK => ?_); go_simp; first | (refine hK _ ?_; clear hK K) | (refine ⟨_, fun _ _ => rfl, hK _ ?_⟩; clear hK K) | (apply Exists.intro; refine ⟨fun wq hq => ?_, hK _ ?_⟩; (focus (first | (with_reducible exact HC.out _ hq) | (obtain ⟨⟨t0, t1⟩, t2, t3⟩ := HB.out _ hq; go_simp; try with_reducible rfl))); clear hK K))
 refine wpQuiet_nil ?_
 intro w3 M3
 have b3 := Mod.heap M3 b0 fun h => h
 replace M0 := M0.trans' M3
 clear M3 b0 HB HC hm
 obtain ⟨d0, e0⟩ := blkc b3
 go_wp2_with fail
 obtain ⟨b4, M4⟩ := store5 (a' := .int .i64 s.ls) (b' := .int .i64 s.la) (c' := .int .i64 s.hs) (d' := .int .i64 s.ha) (e' := .int .i64 s.v) b3 hg.out M0
 exact ret_row_tmp wa.heap.size [.int .i64 s.ls, .int .i64 s.la, .int .i64 s.hs, .int .i64 s.ha, .int .i64 s.v] rfl rfl b4 Tryz.underlying38 rfl (by kernel_rfl) rfl ⟨by first | rfl | (unfold optS; rw [hs.out]; rfl), M4⟩
set_option maxRecDepth 100000 in
theorem om_get (h : OM X w mb d room l) (cs ca : Int) (hf : fit64 ca) : Calls Tryz.prog 23 #[.pointer (some ⟨mb, 0, none⟩), .agg #[.int .i64 cs, .int .i64 ca]] w fun e w' => e = .returned (optS (getS (kx cs ca) l)) ∧ Mod (fun _ => False) w w' := by
 obtain ⟨v, hb, hX, hT⟩ := h
 obtain ⟨wa, hwa, ba, Ma⟩ := boxC w cs ca
 obtain ⟨w0, hw0, b0, M0⟩ := boxZ wa
 have hg := hid Ma.size
 replace ba := M0.heap ba fun h => h
 replace M0 := Ma.trans' M0
 clear Ma
 replace hb := M0.heap hb fun h => h
 replace hT := hT.mod0 M0
 obtain ⟨T, tb, K, rfl, hn, hm, HC⟩ := IMe.cm (fun w' M => tt_get (hT.mod0 M) cs ca hf)
 generalize (getS (kx cs ca) l) = o at HC ⊢
 obtain ⟨s, hs⟩ : ∃ s, oS o = s := ⟨_, rfl⟩
 unfold optS at HC
 rw [hs] at HC
 simp only [List.append_toArray, List.cons_append, List.nil_append] at HC
 replace hs := hid hs
 have HB := hid fun w' (M : CM w0 w') => And.intro (blkc (Mod.heap M hb fun h => h)) (blkc (Mod.heap M ba fun h => h))
 clear hT hX hb
 go_enter Tryz.func23, Tryz.ntmps23
 go_wp2_with fail
 refine cq_tail 8 (by kernel_rfl) (by kernel_rfl) ?_
 simp only [List.take_succ_cons, List.take_zero, List.drop_succ_cons, List.drop_zero]
 iterate 8 (refine wpQuiet_step (fun K hK => ?_); go_simp; first | (refine hK _ ?_; clear hK K) | (refine ⟨_, fun _ _ => rfl, hK _ ?_⟩; clear hK K) | (apply Exists.intro; refine ⟨fun wq hq => ?_, hK _ ?_⟩; (focus (first | (with_reducible exact HC.out _ hq) | (obtain ⟨⟨t0, t1⟩, t2, t3⟩ := HB.out _ hq; go_simp; try with_reducible rfl))); clear hK K))
 refine wpQuiet_nil ?_
 intro w3 M3
 have b3 := Mod.heap M3 b0 fun h => h
 replace M0 := M0.trans' M3
 clear M3 b0 HB HC hm
 obtain ⟨d0, e0⟩ := blkc b3
 go_wp2_with fail
 obtain ⟨b4, M4⟩ := store5 (a' := .int .i64 s.ls) (b' := .int .i64 s.la) (c' := .int .i64 s.hs) (d' := .int .i64 s.ha) (e' := .int .i64 s.v) b3 hg.out M0
 exact ret_row_tmp wa.heap.size [.int .i64 s.ls, .int .i64 s.la, .int .i64 s.hs, .int .i64 s.ha, .int .i64 s.v] rfl rfl b4 Tryz.underlying38 rfl (by kernel_rfl) rfl ⟨by first | rfl | (unfold optS; rw [hs.out]; rfl), M4⟩
set_option maxRecDepth 100000 in
theorem om_first (h : OM X w mb d room l) : Calls Tryz.prog 25 #[.pointer (some ⟨mb, 0, none⟩)] w fun e w' => e = .returned (optS l.head?) ∧ Mod (fun _ => False) w w' := by
 obtain ⟨v, hb, hX, hT⟩ := h
 obtain ⟨w0, hw0, b0, M0⟩ := boxZ w
 have hg := hid (Nat.le_refl w.heap.size)
 replace hb := M0.heap hb fun h => h
 obtain ⟨T, tb, K, rfl, hn, hm, hc⟩ := tt_first (hT.mod0 M0)
 obtain ⟨c0, f0⟩ := blkc hb
 generalize l.head? = o at hc ⊢
 obtain ⟨s, hs⟩ : ∃ s, oS o = s := ⟨_, rfl⟩
 unfold optS at hc
 rw [hs] at hc
 replace hs := hid hs
 clear hT hX hb
 go_enter Tryz.func25, Tryz.ntmps25
 go_wp2_with fail
 refine hc.mono ?_; rintro e w3 ⟨rfl, M3⟩
 have b3 := Mod.heap M3 b0 fun h => h
 replace M0 := M0.trans' M3
 clear M3 b0 hc hm hn
 obtain ⟨d0, e0⟩ := blkc b3
 go_wp2_with fail
 obtain ⟨b4, M4⟩ := store5 (a' := .int .i64 s.ls) (b' := .int .i64 s.la) (c' := .int .i64 s.hs) (d' := .int .i64 s.ha) (e' := .int .i64 s.v) b3 hg.out M0
 exact ret_row_tmp w.heap.size [.int .i64 s.ls, .int .i64 s.la, .int .i64 s.hs, .int .i64 s.ha, .int .i64 s.v] rfl rfl b4 Tryz.underlying38 rfl (by kernel_rfl) rfl ⟨by first | rfl | (unfold optS; rw [hs.out]; rfl), M4⟩
set_option maxRecDepth 100000 in
theorem om_last (h : OM X w mb d room l) : Calls Tryz.prog 16 #[.pointer (some ⟨mb, 0, none⟩)] w fun e w' => e = .returned (optS l.getLast?) ∧ Mod (fun _ => False) w w' := by
 obtain ⟨v, hb, hX, hT⟩ := h
 obtain ⟨w0, hw0, b0, M0⟩ := boxZ w
 have hg := hid (Nat.le_refl w.heap.size)
 replace hb := M0.heap hb fun h => h
 obtain ⟨T, tb, K, rfl, hn, hm, hc⟩ := tt_last (hT.mod0 M0)
 obtain ⟨c0, f0⟩ := blkc hb
 generalize l.getLast? = o at hc ⊢
 obtain ⟨s, hs⟩ : ∃ s, oS o = s := ⟨_, rfl⟩
 unfold optS at hc
 rw [hs] at hc
 replace hs := hid hs
 clear hT hX hb
 go_enter Tryz.func16, Tryz.ntmps16
 go_wp2_with fail
 refine hc.mono ?_; rintro e w3 ⟨rfl, M3⟩
 have b3 := Mod.heap M3 b0 fun h => h
 replace M0 := M0.trans' M3
 clear M3 b0 hc hm hn
 obtain ⟨d0, e0⟩ := blkc b3
 go_wp2_with fail
 obtain ⟨b4, M4⟩ := store5 (a' := .int .i64 s.ls) (b' := .int .i64 s.la) (c' := .int .i64 s.hs) (d' := .int .i64 s.ha) (e' := .int .i64 s.v) b3 hg.out M0
 exact ret_row_tmp w.heap.size [.int .i64 s.ls, .int .i64 s.la, .int .i64 s.hs, .int .i64 s.ha, .int .i64 s.v] rfl rfl b4 Tryz.underlying38 rfl (by kernel_rfl) rfl ⟨by first | rfl | (unfold optS; rw [hs.out]; rfl), M4⟩
set_option maxRecDepth 100000 in
theorem om_len (h : OM X w mb d room l) : Calls Tryz.prog 38 #[.pointer (some ⟨mb, 0, none⟩)] w fun e w' => e = .returned (.int .i64 l.length) ∧ Mod (fun _ => False) w w' := by
 obtain ⟨v, hb, hX, hT⟩ := h
 obtain ⟨T, tb, K, rfl, hn, hm, hc⟩ := tt_len hT
 obtain ⟨c0, f0⟩ := blkc hb
 have hlt := blkl hb
 replace hb := hid hb
 replace hlt := hid hlt
 clear hT
 go_enter Tryz.func38, Tryz.ntmps38
 go_wp2_with fail
 refine hc.mono ?_
 rintro e w1 ⟨rfl, M1⟩
 clear hn hm hc
 go_wp2_with fail
 go_ret
 exact ⟨rfl, M1⟩
set_option maxRecDepth 100000 in
theorem om_room (h : OM X w mb d room l) : Calls Tryz.prog 40 #[.pointer (some ⟨mb, 0, none⟩)] w fun e w' => e = .returned (.int .i64 room) ∧ Mod (fun _ => False) w w' := by
 obtain ⟨v, hb, hX, hT⟩ := h
 obtain ⟨T, tb, K, rfl, hn, hm, hc⟩ := tt_room hT
 obtain ⟨c0, f0⟩ := blkc hb
 have hlt := blkl hb
 replace hb := hid hb
 replace hlt := hid hlt
 clear hT
 go_enter Tryz.func40, Tryz.ntmps40
 go_wp2_with fail
 refine hc.mono ?_
 rintro e w1 ⟨rfl, M1⟩
 clear hn hm hc
 go_wp2_with fail
 go_ret
 exact ⟨rfl, M1⟩
set_option maxRecDepth 100000 in
theorem om_put (h : OM X w mb d room l) (s : Sg) (hf : fit64 s.la) : Calls Tryz.prog 36 #[.pointer (some ⟨mb, 0, none⟩), .agg (encS s).toArray] w fun e w' => e = .returned (.int .i64 (putE room s l)) ∧ OM (fun k => X k ∨ w.heap.size ≤ k) w' mb d room (putL room s l) ∧ Mod X w w' := by
 obtain ⟨v, hb, hX, hT⟩ := h
 obtain ⟨w0, hw0, b0, M0⟩ := boxS w s
 have hlt := blkl hb
 replace hb := M0.heap hb fun h => h
 replace hT := hT.mod0 M0
 obtain ⟨T, tb, K, rfl, hn, hm, _⟩ := tt_put hT s hf
 have HB := hid fun w' (M : CM w0 w') => And.intro (blkc (Mod.heap M hb fun h => h)) (blkc (Mod.heap M b0 fun h => h))
 have HC : Hid (∀ w' (M : CM w0 w'), Calls Tryz.prog K _ w' _) := hid fun w' M => by
  obtain ⟨T', tb', K', e, _, hm', hc⟩ := tt_put (hT.mod0 M) s hf
  cases e
  have e1 := hm w
  rw [hm' w] at e1
  cases e1
  exact hc
 replace hlt := hid hlt
 replace hb := hid hb
 clear hT
 obtain ⟨ls, la, hs, ha, sv⟩ := s
 simp only [encS] at *
 go_enter Tryz.func36, Tryz.ntmps36
 go_wp2_with fail
 refine cq_mid 5 _ (by kernel_rfl) (by kernel_rfl) rfl rfl ?_
 simp only [List.take_succ_cons, List.take_zero, List.drop_succ_cons, List.drop_zero]
 iterate 5 (refine wpQuiet_step (fun K hK => ?_); go_simp; first | (refine hK _ ?_; clear hK K) | (refine ⟨_, fun _ _ => rfl, hK _ ?_⟩; clear hK K) | (apply Exists.intro; refine ⟨fun wq hq => ?_, hK _ ?_⟩; (focus (first  | (obtain ⟨⟨t0, t1⟩, t2, t3⟩ := HB.out _ hq; go_simp; try with_reducible rfl))); clear hK K))
 refine wpQuiet_nil ?_
 intro w3 M3 K hK
 go_simp
 refine (HC.out w3 M3).mono ?_
 rintro e w1 ⟨rfl, R1, M1⟩
 refine hK _ _ ?_
 clear hK K
 iterate 1 (refine wpQuiet_step (fun K hK => ?_); go_simp; first | (refine hK _ ?_; clear hK K) | (refine ⟨_, fun _ _ => rfl, hK _ ?_⟩; clear hK K) | (apply Exists.intro; refine ⟨fun wq hq => ?_, hK _ ?_⟩; (focus (first  | (skip; go_simp; try with_reducible rfl))); clear hK K))
 refine wpQuiet_nil ?_
 intro w4 M4
 go_wp2_with fail
 go_ret
 obtain ⟨a1, a2⟩ := OM.tree (M3.heap hb.out fun h => h) hX hlt.out R1 M1 (M0.trans' M3)
 exact ⟨rfl, a1.mod0 M4, a2.trans M4 fun _ h => h.elim⟩
set_option maxRecDepth 100000 in
theorem om_del (h : OM X w mb d room l) (cs ca : Int) (hf : fit64 ca) : Calls Tryz.prog 15 #[.pointer (some ⟨mb, 0, none⟩), .agg #[.int .i64 cs, .int .i64 ca]] w fun e w' => e = .returned (.bool (hasK (kx cs ca) l)) ∧ OM (fun k => X k ∨ w.heap.size ≤ k) w' mb d room (delL (kx cs ca) l) ∧ Mod X w w' := by
 obtain ⟨v, hb, hX, hT⟩ := h
 obtain ⟨w0, hw0, b0, M0⟩ := boxC w cs ca
 have hlt := blkl hb
 replace hb := M0.heap hb fun h => h
 replace hT := hT.mod0 M0
 obtain ⟨T, tb, K, rfl, hn, hm, _⟩ := tt_del hT cs ca hf
 have HB := hid fun w' (M : CM w0 w') => And.intro (blkc (Mod.heap M hb fun h => h)) (blkc (Mod.heap M b0 fun h => h))
 have HC : Hid (∀ w' (M : CM w0 w'), Calls Tryz.prog K _ w' _) := hid fun w' M => by
  obtain ⟨T', tb', K', e, _, hm', hc⟩ := tt_del (hT.mod0 M) cs ca hf
  cases e
  have e1 := hm w
  rw [hm' w] at e1
  cases e1
  exact hc
 replace hlt := hid hlt
 replace hb := hid hb
 clear hT
 go_enter Tryz.func15, Tryz.ntmps15
 go_wp2_with fail
 refine cq_mid 5 _ (by kernel_rfl) (by kernel_rfl) rfl rfl ?_
 simp only [List.take_succ_cons, List.take_zero, List.drop_succ_cons, List.drop_zero]
 iterate 5 (refine wpQuiet_step (fun K hK => ?_); go_simp; first | (refine hK _ ?_; clear hK K) | (refine ⟨_, fun _ _ => rfl, hK _ ?_⟩; clear hK K) | (apply Exists.intro; refine ⟨fun wq hq => ?_, hK _ ?_⟩; (focus (first  | (obtain ⟨⟨t0, t1⟩, t2, t3⟩ := HB.out _ hq; go_simp; try with_reducible rfl))); clear hK K))
 refine wpQuiet_nil ?_
 intro w3 M3 K hK
 go_simp
 refine (HC.out w3 M3).mono ?_
 rintro e w1 ⟨rfl, R1, M1⟩
 refine hK _ _ ?_
 clear hK K
 iterate 1 (refine wpQuiet_step (fun K hK => ?_); go_simp; first | (refine hK _ ?_; clear hK K) | (refine ⟨_, fun _ _ => rfl, hK _ ?_⟩; clear hK K) | (apply Exists.intro; refine ⟨fun wq hq => ?_, hK _ ?_⟩; (focus (first  | (skip; go_simp; try with_reducible rfl))); clear hK K))
 refine wpQuiet_nil ?_
 intro w4 M4
 go_wp2_with fail
 go_ret
 obtain ⟨a1, a2⟩ := OM.tree (M3.heap hb.out fun h => h) hX hlt.out R1 M1 (M0.trans' M3)
 exact ⟨rfl, a1.mod0 M4, a2.trans M4 fun _ h => h.elim⟩
set_option maxRecDepth 100000 in
theorem om_clear (h : OM X w mb d room l) : Calls Tryz.prog 35 #[.pointer (some ⟨mb, 0, none⟩)] w fun e w' => e = .returned (.tuple #[]) ∧ OM (fun k => X k ∨ w.heap.size ≤ k) w' mb d room [] ∧ Mod X w w' := by
 obtain ⟨v, hb, hX, hT⟩ := h
 obtain ⟨T, tb, K, rfl, hn, hm, hc⟩ := tt_clear hT
 obtain ⟨c0, f0⟩ := blkc hb
 have hlt := blkl hb
 replace hb := hid hb
 replace hlt := hid hlt
 clear hT
 go_enter Tryz.func35, Tryz.ntmps35
 go_wp2_with fail
 refine hc.mono ?_
 rintro e w1 ⟨rfl, R1, M1⟩
 clear hn hm hc
 go_wp2_with fail
 go_end0
 exact ⟨rfl, OM.tree hb.out hX hlt.out R1 M1 (Mod.refl _ _)⟩
end
open Go Go.RowKit
section
variable {P : Program} {ops : Array Oper} {md : Region.Mode} {C : World → Prop}
theorem cq_midW {id : Nat} {Q : Exit → Act → World → Prop} {a : Act} {w : World} {l : List Oper} (n : Nat) (o : Oper) (hm : P.follows .mixedOrders = true) (hB : midB .any l.toArray n = true) (ho : l[n]? = some o)
  (h : wpQuiet P l.toArray (CM w) (fun a' => Region.wanted o (yielded l.toArray a'.tmps) = true ∧ ∀ w', CM w w' → ∀ K : Act → World → Prop, (∀ a1 w1, wpQuiet P l.toArray (CM w1) (fun a2 => ∀ w2, CM w1 w2 → Q .normal a2 w2) (l.drop (n + 1)) a1 → K a1 w1) → o.wp P a' w' K Q) (l.take n) a) :
  (Code.region id l.toArray true).wp P Q a w := by
 simp only [midB, Bool.and_eq_true, decide_eq_true_eq] at hB
 obtain ⟨⟨⟨⟨hsel, hn⟩, hs⟩, hc⟩, hlex⟩ := hB
 have hn' : n < l.length := by simpa using hn
 have htl : (l.take n).length = n := by simp; omega
 have inv0 : HeadInv .any l.toArray n (Array.replicate l.toArray.size false) :=
  ⟨by simp, fun j oj _ hl => (by rw [getD_replicate_false] at hl; cases hl), fun t _ ht => getD_in (by simpa using ht) (getD_replicate_false _ _)⟩
 have H := HeadQ.lex2 (P := P) (C := CM w) (md := .any) (n := n) (B := midC .any l.toArray n) (fun listed hb j hj => by
   rw [(midC_spec hb).1] at hj
   have : j = n := by simpa using hj
   omega) hsel hs hc hn (l.take n) 0 _ a (fun j hj => by
  rw [htl] at hj
  simp [hj]) (by simpa using htl) inv0 (by rw [htl]; exact hlex) h
 refine wp_region_any hm ?_
 have := any_of_headQ (Q := Q) (g := l.toArray.size - n) (fun listed a' w' hw' hL => by
  obtain ⟨hb, hq⟩ := hL
  replace hb := midC_spec hb
  have hd : l.toArray.size - n = (l.drop (n + 1)).length + 1 := by simp; omega
  rw [hd]
  refine wpAny_all hb.1 (by simp) ?_
  intro i hi
  simp at hi
  subst hi
  unfold wpOp
  simp only [List.getElem?_toArray, ho]
  rw [if_pos (by simpa using hq.1)]
  refine .inl (hq.2 w' hw' _ fun a1 w1 hq1 => ?_)
  refine wpAny_of_quiet (C := CM w1) (Q := fun a' => ∀ w', CM w1 w' → Q .normal a' w') (fun _ w' hw' h => h w' hw') _ _ _ _ (Mod.refl _ _) ?_
  have hd2 : (l.drop (i + 1)).length = l.toArray.size - i - 1 := by simp; omega
  exact wpAnyQ_lex hsel (l.drop (i + 1)) (i + 1) _ _ (fun j => by simp) (by rw [hd2]; exact hb.2) hq1) _ _ _ w.drew ((Mod.refl _ w).drew) H
 have e : (l.take n).length + (l.toArray.size - n) = l.toArray.size := by rw [htl]; simp; omega
 rw [e] at this
 exact this
end
end Go.Proofs.Bo
