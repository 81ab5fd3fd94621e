set_option linter.unusedVariables false
namespace Go.Proofs.Bo
/-! Cuts as numbers. -/
def least64 : Int := -9223372036854775808
/-- A cut's place: 2^64 and its opposite are the ends. -/
def kx (s a : Int) : Int := if s < 0 ∨ (s = 0 ∧ a = least64) then -18446744073709551616 else if 0 < s then 18446744073709551616 else a
/-- The right cut. -/
def canS (s a : Int) : Int := if s < 0 ∨ (s = 0 ∧ a = least64) then -1 else if 0 < s then 1 else s
def canA (s a : Int) : Int := if s < 0 ∨ (s = 0 ∧ a = least64) then 0 else if 0 < s then 0 else a
def cmpI (x y : Int) : Int := if x < y then -1 else if y < x then 1 else 0
def orI (x y : Int) : Int := if x ≠ 0 then x else y
def fit64 (a : Int) : Prop := -9223372036854775808 ≤ a ∧ a ≤ 9223372036854775807

theorem can_lex {s a s' a' : Int} (h : fit64 a) (h' : fit64 a') : cmpI (kx s a) (kx s' a') = orI (cmpI (canS s a) (canS s' a')) (cmpI (canA s a) (canA s' a')) := by
  unfold orI
  unfold fit64 at h h'
  unfold cmpI kx canS canA least64
  grind
theorem can_idem (s a : Int) : canS (canS s a) (canA s a) = canS s a ∧ canA (canS s a) (canA s a) = canA s a := by
  unfold canS canA least64; grind
theorem kx_can (s a : Int) : kx (canS s a) (canA s a) = kx s a := by
  unfold kx canS canA least64; grind
theorem can_fit {s a : Int} (h : fit64 a) : fit64 (canA s a) := by
  unfold fit64 at *; unfold canA least64; grind
theorem kx_inj {s a s' a' : Int} (h : fit64 a) (h' : fit64 a') : kx s a = kx s' a' ↔ canS s a = canS s' a' ∧ canA s a = canA s' a' := by
  unfold fit64 at h h'
  unfold kx canS canA least64
  grind
theorem cmpI_lt {x y : Int} (h : x < y) : cmpI x y = -1 := by unfold cmpI; rw [if_pos h]
theorem cmpI_eq {x y : Int} (h : x = y) : cmpI x y = 0 := by unfold cmpI; rw [if_neg (by omega), if_neg (by omega)]
theorem cmpI_gt {x y : Int} (h : y < x) : cmpI x y = 1 := by unfold cmpI; rw [if_neg (by omega), if_pos h]
theorem cmpI_zero {x y : Int} : cmpI x y = 0 ↔ x = y := by unfold cmpI; grind
theorem cmpI_neg {x y : Int} : cmpI x y < 0 ↔ x < y := by unfold cmpI; grind
theorem cmpI_pos {x y : Int} : 0 < cmpI x y ↔ y < x := by unfold cmpI; grind
theorem cmpI_bd (x y : Int) : -1 ≤ cmpI x y ∧ cmpI x y ≤ 1 := by unfold cmpI; grind
/-- A cut that is right, and not the last one. -/
def okKey (s a : Int) : Prop := canS s a = s ∧ canA s a = a ∧ s ≤ 0
theorem okKey_lt {s a : Int} (h : okKey s a) (hf : fit64 a) : kx s a < 18446744073709551616 ∧ (s = -1 ∧ a = 0 ∨ s = 0 ∧ a ≠ least64 ∧ kx s a = a) := by
  unfold okKey canS canA at h; unfold kx least64 at *; unfold fit64 at hf
  grind
end Go.Proofs.Bo
