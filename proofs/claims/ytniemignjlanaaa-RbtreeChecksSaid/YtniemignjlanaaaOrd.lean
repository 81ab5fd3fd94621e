import Derived.Test.YtniemignjlanaaaRT4
import Derived.Test.YtniemignjlanaaaCutP
set_option linter.unusedVariables false
namespace Go.Proofs.Bo

/-! Keys, rows of segments. -/
def ky (s : Sg) : Int := kx s.ls s.la
def Srt (l : List Sg) : Prop := l.Pairwise (fun x y => ky x < ky y)
/-- A key that can stand in a tree. -/
def KeyOK (s : Sg) : Prop := okKey s.ls s.la ∧ fit64 s.la
/-- A row of a tree. -/
def Row (l : List Sg) : Prop := Srt l ∧ ∀ s ∈ l, KeyOK s

def T.size : T → Nat | .E => 0 | .N _ _ _ l r => l.size + r.size + 1
theorem size_toL : ∀ t : T, t.toL.length = t.size
  | .E => rfl
  | .N _ _ _ l r => by simp [T.toL, T.size, size_toL l, size_toL r]; omega
theorem size_ids : ∀ t : T, t.ids.length = t.size
  | .E => rfl
  | .N _ _ _ l r => by simp [T.ids, T.size, size_ids l, size_ids r]
theorem size_mk (d : Bool) (i : Int) (b : Bool) (s : Sg) (x y : T) : (T.mk d i b s x y).size = x.size + y.size + 1 := by cases d <;> simp [T.mk, T.size]; omega
theorem size_plug_le : ∀ (c : Ctx) (t : T), c.length + t.size ≤ (plug c t).size
  | [], t => by simp [plug]
  | a :: c, t => by
    have := size_plug_le c (T.mk a.d a.i a.red a.s t a.o)
    rw [size_mk] at this
    rw [plug]; simp only [List.length_cons]; omega

def cside : Ctx → Int | [] => 0 | a :: _ => di a.d

theorem Srt.app {a b : List Sg} {s : Sg} (h : Srt (a ++ s :: b)) : (∀ x ∈ a, ky x < ky s) ∧ ∀ x ∈ b, ky s < ky x := by
  unfold Srt at h
  rw [List.pairwise_append] at h
  refine ⟨fun x hx => h.2.2 x hx s (by simp), fun x hx => ?_⟩
  have := h.2.1
  rw [List.pairwise_cons] at this
  exact this.1 x hx
theorem toL_focus (c : Ctx) (i : Int) (b : Bool) (s : Sg) (l r : T) : (plug c (.N i b s l r)).toL = (cpre c ++ l.toL) ++ s :: (r.toL ++ cpost c) := by
  rw [toL_plug]; simp [T.toL]
theorem toL_sub {c : Ctx} {t : T} {s : Sg} (h : s ∈ t.toL) : s ∈ (plug c t).toL := by rw [toL_plug]; simp [h]
theorem cpre_sub {c : Ctx} {t : T} {s : Sg} (h : s ∈ cpre c) : s ∈ (plug c t).toL := by rw [toL_plug]; simp [h]
theorem cpost_sub {c : Ctx} {t : T} {s : Sg} (h : s ∈ cpost c) : s ∈ (plug c t).toL := by rw [toL_plug]; simp [h]
theorem Row.focus {c : Ctx} {i : Int} {b : Bool} {s : Sg} {l r : T} (h : Row (plug c (.N i b s l r)).toL) : (∀ x ∈ cpre c ++ l.toL, ky x < ky s) ∧ ∀ x ∈ r.toL ++ cpost c, ky s < ky x := by
  have := h.1; rw [toL_focus] at this; exact this.app
end Go.Proofs.Bo
