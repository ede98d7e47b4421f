/- Blocks that lie side by side are not the same; a step that turns two of them. Own library text. -/
import Derived.Test.YtfolnnmgnkalkaaCicRow2
namespace Go.Cic
set_option linter.unusedVariables false
open Go.RowKit
section
variable {B : Nat} {l : List Asrt} {w : World} {a b : Nat}
theorem Owns.ne_cc {cs ds : Array Value} {T U : TypeId} (h : Owns B (Asrt.cells a cs T :: Asrt.cells b ds U :: l) w) : a ≠ b := by
  obtain ⟨S1, S2, ⟨_, e1⟩, ⟨_, e2⟩, h4⟩ := Owns.apart h
  intro e
  exact h4 a ((e1 a).2 rfl) ((e2 a).2 e)
theorem Owns.ne_cm {P : Program} {k : TypeId} {α β : Type} [DecidableEq α] {E : Enc P k α} {V : β → Value} {M : List (α × β)} {cs : Array Value} {T : TypeId} (h : Owns B (Asrt.cells a cs T :: Asrt.map E V b M :: l) w) : a ≠ b := by
  obtain ⟨S1, S2, ⟨_, e1⟩, ⟨_, e2⟩, h4⟩ := Owns.apart h
  intro e
  exact h4 a ((e1 a).2 rfl) ((e2 a).2 e)
theorem Owns.ne_mm {P : Program} {k k' : TypeId} {α β α' β' : Type} [DecidableEq α] [DecidableEq α'] {E : Enc P k α} {V : β → Value} {M : List (α × β)} {E' : Enc P k' α'} {V' : β' → Value} {M' : List (α' × β')} (h : Owns B (Asrt.map E V a M :: Asrt.map E' V' b M' :: l) w) : a ≠ b := by
  obtain ⟨S1, S2, ⟨_, e1⟩, ⟨_, e2⟩, h4⟩ := Owns.apart h
  intro e
  exact h4 a ((e1 a).2 rfl) ((e2 a).2 e)
/-- Cells and a map that are turned in one step. -/
theorem Owns.step_cm {P : Program} {k : TypeId} {α β : Type} [DecidableEq α] {E : Enc P k α} {V : β → Value} {M M' : List (α × β)} {cs cs' : Array Value} {T : TypeId} {w' : World} (h : Owns B (Asrt.cells a cs T :: Asrt.map E V b M :: l) w) (hB : B ≤ w.heap.size)
    (h1 : w'.heap[a]? = some (.cells cs' T (0, 0))) (h2 : MapT E V w' b M') (hk : Keeps (fun x => x = a ∨ x = b) w w') : Owns B (Asrt.cells a cs' T :: Asrt.map E V b M' :: l) w' ∧ Below B w w' := by
  have hne := h.ne_cm
  have h3 := (Owns.star_iff.2 h).step (A' := Asrt.star (Asrt.cells a cs' T) (Asrt.map E V b M')) (w' := w') hB (by
    rintro S ⟨S1, S2, ⟨_, e1⟩, ⟨_, e2⟩, h4, h5⟩
    refine ⟨S, ⟨S1, S2, ⟨h1, e1⟩, ⟨h2, e2⟩, h4, h5⟩, fun b hb => .inl hb, hk.mono (fun x _ hx => ?_)⟩
    rw [h5]
    rcases hx with rfl | rfl
    · exact .inl ((e1 _).2 rfl)
    · exact .inr ((e2 _).2 rfl))
  exact ⟨Owns.star_iff.1 h3.1, h3.2⟩
end
end Go.Cic
