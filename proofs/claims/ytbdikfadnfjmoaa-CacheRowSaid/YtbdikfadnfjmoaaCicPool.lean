/- What stays as it is: facts that hang on the arguments' memory and on blocks that nobody writes any more. Own library text. -/
import Derived.Test.YtbdikfadnfjmoaaCicRow2
namespace Go.Cic
set_option linter.unusedVariables false
open Go.RowKit
/-- In every world that is like W0 below B, and like this one on S, p holds. -/
def Asrt.pool (W0 : World) (B : Nat) (p : World → Prop) : Asrt where
  holds w S := (∀ b, S b → b < w.heap.size) ∧ ∀ w' : World, (∀ k, k < B → w'.heap[k]? = W0.heap[k]?) → (∀ k, S k → w'.heap[k]? = w.heap[k]?) → p w'
  lt := fun h => h.1
  loc := by
    rintro w w' S ⟨h1, h2⟩ h
    refine ⟨fun b hb => ?_, fun w'' h3 h4 => h2 w'' h3 (fun k hk => (h4 k hk).trans (h k hk))⟩
    have h5 := h b hb
    rw [Array.getElem?_eq_getElem (h1 b hb)] at h5
    exact (Array.getElem?_eq_some_iff.1 h5).1
section
variable {B : Nat} {W0 w : World} {p q : World → Prop} {l : List Asrt} {A : Asrt}
theorem Owns.pool_init (h : Owns B l w) (hp : ∀ w' : World, (∀ k, k < B → w'.heap[k]? = W0.heap[k]?) → p w') : Owns B (Asrt.pool W0 B p :: l) w := by
  obtain ⟨S, h1, h2⟩ := h
  exact Owns.cons_iff.2 ⟨fun _ => False, S, ⟨fun _ h => h.elim, fun w' h _ => hp w' h⟩, h1, fun _ h => h.elim, fun _ h => h.elim, h2⟩
theorem Owns.pool_imp (h : Owns B (Asrt.pool W0 B p :: l) w) (hi : ∀ w, p w → q w) : Owns B (Asrt.pool W0 B q :: l) w :=
  h.imp fun S ⟨h1, h2⟩ => ⟨h1, fun w' h3 h4 => hi w' (h2 w' h3 h4)⟩
theorem Owns.pool_now (h : Owns B (Asrt.pool W0 B p :: l) w) (hb : Below B W0 w) (hB : B ≤ W0.heap.size) : p w := by
  obtain ⟨S, ⟨h1, h2⟩, _⟩ := h.head
  exact h2 w (fun k hk => hb.block k hk) (fun _ _ => rfl)
/-- For a call that reads it, and what it makes. -/
theorem Owns.pool_open (h : Owns B (Asrt.pool W0 B p :: l) w) (hb : Below B W0 w) (hB : B ≤ W0.heap.size) : ∃ ok : Nat → Prop, (∀ k, k < B → ok k) ∧
    (∀ w' : World, (∀ k, ok k → k < w.heap.size → w'.heap[k]? = w.heap[k]?) → p w') ∧
    ∀ (w' : World) (q : World → Prop), Below w.heap.size w w' → (∀ w'' : World, (∀ k, (ok k ∨ w.heap.size ≤ k) → k < w'.heap.size → w''.heap[k]? = w'.heap[k]?) → q w'') → Owns B (Asrt.pool W0 B (fun w => p w ∧ q w) :: l) w' := by
  obtain ⟨S, S2, ⟨h1, h2⟩, h3, h4, h5, h6⟩ := Owns.cons_iff.1 h
  have hsz : B ≤ w.heap.size := Nat.le_trans hB hb.size
  have hlt2 := (stars l).lt h3
  refine ⟨fun k => k < B ∨ S k, fun k hk => .inl hk, fun w' hw => h2 w' (fun k hk => (hw k (.inl hk) (by omega)).trans (hb.block k hk)) (fun k hk => hw k (.inr hk) (h1 k hk)), fun w' q hbw hq => ?_⟩
  refine Owns.cons_iff.2 ⟨fun k => S k ∨ (w.heap.size ≤ k ∧ k < w'.heap.size), S2, ⟨?_, fun w'' g1 g2 => ⟨?_, ?_⟩⟩, (stars l).loc h3 (fun b hb2 => hbw.block b (hlt2 b hb2)), ?_, ?_, h6⟩
  · rintro k (hk | hk)
    · exact Nat.lt_of_lt_of_le (h1 k hk) hbw.size
    · exact hk.2
  · exact h2 w'' g1 (fun k hk => (g2 k (.inl hk)).trans (hbw.block k (h1 k hk)))
  · refine hq w'' (fun k hk hlt => ?_)
    rcases hk with (hk | hk) | hk
    · exact (g1 k hk).trans ((hb.block k hk).symm.trans (hbw.block k (by omega)).symm)
    · exact g2 k (.inl hk)
    · exact g2 k (.inr ⟨hk, hlt⟩)
  · rintro k (hk | hk) hk2
    · exact h4 k hk hk2
    · have := hlt2 k hk2; omega
  · rintro k (hk | hk)
    · exact h5 k hk
    · omega
/-- What is owned, and isn't written any more. -/
theorem Owns.pool_take (h : Owns B (A :: Asrt.pool W0 B p :: l) w) (hq : ∀ w S, A.holds w S → q w) : Owns B (Asrt.pool W0 B (fun w => p w ∧ q w) :: l) w := by
  obtain ⟨S, S2, hA, ⟨S3, S4, ⟨h1, h2⟩, h3, h4, h5⟩, h6, h7, h8⟩ := Owns.cons_iff.1 h
  refine Owns.cons_iff.2 ⟨fun k => S k ∨ S3 k, S4, ⟨?_, fun w' g1 g2 => ⟨h2 w' g1 (fun k hk => g2 k (.inr hk)), hq w' S (A.loc hA (fun k hk => g2 k (.inl hk)))⟩⟩, h3, ?_, ?_, fun b hb => h8 b ((h5 b).2 (.inr hb))⟩
  · rintro k (hk | hk)
    · exact A.lt hA k hk
    · exact h1 k hk
  · rintro k (hk | hk) hk2
    · exact h6 k hk ((h5 k).2 (.inr hk2))
    · exact h4 k hk hk2
  · rintro k (hk | hk)
    · exact h7 k hk
    · exact h8 k ((h5 k).2 (.inl hk))
end
theorem row_lies {e : TypeId} {ao : Option Addr} {n c : Nat} {xs : List Value} {w : World} {S : Nat → Prop} (h : (Asrt.row e (.slice ao n c) xs).holds w S) : Lies w ao xs := by
  have h1 : Owns 0 [Asrt.row e (.slice ao n c) xs] w := Owns.cons_iff.2 ⟨S, fun _ => False, h, fun _ h => h, fun _ _ h => h, fun _ _ => Nat.zero_le _, fun _ h => h.elim⟩
  exact h1.rowLies.1
theorem Lies.agree {w w' : World} {ao : Option Addr} {ys : List Value} (h : Lies w ao ys) {B : Nat} (hB : ∀ b o, ao = some ⟨b, o, none⟩ → b < B) (hw : ∀ k, k < B → w'.heap[k]? = w.heap[k]?) : Lies w' ao ys := fun j u hj => by
  obtain ⟨b, o, h1, h2, h3⟩ := h j u hj
  have hb := hB b o h1
  have he := hw b hb
  have hlt : b < w'.heap.size := by
    rw [Array.getElem?_eq_getElem h2] at he
    exact (Array.getElem?_eq_some_iff.1 he).1
  exact ⟨b, o, h1, hlt, (World.cell?_of_block (w := w) he).trans h3⟩
end Go.Cic
