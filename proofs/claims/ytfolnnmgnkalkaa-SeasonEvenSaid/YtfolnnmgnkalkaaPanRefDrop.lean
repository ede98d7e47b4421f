/- pane: the document's width; what Drop keeps and tells, a step at a time. -/
import Derived.Test.YtfolnnmgnkalkaaPanRefKeys
namespace Go.Proofs.Pan
open Go.RowKit Go.Cic Go.ChangeMaps
set_option linter.unusedVariables false
set_option maxRecDepth 100000
theorem ref_width {B q : Nat} {width count : Int} {L : List Sm} {l : List Asrt} {w : World} (hO : Owns B (RefA q width L count :: l) w) : w.cell? ⟨q, 0, none⟩ = some (.int .i64 width) := by
  obtain ⟨v, h⟩ := ref_iff.1 hO
  obtain ⟨hc, _⟩ := h.cellsE
  rw [cell_of hc]; rfl
/-- What Drop keeps of the first i. -/
def keptL (be : Int) (L : List Sm) : List Sm := L.filter fun s => decide (be ≤ s.2.1)
/-- What Drop tells of the first i. -/
def goneL (be : Int) (L : List Sm) : List Sm := L.foldl (gone1 be) []
theorem keptL_yes {be : Int} {L : List Sm} {i : Nat} {s : Sm} (hs : L[i]? = some s) (h : be ≤ s.2.1) : keptL be (L.take (i + 1)) = keptL be (L.take i) ++ [s] := by
  unfold keptL; rw [take_succ' hs, List.filter_append]; simp [h]
theorem keptL_no {be : Int} {L : List Sm} {i : Nat} {s : Sm} (hs : L[i]? = some s) (h : ¬ be ≤ s.2.1) : keptL be (L.take (i + 1)) = keptL be (L.take i) := by
  unfold keptL; rw [take_succ' hs, List.filter_append]; simp [h]
theorem goneL_step {be : Int} {L : List Sm} {i : Nat} {s : Sm} (hs : L[i]? = some s) : goneL be (L.take (i + 1)) = gone1 be (goneL be (L.take i)) s := by
  unfold goneL; rw [take_succ' hs, List.foldl_append]; rfl
theorem goneL_inv (be : Int) (L : List Sm) : GInv be L (goneL be L) := by
  have : ∀ i, i ≤ L.length → GInv be (L.take i) (goneL be (L.take i)) := fun i => by
    induction i with
    | zero => intro _; exact GInv.start be
    | succ i ih =>
      intro hi
      have hs : L[i]? = some (L[i]'(by omega)) := List.getElem?_eq_getElem (by omega)
      rw [goneL_step hs, take_succ' hs]
      exact (ih (by omega)).step _
  have h := this L.length (Nat.le_refl _)
  rwa [List.take_length] at h
theorem goneL_sub (be : Int) (L : List Sm) : ∀ x ∈ goneL be L, x ∈ L := by
  have : ∀ (M g : List Sm), (∀ x ∈ M.foldl (gone1 be) g, x ∈ g ∨ x ∈ M) := fun M => by
    induction M with
    | nil => intro g x hx; exact .inl hx
    | cons s r ih =>
      intro g x hx
      rcases ih _ x hx with h | h
      · unfold gone1 at h
        split at h
        · exact .inl h
        · split at h
          · exact .inl h
          · rcases List.mem_append.1 h with h | h
            · exact .inl h
            · exact .inr (by simp at h; simp [h])
      · exact .inr (by simp [h])
  intro x hx
  rcases this L [] x hx with h | h
  · cases h
  · exact h
theorem goneL_len (be : Int) (L : List Sm) : (goneL be L).length ≤ L.length := by
  have : ∀ (M g : List Sm), (M.foldl (gone1 be) g).length ≤ g.length + M.length := fun M => by
    induction M with
    | nil => intro g; simp
    | cons s r ih =>
      intro g
      have h1 := ih (gone1 be g s)
      have h2 : (gone1 be g s).length ≤ g.length + 1 := by
        unfold gone1; split
        · omega
        · split
          · omega
          · simp
      simp only [List.foldl_cons, List.length_cons]; omega
  have := this L []
  unfold goneL; simpa using this
/-- The two Drops tell the same. -/
theorem drop_same {T : Tab} {L : List Sm} {count : Int} {k : Nat} (h : Sim T L count k) (be : Int) : T.length - (kept be T).length = (goneL be L).length := gone_len h (goneL_inv be L)
end Go.Proofs.Pan
