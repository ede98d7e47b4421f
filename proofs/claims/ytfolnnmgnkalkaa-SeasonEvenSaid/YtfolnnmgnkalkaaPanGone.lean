/- pane: how many are dropped: the table's, and the document's. -/
import Derived.Test.YtfolnnmgnkalkaaPanSim
namespace Go.Proofs.Pan
open Go.RowKit Go.Cic Go.ChangeMaps
set_option linter.unusedVariables false
/-- Was it met before? -/
def met (g : List Sm) (s : Sm) : Bool := g.any fun x => decide (x.1 = s.1) && decide (x.2.1 = s.2.1)
/-- One more, of the document's Drop. -/
def gone1 (be : Int) (g : List Sm) (s : Sm) : List Sm := if be ≤ s.2.1 then g else if s.2.2 = 0 ∨ met g s = true then g else g ++ [s]
structure GInv (be : Int) (P g : List Sm) : Prop where
  nd : (g.map fun s => (s.1, s.2.1)).Nodup
  mem : ∀ c : Cell, c ∈ (g.map fun s => (s.1, s.2.1)) ↔ ∃ s ∈ P, s.2.1 < be ∧ s.2.2 ≠ 0 ∧ (s.1, s.2.1) = c
theorem GInv.start (be : Int) : GInv be [] [] := ⟨by simp, by simp⟩
theorem met_iff (g : List Sm) (s : Sm) : met g s = true ↔ (s.1, s.2.1) ∈ (g.map fun s => (s.1, s.2.1)) := by
  unfold met
  rw [List.any_eq_true, List.mem_map]
  constructor
  · rintro ⟨x, hx, h⟩
    simp at h
    exact ⟨x, hx, by rw [h.1, h.2]⟩
  · rintro ⟨x, hx, h⟩
    injection h with h1 h2
    exact ⟨x, hx, by simp [h1, h2]⟩
theorem GInv.step {be : Int} {P g : List Sm} (h : GInv be P g) (s : Sm) : GInv be (P ++ [s]) (gone1 be g s) := by
  have hsplit : ∀ c : Cell, (∃ x ∈ P ++ [s], x.2.1 < be ∧ x.2.2 ≠ 0 ∧ (x.1, x.2.1) = c) ↔ (∃ x ∈ P, x.2.1 < be ∧ x.2.2 ≠ 0 ∧ (x.1, x.2.1) = c) ∨ (s.2.1 < be ∧ s.2.2 ≠ 0 ∧ (s.1, s.2.1) = c) := fun c => by
    simp only [List.mem_append, List.mem_singleton]
    constructor
    · rintro ⟨x, hx | rfl, hh⟩
      · exact .inl ⟨x, hx, hh⟩
      · exact .inr hh
    · rintro (⟨x, hx, hh⟩ | hh)
      · exact ⟨x, .inl hx, hh⟩
      · exact ⟨s, .inr rfl, hh⟩
  unfold gone1
  by_cases h1 : be ≤ s.2.1
  · rw [if_pos h1]
    refine ⟨h.nd, fun c => ?_⟩
    rw [hsplit, h.mem]
    exact ⟨.inl, fun hh => hh.elim id (fun hh => absurd hh.1 (by omega))⟩
  · rw [if_neg h1]
    by_cases h2 : s.2.2 = 0 ∨ met g s = true
    · rw [if_pos h2]
      refine ⟨h.nd, fun c => ?_⟩
      rw [hsplit, h.mem]
      refine ⟨.inl, fun hh => hh.elim id (fun hh => ?_)⟩
      rcases h2 with h2 | h2
      · exact absurd h2 hh.2.1
      · have := (met_iff g s).1 h2
        rw [hh.2.2] at this
        exact (h.mem c).1 this
    · rw [if_neg h2]
      have h3 : s.2.2 ≠ 0 := fun e => h2 (.inl e)
      have h4 : (s.1, s.2.1) ∉ (g.map fun s => (s.1, s.2.1)) := fun e => h2 (.inr ((met_iff g s).2 e))
      refine ⟨?_, fun c => ?_⟩
      · rw [List.map_append, List.map_cons, List.map_nil]
        refine List.nodup_append.2 ⟨h.nd, by simp, fun a ha b hb => ?_⟩
        obtain rfl : b = (s.1, s.2.1) := by simpa using hb
        exact fun e => h4 (e ▸ ha)
      · rw [hsplit, List.map_append, List.mem_append, h.mem]
        simp only [List.map_cons, List.map_nil, List.mem_singleton]
        constructor
        · rintro (hh | rfl)
          · exact .inl hh
          · exact .inr ⟨by omega, h3, rfl⟩
        · rintro (hh | hh)
          · exact .inl hh
          · exact .inr hh.2.2.symm
theorem Sim.mem_iff {T : Tab} {L : List Sm} {count : Int} {k : Nat} (h : Sim T L count k) (c : Cell) : c ∈ T.map (·.1) ↔ ∃ s ∈ L, s.2.2 ≠ 0 ∧ (s.1, s.2.1) = c := by
  have hs := h.sum (fun d => if d = c then 1 else 0)
  constructor
  · intro hc
    obtain ⟨x, hx, rfl⟩ := List.mem_map.1 hc
    have h1 := wsum_mem_le (f := fun d : Cell => if d = x.1 then (1 : Int) else 0) (T := T) (fun y _ => by split <;> omega) (fun y hy => by have := h.val y hy; omega) hx
    have h2 := h.val x hx
    rw [if_pos rfl] at h1
    rw [hs] at h1
    apply Classical.byContradiction
    intro hno
    have hz : lsum (fun d => if d = x.1 then (1 : Int) else 0) L = 0 := by
      have : ∀ M : List Sm, (∀ s ∈ M, s ∈ L) → lsum (fun d => if d = x.1 then (1 : Int) else 0) M = 0 := fun M => by
        induction M with
        | nil => intro _; rfl
        | cons s r ih =>
          intro hM
          have e : lsum (fun d => if d = x.1 then (1 : Int) else 0) (s :: r) = s.2.2 * (if (s.1, s.2.1) = x.1 then 1 else 0) + lsum (fun d => if d = x.1 then (1 : Int) else 0) r := by simp [lsum]
          rw [e, ih (fun y hy => hM y (by simp [hy]))]
          by_cases hz : s.2.2 = 0
          · rw [hz]; simp
          · have : ¬ (s.1, s.2.1) = x.1 := fun hh => hno ⟨s, hM s (by simp), hz, hh⟩
            rw [if_neg this]; simp
      exact this L (fun s hs => hs)
    omega
  · rintro ⟨s, hsL, h0, rfl⟩
    have hpos : 0 < lsum (fun d => if d = (s.1, s.2.1) then (1 : Int) else 0) L := by
      obtain ⟨P, R, rfl⟩ := List.append_of_mem hsL
      have hnn : ∀ M : List Sm, (∀ y ∈ M, 0 ≤ y.2.2) → 0 ≤ lsum (fun d => if d = (s.1, s.2.1) then (1 : Int) else 0) M := fun M => by
        induction M with
        | nil => intro _; simp [lsum]
        | cons y r ih =>
          intro hM
          have e : lsum (fun d => if d = (s.1, s.2.1) then (1 : Int) else 0) (y :: r) = y.2.2 * (if (y.1, y.2.1) = (s.1, s.2.1) then 1 else 0) + lsum (fun d => if d = (s.1, s.2.1) then (1 : Int) else 0) r := by simp [lsum]
          have := ih (fun z hz => hM z (by simp [hz]))
          have h2 := hM y (by simp)
          rw [e]
          split <;> omega
      have h1 := hnn P (fun y hy => (h.lval y (by simp [hy])).1)
      have h2 := hnn R (fun y hy => (h.lval y (by simp [hy])).1)
      have h3 := (h.lval s (by simp)).1
      have e : lsum (fun d => if d = (s.1, s.2.1) then (1 : Int) else 0) (P ++ s :: R) = lsum (fun d => if d = (s.1, s.2.1) then (1 : Int) else 0) P + (s.2.2 * (if (s.1, s.2.1) = (s.1, s.2.1) then 1 else 0) + lsum (fun d => if d = (s.1, s.2.1) then (1 : Int) else 0) R) := by simp [lsum]
      rw [e, if_pos rfl]
      omega
    rw [← hs] at hpos
    obtain ⟨x, hx, _, h2⟩ := wsum_pos (f := fun d : Cell => if d = (s.1, s.2.1) then (1 : Int) else 0) (T := T) (fun y _ => by split <;> omega) (fun y hy => by have := h.val y hy; omega) hpos
    split at h2
    · rename_i he; exact List.mem_map.2 ⟨x, hx, he⟩
    · omega
/-- As many are gone from the table as the document tells. -/
theorem gone_len {T : Tab} {L g : List Sm} {count : Int} {k : Nat} {be : Int} (h : Sim T L count k) (hg : GInv be L g) : T.length - (kept be T).length = g.length := by
  have h1 : T.length = (T.filter fun x => decide (be ≤ x.1.2)).length + (T.filter fun x => !decide (be ≤ x.1.2)).length := by
    have : ∀ M : Tab, M.length = (M.filter fun x => decide (be ≤ x.1.2)).length + (M.filter fun x => !decide (be ≤ x.1.2)).length := fun M => by
      induction M with
      | nil => rfl
      | cons x r ih => by_cases hx : be ≤ x.1.2 <;> simp [hx] <;> omega
    exact this T
  have h2 : ((T.filter fun x => !decide (be ≤ x.1.2)).map (·.1)).Nodup := List.Nodup.sublist (List.Sublist.map _ List.filter_sublist) h.nd
  have h3 : ((T.filter fun x => !decide (be ≤ x.1.2)).map (·.1)).Perm (g.map fun s => (s.1, s.2.1)) := by
    refine (List.perm_ext_iff_of_nodup h2 hg.nd).2 (fun c => ?_)
    rw [hg.mem]
    constructor
    · intro hc
      obtain ⟨x, hx, rfl⟩ := List.mem_map.1 hc
      obtain ⟨hx1, hx2⟩ := List.mem_filter.1 hx
      obtain ⟨s, hs, hz, he⟩ := (h.mem_iff x.1).1 (List.mem_map.2 ⟨x, hx1, rfl⟩)
      refine ⟨s, hs, ?_, hz, he⟩
      have : s.2.1 = x.1.2 := by rw [← he]
      simp at hx2
      omega
    · rintro ⟨s, hs, hlt, hz, rfl⟩
      obtain ⟨x, hx, he⟩ := List.mem_map.1 ((h.mem_iff (s.1, s.2.1)).2 ⟨s, hs, hz, rfl⟩)
      refine List.mem_map.2 ⟨x, List.mem_filter.2 ⟨hx, ?_⟩, he⟩
      have : x.1.2 = s.2.1 := by rw [he]
      simp
      omega
  have h4 := h3.length_eq
  rw [List.length_map, List.length_map] at h4
  unfold kept
  omega
end Go.Proofs.Pan
