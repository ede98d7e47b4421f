/- Slices of the call's own whose elements have several cells (told by a reading 'Rd'); append onto them. Own library text. -/
import Derived.Test.YtfolnnmgnkalkaaCicRow
namespace Go.Cic
set_option linter.unusedVariables false
open Go.RowKit
section
variable {P : Program} {e : TypeId} {α : Type}
/-- All cells of a list of elements. -/
def Rd.all (r : Rd P e α) (L : List α) : List Value := L.flatMap r.cells
theorem Rd.all_len (r : Rd P e α) (L : List α) : (r.all L).length = L.length * r.n := by
  induction L with
  | nil => simp [Rd.all]
  | cons x L ih =>
    have h1 : r.all (x :: L) = r.cells x ++ r.all L := by simp [Rd.all]
    rw [h1, List.length_append, r.len, ih, List.length_cons, Nat.add_mul]; omega
theorem Rd.all_append (r : Rd P e α) (L M : List α) : r.all (L ++ M) = r.all L ++ r.all M := by simp [Rd.all]
theorem Rd.all_at (r : Rd P e α) : ∀ (L : List α) (i : Nat) (x : α), L[i]? = some x → ∀ (j : Nat) (u : Value), (r.cells x)[j]? = some u → (r.all L)[i * r.n + j]? = some u
  | [], i, x, h, _, _, _ => by simp at h
  | y :: L, 0, x, h, j, u, hu => by
    obtain rfl : y = x := by simpa using h
    have h1 : r.all (y :: L) = r.cells y ++ r.all L := by simp [Rd.all]
    have hj : j < (r.cells y).length := (List.getElem?_eq_some_iff.1 hu).1
    rw [h1, Nat.zero_mul, Nat.zero_add, List.getElem?_append_left hj]; exact hu
  | y :: L, i + 1, x, h, j, u, hu => by
    have h1 : r.all (y :: L) = r.cells y ++ r.all L := by simp [Rd.all]
    have h2 : L[i]? = some x := by simpa using h
    have e1 : (i + 1) * r.n + j = (r.cells y).length + (i * r.n + j) := by rw [r.len, Nat.add_mul]; omega
    rw [h1, e1, List.getElem?_append_right (by omega), Nat.add_sub_cancel_left]
    exact r.all_at L i x h2 j u hu
theorem Rd.all_from (r : Rd P e α) (hn : 0 < r.n) : ∀ (L : List α) (k : Nat) (u : Value), (r.all L)[k]? = some u → ∃ i x j, L[i]? = some x ∧ (r.cells x)[j]? = some u ∧ k = i * r.n + j
  | [], k, u, h => by simp [Rd.all] at h
  | y :: L, k, u, h => by
    have h1 : r.all (y :: L) = r.cells y ++ r.all L := by simp [Rd.all]
    rw [h1] at h
    by_cases hk : k < (r.cells y).length
    · rw [List.getElem?_append_left hk] at h
      exact ⟨0, y, k, rfl, h, by omega⟩
    · rw [List.getElem?_append_right (by omega)] at h
      obtain ⟨i, x, j, h2, h3, h4⟩ := r.all_from hn L _ u h
      refine ⟨i + 1, x, j, by simpa using h2, h3, ?_⟩
      rw [r.len] at h4 hk
      rw [Nat.add_mul]; omega
/-- A slice of the call's own, its elements by a reading. -/
def Asrt.rows (r : Rd P e α) (v : Value) (L : List α) : Asrt where
  holds w S := w.ownsRow 0 e r.n v L.length (r.all L) ∧ ∀ b, S b ↔ v.ownBlock = some b
  lt := by
    rintro w S ⟨h1, h2⟩ b hb
    exact (h1.lt b ((h2 b).1 hb)).2
  loc := by
    rintro w w' S ⟨h1, h2⟩ h
    refine ⟨⟨h1.1, ?_⟩, h2⟩
    rcases h1.2 with hn | ⟨g, cap, cur, rfl, hb, hg, rest⟩
    · exact .inl hn
    · exact .inr ⟨g, cap, cur, rfl, hb, (h g ((h2 g).2 rfl)).trans hg, rest⟩
variable {B : Nat} {l : List Asrt} {w : World} {v : Value} {L : List α} {r : Rd P e α}
theorem Owns.rowsE (hn : 0 < r.n) (h : Owns B (Asrt.rows r v L :: l) w) (hok : ∀ x ∈ L, r.ok x) : ∃ ao cap, v = .slice ao L.length cap ∧ L.length ≤ cap ∧ SlAt r w ao L := by
  obtain ⟨S, ⟨h1, h2⟩, h3⟩ := h.head
  rcases h1.2 with ⟨rfl, hz⟩ | ⟨g, cap, cur, rfl, hb, hg, hnc, hcm, hcs, htake⟩
  · have hx : L = [] := List.eq_nil_of_length_eq_zero hz
    subst hx
    exact ⟨none, 0, rfl, Nat.le_refl _, by simp [SlAt]⟩
  · have hlt := (Array.getElem?_eq_some_iff.1 hg).1
    refine ⟨_, cap, rfl, hnc, hok, fun i x hx => ⟨g, 0, rfl, hlt, fun j u hu => ?_⟩⟩
    have h4 := r.all_at L i x hx j u hu
    have hlen := r.all_len L
    have h5 : i * r.n + j < L.length * r.n := by rw [← hlen]; exact (List.getElem?_eq_some_iff.1 h4).1
    rw [Nat.zero_add, h1.cellAt _ h5]
    exact h4
theorem step_rows {v' : Value} {L' : List α} {w' : World} (h : w'.ownsRow 0 e r.n v' L'.length (r.all L')) (hg : w.grownBy w' v.ownBlock) (ha : v'.ownBlock = v.ownBlock ∨ v'.ownBlock = some w.heap.size) : ∀ S, (Asrt.rows r v L).holds w S → Step S (Asrt.rows r v' L') w w' := by
  rintro S ⟨h1, h2⟩
  refine ⟨fun b => v'.ownBlock = some b, ⟨h, fun _ => Iff.rfl⟩, ?_, ⟨hg.os, hg.tape, hg.output, hg.size, fun b hb hS => hg.block b hb (fun e => hS ((h2 b).2 e.symm))⟩⟩
  intro b hb
  rcases ha with ha | ha
  · exact .inl ((h2 b).2 (ha ▸ hb))
  · rw [hb] at ha
    injection ha with ha
    exact .inr (Nat.le_of_eq ha.symm)
theorem Owns.appendRows {t : TypeId} {z : Value} {bytes : Nat} (hn : 0 < r.n) (ht : P.underlying t = some (.slice e)) (hi : (P.info? e).map (fun i => (i.zero, i.size, i.bytes)) = some (some z, r.n, bytes)) (hz : z.cells.size = r.n) (ty : TypeId)
    (h : Owns B (Asrt.rows r v L :: l) w) (hok : ∀ x ∈ L, r.ok x) (hB : B ≤ w.heap.size) {ao : Option Addr} {m c : Nat} {M : List α} (hy : SlAt r w ao M) (hm : M.length = m) (h1 : ∀ x ∈ M, ∀ u ∈ r.cells x, u.oneCell' = true) (h63 : L.length + m ≤ maxLen) (hby : (L.length + m) * bytes ≤ 140737488355328) :
    ∃ ao' c' w', (Builtin.append_ #[t, t] ty #[v, .slice ao m c]).run P w = .ok (.slice ao' (L.length + m) c') w' ∧ Owns B (Asrt.rows r (.slice ao' (L.length + m) c') (L ++ M) :: l) w' ∧ Below B w w' := by
  obtain ⟨i, hi1, hi2, hi3, hi4⟩ := info_parts hi
  have key : ∃ v' w', (Builtin.append_ #[t, t] ty #[v, .slice ao m c]).run P w = .ok v' w' ∧ Owns B (Asrt.rows r v' (L ++ M) :: l) w' ∧ Below B w w' := by
    cases M with
    | nil =>
      obtain rfl : m = 0 := by simpa using hm.symm
      obtain ⟨ao', cap, rfl, hle, _⟩ := h.rowsE hn hok
      refine ⟨_, w, ?_, by rw [List.append_nil]; exact h, Below.refl _ _⟩
      refine run_append_nothing w t t ty e i ht hi1 ao' L.length cap hle _ ?_
      cases ao with
      | none => exact Src.ofNil w ht c
      | some a => exact Src.ofSlice w ht a 0 c [] (by simp) (by simp) (by simp)
    | cons y ys =>
      obtain ⟨b, o, rfl, hb, _⟩ := hy.2 0 y rfl
      obtain ⟨S, ⟨hown, _⟩, _⟩ := h.head
      obtain ⟨v', w', hr, h2, h3, _, h5⟩ := run_append_own_at (P := P) w 0 t ty e i z r.n bytes ht hi1 hi2 hi3 hi4 hz hn v L.length (r.all L) hown ⟨b, o, none⟩ m c (r.all (y :: ys)) (by rw [r.all_len, hm]) (fun k u hk => by
        obtain ⟨i', x', j', g1, g2, rfl⟩ := r.all_from hn _ _ _ hk
        obtain ⟨b', o', e1, _, e3⟩ := hy.2 i' x' g1
        simp only [Option.some.injEq, Addr.mk.injEq] at e1
        obtain ⟨rfl, rfl, _⟩ := e1
        rw [add_one', ← Nat.add_assoc]; exact e3 j' u g2) (fun u hu => by
        obtain ⟨x, hx, hu⟩ := List.mem_flatMap.1 hu
        exact h1 x hx u hu) h63 hby (Nat.zero_le _)
      have hlen : (L ++ y :: ys).length = L.length + m := by rw [List.length_append, hm]
      rw [← hlen, ← r.all_append] at h2
      exact ⟨v', w', hr, h.step hB (step_rows h2 h3 h5)⟩
  obtain ⟨v', w', hr, h2, h3⟩ := key
  have hok' : ∀ x ∈ L ++ M, r.ok x := fun x hx => (List.mem_append.1 hx).elim (hok x) (hy.1 x)
  obtain ⟨ao', cap, rfl, _⟩ := h2.rowsE hn hok'
  have hlen : (L ++ M).length = L.length + m := by rw [List.length_append, hm]
  rw [hlen] at hr h2
  exact ⟨ao', cap, w', hr, h2, h3⟩
end
end Go.Cic
