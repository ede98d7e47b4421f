/- pane: the document's Keys, plain: the keys found so far. -/
import Derived.Test.YtfolnnmgnkalkaaPanIns
import Derived.Deep.RegionHeld3
import Derived.Sort.Walk0
import Derived.Laws.Cover1
namespace Go.Proofs.Pan
open Go.RowKit Go.Cic Go.ChangeMaps
set_option linter.unusedVariables false
set_option linter.unusedSimpArgs false
set_option maxRecDepth 100000
/-- The keys that are found in the first i. -/
structure KInv (L : List Sm) (a b : Int) (i : Nat) (ks : List ByteArray) : Prop where
  rising : Rising ks
  mem : ∀ x, x ∈ ks ↔ 0 < rsum x a b L ∧ ∃ s ∈ L.take i, s.1 = x
  len : ks.length ≤ i
theorem KInv.start (L : List Sm) (a b : Int) : KInv L a b 0 [] := ⟨List.Pairwise.nil, fun x => by simp, Nat.le_refl _⟩
theorem KInv.skip {L : List Sm} {a b : Int} {i : Nat} {ks : List ByteArray} (h : KInv L a b i ks) {s : Sm} (hs : L[i]? = some s) (hn : s.1 ∈ ks ∨ ¬ 0 < rsum s.1 a b L) : KInv L a b (i + 1) ks := by
  refine ⟨h.rising, fun x => ?_, Nat.le_succ_of_le h.len⟩
  rw [h.mem, take_succ' hs]
  constructor
  · rintro ⟨h1, y, hy, rfl⟩; exact ⟨h1, y, by simp [hy], rfl⟩
  · rintro ⟨h1, y, hy, rfl⟩
    rcases List.mem_append.1 hy with hy | hy
    · exact ⟨h1, y, hy, rfl⟩
    · obtain rfl : y = s := by simpa using hy
      rcases hn with hn | hn
      · exact (h.mem y.1).1 hn
      · exact absurd h1 hn
theorem KInv.put {L : List Sm} {a b : Int} {i k : Nat} {ks : List ByteArray} (h : KInv L a b i ks) {s : Sm} (hs : L[i]? = some s) (hp : 0 < rsum s.1 a b L) (hpl : Place ks s.1 k) (hne : ∀ x, ks[k]? = some x → x ≠ s.1) : KInv L a b (i + 1) (ks.take k ++ [s.1] ++ ks.drop k) := by
  refine ⟨rising_insert h.rising hpl hne, fun x => ?_, ?_⟩
  · rw [mem_insert, h.mem, take_succ' hs]
    constructor
    · rintro (rfl | ⟨h1, y, hy, rfl⟩)
      · exact ⟨hp, s, by simp, rfl⟩
      · exact ⟨h1, y, by simp [hy], rfl⟩
    · rintro ⟨h1, y, hy, rfl⟩
      rcases List.mem_append.1 hy with hy | hy
      · exact .inr ⟨h1, y, hy, rfl⟩
      · obtain rfl : y = s := by simpa using hy
        exact .inl rfl
  · have := h.len
    have := hpl.le
    simp; omega
theorem KInv.done {L : List Sm} {a b : Int} {ks : List ByteArray} (h : KInv L a b L.length ks) (x : ByteArray) : x ∈ ks ↔ 0 < rsum x a b L := by
  rw [h.mem, List.take_length]
  refine ⟨fun h => h.1, fun h1 => ⟨h1, ?_⟩⟩
  apply Classical.byContradiction
  intro hno
  have : ∀ M : List Sm, (∀ s ∈ M, s ∈ L) → rsum x a b M = 0 := fun M => by
    induction M with
    | nil => intro _; rfl
    | cons s r ih =>
      intro hM
      have e : rsum x a b (s :: r) = s.2.2 * inr x a b (s.1, s.2.1) + rsum x a b r := by simp [rsum]
      rw [e, ih (fun y hy => hM y (by simp [hy])), inr_no (fun hh => hno ⟨s, hM s (by simp), hh.1⟩)]
      simp
  have := this L (fun s hs => hs)
  omega
end Go.Proofs.Pan
