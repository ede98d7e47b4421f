/- pane: the document's Sum and Add, by what is owned. -/
import Derived.Test.YtfolnnmgnkalkaaPanGone
namespace Go.Proofs.Pan
open Go.RowKit Go.Cic Go.ChangeMaps
set_option linter.unusedVariables false
set_option maxRecDepth 100000
theorem refsum_own {B p : Nat} {width count : Int} {L : List Sm} {l : List Asrt} {w : World} (key : ByteArray) (from_ to_ : Int) (hO : Owns B (RefA p width L count :: l) w) (hok : ∀ x ∈ L, rdSum.ok x) (hlen : L.length ≤ 1000) (hL : ∀ s ∈ L, 0 ≤ s.2.2 ∧ s.2.2 ≤ 1048576) (h1 : 1 ≤ width) (h2 : width ≤ 1099511627776)
    (hf1 : -9223372036854775808 ≤ from_) (hf2 : from_ ≤ 9223372036854775807) (ht1 : -9223372036854775808 ≤ to_) (ht2 : to_ ≤ 9223372036854775807) :
    Calls Try.prog 28 #[.pointer (some ⟨p, 0, none⟩), .string key, .int .i64 from_, .int .i64 to_] w fun e w' => e = .returned (.int .i64 (rsum key (pn width from_) (pn width to_) L)) ∧ Owns B (RefA p width L count :: l) w' ∧ Below B w w' ∧ ∃ m, w' = w.drewN m := by
  obtain ⟨v, h⟩ := ref_iff.1 hO
  obtain ⟨hc, hpB, hpz⟩ := h.cellsE
  obtain ⟨ao, c, rfl, hsl⟩ := sums_at h.swap hok
  have c0 : w.cell? ⟨p, 0, none⟩ = some (.int .i64 width) := by rw [cell_of hc]; rfl
  have c1 : w.cell? ⟨p, 1, none⟩ = some (.slice ao L.length c) := by rw [cell_of hc]; rfl
  refine (refsum_any p width key from_ to_ ao L.length c L w c0 c1 hsl rfl hlen hL h1 h2 hf1 hf2 ht1 ht2).mono ?_
  rintro e w' ⟨rfl, m, rfl⟩
  exact ⟨rfl, hO.drewN m, ⟨rfl, rfl, rfl, Nat.le_refl _, fun _ _ => rfl⟩, m, rfl⟩
/-- What the document's Add tells, and does. -/
theorem refadd_own {B p k : Nat} {width count : Int} {L : List Sm} {T : Tab} {l : List Asrt} {w : World} (key : ByteArray) (at_ n : Int) (hO : Owns B (RefA p width L count :: l) w) (hB : B ≤ w.heap.size) (hS : Sim T L count k) (hk : k ≤ 1000) (hw1 : 1 ≤ width) (hw2 : width ≤ 1099511627776)
    (hkey : key.size ≤ 9223372036854775807) (hsk : mayAdd key at_ n → rdSum.ok (key, pn width at_, n)) :
    Calls Try.prog 30 #[.pointer (some ⟨p, 0, none⟩), .string key, .int .i64 at_, .int .i64 n] w fun e w' => e = .returned (.bool (decide (mayAdd key at_ n))) ∧
      Owns B (RefA p width (if mayAdd key at_ n then L ++ [(key, pn width at_, n)] else L) (if mayAdd key at_ n then count + 1 else count) :: l) w' ∧ Below B w w' := by
  by_cases hm : mayAdd key at_ n
  · rw [if_pos hm, if_pos hm, decide_eq_true hm]
    exact refadd_yes key at_ n hO hB hS.lok (by have := hS.llen; omega) hS.c0 (by have := hS.c1; omega) hw1 hw2 hm (hsk hm)
  · rw [if_neg hm, if_neg hm, decide_eq_false hm]
    obtain ⟨v, h⟩ := ref_iff.1 hO
    obtain ⟨hc, _⟩ := h.cellsE
    have c2 : w.cell? ⟨p, 2, none⟩ = some (.int .i64 count) := by rw [cell_of hc]; rfl
    refine (refadd_no key at_ n c2 hkey hm).mono ?_
    rintro e w' ⟨rfl, rfl⟩
    exact ⟨rfl, hO, Below.refl B w⟩
end Go.Proofs.Pan
