/- frame: the plain law. -/
import Derived.Test.YtnjakbkecimjcaaFraSeal
namespace Go.Proofs.Fra
open Go.RowKit Go.Cic Go.ChangeMaps
set_option linter.unusedVariables false
set_option maxRecDepth 100000
theorem fpL_len (p : List UInt8) : (fpL p).length = p.length + 6 := by simp [fpL, hdA, hdB]
theorem sealL_len (p : List UInt8) : (sealL p).length = p.length + 10 := by simp [sealL, fpL_len, tlL]
theorem told_seal {p r : List UInt8} (h : p.length ≤ 65536) : toldN (sealL p ++ r) = p.length := by
  have f1 := u8_nat (n := p.length / 65536) (by omega)
  have f2 := u8_nat (n := p.length / 256 % 256) (by omega)
  have f3 := u8_nat (n := p.length % 256) (by omega)
  simp only [toldN, sealL, fpL, hdA, hdB, List.cons_append, List.getElem?_cons_zero, List.getElem?_cons_succ, Option.getD_some, f1, f2, f3]
  omega
theorem beN_tl {v : Nat} (h : v < 4294967296) : beN (tlL v) = v := by
  have f1 := u8_nat (n := v / 16777216) (by omega)
  have f2 := u8_nat (n := v / 65536 % 256) (by omega)
  have f3 := u8_nat (n := v / 256 % 256) (by omega)
  have f4 := u8_nat (n := v % 256) (by omega)
  simp only [beN, tlL, List.foldl_cons, List.foldl_nil, f1, f2, f3, f4]
  omega
theorem getD_take {l : List UInt8} {k i : Nat} (h : i < k) : (l.take k)[i]? = l[i]? := by rw [List.getElem?_take, if_pos h]
theorem told_take {l : List UInt8} {k : Nat} (h : 3 ≤ k) : toldN (l.take k) = toldN l := by
  unfold toldN
  rw [getD_take (by omega), getD_take (by omega), getD_take (by omega)]
theorem seal_at {p r : List UInt8} (h : p.length ≤ 65536) (i : Nat) (hi : i < 3) : (((sealL p ++ r)[3 + i]?).getD 0).toNat = 255 - (((sealL p ++ r)[i]?).getD 0).toNat := by
  have f1 := u8_nat (n := p.length / 65536) (by omega)
  have f2 := u8_nat (n := p.length / 256 % 256) (by omega)
  have f3 := u8_nat (n := p.length % 256) (by omega)
  have g1 := u8_nat (n := 255 - p.length / 65536) (by omega)
  have g2 := u8_nat (n := 255 - p.length / 256 % 256) (by omega)
  have g3 := u8_nat (n := 255 - p.length % 256) (by omega)
  obtain rfl | rfl | rfl : i = 0 ∨ i = 1 ∨ i = 2 := by omega
  · simp [sealL, fpL, hdA, hdB, f1, g1]
  · simp [sealL, fpL, hdA, hdB, f2, g2]
  · simp [sealL, fpL, hdA, hdB, f3, g3]
theorem good_cut {p r : List UInt8} (h : p.length ≤ 65536) (k : Nat) : badB ((sealL p ++ r).take k) = false := by
  have hlen : (sealL p ++ r).length = p.length + 10 + r.length := by rw [List.length_append, sealL_len]
  have w1 : wr1 ((sealL p ++ r).take k) = false := by
    unfold wr1
    refine decide_eq_false ?_
    rintro ⟨h1, h2⟩
    rw [List.length_take] at h1
    rw [told_take (by omega), told_seal h] at h2
    omega
  have w3 : ∀ i, i < 3 → wr3 ((sealL p ++ r).take k) i = false := by
    intro i hi
    unfold wr3
    refine decide_eq_false ?_
    rintro ⟨h1, h2⟩
    rw [List.length_take] at h1
    rw [getD_take (by omega), getD_take (by omega)] at h2
    exact h2 (seal_at h i hi)
  have w2 : wr2 ((sealL p ++ r).take k) = false := by
    unfold wr2
    refine decide_eq_false ?_
    rintro ⟨h1, h2, h3⟩
    rw [List.length_take] at h1 h2
    rw [told_take (by omega), told_seal h] at h2 h3
    apply h3
    have e1 : ((sealL p ++ r).take k).take (6 + p.length) = fpL p := by
      rw [List.take_take, Nat.min_eq_left (by omega), sealL, List.append_assoc]
      exact List.take_left' (by rw [fpL_len]; omega)
    have e2 : (((sealL p ++ r).take k).drop (6 + p.length)).take 4 = tlL (sumN (fpL p)) := by
      rw [List.drop_take, List.take_take, Nat.min_eq_left (by omega), sealL, List.append_assoc, List.drop_left' (by rw [fpL_len]; omega)]
      exact List.take_left' rfl
    rw [e1, e2, beN_tl (sumN_lt _)]
  unfold badB
  rw [w1, w2, w3 0 (by omega), w3 1 (by omega), w3 2 (by omega)]; rfl
theorem open_cut {p : List UInt8} (h : p.length ≤ 65536) {k : Nat} (hk : k < p.length + 10) : openL ((sealL p).take k) = ([], 0, 1) := by
  have h1 := good_cut (r := []) h k
  rw [List.append_nil] at h1
  unfold openL
  rw [h1]
  have h2 : tornB ((sealL p).take k) = true := by
    unfold tornB
    refine decide_eq_true ?_
    have hl : ((sealL p).take k).length = k := by rw [List.length_take, sealL_len]; omega
    rw [hl]
    by_cases h6 : k < 6
    · exact .inl h6
    · right
      have h3 := told_seal (r := []) h
      rw [List.append_nil] at h3
      rw [told_take (by omega), h3]
      exact hk
  rw [h2]; rfl
theorem open_seal {p r : List UInt8} (h : p.length ≤ 65536) : openL (sealL p ++ r) = (p, p.length + 10, 0) := by
  have h1 := good_cut (r := r) h (sealL p ++ r).length
  rw [List.take_length] at h1
  unfold openL
  rw [h1]
  have h2 : tornB (sealL p ++ r) = false := by
    unfold tornB
    refine decide_eq_false ?_
    rw [told_seal h, List.length_append, sealL_len]
    omega
  rw [h2, told_seal h]
  have h3 : ((sealL p ++ r).drop 6).take p.length = p := by
    rw [sealL, fpL]
    simp only [List.append_assoc]
    rw [← List.append_assoc (hdA p.length), List.drop_left' (by simp [hdA, hdB])]
    exact List.take_left' rfl
  rw [h3]; rfl
end Go.Proofs.Fra
