/- frame: one byte is another one: the plain law. -/
import Derived.Test.YtnjakbkecimjcaaFraPlain
namespace Go.Proofs.Fra
open Go.RowKit Go.Cic Go.ChangeMaps
set_option linter.unusedVariables false
set_option maxRecDepth 100000
theorem xor_u8_nat {a b : Nat} (ha : a < 256) (hb : b < 256) : bits .xor .u8 (a : Int) (b : Int) = ((a ^^^ b : Nat) : Int) := by
  have hx : a ^^^ b < 2 ^ 8 := Nat.xor_lt_two_pow (by omega) (by omega)
  have h1 : (BitVec.ofInt 8 (a : Int)).toNat = a := by rw [BitVec.ofInt_natCast, BitVec.toNat_ofNat]; exact Nat.mod_eq_of_lt (by omega)
  have h2 : (BitVec.ofInt 8 (b : Int)).toNat = b := by rw [BitVec.ofInt_natCast, BitVec.toNat_ofNat]; exact Nat.mod_eq_of_lt (by omega)
  show IntKind.u8.wrap ((BitVec.ofInt 8 (a : Int) ^^^ BitVec.ofInt 8 (b : Int)).toNat : Int) = _
  rw [BitVec.toNat_xor, h1, h2, IntKind.wrap_u8]
  omega
theorem xor_ne {a b : Nat} (h : a ^^^ b = a) : b = 0 := by
  have : a ^^^ (a ^^^ b) = a ^^^ a := by rw [h]
  rw [← Nat.xor_assoc, Nat.xor_self, Nat.zero_xor] at this
  exact this
theorem xor_byte (y : UInt8) {by_ : Int} (h0 : 0 ≤ by_) (h1 : by_ ≤ 255) (hne : by_ ≠ 0) : ∃ z : UInt8, z ≠ y ∧ bits .xor .u8 (y.toNat : Int) by_ = (z.toNat : Int) := by
  obtain ⟨b, rfl⟩ : ∃ b : Nat, by_ = b := ⟨by_.toNat, by omega⟩
  have hy := y.toNat_lt
  have hx : y.toNat ^^^ b < 2 ^ 8 := Nat.xor_lt_two_pow (by omega) (by omega)
  refine ⟨u8 (y.toNat ^^^ b), ?_, ?_⟩
  · intro e
    have e2 : (u8 (y.toNat ^^^ b)).toNat = y.toNat := by rw [e]
    rw [u8_nat (by omega)] at e2
    have := xor_ne e2
    omega
  · rw [xor_u8_nat (by omega) (by omega), u8_nat (by omega)]
def tot (l : List UInt8) : Nat := (l.map UInt8.toNat).sum
theorem sumP_fst (l : List UInt8) : (sumP l).1 = (1 + tot l) % 65521 := by
  have : ∀ (l : List UInt8) (p : Nat × Nat), (l.foldl sumS p).1 % 65521 = (p.1 + tot l) % 65521 := by
    intro l
    induction l with
    | nil => intro p; simp [tot]
    | cons x l ih =>
      intro p
      rw [List.foldl_cons, ih]
      simp only [sumS, tot, List.map_cons, List.sum_cons]
      omega
  have h := this l (1, 0)
  have h2 := (sumP_lt l).1
  unfold sumP at h2 ⊢
  rw [Nat.mod_eq_of_lt h2] at h
  exact h
theorem tot_set : ∀ (l : List UInt8) (k : Nat) (y z : UInt8), l[k]? = some y → tot (l.set k z) + y.toNat = tot l + z.toNat
  | [], _, _, _, h => by simp at h
  | a :: l, 0, y, z, h => by
    simp at h; subst h
    simp only [List.set_cons_zero, tot, List.map_cons, List.sum_cons]
    omega
  | a :: l, k + 1, y, z, h => by
    have := tot_set l k y z (by simpa using h)
    simp only [List.set_cons_succ, tot, List.map_cons, List.sum_cons] at this ⊢
    omega
theorem sum_set {l : List UInt8} {k : Nat} {y z : UInt8} (h : l[k]? = some y) (hne : z ≠ y) : sumN (l.set k z) ≠ sumN l := by
  intro e
  have h1 := sumP_lt l
  have h2 := sumP_lt (l.set k z)
  have h3 := sumP_fst l
  have h4 := sumP_fst (l.set k z)
  have h5 := tot_set l k y z h
  have hy := y.toNat_lt
  have hz := z.toNat_lt
  have hn : z.toNat ≠ y.toNat := fun e => hne (UInt8.toNat_inj.1 e)
  unfold sumN at e
  omega
theorem be_set {v j : Nat} {y z : UInt8} (h : (tlL v)[j]? = some y) (hne : z ≠ y) : beN ((tlL v).set j z) ≠ beN (tlL v) := by
  have hj : j < 4 := (List.getElem?_eq_some_iff.1 h).1
  have hn : z.toNat ≠ y.toNat := fun e => hne (UInt8.toNat_inj.1 e)
  unfold tlL at h ⊢
  generalize u8 (v / 16777216) = a at *
  generalize u8 (v / 65536 % 256) = b at *
  generalize u8 (v / 256 % 256) = c at *
  generalize u8 (v % 256) = d at *
  obtain rfl | rfl | rfl | rfl : j = 0 ∨ j = 1 ∨ j = 2 ∨ j = 3 := by omega
  all_goals simp only [List.getElem?_cons_zero, List.getElem?_cons_succ, Option.some.injEq] at h
  all_goals subst h
  all_goals simp only [beN, List.set_cons_zero, List.set_cons_succ, List.foldl_cons, List.foldl_nil]
  all_goals omega
theorem turned_bad {p r : List UInt8} (h : p.length ≤ 65536) {k : Nat} {y z : UInt8} (hk : (sealL p)[k]? = some y) (hne : z ≠ y) : badB ((sealL p).set k z ++ r) = true := by
  have hlt : k < p.length + 10 := by rw [← sealL_len]; exact (List.getElem?_eq_some_iff.1 hk).1
  have hn : z.toNat ≠ y.toNat := fun e => hne (UInt8.toNat_inj.1 e)
  have hsl := sealL_len p
  have hat : ∀ i, i ≠ k → i < p.length + 10 → ((sealL p).set k z ++ r)[i]? = (sealL p)[i]? := by
    intro i hi hl
    rw [List.getElem?_append_left (by rw [List.length_set, hsl]; exact hl), List.getElem?_set_ne (Ne.symm hi)]
  have hatk : ((sealL p).set k z ++ r)[k]? = some z := by
    rw [List.getElem?_append_left (by rw [List.length_set, hsl]; exact hlt), List.getElem?_set_self (by omega)]
  have hsa : ∀ i, i < 3 → ((sealL p)[3 + i]?.getD 0).toNat = 255 - ((sealL p)[i]?.getD 0).toNat := by
    intro i hi
    have := seal_at (r := []) h i hi
    rwa [List.append_nil] at this
  have hlen : ((sealL p).set k z ++ r).length = p.length + 10 + r.length := by rw [List.length_append, List.length_set, hsl]
  have w3 : ∀ i, i < 3 → wr3 ((sealL p).set k z ++ r) i = true → badB ((sealL p).set k z ++ r) = true := by
    intro i hi hw
    unfold badB
    obtain rfl | rfl | rfl : i = 0 ∨ i = 1 ∨ i = 2 := by omega
    all_goals simp [hw]
  by_cases h3 : k < 3
  · refine w3 k h3 ?_
    unfold wr3
    refine decide_eq_true ⟨by omega, ?_⟩
    rw [hatk, hat (3 + k) (by omega) (by omega), hsa k h3, hk]
    simp only [Option.getD_some]
    have := y.toNat_lt
    have := z.toNat_lt
    omega
  by_cases h6 : k < 6
  · refine w3 (k - 3) (by omega) ?_
    unfold wr3
    refine decide_eq_true ⟨by omega, ?_⟩
    have e : 3 + (k - 3) = k := by omega
    rw [e, hatk, hat (k - 3) (by omega) (by omega)]
    have hs := hsa (k - 3) (by omega)
    rw [e, hk] at hs
    simp only [Option.getD_some] at hs ⊢
    omega
  have htold : toldN ((sealL p).set k z ++ r) = p.length := by
    have := told_seal (r := []) h
    rw [List.append_nil] at this
    unfold toldN at this ⊢
    rw [hat 0 (by omega) (by omega), hat 1 (by omega) (by omega), hat 2 (by omega) (by omega)]
    exact this
  have w2 : wr2 ((sealL p).set k z ++ r) = true := by
    unfold wr2
    rw [htold, hlen]
    refine decide_eq_true ⟨by omega, by omega, ?_⟩
    have hfl := fpL_len p
    by_cases hf : k < p.length + 6
    · have hk2 : (fpL p)[k]? = some y := by
        rw [sealL, List.getElem?_append_left (by omega)] at hk
        exact hk
      have e0 : (sealL p).set k z = (fpL p).set k z ++ tlL (sumN (fpL p)) := by
        rw [sealL, List.set_append_left _ _ (by omega)]
      have e1 : ((sealL p).set k z ++ r).take (6 + p.length) = (fpL p).set k z := by
        rw [e0, List.append_assoc]
        exact List.take_left' (by rw [List.length_set]; omega)
      have e2 : (((sealL p).set k z ++ r).drop (6 + p.length)).take 4 = tlL (sumN (fpL p)) := by
        rw [e0, List.append_assoc, List.drop_left' (by rw [List.length_set]; omega)]
        exact List.take_left' rfl
      rw [e1, e2, beN_tl (sumN_lt _)]
      exact (sum_set hk2 hne).symm
    · have hk2 : (tlL (sumN (fpL p)))[k - (fpL p).length]? = some y := by
        rw [sealL, List.getElem?_append_right (by omega)] at hk
        exact hk
      have e0 : (sealL p).set k z = fpL p ++ (tlL (sumN (fpL p))).set (k - (fpL p).length) z := by
        rw [sealL, List.set_append_right _ _ (by omega)]
      have e1 : ((sealL p).set k z ++ r).take (6 + p.length) = fpL p := by
        rw [e0, List.append_assoc]
        exact List.take_left' (by omega)
      have e2 : (((sealL p).set k z ++ r).drop (6 + p.length)).take 4 = (tlL (sumN (fpL p))).set (k - (fpL p).length) z := by
        rw [e0, List.append_assoc, List.drop_left' (by omega)]
        exact List.take_left' (by rw [List.length_set]; rfl)
      rw [e1, e2]
      have := be_set hk2 hne
      rwa [beN_tl (sumN_lt _)] at this
  unfold badB
  simp [w2]
theorem open_turned {p r : List UInt8} (h : p.length ≤ 65536) {k : Nat} {y z : UInt8} (hk : (sealL p)[k]? = some y) (hne : z ≠ y) : openL ((sealL p).set k z ++ r) = ([], 0, 2) := by
  unfold openL
  rw [turned_bad h hk hne]; rfl
end Go.Proofs.Fra
