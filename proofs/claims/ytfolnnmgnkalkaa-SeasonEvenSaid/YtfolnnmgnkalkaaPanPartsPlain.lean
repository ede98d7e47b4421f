/- PaneParts: the plain law. -/
import Derived.Test.YtfolnnmgnkalkaaPanRun
import Derived.Test.YtfolnnmgnkalkaaPanLawCopies
namespace Go.Proofs.Pan
open Go.RowKit Go.Cic Go.ChangeMaps
set_option linter.unusedVariables false
theorem asum_parts {wd a b c : Int} (hw : 1 ≤ wd) (h1 : a ≤ b) (h2 : b ≤ c) (key : ByteArray) (l : List Act') :
    asum wd (inr key (pn wd a) (pn wd b)) l + asum wd (inr key (pn wd b) (pn wd c)) l = asum wd (inr key (pn wd a) (pn wd c)) l := by
  have p1 := pn_mono hw h1
  have p2 := pn_mono hw h2
  induction l with
  | nil => rfl
  | cons d r ih =>
    rw [asum_cons, asum_cons, asum_cons]
    have : (if okA d then d.2.2.2 * inr key (pn wd a) (pn wd b) (d.2.1, pn wd d.2.2.1) else 0) + (if okA d then d.2.2.2 * inr key (pn wd b) (pn wd c) (d.2.1, pn wd d.2.2.1) else 0) = (if okA d then d.2.2.2 * inr key (pn wd a) (pn wd c) (d.2.1, pn wd d.2.2.1) else 0) := by
      by_cases ho : okA d
      · rw [if_pos ho, if_pos ho, if_pos ho, ← Int.mul_add]
        congr 1
        unfold inr
        dsimp only
        by_cases hk : d.2.1 = key
        · by_cases e1 : pn wd a ≤ pn wd d.2.2.1 <;> by_cases e2 : pn wd d.2.2.1 < pn wd b <;> by_cases e3 : pn wd b ≤ pn wd d.2.2.1 <;> by_cases e4 : pn wd d.2.2.1 < pn wd c <;> simp [hk, e1, e2, e3, e4] <;> omega
        · simp [hk]
      · simp only [if_neg ho]; rfl
    omega
theorem asum_none {wd a b : Int} (hw : 1 ≤ wd) (h : b ≤ a) (key : ByteArray) (l : List Act') : asum wd (inr key (pn wd a) (pn wd b)) l = 0 := by
  have p1 := pn_mono hw h
  induction l with
  | nil => rfl
  | cons d r ih =>
    rw [asum_cons, ih, inr_no (fun h => by omega)]
    simp
theorem term_nonneg (wd : Int) (k : ByteArray) (x y : Int) (d : Act') : 0 ≤ (if okA d then d.2.2.2 * inr k x y (d.2.1, pn wd d.2.2.1) else 0) := by
  split
  · rename_i h
    obtain ⟨_, _, _, _, h5, h6⟩ := h
    exact Int.mul_nonneg h5 (inr_01 _ _ _ _).1
  · omega
theorem asum_one {wd : Int} (hw : 1 ≤ wd) (hw2 : wd ≤ 1099511627776) {l : List Act'} {d : Act'} (hd : d ∈ l) (ho : okA d) : d.2.2.2 ≤ asum wd (inr d.2.1 (pn wd (-4611686018427387904)) (pn wd 4611686018427387904)) l := by
  induction l with
  | nil => cases hd
  | cons e r ih =>
    rw [asum_cons]
    have hn := asum_bd (width := wd) (l := r) (inr_01 d.2.1 (pn wd (-4611686018427387904)) (pn wd 4611686018427387904))
    rcases List.mem_cons.1 hd with rfl | hd
    · rw [if_pos ho]
      obtain ⟨_, _, h3, h4, h5, h6⟩ := ho
      have e1 : pn wd (-4611686018427387904) ≤ pn wd d.2.2.1 := pn_mono hw (by omega)
      have e2 : pn wd d.2.2.1 < pn wd 4611686018427387904 := by
        have : pn wd d.2.2.1 + 1 = pn wd (d.2.2.1 + wd * 1) := by
          unfold pn
          rw [Int.add_mul_ediv_left _ _ (by omega)]
        have h8 : pn wd (d.2.2.1 + wd * 1) ≤ pn wd 4611686018427387904 := pn_mono hw (by omega)
        omega
      have h9 : inr d.2.1 (pn wd (-4611686018427387904)) (pn wd 4611686018427387904) (d.2.1, pn wd d.2.2.1) = 1 := inr_yes (c := (d.2.1, pn wd d.2.2.1)) rfl e1 e2
      rw [h9]
      omega
    · have := ih hd
      have := term_nonneg wd d.2.1 (pn wd (-4611686018427387904)) (pn wd 4611686018427387904) e
      omega
/-- The sum of all keys' sums. -/
def ksum (wd a c : Int) (l : List Act') (ks : List ByteArray) : Int := (ks.map fun k => asum wd (inr k (pn wd a) (pn wd c)) l).sum
theorem ksum_snoc (wd a c : Int) (l : List Act') (ks : List ByteArray) (k : ByteArray) : ksum wd a c l (ks ++ [k]) = ksum wd a c l ks + asum wd (inr k (pn wd a) (pn wd c)) l := by simp [ksum]
theorem ksum_bd (wd a c : Int) (l : List Act') (ks : List ByteArray) : 0 ≤ ksum wd a c l ks ∧ ksum wd a c l ks ≤ ks.length * (l.length * 1048576) := by
  induction ks with
  | nil => simp [ksum]
  | cons k r ih =>
    have := asum_bd (width := wd) (l := l) (inr_01 k (pn wd a) (pn wd c))
    have e : ksum wd a c l (k :: r) = asum wd (inr k (pn wd a) (pn wd c)) l + ksum wd a c l r := by simp [ksum]
    rw [e, List.length_cons]
    push_cast
    rw [Int.add_mul]
    omega
theorem ksum_ge {wd a c : Int} {l : List Act'} {ks : List ByteArray} {k : ByteArray} (h : k ∈ ks) : asum wd (inr k (pn wd a) (pn wd c)) l ≤ ksum wd a c l ks := by
  induction ks with
  | nil => cases h
  | cons x r ih =>
    have e : ksum wd a c l (x :: r) = asum wd (inr x (pn wd a) (pn wd c)) l + ksum wd a c l r := by simp [ksum]
    rw [e]
    rcases List.mem_cons.1 h with rfl | h
    · have := ksum_bd wd a c l r; omega
    · have := ih h
      have := asum_bd (width := wd) (l := l) (inr_01 x (pn wd a) (pn wd c))
      omega
theorem ksum_all {wd a c : Int} {l : List Act'} {ks : List ByteArray} (hks : ∀ k, k ∈ ks ↔ 0 < asum wd (inr k (pn wd a) (pn wd c)) l) (k : ByteArray) : asum wd (inr k (pn wd a) (pn wd c)) l ≤ ksum wd a c l ks := by
  by_cases h : 0 < asum wd (inr k (pn wd a) (pn wd c)) l
  · exact ksum_ge ((hks k).2 h)
  · have := ksum_bd wd a c l ks; omega
theorem rising_at {ks : List ByteArray} (h : Rising ks) {i j : Nat} {x y : ByteArray} (hi : ks[i]? = some x) (hj : ks[j]? = some y) (hlt : i < j) : x.toList < y.toList := by
  obtain ⟨h1, rfl⟩ := List.getElem?_eq_some_iff.1 hi
  obtain ⟨h2, rfl⟩ := List.getElem?_eq_some_iff.1 hj
  exact List.pairwise_iff_getElem.1 h i j h1 h2 hlt
end Go.Proofs.Pan
