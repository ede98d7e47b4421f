/- pane: a text put into its place, plain. -/
import Derived.Test.YtfolnnmgnkalkaaPanDo
import Derived.Test.YtfolnnmgnkalkaaPanPartsPlain
namespace Go.Proofs.Pan
open Go.RowKit Go.Cic Go.ChangeMaps
set_option linter.unusedVariables false
/-- 'k' is where 'key' belongs: all before are less, the one there is not. -/
structure Place (ks : List ByteArray) (key : ByteArray) (k : Nat) : Prop where
  le : k ≤ ks.length
  less : ∀ x ∈ ks.take k, x.toList < key.toList
  at_ : ∀ x, ks[k]? = some x → ¬ x.toList < key.toList
theorem rising_insert {ks : List ByteArray} {key : ByteArray} {k : Nat} (hr : Rising ks) (hp : Place ks key k) (hne : ∀ x, ks[k]? = some x → x ≠ key) : Rising (ks.take k ++ [key] ++ ks.drop k) := by
  have hr2 : Rising (ks.take k ++ ks.drop k) := by rw [List.take_append_drop]; exact hr
  obtain ⟨r1, r2, r3⟩ := List.pairwise_append.1 hr2
  have hgt : ∀ y ∈ ks.drop k, key.toList < y.toList := fun y hy => by
    cases hd : ks.drop k with
    | nil => rw [hd] at hy; cases hy
    | cons z r =>
      have hz : ks[k]? = some z := by
        have : (ks.drop k)[0]? = some z := by rw [hd]; rfl
        rwa [List.getElem?_drop, Nat.add_zero] at this
      have h1 := hp.at_ z hz
      have h2 := hne z hz
      have hkz : key.toList < z.toList := by
        have h3 : key.toList ≤ z.toList := List.not_lt.1 h1
        rcases List.le_iff_lt_or_eq.1 h3 with h | h
        · exact h
        · exact absurd (str_inj h).symm h2
      rw [hd] at hy r2
      rcases List.mem_cons.1 hy with rfl | hy
      · exact hkz
      · exact List.lt_trans hkz ((List.pairwise_cons.1 r2).1 y hy)
  refine List.pairwise_append.2 ⟨List.pairwise_append.2 ⟨r1, by simp, fun a ha b hb => ?_⟩, r2, fun a ha b hb => ?_⟩
  · obtain rfl : b = key := by simpa using hb
    exact hp.less a ha
  · rcases List.mem_append.1 ha with ha | ha
    · exact r3 a ha b hb
    · obtain rfl : a = key := by simpa using ha
      exact hgt b hb
theorem mem_insert {ks : List ByteArray} {key : ByteArray} {k : Nat} (x : ByteArray) : x ∈ ks.take k ++ [key] ++ ks.drop k ↔ x = key ∨ x ∈ ks := by
  have : x ∈ ks ↔ x ∈ ks.take k ++ ks.drop k := by rw [List.take_append_drop]
  rw [this]
  simp only [List.mem_append, List.mem_singleton]
  constructor
  · rintro ((h | h) | h)
    · exact .inr (.inl h)
    · exact .inl h
    · exact .inr (.inr h)
  · rintro (h | h | h)
    · exact .inl (.inr h)
    · exact .inl (.inl h)
    · exact .inr h
end Go.Proofs.Pan
