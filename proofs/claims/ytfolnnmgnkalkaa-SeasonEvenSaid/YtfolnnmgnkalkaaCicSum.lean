/- Sums over a table, by a weighing. Own library text. -/
import Derived.Test.YtfolnnmgnkalkaaCicRange
namespace Go.Cic
set_option linter.unusedSectionVars false
open Go.RowKit
variable {α : Type} [DecidableEq α]
/-- A table by a weighing. -/
def wsum (f : α → Int) (T : List (α × Int)) : Int := (T.map fun x => x.2 * f x.1).sum
theorem wsum_nil (f : α → Int) : wsum f [] = 0 := rfl
theorem wsum_cons (f : α → Int) (q : α × Int) (r : List (α × Int)) : wsum f (q :: r) = q.2 * f q.1 + wsum f r := by simp [wsum]
theorem wsum_append (f : α → Int) (T T' : List (α × Int)) : wsum f (T ++ T') = wsum f T + wsum f T' := by simp [wsum]
theorem wsum_put (f : α → Int) (T : List (α × Int)) (t : α) (n : Int) : wsum f (AL.put T t ((AL.get T t).getD 0 + n)) = wsum f T + n * f t := by
  induction T with
  | nil => simp [AL.put, AL.get, wsum]
  | cons q r ih =>
    simp only [AL.put, AL.get]
    split
    · rename_i h
      subst h
      simp only [Option.getD_some, wsum_cons, Int.add_mul]; omega
    · simp only [wsum_cons] at ih ⊢
      omega
theorem wsum_at {T : List (α × Int)} (hn : (T.map (·.1)).Nodup) (t : α) : wsum (fun x => if x = t then 1 else 0) T = (AL.get T t).getD 0 := by
  induction T with
  | nil => rfl
  | cons q r ih =>
    simp only [List.map_cons, List.nodup_cons] at hn
    simp only [AL.get, wsum_cons]
    split
    · rename_i h
      subst h
      have : wsum (fun x => if x = q.1 then 1 else 0) r = 0 := by
        rw [ih hn.2, AL.get_none (fun p hp e => hn.1 (List.mem_map.2 ⟨p, hp, e⟩))]; rfl
      simp [this]
    · rename_i h
      rw [ih hn.2]; simp
theorem wsum_del {f : α → Int} {L : List (α × Int)} (hn : (L.map (·.1)).Nodup) {x : α} {y : Int} (hp : (x, y) ∈ L) : wsum f (AL.del L x) = wsum f L - y * f x := by
  induction L with
  | nil => cases hp
  | cons q r ih =>
    simp only [List.map_cons, List.nodup_cons] at hn
    unfold AL.del at ih ⊢
    rcases List.mem_cons.1 hp with e | hp'
    · subst e
      have h1 : r.filter (fun p => decide (p.1 ≠ x)) = r := AL.del_keep (fun p hp e => hn.1 (List.mem_map.2 ⟨p, hp, e⟩))
      have h2 : decide (x ≠ x) = false := by simp
      simp only [List.filter_cons, h2, Bool.false_eq_true, if_false]
      rw [h1, wsum_cons]; simp only; omega
    · have h2 : decide (q.1 ≠ x) = true := by
        have : q.1 ≠ x := fun e => hn.1 (List.mem_map.2 ⟨(x, y), hp', e.symm⟩)
        simpa using this
      have := ih hn.2 hp'
      simp only [List.filter_cons, h2, if_true, wsum_cons] at this ⊢
      omega
theorem wsum_filter (f : α → Int) (q : α → Bool) (T : List (α × Int)) : wsum f (T.filter fun x => q x.1) = wsum (fun c => if q c then f c else 0) T := by
  induction T with
  | nil => rfl
  | cons p r ih =>
    simp only [List.filter_cons, wsum_cons]
    split
    · rw [wsum_cons, ih]
    · rw [ih]; simp
theorem wsum_congr {f g : α → Int} {T : List (α × Int)} (h : ∀ x ∈ T, f x.1 = g x.1) : wsum f T = wsum g T := by
  induction T with
  | nil => rfl
  | cons p r ih => rw [wsum_cons, wsum_cons, h p (by simp), ih (fun x hx => h x (by simp [hx]))]
theorem wsum_bd {f : α → Int} {T : List (α × Int)} {m V : Int} (hV : 0 ≤ V) (hf : ∀ t, 0 ≤ f t ∧ f t ≤ m) (hA : ∀ a ∈ T, 0 ≤ a.2 ∧ a.2 ≤ V) : 0 ≤ wsum f T ∧ wsum f T ≤ T.length * (V * m) := by
  induction T with
  | nil => simp [wsum]
  | cons a r ih =>
    obtain ⟨i1, i2⟩ := ih (fun x hx => hA x (by simp [hx]))
    obtain ⟨a1, a2⟩ := hA a (by simp)
    obtain ⟨f1, f2⟩ := hf a.1
    have h1 : 0 ≤ a.2 * f a.1 := Int.mul_nonneg a1 f1
    have h2 : a.2 * f a.1 ≤ V * m := Int.mul_le_mul a2 f2 f1 hV
    rw [wsum_cons, List.length_cons]
    push_cast
    rw [Int.add_mul]
    omega
theorem wsum_nonneg {f : α → Int} {T : List (α × Int)} (hf : ∀ x ∈ T, 0 ≤ f x.1) (hA : ∀ a ∈ T, 0 ≤ a.2) : 0 ≤ wsum f T := by
  induction T with
  | nil => simp [wsum]
  | cons a r ih =>
    have := ih (fun x hx => hf x (by simp [hx])) (fun x hx => hA x (by simp [hx]))
    have h1 : 0 ≤ a.2 * f a.1 := Int.mul_nonneg (hA a (by simp)) (hf a (by simp))
    rw [wsum_cons]; omega
theorem wsum_le {f g : α → Int} {T : List (α × Int)} (h : ∀ x ∈ T, f x.1 ≤ g x.1) (hA : ∀ a ∈ T, 0 ≤ a.2) : wsum f T ≤ wsum g T := by
  induction T with
  | nil => simp [wsum]
  | cons a r ih =>
    have := ih (fun x hx => h x (by simp [hx])) (fun x hx => hA x (by simp [hx]))
    have h1 : a.2 * f a.1 ≤ a.2 * g a.1 := Int.mul_le_mul_of_nonneg_left (h a (by simp)) (hA a (by simp))
    rw [wsum_cons, wsum_cons]; omega
theorem wsum_add (f g : α → Int) (T : List (α × Int)) : wsum (fun c => f c + g c) T = wsum f T + wsum g T := by
  induction T with
  | nil => rfl
  | cons a r ih => simp only [wsum_cons, ih, Int.mul_add]; omega
theorem wsum_zero {f : α → Int} {T : List (α × Int)} (h : ∀ x ∈ T, f x.1 = 0) : wsum f T = 0 := by
  induction T with
  | nil => rfl
  | cons a r ih => rw [wsum_cons, h a (by simp), ih (fun x hx => h x (by simp [hx]))]; simp
/-- Somewhere is something. -/
theorem wsum_pos {f : α → Int} {T : List (α × Int)} (hf : ∀ x ∈ T, 0 ≤ f x.1) (hA : ∀ a ∈ T, 0 ≤ a.2) (h : 0 < wsum f T) : ∃ a ∈ T, 0 < a.2 ∧ 0 < f a.1 := by
  induction T with
  | nil => simp [wsum] at h
  | cons a r ih =>
    by_cases ha : 0 < a.2 * f a.1
    · refine ⟨a, by simp, ?_⟩
      have h1 := hA a (by simp); have h2 := hf a (by simp)
      constructor
      · rcases Int.lt_or_eq_of_le h1 with h | h
        · exact h
        · rw [← h] at ha; simp at ha
      · rcases Int.lt_or_eq_of_le h2 with h | h
        · exact h
        · rw [← h] at ha; simp at ha
    · rw [wsum_cons] at h
      obtain ⟨b, hb, h3⟩ := ih (fun x hx => hf x (by simp [hx])) (fun x hx => hA x (by simp [hx])) (by omega)
      exact ⟨b, by simp [hb], h3⟩
theorem wsum_mem_le {f : α → Int} {T : List (α × Int)} (hf : ∀ x ∈ T, 0 ≤ f x.1) (hA : ∀ a ∈ T, 0 ≤ a.2) {a : α × Int} (ha : a ∈ T) : a.2 * f a.1 ≤ wsum f T := by
  induction T with
  | nil => cases ha
  | cons b r ih =>
    have hr := wsum_nonneg (f := f) (T := r) (fun x hx => hf x (by simp [hx])) (fun x hx => hA x (by simp [hx]))
    rw [wsum_cons]
    rcases List.mem_cons.1 ha with rfl | ha
    · omega
    · have := ih (fun x hx => hf x (by simp [hx])) (fun x hx => hA x (by simp [hx])) ha
      have h1 : 0 ≤ b.2 * f b.1 := Int.mul_nonneg (hA b (by simp)) (hf b (by simp))
      omega
theorem wrap_add (a b : Int) : wrap64 (wrap64 a + b) = wrap64 (a + b) := by unfold wrap64; omega
theorem wrap_id {a : Int} (h1 : -9223372036854775808 ≤ a) (h2 : a ≤ 9223372036854775807) : wrap64 a = a := by unfold wrap64; omega
end Go.Cic
