/- pane: panes by what was added. -/
import Derived.Test.YtfolnnmgnkalkaaPanKeys
import Derived.Test.YtfolnnmgnkalkaaPanArgs
namespace Go.Proofs.Pan
open Go.RowKit Go.Cic Go.ChangeMaps
set_option linter.unusedVariables false
set_option maxRecDepth 100000
/-- May an act be? -/
abbrev okA (d : Act') : Prop := mayAdd d.2.1 d.2.2.1 d.2.2.2
/-- What was added, by a weighing. -/
def asum (width : Int) (f : Cell → Int) (l : List Act') : Int := (l.map fun d => if okA d then d.2.2.2 * f (d.2.1, pn width d.2.2.1) else 0).sum
theorem asum_snoc (width : Int) (f : Cell → Int) (l : List Act') (d : Act') : asum width f (l ++ [d]) = asum width f l + if okA d then d.2.2.2 * f (d.2.1, pn width d.2.2.1) else 0 := by simp [asum]
theorem asum_nil (width : Int) (f : Cell → Int) : asum width f [] = 0 := rfl
theorem asum_cons (width : Int) (f : Cell → Int) (l : List Act') (d : Act') : asum width f (d :: l) = (if okA d then d.2.2.2 * f (d.2.1, pn width d.2.2.1) else 0) + asum width f l := by simp [asum]
theorem asum_append (width : Int) (f : Cell → Int) (l m : List Act') : asum width f (l ++ m) = asum width f l + asum width f m := by simp [asum]
theorem asum_bd {width : Int} {f : Cell → Int} {l : List Act'} (hf : ∀ c, 0 ≤ f c ∧ f c ≤ 1) : 0 ≤ asum width f l ∧ asum width f l ≤ l.length * 1048576 := by
  induction l with
  | nil => simp [asum]
  | cons d r ih =>
    rw [asum_cons, List.length_cons]
    have h1 : 0 ≤ (if okA d then d.2.2.2 * f (d.2.1, pn width d.2.2.1) else 0) ∧ (if okA d then d.2.2.2 * f (d.2.1, pn width d.2.2.1) else 0) ≤ 1048576 := by
      split
      · rename_i h
        obtain ⟨_, _, _, _, h5, h6⟩ := h
        obtain ⟨f1, f2⟩ := hf (d.2.1, pn width d.2.2.1)
        have := Int.mul_nonneg h5 f1
        have h7 : d.2.2.2 * f (d.2.1, pn width d.2.2.1) ≤ d.2.2.2 * 1 := Int.mul_le_mul_of_nonneg_left f2 h5
        omega
      · omega
    push_cast
    omega
theorem inr_01 (key : ByteArray) (a b : Int) (c : Cell) : 0 ≤ inr key a b c ∧ inr key a b c ≤ 1 := by unfold inr; split <;> omega
theorem asum_congr {width width' : Int} {f g : Cell → Int} {l : List Act'} (h : ∀ d ∈ l, okA d → d.2.2.2 * f (d.2.1, pn width d.2.2.1) = d.2.2.2 * g (d.2.1, pn width' d.2.2.1)) : asum width f l = asum width' g l := by
  induction l with
  | nil => rfl
  | cons d r ih =>
    rw [asum_cons, asum_cons, ih (fun x hx => h x (by simp [hx]))]
    congr 1
    split
    · rename_i ho; exact h d (by simp) ho
    · rfl
/-- A table that holds what was added. -/
structure Run (width : Int) (l : List Act') (added : Int) (T : Tab) : Prop where
  nd : (T.map (·.1)).Nodup
  len : T.length ≤ l.length
  val : ∀ x ∈ T, 1 ≤ x.2 ∧ x.2 ≤ l.length * 1048576
  add0 : 0 ≤ added
  add1 : added ≤ l.length
  sum : ∀ f, wsum f T = asum width f l
theorem Run.start (width : Int) : Run width [] 0 [] := ⟨by simp, Nat.le_refl _, by simp, Int.le_refl _, by simp, fun f => by simp [wsum, asum]⟩
theorem Run.get_bd {width : Int} {l : List Act'} {added : Int} {T : Tab} (h : Run width l added T) (c : Cell) : 0 ≤ (AL.get T c).getD 0 ∧ (AL.get T c).getD 0 ≤ l.length * 1048576 := by
  cases hg : AL.get T c with
  | none => simp; omega
  | some v =>
    have := h.val _ (AL.get_mem hg)
    simp only [Option.getD_some] at this ⊢
    omega
theorem Run.add {width : Int} {l : List Act'} {added : Int} {T : Tab} (h : Run width l added T) (hl : l.length ≤ 1000) (kd : Int) (key : ByteArray) (at_ n : Int) :
    (decide (mayAdd key at_ n ∧ added < 1048576)) = decide (mayAdd key at_ n) ∧ Run width (l ++ [(kd, key, at_, n)]) (if mayAdd key at_ n ∧ added < 1048576 then added + 1 else added) (if (mayAdd key at_ n ∧ added < 1048576) ∧ 0 < n then AL.put T (key, pn width at_) (wrap64 ((AL.get T (key, pn width at_)).getD 0 + n)) else T) := by
  have ha : added < 1048576 := by have := h.add1; omega
  have hg := h.get_bd (key, pn width at_)
  refine ⟨by simp [ha], ?_⟩
  by_cases hm : mayAdd key at_ n
  · have hm' := hm
    obtain ⟨_, _, _, _, h5, h6⟩ := hm'
    rw [if_pos ⟨hm, ha⟩]
    by_cases hn : 0 < n
    · rw [if_pos ⟨⟨hm, ha⟩, hn⟩]
      have hw : wrap64 ((AL.get T (key, pn width at_)).getD 0 + n) = (AL.get T (key, pn width at_)).getD 0 + n := wrap_id (by omega) (by omega)
      rw [hw]
      refine ⟨AL.put_nodup h.nd _ _, ?_, ?_, by have := h.add0; omega, by have := h.add1; simp; omega, fun f => ?_⟩
      · have := AL.put_length_le T (key, pn width at_) ((AL.get T (key, pn width at_)).getD 0 + n)
        have := h.len; simp; omega
      · intro x hx
        simp only [List.length_append, List.length_cons, List.length_nil]
        rcases AL.mem_put hx with rfl | hx
        · dsimp only; push_cast; omega
        · have := h.val x hx; push_cast; omega
      · rw [wsum_put, h.sum, asum_snoc, if_pos hm]
    · rw [if_neg (fun h => hn h.2)]
      have hn0 : n = 0 := by omega
      refine ⟨h.nd, by have := h.len; simp; omega, fun x hx => by have := h.val x hx; simp; omega, by have := h.add0; omega, by have := h.add1; simp; omega, fun f => ?_⟩
      rw [h.sum, asum_snoc, if_pos hm, hn0]; simp
  · rw [if_neg (fun h => hm h.1), if_neg (fun h => hm h.1.1)]
    refine ⟨h.nd, by have := h.len; simp; omega, fun x hx => by have := h.val x hx; simp; omega, h.add0, by have := h.add1; simp; omega, fun f => ?_⟩
    rw [h.sum, asum_snoc, if_neg hm]; simp
theorem Run.hasIn {width : Int} {l : List Act'} {added : Int} {T : Tab} (h : Run width l added T) (a b : Int) (k : ByteArray) : HasIn a b T k ↔ 0 < asum width (inr k a b) l := by
  rw [← h.sum]
  constructor
  · rintro ⟨c, n, h1, h2, h3, h4⟩
    have := wsum_mem_le (f := inr k a b) (T := T) (fun x _ => (inr_01 k a b x.1).1) (fun x hx => by have := h.val x hx; omega) h1
    rw [inr_yes h2 h3 h4] at this
    have := h.val _ h1
    simp only at *; omega
  · intro hp
    obtain ⟨x, hx, h1, h2⟩ := wsum_pos (f := inr k a b) (T := T) (fun x _ => (inr_01 k a b x.1).1) (fun x hx => by have := h.val x hx; omega) hp
    unfold inr at h2
    split at h2
    · rename_i hc; exact ⟨x.1, x.2, hx, hc.1, hc.2.1, hc.2.2⟩
    · omega
/-- Panes in memory, by what was added. -/
def PanR (p : Nat) (width : Int) (acts : List Act') : Asrt := Asrt.some' fun x : Int × Tab => Asrt.star (Asrt.fact (Run width acts x.1 x.2)) (PanA p width x.1 x.2)
section
variable {B p : Nat} {width : Int} {acts : List Act'} {l : List Asrt} {w : World}
theorem panR_iff : Owns B (PanR p width acts :: l) w ↔ ∃ added T, Run width acts added T ∧ Owns B (PanA p width added T :: l) w := by
  unfold PanR
  rw [Owns.ex_iff]
  constructor
  · rintro ⟨⟨a, T⟩, h⟩; rw [Owns.star_iff, Owns.fact_iff] at h; exact ⟨a, T, h⟩
  · rintro ⟨a, T, h⟩; exact ⟨(a, T), by rw [Owns.star_iff, Owns.fact_iff]; exact h⟩
theorem newR (width : Int) (hO : Owns B l w) (hB : B ≤ w.heap.size) :
    Calls Try.prog 18 #[.int .i64 width] w fun e w' => ∃ p, e = .returned (.pointer (some ⟨p, 0, none⟩)) ∧ Owns B (PanR p (wf width) [] :: l) w' ∧ Below B w w' :=
  (new_own width hO hB).mono fun e w' ⟨p, h1, h2, h3⟩ => ⟨p, h1, panR_iff.2 ⟨0, [], Run.start _, h2⟩, h3⟩
theorem addR (kd : Int) (key : ByteArray) (at_ n : Int) (hO : Owns B (PanR p width acts :: l) w) (hB : B ≤ w.heap.size) (hl : acts.length ≤ 1000) (hw1 : 1 ≤ width) (hw2 : width ≤ 1099511627776) :
    Calls Try.prog 19 #[.pointer (some ⟨p, 0, none⟩), .string key, .int .i64 at_, .int .i64 n] w fun e w' => e = .returned (.bool (decide (mayAdd key at_ n))) ∧ Owns B (PanR p width (acts ++ [(kd, key, at_, n)]) :: l) w' ∧ Below B w w' := by
  obtain ⟨added, T, hR, h⟩ := panR_iff.1 hO
  obtain ⟨h1, h2⟩ := hR.add hl kd key at_ n
  refine (add_own key at_ n h hB hR.add0 hw1 hw2).mono ?_
  rintro e w' ⟨rfl, h3, h4⟩
  exact ⟨by rw [h1], panR_iff.2 ⟨_, _, h2, h3⟩, h4⟩
theorem sumR (key : ByteArray) (from_ to_ : Int) (hO : Owns B (PanR p width acts :: l) w) (hB : B ≤ w.heap.size) (hl : acts.length ≤ 1000) (hw1 : 1 ≤ width) (hw2 : width ≤ 1099511627776)
    (h1 : -9223372036854775808 ≤ from_) (h2 : from_ ≤ 9223372036854775807) (h3 : -9223372036854775808 ≤ to_) (h4 : to_ ≤ 9223372036854775807) :
    Calls Try.prog 22 #[.pointer (some ⟨p, 0, none⟩), .string key, .int .i64 from_, .int .i64 to_] w fun e w' => e = .returned (.int .i64 (asum width (inr key (pn width from_) (pn width to_)) acts)) ∧ Owns B (PanR p width acts :: l) w' ∧ Below B w w' := by
  obtain ⟨added, T, hR, h⟩ := panR_iff.1 hO
  refine (sum_own key from_ to_ h hB hw1 hw2 h1 h2 h3 h4).mono ?_
  rintro e w' ⟨rfl, h5, h6⟩
  have hb := asum_bd (width := width) (l := acts) (inr_01 key (pn width from_) (pn width to_))
  exact ⟨by rw [hR.sum, wrap_id (by omega) (by omega)], panR_iff.2 ⟨_, _, hR, h5⟩, h6⟩
theorem keysR (from_ to_ : Int) (hO : Owns B (PanR p width acts :: l) w) (hB : B ≤ w.heap.size) (hl : acts.length ≤ 1000) (hw1 : 1 ≤ width) (hw2 : width ≤ 1099511627776)
    (h1 : -9223372036854775808 ≤ from_) (h2 : from_ ≤ 9223372036854775807) (h3 : -9223372036854775808 ≤ to_) (h4 : to_ ≤ 9223372036854775807) :
    Calls Try.prog 24 #[.pointer (some ⟨p, 0, none⟩), .int .i64 from_, .int .i64 to_] w fun e w' => ∃ (ks : List ByteArray) (ao : Option Addr) (c : Nat), e = .returned (.slice ao ks.length c) ∧ Rising ks ∧ (∀ k, k ∈ ks ↔ 0 < asum width (inr k (pn width from_) (pn width to_)) acts) ∧ ks.length ≤ 1000 ∧
      Owns B (Asrt.row 9 (.slice ao ks.length c) (ks.map Value.string) :: PanR p width acts :: l) w' ∧ Below B w w' := by
  obtain ⟨added, T, hR, h⟩ := panR_iff.1 hO
  refine (keys_own from_ to_ h hB (by have := hR.len; omega) hw1 hw2 h1 h2 h3 h4).mono ?_
  rintro e w' ⟨ks, ao, c, rfl, k1, k2, k3, h5, h6⟩
  exact ⟨ks, ao, c, rfl, k1, fun k => (k2 k).trans (hR.hasIn _ _ k), by have := hR.len; omega, (panR_iff.2 ⟨_, _, hR, h5.swap⟩).swap, h6⟩
end
end Go.Proofs.Pan
