/- pane: the program's table beside the document's list. -/
import Derived.Test.YtfolnnmgnkalkaaPanRefAdd
import Derived.Test.YtfolnnmgnkalkaaPanRun
import Derived.Test.YtfolnnmgnkalkaaPanLawCopies
namespace Go.Proofs.Pan
open Go.RowKit Go.Cic Go.ChangeMaps
set_option linter.unusedVariables false
/-- The document's list, weighed. -/
def lsum (f : Cell → Int) (L : List Sm) : Int := (L.map fun s => s.2.2 * f (s.1, s.2.1)).sum
theorem rsum_eq (key : ByteArray) (a b : Int) (L : List Sm) : rsum key a b L = lsum (inr key a b) L := rfl
theorem lsum_snoc (f : Cell → Int) (L : List Sm) (s : Sm) : lsum f (L ++ [s]) = lsum f L + s.2.2 * f (s.1, s.2.1) := by simp [lsum]
/-- A table and a list that hold the same, behind k acts. -/
structure Sim (T : Tab) (L : List Sm) (count : Int) (k : Nat) : Prop where
  nd : (T.map (·.1)).Nodup
  len : T.length ≤ k
  val : ∀ x ∈ T, 1 ≤ x.2 ∧ x.2 ≤ k * 1048576
  llen : L.length ≤ k
  lval : ∀ s ∈ L, 0 ≤ s.2.2 ∧ s.2.2 ≤ 1048576
  lok : ∀ s ∈ L, rdSum.ok s
  c0 : 0 ≤ count
  c1 : count ≤ k
  sum : ∀ f, wsum f T = lsum f L
theorem Sim.start : Sim [] [] 0 0 := ⟨by simp, Nat.le_refl _, by simp, Nat.le_refl _, by simp, by simp, Int.le_refl _, Int.le_refl _, fun f => by simp [wsum, lsum]⟩
theorem Sim.mono {T : Tab} {L : List Sm} {count : Int} {k m : Nat} (h : Sim T L count k) (hk : k ≤ m) : Sim T L count m :=
  ⟨h.nd, Nat.le_trans h.len hk, fun x hx => by have := h.val x hx; omega, Nat.le_trans h.llen hk, h.lval, h.lok, h.c0, by have := h.c1; omega, h.sum⟩
theorem Sim.get_bd {T : Tab} {L : List Sm} {count : Int} {k : Nat} (h : Sim T L count k) (c : Cell) : 0 ≤ (AL.get T c).getD 0 ∧ (AL.get T c).getD 0 ≤ k * 1048576 := by
  cases hg : AL.get T c with
  | none => simp; omega
  | some v =>
    have := h.val _ (AL.get_mem hg)
    simp only [Option.getD_some] at this ⊢
    omega
theorem Sim.add {width : Int} {T : Tab} {L : List Sm} {count : Int} {k : Nat} (h : Sim T L count k) (hk : k ≤ 1000) (key : ByteArray) (at_ n : Int) (hm : mayAdd key at_ n) (hok : rdSum.ok (key, pn width at_, n)) :
    Sim (if 0 < n then AL.put T (key, pn width at_) (wrap64 ((AL.get T (key, pn width at_)).getD 0 + n)) else T) (L ++ [(key, pn width at_, n)]) (count + 1) (k + 1) := by
  have hg := h.get_bd (key, pn width at_)
  obtain ⟨_, _, _, _, h5, h6⟩ := hm
  have hL1 : (L ++ [(key, pn width at_, n)]).length ≤ k + 1 := by have := h.llen; simp; omega
  have hL2 : ∀ s ∈ L ++ [(key, pn width at_, n)], 0 ≤ s.2.2 ∧ s.2.2 ≤ 1048576 := fun s hs => by
    rcases List.mem_append.1 hs with hs | hs
    · exact h.lval s hs
    · obtain rfl : s = (key, pn width at_, n) := by simpa using hs
      exact ⟨h5, h6⟩
  have hL3 : ∀ s ∈ L ++ [(key, pn width at_, n)], rdSum.ok s := fun s hs => by
    rcases List.mem_append.1 hs with hs | hs
    · exact h.lok s hs
    · obtain rfl : s = (key, pn width at_, n) := by simpa using hs
      exact hok
  by_cases hn : 0 < n
  · rw [if_pos hn]
    have hw : wrap64 ((AL.get T (key, pn width at_)).getD 0 + n) = (AL.get T (key, pn width at_)).getD 0 + n := wrap_id (by omega) (by omega)
    rw [hw]
    refine ⟨AL.put_nodup h.nd _ _, ?_, ?_, hL1, hL2, hL3, by have := h.c0; omega, by have := h.c1; push_cast; omega, fun f => ?_⟩
    · have := AL.put_length_le T (key, pn width at_) ((AL.get T (key, pn width at_)).getD 0 + n)
      have := h.len; omega
    · intro x hx
      rcases AL.mem_put hx with rfl | hx
      · dsimp only; push_cast; omega
      · have := h.val x hx; push_cast; omega
    · rw [wsum_put, h.sum, lsum_snoc]
  · rw [if_neg hn]
    have hn0 : n = 0 := by omega
    refine ⟨h.nd, by have := h.len; omega, fun x hx => by have := h.val x hx; push_cast; omega, hL1, hL2, hL3, by have := h.c0; omega, by have := h.c1; push_cast; omega, fun f => ?_⟩
    rw [h.sum, lsum_snoc, hn0]; simp
theorem lsum_filter (f : Cell → Int) (be : Int) (L : List Sm) : lsum f (L.filter fun s => decide (be ≤ s.2.1)) = lsum (fun c => if decide (be ≤ c.2) = true then f c else 0) L := by
  induction L with
  | nil => rfl
  | cons s r ih =>
    have e : ∀ (g : Cell → Int) (x : Sm) (l : List Sm), lsum g (x :: l) = x.2.2 * g (x.1, x.2.1) + lsum g l := fun g x l => by simp [lsum]
    rw [List.filter_cons, e]
    by_cases h : be ≤ s.2.1
    · rw [if_pos (decide_eq_true h), e, ih]; simp [h]
    · rw [if_neg (by simpa using h), ih]; simp [h]
theorem Sim.drop {T : Tab} {L : List Sm} {count : Int} {k : Nat} (h : Sim T L count k) (be : Int) : Sim (kept be T) (L.filter fun s => decide (be ≤ s.2.1)) count k := by
  refine ⟨?_, Nat.le_trans (List.length_filter_le _ _) h.len, fun x hx => h.val x (List.mem_filter.1 hx).1, Nat.le_trans (List.length_filter_le _ _) h.llen, fun s hs => h.lval s (List.mem_filter.1 hs).1, fun s hs => h.lok s (List.mem_filter.1 hs).1, h.c0, h.c1, fun f => ?_⟩
  · exact List.Nodup.sublist (List.Sublist.map _ List.filter_sublist) h.nd
  · rw [lsum_filter, ← h.sum]
    unfold kept
    rw [wsum_filter f (fun c => decide (be ≤ c.2)) T]
/-- A key stands in the table's stretch just where the document's sum is over 0. -/
theorem Sim.hasIn {T : Tab} {L : List Sm} {count : Int} {k : Nat} (h : Sim T L count k) (a b : Int) (key : ByteArray) : HasIn a b T key ↔ 0 < rsum key a b L := by
  rw [rsum_eq, ← h.sum]
  constructor
  · rintro ⟨c, n, h1, h2, h3, h4⟩
    have := wsum_mem_le (f := inr key a b) (T := T) (fun x _ => (inr_01 key a b x.1).1) (fun x hx => by have := h.val x hx; omega) h1
    rw [inr_yes h2 h3 h4] at this
    have := h.val _ h1
    simp only at *; omega
  · intro hp
    obtain ⟨x, hx, h1, h2⟩ := wsum_pos (f := inr key a b) (T := T) (fun x _ => (inr_01 key a b x.1).1) (fun x hx => by have := h.val x hx; omega) hp
    unfold inr at h2
    split at h2
    · rename_i hc; exact ⟨x.1, x.2, hx, hc.1, hc.2.1, hc.2.2⟩
    · omega
end Go.Proofs.Pan
