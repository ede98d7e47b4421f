/- frame: All. -/
import Derived.Test.YtnjakbkecimjcaaFraLawCuts
namespace Go.Proofs.Fra
open Go.RowKit Go.Cic Go.ChangeMaps
set_option linter.unusedVariables false
set_option maxRecDepth 100000
theorem info22 : (Try.prog.info? 22).map (fun i => (i.zero, i.size, i.bytes)) = some (some (Value.slice none 0 0), 1, 24) := by kernel_rfl
/-- From a place on: what is told, where it ends, how it goes on. -/
inductive AllR (l : List UInt8) : Nat → List (List UInt8) × Nat × Nat → Prop
  | done {k : Nat} : ¬ k < l.length → AllR l k ([], k, 0)
  | stop {k n s : Nat} {q : List UInt8} : k < l.length → openL (l.drop k) = (q, n, s) → s ≠ 0 → AllR l k ([], k, s)
  | step {k n e s : Nat} {q : List UInt8} {qs : List (List UInt8)} : k < l.length → openL (l.drop k) = (q, n, 0) → AllR l (k + n) (qs, e, s) → AllR l k (q :: qs, e, s)
theorem open_cases (l : List UInt8) : (openL l).2.2 = 2 ∧ (openL l).1 = [] ∨ (openL l).2.2 = 1 ∧ (openL l).1 = [] ∨ (openL l).2.2 = 0 ∧ 10 ≤ (openL l).2.1 ∧ (openL l).2.1 ≤ l.length := by
  unfold openL
  split
  · exact .inl ⟨rfl, rfl⟩
  · split
    · exact .inr (.inl ⟨rfl, rfl⟩)
    · rename_i h1 h2
      refine .inr (.inr ⟨rfl, ?_, ?_⟩)
      · show 10 ≤ toldN l + 10
        omega
      · show toldN l + 10 ≤ l.length
        have h3 : tornB l = false := by simpa using h2
        unfold tornB at h3
        have := of_decide_eq_false h3
        omega
def payA (vs : List Value) (qs : List (List UInt8)) : List Asrt := List.zipWith (fun v q => Asrt.row 5 v (bv q)) vs qs
def RowsRead (w : World) (ao : Option Addr) (qs : List (List UInt8)) : Prop :=
  ∃ vs : List Value, vs.length = qs.length ∧ Lies w ao vs ∧ ∀ (i : Nat) (q : List UInt8), qs[i]? = some q → ∃ (a : Option Addr) (c : Nat), vs[i]? = some (Value.slice a q.length c) ∧ Lies w a (bv q)
theorem RowsRead.below {w w' : World} {ao : Option Addr} {qs : List (List UInt8)} (h : RowsRead w ao qs) (hb : Below w.heap.size w w') : RowsRead w' ao qs := by
  obtain ⟨vs, h1, h2, h3⟩ := h
  refine ⟨vs, h1, h2.below hb, fun i q hq => ?_⟩
  obtain ⟨a, c, h4, h5⟩ := h3 i q hq
  exact ⟨a, c, h4, h5.below hb⟩
theorem rows_read {B : Nat} {ao : Option Addr} {n c : Nat} {vs : List Value} {qs : List (List UInt8)} {w : World} (h : Owns B (Asrt.row 22 (.slice ao n c) vs :: payA vs qs) w) (hl : vs.length = qs.length) : RowsRead w ao qs := by
  refine ⟨vs, hl, h.rowLies.1, fun i q hq => ?_⟩
  have hi : i < qs.length := (List.getElem?_eq_some_iff.1 hq).1
  have hv : vs[i]? = some vs[i] := List.getElem?_eq_getElem (by omega)
  have hz : (payA vs qs)[i]? = some (Asrt.row 5 vs[i] (bv q)) := by
    unfold payA
    rw [List.getElem?_zipWith, hv, hq]
  obtain ⟨ao', cap, e1, e2, e3, _⟩ := (h.tail.front i _ hz).rowE
  refine ⟨ao', cap, ?_, e3⟩
  rw [hv, e1, bv_len]
/-- The loop's state. -/
def AllS (B : Nat) (w : World) (l : List UInt8) (out at_ : Value) (wr : World) : Prop :=
  ∃ (k : Nat) (ao : Option Addr) (c : Nat) (vs : List Value) (qs : List (List UInt8)), k ≤ l.length ∧ at_ = .int .i64 k ∧ vs.length = qs.length ∧ out = .slice ao qs.length c ∧ qs.length * 10 ≤ k ∧ Below B w wr ∧
    Owns B (Asrt.row 22 (.slice ao qs.length c) vs :: payA vs qs) wr ∧ ∀ r, AllR l k r → AllR l 0 (qs ++ r.1, r.2)
def AllPost (l : List UInt8) (w : World) (e : Ending) (w' : World) : Prop :=
  ∃ ao c qs en s, AllR l 0 (qs, en, s) ∧ en ≤ l.length ∧ e = .returned (.tuple #[Value.slice ao qs.length c, Value.int .i64 (en : Nat), Value.int .i64 (s : Nat)]) ∧ RowsRead w' ao qs ∧ Below w.heap.size w w' ∧ qs.length * 10 ≤ l.length
set_option maxHeartbeats 4000000 in
theorem all_any (ao : Option Addr) (n c : Nat) (l : List UInt8) (w : World) (hs : Lies w ao (bv l)) (hn : l.length = n) (hl : n ≤ 4294967296) (hc : n ≤ c) : Calls Try.prog 15 #[.slice ao n c] w (AllPost l w) := by
  subst hn
  go_enter Try.func15, Try.ntmps15
  go_wp2_with fail
  go_loopw [5, 6] (fun a b wr => AllS w.heap.size w l a b wr) (fun _ i _ => l.length - (intOf i).toNat)
  case atStart => exact ⟨0, none, 0, [], [], Nat.zero_le _, rfl, rfl, rfl, Nat.zero_le _, Below.refl _ _, (Owns.nil _ _).rowNil, fun r h => by simpa using h⟩
  case round =>
    obtain ⟨k, a1, c1, vs, qs, hk, rfl, hvl, rfl, hq10, hb, hO, hJ⟩ := hrel
    have hJ := Hid.mk' hJ
    have hz := hb.size
    by_cases hlt : k < l.length
    · have hlti : (k : Int) < (l.length : Int) := by omega
      have hL1 := hs.below hb
      have hL2 : Lies wr (ao.map (fun x => x.add k)) (bv (l.drop k)) := by
        have := Lies.sub' hL1 (lo := k) (hi := l.length) (cap := c) hc
        rw [if_neg (by omega), List.take_of_length_le (by simp)] at this
        simpa using this
      have hoc := open_cases (l.drop k)
      have hopen := open_own hO hz (ao.map (fun x => x.add k)) (l.length - k) (c - k) (l.drop k) hL2 (by simp) (by omega) (by omega)
      obtain ⟨o, ho⟩ : ∃ o, Hid (openL (l.drop k) = o) := ⟨_, rfl⟩
      unfold OpenPost at hopen
      rw [ho.out] at hopen hoc
      obtain ⟨q, m, s⟩ := o
      simp only at hopen hoc
      rw [List.length_drop] at hoc
      go_wp2_with fail
      refine hopen.mono ?_
      rintro e w2 ⟨a2, c2, rfl, hO2, b2⟩
      have hR := rows_read hO2.tail hvl
      have Q2 := hb.trans b2
      rcases hoc with ⟨rfl, rfl⟩ | ⟨rfl, rfl⟩ | ⟨rfl, h10, hm⟩
      · have hst := hJ.out _ (AllR.stop hlt ho.out (by omega))
        go_wp2_with fail
        go_ret3
        exact ⟨a1, c1, qs, k, 2, by simpa using hst, by omega, rfl, hR, Q2, by omega⟩
      · have hst := hJ.out _ (AllR.stop hlt ho.out (by omega))
        go_wp2_with fail
        go_ret3
        exact ⟨a1, c1, qs, k, 1, by simpa using hst, by omega, rfl, hR, Q2, by omega⟩
      have z2 := Nat.le_trans hz b2.size
      have hO3 := hO2.swap
      have m1 : vs.length + 1 ≤ maxLen := by rw [hvl]; unfold maxLen; omega
      have m2 : (vs.length + 1) * 24 ≤ 140737488355328 := by rw [hvl]; omega
      have m3 : vs.length + 1 = qs.length + 1 := by rw [hvl]
      have u1 : ∀ u ∈ [Value.slice a2 q.length c2], u.oneCell' = true := by
        intro u hu; simp at hu; subst hu; rfl
      have hmi : (k : Int) + (m : Int) ≤ (l.length : Int) := by omega
      go_wp2_with (refine wpList_appendRow rfl _ _ 37 rfl Try.underlying37 info22 rfl rfl rfl (lit_facts 22 [Value.slice a2 q.length c2] hO3 z2).1 (lit_facts 22 [Value.slice a2 q.length c2] hO3 z2).2.1 (lit_facts 22 [Value.slice a2 q.length c2] hO3 z2).2.2.1 rfl u1 m1 m2 m3 ?_; intro a4 c4 w4 hO4 b4)
      go_roundw
      case rel =>
        refine ⟨k + m, a4, c4, vs ++ [.slice a2 q.length c2], qs ++ [q], by omega, by go_num, by simp [hvl], by simp, by simp; omega, Q2.trans ((lit_facts 22 [Value.slice a2 q.length c2] hO3 z2).2.2.2.trans b4), ?_, ?_⟩
        · have hz2 : payA (vs ++ [.slice a2 q.length c2]) (qs ++ [q]) = payA vs qs ++ [Asrt.row 5 (.slice a2 q.length c2) (bv q)] := by
            unfold payA
            rw [List.zipWith_append hvl]; rfl
          rw [hz2, show (qs ++ [q]).length = qs.length + 1 by simp]
          exact hO4.perm (List.Perm.cons _ (List.perm_append_singleton _ _).symm)
        · intro r hr
          obtain ⟨qs', e', s'⟩ := r
          have := hJ.out _ (AllR.step hlt ho.out hr)
          simpa using this
      case measure => simp [intOf]; omega
    · have hlti : (l.length : Int) ≤ (k : Int) := by omega
      have hki : k = l.length := by omega
      subst hki
      have hdone := hJ.out _ (AllR.done (l := l) (k := l.length) hlt)
      have hR := rows_read hO hvl
      go_wp2_with fail
      go_ret3
      refine ⟨a1, c1, qs, l.length, 0, by simpa using hdone, hk, rfl, hR, hb, by omega⟩
end Go.Proofs.Fra
