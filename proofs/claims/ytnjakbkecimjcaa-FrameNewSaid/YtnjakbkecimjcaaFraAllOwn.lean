/- frame: All, with what is owned; FrameNew: the walk of the law. -/
import Derived.Test.YtnjakbkecimjcaaFraLawApart
import Derived.Test.YtnjakbkecimjcaaFraLawTurned
namespace Go.Proofs.Fra
open Go.RowKit Go.Cic Go.ChangeMaps
set_option linter.unusedVariables false
set_option maxRecDepth 100000
def AllPostO (l : List UInt8) (w : World) (e : Ending) (w' : World) : Prop :=
  ∃ ao c vs qs en s, AllR l 0 (qs, en, s) ∧ en ≤ l.length ∧ e = .returned (.tuple #[Value.slice ao qs.length c, Value.int .i64 (en : Nat), Value.int .i64 (s : Nat)]) ∧ vs.length = qs.length ∧ Owns w.heap.size (Asrt.row 22 (.slice ao qs.length c) vs :: payA vs qs) w' ∧ Below w.heap.size w w' ∧ qs.length * 10 ≤ l.length
set_option maxHeartbeats 4000000 in
theorem all_own (ao : Option Addr) (n c : Nat) (l : List UInt8) (w : World) (hs : Lies w ao (bv l)) (hn : l.length = n) (hl : n ≤ 4294967296) (hc : n ≤ c) : Calls Try.prog 15 #[.slice ao n c] w (AllPostO l w) := by
  subst hn
  go_enter Try.func15, Try.ntmps15
  go_wp2_with fail
  go_loopw [5, 6] (fun a b wr => AllS w.heap.size w l a b wr) (fun _ i _ => l.length - (intOf i).toNat)
  case atStart => exact ⟨0, none, 0, [], [], Nat.zero_le _, rfl, rfl, rfl, Nat.zero_le _, Below.refl _ _, (Owns.nil _ _).rowNil, fun r h => by simpa using h⟩
  case round =>
    obtain ⟨k, a1, c1, vs, qs, hk, rfl, hvl, rfl, hq10, hb, hO, hJ⟩ := hrel
    have hJ := Hid.mk' hJ
    have hz := hb.size
    by_cases hlt : k < l.length
    · have hlti : (k : Int) < (l.length : Int) := by omega
      have hL1 := hs.below hb
      have hL2 : Lies wr (ao.map (fun x => x.add k)) (bv (l.drop k)) := by
        have := Lies.sub' hL1 (lo := k) (hi := l.length) (cap := c) hc
        rw [if_neg (by omega), List.take_of_length_le (by simp)] at this
        simpa using this
      have hoc := open_cases (l.drop k)
      have hopen := open_own hO hz (ao.map (fun x => x.add k)) (l.length - k) (c - k) (l.drop k) hL2 (by simp) (by omega) (by omega)
      obtain ⟨o, ho⟩ : ∃ o, Hid (openL (l.drop k) = o) := ⟨_, rfl⟩
      unfold OpenPost at hopen
      rw [ho.out] at hopen hoc
      obtain ⟨q, m, s⟩ := o
      simp only at hopen hoc
      rw [List.length_drop] at hoc
      go_wp2_with fail
      refine hopen.mono ?_
      rintro e w2 ⟨a2, c2, rfl, hO2, b2⟩
      have hR := hO2.tail
      have Q2 := hb.trans b2
      rcases hoc with ⟨rfl, rfl⟩ | ⟨rfl, rfl⟩ | ⟨rfl, h10, hm⟩
      · have hst := hJ.out _ (AllR.stop hlt ho.out (by omega))
        go_wp2_with fail
        go_ret3
        exact ⟨a1, c1, vs, qs, k, 2, by simpa using hst, by omega, rfl, hvl, hR, Q2, by omega⟩
      · have hst := hJ.out _ (AllR.stop hlt ho.out (by omega))
        go_wp2_with fail
        go_ret3
        exact ⟨a1, c1, vs, qs, k, 1, by simpa using hst, by omega, rfl, hvl, hR, Q2, by omega⟩
      have z2 := Nat.le_trans hz b2.size
      have hO3 := hO2.swap
      have m1 : vs.length + 1 ≤ maxLen := by rw [hvl]; unfold maxLen; omega
      have m2 : (vs.length + 1) * 24 ≤ 140737488355328 := by rw [hvl]; omega
      have m3 : vs.length + 1 = qs.length + 1 := by rw [hvl]
      have u1 : ∀ u ∈ [Value.slice a2 q.length c2], u.oneCell' = true := by
        intro u hu; simp at hu; subst hu; rfl
      have hmi : (k : Int) + (m : Int) ≤ (l.length : Int) := by omega
      go_wp2_with (refine wpList_appendRow rfl _ _ 37 rfl Try.underlying37 info22 rfl rfl rfl (lit_facts 22 [Value.slice a2 q.length c2] hO3 z2).1 (lit_facts 22 [Value.slice a2 q.length c2] hO3 z2).2.1 (lit_facts 22 [Value.slice a2 q.length c2] hO3 z2).2.2.1 rfl u1 m1 m2 m3 ?_; intro a4 c4 w4 hO4 b4)
      go_roundw
      case rel =>
        refine ⟨k + m, a4, c4, vs ++ [.slice a2 q.length c2], qs ++ [q], by omega, by go_num, by simp [hvl], by simp, by simp; omega, Q2.trans ((lit_facts 22 [Value.slice a2 q.length c2] hO3 z2).2.2.2.trans b4), ?_, ?_⟩
        · have hz2 : payA (vs ++ [.slice a2 q.length c2]) (qs ++ [q]) = payA vs qs ++ [Asrt.row 5 (.slice a2 q.length c2) (bv q)] := by
            unfold payA
            rw [List.zipWith_append hvl]; rfl
          rw [hz2, show (qs ++ [q]).length = qs.length + 1 by simp]
          exact hO4.perm (List.Perm.cons _ (List.perm_append_singleton _ _).symm)
        · intro r hr
          obtain ⟨qs', e', s'⟩ := r
          have := hJ.out _ (AllR.step hlt ho.out hr)
          simpa using this
      case measure => simp [intOf]; omega
    · have hlti : (l.length : Int) ≤ (k : Int) := by omega
      have hki : k = l.length := by omega
      subst hki
      have hdone := hJ.out _ (AllR.done (l := l) (k := l.length) hlt)
      have hR := hO
      go_wp2_with fail
      go_ret3
      refine ⟨a1, c1, vs, qs, l.length, 0, by simpa using hdone, hk, rfl, hvl, hR, hb, by omega⟩
end Go.Proofs.Fra
