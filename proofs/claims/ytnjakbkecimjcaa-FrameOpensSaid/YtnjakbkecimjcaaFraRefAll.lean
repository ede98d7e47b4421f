/- frame: the document's All, Texts. -/
import Derived.Test.YtnjakbkecimjcaaFraRefOpen
namespace Go.Proofs.Fra
open Go.RowKit Go.Cic Go.ChangeMaps
set_option linter.unusedVariables false
set_option maxRecDepth 100000
theorem info9 : (Try.prog.info? 9).map (fun i => (i.zero, i.size, i.bytes)) = some (some (.string ByteArray.empty), 1, 16) := by kernel_rfl
abbrev sv (qs : List (List UInt8)) : List Value := qs.map fun q => Value.string (tx q)
def RAllS (B : Nat) (w : World) (l : List UInt8) (out at_ : Value) (wr : World) : Prop :=
  ∃ (k : Nat) (ao : Option Addr) (c : Nat) (qs : List (List UInt8)), k ≤ l.length ∧ at_ = .int .i64 k ∧ out = .slice ao qs.length c ∧ qs.length * 10 ≤ k ∧ Below B w wr ∧
    Owns B [Asrt.row 9 (.slice ao qs.length c) (sv qs)] wr ∧ ∀ r, AllR l k r → AllR l 0 (qs ++ r.1, r.2)
def RAllPost (l : List UInt8) (w : World) (e : Ending) (w' : World) : Prop :=
  ∃ ao c qs en s, AllR l 0 (qs, en, s) ∧ e = .returned (.tuple #[Value.slice ao qs.length c, Value.int .i64 (en : Nat), Value.int .i64 (s : Nat)]) ∧ Lies w' ao (sv qs) ∧ Below w.heap.size w w'
set_option maxHeartbeats 4000000 in
theorem refall_any (l : List UInt8) (w : World) (hl : l.length ≤ 4294967296) : Calls Try.prog 16 #[.string (tx l)] w (RAllPost l w) := by
  have hsz := tx_size l
  go_enter Try.func16, Try.ntmps16
  go_wp2_with fail
  go_loopw [5, 6] (fun a b wr => RAllS w.heap.size w l a b wr) (fun _ i _ => l.length - (intOf i).toNat)
  case atStart => exact ⟨0, none, 0, [], Nat.zero_le _, rfl, rfl, Nat.zero_le _, Below.refl _ _, (Owns.nil _ _).rowNil, fun r h => by simpa using h⟩
  case round =>
    obtain ⟨k, a1, c1, qs, hk, rfl, rfl, hq10, hb, hO, hJ⟩ := hrel
    have hJ := Hid.mk' hJ
    have hz := hb.size
    by_cases hlt : k < l.length
    · have hlti : (k : Int) < (l.length : Int) := by omega
      have hoc := open_cases (l.drop k)
      have hopen := fun W => refopen_any (l.drop k) W (by simp; omega)
      obtain ⟨o, ho⟩ : ∃ o, Hid (openL (l.drop k) = o) := ⟨_, rfl⟩
      unfold refPost at hopen
      rw [ho.out] at hopen hoc
      obtain ⟨q, m, s⟩ := o
      simp only at hopen hoc
      rw [List.length_drop] at hoc
      have hex : (tx l).extract k l.length = tx (l.drop k) := by rw [tx_extract, List.take_of_length_le (by simp)]
      go_wp2_with fail
      refine (hopen wr).mono ?_
      rintro e w2 ⟨rfl, b2⟩
      have hO2 := hO.keep b2
      have Q2 := hb.trans (b2.mono hz)
      rcases hoc with ⟨rfl, rfl⟩ | ⟨rfl, rfl⟩ | ⟨rfl, h10, hm⟩
      · have hst := hJ.out _ (AllR.stop hlt ho.out (by omega))
        go_wp2_with fail
        go_ret3
        exact ⟨a1, c1, qs, k, 2, by simpa using hst, rfl, hO2.rowLies.1, Q2⟩
      · have hst := hJ.out _ (AllR.stop hlt ho.out (by omega))
        go_wp2_with fail
        go_ret3
        exact ⟨a1, c1, qs, k, 1, by simpa using hst, rfl, hO2.rowLies.1, Q2⟩
      have z2 := Q2.size
      have hvl : (sv qs).length = qs.length := by simp
      have m1 : (sv qs).length + 1 ≤ maxLen := by rw [hvl]; unfold maxLen; omega
      have m2 : ((sv qs).length + 1) * 16 ≤ 140737488355328 := by rw [hvl]; omega
      have m3 : (sv qs).length + 1 = qs.length + 1 := by rw [hvl]
      have u1 : ∀ u ∈ [Value.string (tx q)], u.oneCell' = true := by
        intro u hu; simp at hu; subst hu; rfl
      have hmi : (k : Int) + (m : Int) ≤ (l.length : Int) := by omega
      go_wp2_with (refine wpList_appendRow rfl _ _ 40 rfl Try.underlying40 info9 rfl rfl rfl (lit_facts 9 [Value.string (tx q)] hO2 z2).1 (lit_facts 9 [Value.string (tx q)] hO2 z2).2.1 (lit_facts 9 [Value.string (tx q)] hO2 z2).2.2.1 rfl u1 m1 m2 m3 ?_; intro a4 c4 w4 hO4 b4)
      go_roundw
      case rel =>
        refine ⟨k + m, a4, c4, qs ++ [q], by omega, by go_num, by simp, by simp; omega, Q2.trans ((lit_facts 9 [Value.string (tx q)] hO2 z2).2.2.2.trans b4), ?_, ?_⟩
        · rw [show (qs ++ [q]).length = qs.length + 1 by simp, show sv (qs ++ [q]) = sv qs ++ [Value.string (tx q)] by simp]
          exact hO4
        · intro r hr
          obtain ⟨qs', e', s'⟩ := r
          have := hJ.out _ (AllR.step hlt ho.out hr)
          simpa using this
      case measure => simp [intOf]; omega
    · have hlti : (l.length : Int) ≤ (k : Int) := by omega
      have hki : k = l.length := by omega
      subst hki
      have hdone := hJ.out _ (AllR.done (l := l) (k := l.length) hlt)
      have hR := hO.rowLies.1
      go_wp2_with fail
      go_ret3
      exact ⟨a1, c1, qs, l.length, 0, by simpa using hdone, rfl, hR, hb⟩
set_option maxHeartbeats 4000000 in
theorem texts_any (al am : Option Addr) (cl cm : Nat) (qs : List (List UInt8)) (w : World) (hR : RowsRead w al qs) (hL : Lies w am (sv qs)) (hl : qs.length ≤ 4294967296) :
    Calls Try.prog 17 #[.slice al qs.length cl, .slice am qs.length cm] w fun e w' => e = .returned (.bool true) ∧ Below w.heap.size w w' := by
  have size22 : ∀ w : World, (sizeOf 22).run Try.prog w = .ok 1 w := fun w => by kernel_rfl
  have size9 : ∀ w : World, (sizeOf 9).run Try.prog w = .ok 1 w := fun w => by kernel_rfl
  have cv : ∀ (W : World) (a : Option Addr) (l : List UInt8) (n c : Nat), Lies W a (bv l) → l.length = n → (convert 22 9 (.slice a n c)).run Try.prog W = .ok (.string (tx l)) W := fun W a l n c h hn => bytes_of_lies h hn 22 9 5 Try.underlying22 Try.underlying5 Try.underlying9
  obtain ⟨vs, hv1, hv2, hv3⟩ := hR
  go_enter Try.func17, Try.ntmps17
  go_wp2_with fail
  go_loopw [5] (fun i wr => ∃ k : Nat, k ≤ qs.length ∧ i = .int .i64 k ∧ Below w.heap.size w wr) (fun i _ => qs.length - (intOf i).toNat)
  case atStart => exact ⟨0, Nat.zero_le _, rfl, Below.refl _ w⟩
  case round =>
    obtain ⟨k, hk, rfl, hb⟩ := hrel
    by_cases hlt : k < qs.length
    · have hy : qs[k]? = some qs[k] := List.getElem?_eq_getElem hlt
      generalize qs[k] = y at hy
      obtain ⟨a1, c1, hv4, hv5⟩ := hv3 k y hy
      obtain ⟨b1, o1, hx1, hc1, _⟩ := (hv2.below hb).idx (c := cl) Try.underlying37 size22 hv1 hv4
      obtain ⟨b2, o2, hx2, hc2, _⟩ := (hL.below hb).idx (c := cm) Try.underlying40 size9 (by simp : (sv qs).length = qs.length) (u := .string (tx y)) (by rw [List.getElem?_map, hy]; rfl)
      have g1 : (convert 22 9 (.slice a1 y.length c1)).run Try.prog wr.drew = .ok (.string (tx y)) wr.drew := cv wr.drew a1 y y.length c1 (hv5.below hb.drew) rfl
      go_wp2_with fail
      go_region_held3 (fun w' => w'.cell? ⟨b1, o1, none⟩ = some (.slice a1 y.length c1) ∧ w'.cell? ⟨b2, o2, none⟩ = some (.string (tx y)) ∧ (convert 22 9 (.slice a1 y.length c1)).run Try.prog w' = .ok (.string (tx y)) w') (go_keep) (fail)
      all_goals go_wp2
      go_roundw
      case rel => exact ⟨k + 1, by omega, by go_num, hb.drew⟩
      case measure => simp [intOf]; omega
    · have hki : k = qs.length := by omega
      subst hki
      go_wp2_with fail
      go_ret
      exact ⟨rfl, hb⟩
end Go.Proofs.Fra
