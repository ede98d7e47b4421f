/- FrameSeals: the walk of the law. -/
import Derived.Test.YtnjakbkecimjcaaFraLawCuts
import Derived.Test.YtnjakbkecimjcaaFraRef
namespace Go.Proofs.Fra
open Go.RowKit Go.Cic Go.ChangeMaps
set_option linter.unusedVariables false
set_option maxRecDepth 100000
set_option maxHeartbeats 2000000 in
theorem law_seals (ap ar : Option Addr) (cp cr : Nat) (p r : List UInt8) (w : World) (hl : p.length ≤ maxLen) (hlr : r.length ≤ maxLen) (hs : Lies w ap (bv p)) (hsr : Lies w ar (bv r)) :
    Calls Try.prog 3 #[.slice ap p.length cp, .slice ar r.length cr] w fun e w' => e = .returned (.bool true) ∧ Below w.heap.size w w' := by
  have hl2 : p.length ≤ 9223372036854775807 := by unfold maxLen at hl; omega
  have hl3 : r.length ≤ 9223372036854775807 := by unfold maxLen at hlr; omega
  clear hl hlr
  by_cases hp : 70000 < p.length
  · have hi : (70000 : Int) < (p.length : Int) := by omega
    go_enter Try.func3, Try.ntmps3
    go_wp2_with (go_at_call 10; refine (awake_any w).mono ?_; rintro e w1 ⟨rfl, q1⟩)
    go_ret
    exact ⟨rfl, q1⟩
  have hi : (p.length : Int) ≤ 70000 := by omega
  by_cases hr : 3000 < r.length
  · have hi2 : (3000 : Int) < (r.length : Int) := by omega
    go_enter Try.func3, Try.ntmps3
    go_wp2_with (go_at_call 10; refine (awake_any w).mono ?_; rintro e w1 ⟨rfl, q1⟩)
    go_ret
    exact ⟨rfl, q1⟩
  have hi2 : (r.length : Int) ≤ 3000 := by omega
  have cpE : ∀ W : World, Lies W ap (bv p) → (convert 22 9 (.slice ap p.length cp)).run Try.prog W = .ok (.string (tx p)) W := fun W h => bytes_of_lies h rfl 22 9 5 Try.underlying22 Try.underlying5 Try.underlying9
  have hcl : (sealL p).length = p.length + 10 := sealL_len p
  by_cases hlong : 65536 < p.length
  · have hnil : ∀ W : World, (convert 22 9 (.slice none 0 0)).run Try.prog W = .ok (.string ByteArray.empty) W := fun W => bytes_of_lies (l := []) (Lies.nil _ _) rfl 22 9 5 Try.underlying22 Try.underlying5 Try.underlying9
    go_enter Try.func3, Try.ntmps3
    go_wp2_with (go_at_call 10; refine (awake_any w).mono ?_; rintro e w1 ⟨rfl, q1⟩; have S1 := seal_long ap p.length cp w1 hlong; have R1 := refseal_long p w1 hlong (by omega); have c1 := cpE w1 (hs.below q1))
    refine S1.mono ?_
    rintro e w2 ⟨rfl, rfl⟩
    go_wp2_with fail
    refine R1.mono ?_
    rintro e w2 ⟨rfl, rfl⟩
    go_wp2_with fail
    go_ret
    exact ⟨rfl, q1⟩
  go_enter Try.func3, Try.ntmps3
  go_wp2_with (go_at_call 10; refine (awake_any w).mono ?_; rintro e w1 ⟨rfl, q1⟩; have S1 := seal_own (Owns.nil w.heap.size w1) q1.size ap p.length cp p (hs.below q1) (fun w' hb _ => hs.below (q1.trans hb)) rfl (by omega))
  refine S1.mono ?_
  rintro e w2 ⟨a2, c2, rfl, hO2, b2⟩
  have z2 := Nat.le_trans q1.size b2.size
  have Q2 := q1.trans b2
  have c2E := cpE w2 (hs.below Q2)
  go_wp2_with fail
  refine (refseal_any p w2 (by omega)).mono ?_
  rintro e w3 ⟨rfl, b3⟩
  have hO3 := hO2.keep b3
  have Q3 := Q2.trans (b3.mono z2)
  have z3 := Q3.size
  have c3E : (convert 22 9 (.slice a2 (p.length + 10) c2)).run Try.prog w3 = .ok (.string (tx (sealL p))) w3 := bytes_of_lies hO3.rowLies.1 hcl 22 9 5 Try.underlying22 Try.underlying5 Try.underlying9
  have hO4 := (hO3.alloc_cells z3 #[] 5).rowOfCells (xs := []) rfl (Nat.zero_le _)
  have b4 : Below w.heap.size w3 (w3.alloc (.cells #[] 5)) := (Below.refl _ w3).alloc z3 _
  have z4 := Nat.le_trans z3 b4.size
  have hL4 : Lies (w3.alloc (.cells #[] 5)) a2 (bv (sealL p)) := hO4.tail.rowLies.1
  have m1 : ([] : List Value).length + (p.length + 10) ≤ maxLen := by simp [maxLen]; omega
  have m2 : (([] : List Value).length + (p.length + 10)) * 1 ≤ 140737488355328 := by simp; omega
  have m3 : ([] : List Value).length + (p.length + 10) = p.length + 10 := Nat.zero_add _
  have m4 := (bv_len (sealL p)).trans hcl
  have m5 := bv_len r
  have m6 : ([] ++ bv (sealL p)).length + r.length ≤ maxLen := by rw [List.nil_append, m4]; unfold maxLen; omega
  have m7 : (([] ++ bv (sealL p)).length + r.length) * 1 ≤ 140737488355328 := by rw [List.nil_append, m4]; omega
  have m8 : ([] ++ bv (sealL p)).length + r.length = p.length + 10 + r.length := by rw [List.nil_append, m4]
  have hsr4 : ∀ W, Below w.heap.size (w3.alloc (.cells #[] 5)) W → Lies W ar (bv r) := fun W h => hsr.below (Q3.trans (b4.trans h))
  go_wp2_with (first
    | (refine wpList_appendRow rfl _ _ 22 rfl Try.underlying22 info5 rfl rfl rfl hO4 z4 hL4 m4 (bv_one _) m1 m2 m3 ?_; intro a5 c5 w5 hO5 b5; have z5 := Nat.le_trans z4 b5.size; have hsr5 := hsr4 w5 b5)
    | (refine wpList_appendRow rfl _ _ 22 rfl Try.underlying22 info5 rfl rfl rfl hO5 z5 hsr5 m5 (bv_one _) m6 m7 m8 ?_; intro a6 c6 w6 hO6 b6))
  have z6 := Nat.le_trans z5 b6.size
  have hO7 : Owns w.heap.size [Asrt.row 5 (.slice a6 (p.length + 10 + r.length) c6) (bv (sealL p ++ r)), Asrt.row 5 (.slice a2 (p.length + 10) c2) (bv (sealL p))] w6 := by
    rw [show bv (sealL p ++ r) = [] ++ bv (sealL p) ++ bv r by rw [List.nil_append]; exact List.map_append]
    exact hO6
  obtain ⟨hL7, _, hle7⟩ := hO7.rowLies
  have ho := open_seal (p := p) (r := r) (by omega)
  have Q6 := Q3.trans (b4.trans (b5.trans b6))
  refine (open_own hO7 z6 a6 (p.length + 10 + r.length) c6 _ hL7 (by rw [List.length_append, hcl]) (by omega) hle7).mono ?_
  rintro e w8 ⟨a8, c8, rfl, hO8, b8⟩
  rw [ho] at hO8 ⊢
  have Q8 := Q6.trans b8
  have c8E : (convert 22 9 (.slice a8 p.length c8)).run Try.prog w8 = .ok (.string (tx p)) w8 := bytes_of_lies hO8.rowLies.1 rfl 22 9 5 Try.underlying22 Try.underlying5 Try.underlying9
  have c9E := cpE w8 (hs.below Q8)
  go_wp2_with fail
  go_ret
  exact ⟨rfl, Q8⟩
theorem row_seals {H : Type} {enc : TypeId × Value → H} (a : Option Addr) (len cap : Nat) (a1 : Option Addr) (len1 cap1 : Nat) (w : World) {d d1 : DataW H} {ps ps1 : List MemPlace}
    (hs : DataW.Trod enc Try.prog w 0 (fun _ => true) true 22 (.slice a len cap) d ps) (hs1 : DataW.Trod enc Try.prog w 0 (fun _ => true) true 22 (.slice a1 len1 cap1) d1 ps1) :
    Calls Try.prog 3 #[.slice a len cap, .slice a1 len1 cap1] w fun e w' => e = .returned (.bool true) ∧ Below w.heap.size w w' := by
  obtain ⟨l, rfl, hl, hsl⟩ := SlAt.open (r := rdU8) (by decide) Try.underlying22 hs
  obtain ⟨l1, rfl, hl1, hsl1⟩ := SlAt.open (r := rdU8) (by decide) Try.underlying22 hs1
  exact law_seals a a1 cap cap1 l l1 w hl hl1 (lies_of hsl) (lies_of hsl1)
end Go.Proofs.Fra
