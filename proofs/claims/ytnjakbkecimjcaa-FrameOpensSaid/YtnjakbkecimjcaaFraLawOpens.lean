/- FrameOpens: the walk of the law. -/
import Derived.Test.YtnjakbkecimjcaaFraRefAll
import Derived.Test.YtnjakbkecimjcaaFraLawApart
namespace Go.Proofs.Fra
open Go.RowKit Go.Cic Go.ChangeMaps
set_option linter.unusedVariables false
set_option maxRecDepth 100000
set_option maxHeartbeats 4000000 in
theorem law_opens (ap : Option Addr) (cp : Nat) (p : List UInt8) (w : World) (hl : p.length ≤ maxLen) (hc : p.length ≤ cp) (hs : Lies w ap (bv p)) :
    Calls Try.prog 6 #[.slice ap p.length cp] w fun e w' => e = .returned (.bool true) ∧ Below w.heap.size w w' := by
  have hl1 : p.length ≤ 9223372036854775807 := by unfold maxLen at hl; omega
  clear hl
  by_cases hp : 70000 < p.length
  · have hi : (70000 : Int) < (p.length : Int) := by omega
    go_enter Try.func6, Try.ntmps6
    go_wp2_with (go_at_call 10; refine (awake_any w).mono ?_; rintro e w1 ⟨rfl, q1⟩)
    go_ret
    exact ⟨rfl, q1⟩
  have hi : (p.length : Int) ≤ 70000 := by omega
  have cv : ∀ (W : World) (a : Option Addr) (l : List UInt8) (n c : Nat), Lies W a (bv l) → l.length = n → (convert 22 9 (.slice a n c)).run Try.prog W = .ok (.string (tx l)) W := fun W a l n c h hn => bytes_of_lies h hn 22 9 5 Try.underlying22 Try.underlying5 Try.underlying9
  obtain ⟨o, ho⟩ : ∃ o, Hid (openL p = o) := ⟨_, rfl⟩
  go_enter Try.func6, Try.ntmps6
  go_wp2_with (go_at_call 10; refine (awake_any w).mono ?_; rintro e w1 ⟨rfl, q1⟩; have S1 := open_own (Owns.nil w.heap.size w1) q1.size ap p.length cp p (hs.below q1) rfl (by omega) hc)
  unfold OpenPost at S1
  rw [ho.out] at S1
  obtain ⟨q, m, s⟩ := o
  simp only at S1
  refine S1.mono ?_
  rintro e w2 ⟨a2, c2, rfl, hO2, b2⟩
  have Q2 := q1.trans b2
  have f1 := cv w2 ap p p.length cp (hs.below Q2) rfl
  have S2 := refopen_any p w2 (by omega)
  unfold refPost at S2
  rw [ho.out] at S2
  simp only at S2
  go_wp2_with fail
  refine S2.mono ?_
  rintro e w3 ⟨rfl, b3⟩
  have hO3 := hO2.keep b3
  have Q3 := Q2.trans (b3.mono Q2.size)
  go_wp2_with fail
  refine (all_any ap p.length cp p w3 (hs.below Q3) rfl (by omega) hc).mono ?_
  rintro e w4 ⟨a4, c4, qs, en, st, hA, hen, rfl, hR, b4, hq10⟩
  have hO4 := hO3.keep b4
  have Q4 := Q3.trans (b4.mono Q3.size)
  have f2 := cv w4 ap p p.length cp (hs.below Q4) rfl
  go_wp2_with fail
  refine (refall_any p w4 (by omega)).mono ?_
  rintro e w5 ⟨a5, c5, qs', en', st', hA', rfl, hL, b5⟩
  have hdet := AllR.det hA' hA
  simp only [Prod.mk.injEq] at hdet
  obtain ⟨rfl, rfl, rfl⟩ := hdet
  have hO5 := hO4.keep b5
  have Q5 := Q4.trans (b5.mono Q4.size)
  have f3 := cv w5 a2 q q.length c2 hO5.rowLies.1 rfl
  have S3 := texts_any a4 a5 c4 c5 qs' w5 (hR.below b5) hL (by omega)
  go_wp2_with (go_at_call 17; refine S3.mono ?_; rintro e w6 ⟨rfl, b6⟩)
  go_ret
  exact ⟨rfl, Q5.trans (b6.mono Q5.size)⟩
theorem row_opens {H : Type} {enc : TypeId × Value → H} (a : Option Addr) (len cap : Nat) (w : World) {d : DataW H} {ps : List MemPlace}
    (hs : DataW.Trod enc Try.prog w 0 (fun _ => true) true 22 (.slice a len cap) d ps) :
    Calls Try.prog 6 #[.slice a len cap] w fun e w' => e = .returned (.bool true) ∧ Below w.heap.size w w' := by
  have hc := cap_of Try.underlying22 hs
  obtain ⟨l, rfl, hl, hsl⟩ := SlAt.open (r := rdU8) (by decide) Try.underlying22 hs
  exact law_opens a cap l w hl hc (lies_of hsl)
end Go.Proofs.Fra
