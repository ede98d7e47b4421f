/- pane: Texts, of the same; the cells of an act. -/
import Derived.Test.YtfolnnmgnkalkaaPanRun
import Derived.Deep.QuietTactic
import Derived.BigQuiet
namespace Go.Proofs.Pan
open Go.RowKit Go.Cic Go.ChangeMaps
set_option linter.unusedVariables false
set_option maxRecDepth 100000
theorem size9 (w : World) : (sizeOf 9).run Try.prog w = .ok 1 w := by kernel_rfl
theorem texts_same (A B : Option Addr) (c1 c2 n : Nat) (xs : List ByteArray) (w : World) (h1 : Lies w A (xs.map Value.string)) (h2 : Lies w B (xs.map Value.string)) (hn : xs.length = n) (hl : n ≤ 4294967296) :
    Calls Try.prog 25 #[.slice A n c1, .slice B n c2] w fun e w' => e = .returned (.bool true) ∧ Below w.heap.size w w' := by
  go_enter Try.func25, Try.ntmps25
  go_wp2
  go_loopw [5] (fun i wr => ∃ k m : Nat, k ≤ n ∧ i = .int .i64 k ∧ wr = w.drewN m) (fun i _ => n - (intOf i).toNat)
  case atStart => exact ⟨0, 0, Nat.zero_le _, rfl, rfl⟩
  case round =>
    obtain ⟨k, m, hk, rfl, rfl⟩ := hrel
    by_cases hlt : k < n
    · have hy : (xs.map Value.string)[k]? = some (.string (xs[k]'(by omega))) := by rw [List.getElem?_map, List.getElem?_eq_getElem (by omega)]; rfl
      generalize (xs[k]'(by omega)) = y at hy
      have hlen : (xs.map Value.string).length = n := by rw [List.length_map]; exact hn
      obtain ⟨b1, p1, i1, g1, _⟩ := Lies.idx (P := Try.prog) (c := c1) Try.underlying35 size9 h1 hlen hy
      obtain ⟨b2, p2, i2, g2, _⟩ := Lies.idx (P := Try.prog) (c := c2) Try.underlying35 size9 h2 hlen hy
      have t1 : (y.toList != y.toList) = false := by simp
      generalize hW : w.drewN m = wq at *
      have g1' : wq.cell? ⟨b1, p1, none⟩ = some (.string y) := by rw [← hW]; exact g1
      have g2' : wq.cell? ⟨b2, p2, none⟩ = some (.string y) := by rw [← hW]; exact g2
      replace hW := Hid.mk' hW
      clear hy hlen
      go_wp2_with fail
      go_quiet (fail)
      go_wp2_with fail
      go_roundw
      case rel => exact ⟨k + 1, m + nq, by omega, by go_num, by rw [← hW.out, World.drewN_drewN]⟩
      case measure => simp [intOf]; omega
    · go_wp2
      go_ret
      exact ⟨rfl, rfl, rfl, rfl, Nat.le_refl _, fun _ _ => rfl⟩
end Go.Proofs.Pan
