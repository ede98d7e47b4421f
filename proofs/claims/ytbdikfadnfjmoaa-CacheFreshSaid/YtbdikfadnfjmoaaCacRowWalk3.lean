/- cache: CacheFresh, from the row's arguments. -/
import Derived.Test.YtbdikfadnfjmoaaCacLawFresh
import Derived.Test.YtbdikfadnfjmoaaCacRowWalk
namespace Go.Proofs.Cac
open Go.RowKit Go.Cic Go.ChangeMaps Go.Proofs.YtbdikfadnfjmoaaW.PrintWords Go.Proofs.Ytbdikfadnfjmoaa.PCachePlays
set_option linter.unusedVariables false
theorem row_fresh {H : Type} {enc : TypeId × Value → H} {base : Nat} {spare : Nat → Bool} {held : Bool} {d : DataW H} {ps : List MemPlace} (a0 : Int) (a1 : Option Addr) (len1 cap1 : Nat) (a2 : ByteArray) (W : World) (w0 : (Lit.int .i64 a0).wf = true)
    (k1 : DataW.Trod enc Try.prog W base spare held 22 (.slice a1 len1 cap1) d ps) (w2 : a2.size ≤ 140737488351232) : Calls Try.prog 3 #[.int .i64 a0, .slice a1 len1 cap1, .string a2] W fun e w' => e = .returned (.bool true) ∧ Below W.heap.size W w' := by
  obtain ⟨L, rfl, h1, h2, h3, h4⟩ := rd29K.arg (by decide) Try.underlying22 k1
  exact law_fresh a0 a1 cap1 L a2 W h3 h1 (fun d hd => ⟨(h4 d hd).1, (h4 d hd).2.1, (h4 d hd).2.2.1⟩) (int_bd w0).1 (int_bd w0).2 (by unfold maxLen; omega)
end Go.Proofs.Cac
