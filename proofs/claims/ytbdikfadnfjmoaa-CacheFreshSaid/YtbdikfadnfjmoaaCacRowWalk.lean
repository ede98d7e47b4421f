/- cache: CachePlays, from the row's arguments. -/
import Derived.Test.YtbdikfadnfjmoaaCacLawPlays
namespace Go.Proofs.Cac
open Go.RowKit Go.Cic Go.ChangeMaps Go.Proofs.YtbdikfadnfjmoaaW.PrintWords Go.Proofs.Ytbdikfadnfjmoaa.PCachePlays
set_option linter.unusedVariables false
theorem co5 : Try.prog.cellsOf 5 = 1 := by kernel_rfl
theorem co9 : Try.prog.cellsOf 9 = 1 := by kernel_rfl
theorem co27 : Try.prog.cellsOf 27 = 1 := by kernel_rfl
theorem co29 : Try.prog.cellsOf 29 = 4 := by kernel_rfl
def Deed0 (d : Int × ByteArray × ByteArray × List ByteArray) : Prop := (Lit.int .u8 d.1).wf = true ∧ d.2.1.size ≤ maxLen ∧ d.2.2.1.size ≤ maxLen ∧ d.2.2.2.length ≤ maxLen ∧ ∀ a ∈ d.2.2.2, a.size ≤ maxLen
theorem rd29K : RdK Try.prog 29 k29 (fun x => Deed0 (x.f0, x.f1, x.f2, x.f3)) :=
  RdK.iso (d := Kd.pair (Kd.int .u8) (Kd.pair Kd.string (Kd.pair Kd.string (Kd.slice 9 Kd.string)))) (ok := Deed0)
    (RdK.struct Try.underlying29 (FRdK.cons (RdK.int .u8 Try.underlying5 co5) rfl (FRdK.cons (RdK.string Try.underlying9 co9) rfl (FRdK.cons (RdK.string Try.underlying9 co9) rfl (FRdK.last (RdK.slice (RdK.string Try.underlying9 co9) (by decide) Try.underlying27 co27) rfl)))) co29)
    (fun x : S29 => (x.f0, x.f1, x.f2, x.f3)) (fun y => ⟨y.1, y.2.1, y.2.2.1, y.2.2.2⟩) (fun _ => rfl)
theorem int_bd {x : Int} (h : (Lit.int .i64 x).wf = true) : -9223372036854775808 ≤ x ∧ x ≤ 9223372036854775807 := bounds_i64 h
theorem row_plays {H : Type} {enc : TypeId × Value → H} {base : Nat} {spare : Nat → Bool} {held : Bool} {d : DataW H} {ps : List MemPlace} (a0 : Int) (a1 : Option Addr) (len1 cap1 : Nat) (W : World) (w0 : (Lit.int .i64 a0).wf = true)
    (k1 : DataW.Trod enc Try.prog W base spare held 22 (.slice a1 len1 cap1) d ps) : Calls Try.prog 4 #[.int .i64 a0, .slice a1 len1 cap1] W fun e w' => e = .returned (.bool true) ∧ Below W.heap.size W w' := by
  obtain ⟨L, rfl, h1, h2, h3, h4⟩ := rd29K.arg (by decide) Try.underlying22 k1
  exact law_plays a0 a1 cap1 L W h3 h1 (fun d hd => ⟨(h4 d hd).1, (h4 d hd).2.1, (h4 d hd).2.2.1⟩) (int_bd w0).1 (int_bd w0).2
end Go.Proofs.Cac
