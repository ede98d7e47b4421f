/-
  No cell of these rows narrows 'for every input' (looked for: loops, veiled, ifaces, maps, wideKeys, modest, calm, conditions, laid).
  DERIVED. THE GIVEN ROWS OF THIS SEAT. 7 by the template 'for every input the law returns true; each argument reads behind the call as it read before'; 0 by the template 'total and deterministic' (their statements: YtnjakbkecimjcaaTotals.lean).
  GIVEN WITH THE SEED: the statements are not yours to turn. If you find one false, say at which input.
  Laid BY PROGRAM, IN A SANDBOX (cutbox-rows.mjs): the forced cells as the released guide's own fill.sh prints them over the translation 675b6be0ac3ac20a… (all of the seat's roots in one cut). By AI agents, Wed Nov 11 2026. No macro, syntax, notation, axiom, sorry.
-/
import Derived.Test.YtnjakbkecimjcaaChecked
import GoSem.Claim
import GoSem.ClaimJoined
import GoSem.ClaimMapViews
import Derived.JoinedTies
import Derived.KernelRfl
namespace Go.Proofs.Ytnjakbkecimjcaa
/- THE CELL 'sum', in the pinned program and in every row, IS THE sha256 OF THE DUMP (.gsa) THAT YtnjakbkecimjcaaProg.lean LOADS. Nothing in Lean hashes anything: it is a label: what it is worth is what the hold of that sum in a sandbox is worth. -/
noncomputable def Try.pinned : Pinned := { name := "ytnjakbkecimjcaa", sum := "675b6be0ac3ac20ade83da878735c208cb8568aba01bdc145523b2c3ba0d68c7", checked := Try.checked }
namespace Rows
def none {H : Type} : Left H := { results := [], args := [] }

/-- 'ciceronelaw03.FrameSeals': WHATEVER THE INPUT: true; the input reads as it did. -/
def frameSealsSpec : ChangeSpec := { name := "frameSeals", fn := fun _ => fun
  | [d1, d2] => { results := [.lit (.bool true)], args := [d1, d2] }
  | _ => none }
def frameSealsRow : OpenClaim := { program := "ytnjakbkecimjcaa", sum := "675b6be0ac3ac20ade83da878735c208cb8568aba01bdc145523b2c3ba0d68c7", func := "cicerone/ciceronelaw03.FrameSeals", spec := "frameSeals", unfollowed := true, recurses := true, apart := false }
def FrameSealsSaid : Prop := frameSealsRow.holds Try.pinned (OpenSpec.ofChange frameSealsSpec)

/-- ITS FALSE NEIGHBOUR: 'it returns false'. Refute it at one input. -/
def frameSealsWrong : ChangeSpec := { name := "frameSeals", fn := fun _ => fun
  | [d1, d2] => { results := [.lit (.bool false)], args := [d1, d2] }
  | _ => none }
def FrameSealsWrongFalsely : Prop := frameSealsRow.holds Try.pinned (OpenSpec.ofChange frameSealsWrong)

/-- 'ciceronelaw03.FrameCuts': WHATEVER THE INPUT: true; the input reads as it did. -/
def frameCutsSpec : ChangeSpec := { name := "frameCuts", fn := fun _ => fun
  | [d1, d2] => { results := [.lit (.bool true)], args := [d1, d2] }
  | _ => none }
def frameCutsRow : OpenClaim := { program := "ytnjakbkecimjcaa", sum := "675b6be0ac3ac20ade83da878735c208cb8568aba01bdc145523b2c3ba0d68c7", func := "cicerone/ciceronelaw03.FrameCuts", spec := "frameCuts", unfollowed := true, recurses := true, apart := false }
def FrameCutsSaid : Prop := frameCutsRow.holds Try.pinned (OpenSpec.ofChange frameCutsSpec)

/-- ITS FALSE NEIGHBOUR: 'it returns false'. Refute it at one input. -/
def frameCutsWrong : ChangeSpec := { name := "frameCuts", fn := fun _ => fun
  | [d1, d2] => { results := [.lit (.bool false)], args := [d1, d2] }
  | _ => none }
def FrameCutsWrongFalsely : Prop := frameCutsRow.holds Try.pinned (OpenSpec.ofChange frameCutsWrong)

/-- 'ciceronelaw03.FrameTurned': WHATEVER THE INPUT: true; the input reads as it did. -/
def frameTurnedSpec : ChangeSpec := { name := "frameTurned", fn := fun _ => fun
  | [d1, d2, d3, d4] => { results := [.lit (.bool true)], args := [d1, d2, d3, d4] }
  | _ => none }
def frameTurnedRow : OpenClaim := { program := "ytnjakbkecimjcaa", sum := "675b6be0ac3ac20ade83da878735c208cb8568aba01bdc145523b2c3ba0d68c7", func := "cicerone/ciceronelaw03.FrameTurned", spec := "frameTurned", unfollowed := true, recurses := true, apart := false }
def FrameTurnedSaid : Prop := frameTurnedRow.holds Try.pinned (OpenSpec.ofChange frameTurnedSpec)

/-- ITS FALSE NEIGHBOUR: 'it returns false'. Refute it at one input. -/
def frameTurnedWrong : ChangeSpec := { name := "frameTurned", fn := fun _ => fun
  | [d1, d2, d3, d4] => { results := [.lit (.bool false)], args := [d1, d2, d3, d4] }
  | _ => none }
def FrameTurnedWrongFalsely : Prop := frameTurnedRow.holds Try.pinned (OpenSpec.ofChange frameTurnedWrong)

/-- 'ciceronelaw03.FrameOpens': WHATEVER THE INPUT: true; the input reads as it did. -/
def frameOpensSpec : ChangeSpec := { name := "frameOpens", fn := fun _ => fun
  | [d] => { results := [.lit (.bool true)], args := [d] }
  | _ => none }
def frameOpensRow : OpenClaim := { program := "ytnjakbkecimjcaa", sum := "675b6be0ac3ac20ade83da878735c208cb8568aba01bdc145523b2c3ba0d68c7", func := "cicerone/ciceronelaw03.FrameOpens", spec := "frameOpens", unfollowed := true, recurses := true, apart := false }
def FrameOpensSaid : Prop := frameOpensRow.holds Try.pinned (OpenSpec.ofChange frameOpensSpec)

/-- ITS FALSE NEIGHBOUR: 'it returns false'. Refute it at one input. -/
def frameOpensWrong : ChangeSpec := { name := "frameOpens", fn := fun _ => fun
  | [d] => { results := [.lit (.bool false)], args := [d] }
  | _ => none }
def FrameOpensWrongFalsely : Prop := frameOpensRow.holds Try.pinned (OpenSpec.ofChange frameOpensWrong)

/-- 'ciceronelaw03.FrameRows': WHATEVER THE INPUT: true; the input reads as it did. -/
def frameRowsSpec : ChangeSpec := { name := "frameRows", fn := fun _ => fun
  | [d1, d2] => { results := [.lit (.bool true)], args := [d1, d2] }
  | _ => none }
def frameRowsRow : OpenClaim := { program := "ytnjakbkecimjcaa", sum := "675b6be0ac3ac20ade83da878735c208cb8568aba01bdc145523b2c3ba0d68c7", func := "cicerone/ciceronelaw03.FrameRows", spec := "frameRows", unfollowed := true, recurses := true, apart := false }
def FrameRowsSaid : Prop := frameRowsRow.holds Try.pinned (OpenSpec.ofChange frameRowsSpec)

/-- ITS FALSE NEIGHBOUR: 'it returns false'. Refute it at one input. -/
def frameRowsWrong : ChangeSpec := { name := "frameRows", fn := fun _ => fun
  | [d1, d2] => { results := [.lit (.bool false)], args := [d1, d2] }
  | _ => none }
def FrameRowsWrongFalsely : Prop := frameRowsRow.holds Try.pinned (OpenSpec.ofChange frameRowsWrong)

/-- 'ciceronelaw03.FrameNew': WHATEVER THE INPUT: true; the input reads as it did. -/
def frameNewSpec : ChangeSpec := { name := "frameNew", fn := fun _ => fun
  | [d] => { results := [.lit (.bool true)], args := [d] }
  | _ => none }
def frameNewRow : OpenClaim := { program := "ytnjakbkecimjcaa", sum := "675b6be0ac3ac20ade83da878735c208cb8568aba01bdc145523b2c3ba0d68c7", func := "cicerone/ciceronelaw03.FrameNew", spec := "frameNew", unfollowed := true, recurses := true, apart := false }
def FrameNewSaid : Prop := frameNewRow.holds Try.pinned (OpenSpec.ofChange frameNewSpec)

/-- ITS FALSE NEIGHBOUR: 'it returns false'. Refute it at one input. -/
def frameNewWrong : ChangeSpec := { name := "frameNew", fn := fun _ => fun
  | [d] => { results := [.lit (.bool false)], args := [d] }
  | _ => none }
def FrameNewWrongFalsely : Prop := frameNewRow.holds Try.pinned (OpenSpec.ofChange frameNewWrong)

/-- 'ciceronelaw03.FrameApart': WHATEVER THE INPUT: true; the input reads as it did. -/
def frameApartSpec : ChangeSpec := { name := "frameApart", fn := fun _ => fun
  | [d1, d2, d3] => { results := [.lit (.bool true)], args := [d1, d2, d3] }
  | _ => none }
def frameApartRow : OpenClaim := { program := "ytnjakbkecimjcaa", sum := "675b6be0ac3ac20ade83da878735c208cb8568aba01bdc145523b2c3ba0d68c7", func := "cicerone/ciceronelaw03.FrameApart", spec := "frameApart", unfollowed := true, recurses := true, apart := false }
def FrameApartSaid : Prop := frameApartRow.holds Try.pinned (OpenSpec.ofChange frameApartSpec)

/-- ITS FALSE NEIGHBOUR: 'it returns false'. Refute it at one input. -/
def frameApartWrong : ChangeSpec := { name := "frameApart", fn := fun _ => fun
  | [d1, d2, d3] => { results := [.lit (.bool false)], args := [d1, d2, d3] }
  | _ => none }
def FrameApartWrongFalsely : Prop := frameApartRow.holds Try.pinned (OpenSpec.ofChange frameApartWrong)

/- THE SECOND FORM. 'bulk': how many values and letters a reading holds, each counted each time it is reached (what is shared counts as often as it is met; a slice's spare places count too). A statement '..UptoSaid' is the law's where the arguments, and the package variables that the reading takes, are together of bulk at most 1048576: NARROWER than '..Said'. Prove '..Said' where nothing that the law and all that it calls make is longer than what came in: it says more and counts as full. Else prove '..UptoSaid'. A law counts once. -/
mutual
def uptoBulk {H : Type} : DataW H → Nat
  | .lit (.string bytes) => bytes.length + 1
  | .lit _ => 1
  | .nil => 1
  | .ptr d => uptoBulk d + 1
  | .slice elems spare => uptoBulkAll elems + uptoBulkAll spare + 1
  | .agg parts => uptoBulkAll parts + 1
  | .iface _ d => uptoBulk d + 1
  | .map entries => uptoBulkEntries entries + 1
  | .held _ => 1
def uptoBulkAll {H : Type} : List (DataW H) → Nat
  | [] => 0
  | d :: r => uptoBulk d + uptoBulkAll r
def uptoBulkEntries {H : Type} : List (Lit × DataW H) → Nat
  | [] => 0
  | x :: r => uptoBulkEntry x + uptoBulkEntries r
def uptoBulkEntry {H : Type} : Lit × DataW H → Nat
  | (.string bytes, d) => bytes.length + uptoBulk d + 1
  | (_, d) => uptoBulk d + 1
 end
def uptoSmall : (H : Type) → List (DataW H) → Bool := fun _ ds => decide (uptoBulkAll ds ≤ 1048576)
def OpenSpec.upto (s : _root_.Go.ChangeSpec) : _root_.Go.OpenSpec := { _root_.Go.OpenSpec.ofChange s with cond := some uptoSmall }

/-- 'ciceronelaw03.FrameSeals', WHERE WHAT IT READS IS OF BULK AT MOST 1048576: true; the input reads as it did. -/
def frameSealsUptoRow : OpenClaim := { program := "ytnjakbkecimjcaa", sum := "675b6be0ac3ac20ade83da878735c208cb8568aba01bdc145523b2c3ba0d68c7", func := "cicerone/ciceronelaw03.FrameSeals", spec := "frameSeals", unfollowed := true, recurses := true, apart := false, narrowed := true }
def FrameSealsUptoSaid : Prop := frameSealsUptoRow.holds Try.pinned (OpenSpec.upto frameSealsSpec)

/-- 'ciceronelaw03.FrameCuts', WHERE WHAT IT READS IS OF BULK AT MOST 1048576: true; the input reads as it did. -/
def frameCutsUptoRow : OpenClaim := { program := "ytnjakbkecimjcaa", sum := "675b6be0ac3ac20ade83da878735c208cb8568aba01bdc145523b2c3ba0d68c7", func := "cicerone/ciceronelaw03.FrameCuts", spec := "frameCuts", unfollowed := true, recurses := true, apart := false, narrowed := true }
def FrameCutsUptoSaid : Prop := frameCutsUptoRow.holds Try.pinned (OpenSpec.upto frameCutsSpec)

/-- 'ciceronelaw03.FrameTurned', WHERE WHAT IT READS IS OF BULK AT MOST 1048576: true; the input reads as it did. -/
def frameTurnedUptoRow : OpenClaim := { program := "ytnjakbkecimjcaa", sum := "675b6be0ac3ac20ade83da878735c208cb8568aba01bdc145523b2c3ba0d68c7", func := "cicerone/ciceronelaw03.FrameTurned", spec := "frameTurned", unfollowed := true, recurses := true, apart := false, narrowed := true }
def FrameTurnedUptoSaid : Prop := frameTurnedUptoRow.holds Try.pinned (OpenSpec.upto frameTurnedSpec)

/-- 'ciceronelaw03.FrameOpens', WHERE WHAT IT READS IS OF BULK AT MOST 1048576: true; the input reads as it did. -/
def frameOpensUptoRow : OpenClaim := { program := "ytnjakbkecimjcaa", sum := "675b6be0ac3ac20ade83da878735c208cb8568aba01bdc145523b2c3ba0d68c7", func := "cicerone/ciceronelaw03.FrameOpens", spec := "frameOpens", unfollowed := true, recurses := true, apart := false, narrowed := true }
def FrameOpensUptoSaid : Prop := frameOpensUptoRow.holds Try.pinned (OpenSpec.upto frameOpensSpec)

/-- 'ciceronelaw03.FrameRows', WHERE WHAT IT READS IS OF BULK AT MOST 1048576: true; the input reads as it did. -/
def frameRowsUptoRow : OpenClaim := { program := "ytnjakbkecimjcaa", sum := "675b6be0ac3ac20ade83da878735c208cb8568aba01bdc145523b2c3ba0d68c7", func := "cicerone/ciceronelaw03.FrameRows", spec := "frameRows", unfollowed := true, recurses := true, apart := false, narrowed := true }
def FrameRowsUptoSaid : Prop := frameRowsUptoRow.holds Try.pinned (OpenSpec.upto frameRowsSpec)

/-- 'ciceronelaw03.FrameNew', WHERE WHAT IT READS IS OF BULK AT MOST 1048576: true; the input reads as it did. -/
def frameNewUptoRow : OpenClaim := { program := "ytnjakbkecimjcaa", sum := "675b6be0ac3ac20ade83da878735c208cb8568aba01bdc145523b2c3ba0d68c7", func := "cicerone/ciceronelaw03.FrameNew", spec := "frameNew", unfollowed := true, recurses := true, apart := false, narrowed := true }
def FrameNewUptoSaid : Prop := frameNewUptoRow.holds Try.pinned (OpenSpec.upto frameNewSpec)

/-- 'ciceronelaw03.FrameApart', WHERE WHAT IT READS IS OF BULK AT MOST 1048576: true; the input reads as it did. -/
def frameApartUptoRow : OpenClaim := { program := "ytnjakbkecimjcaa", sum := "675b6be0ac3ac20ade83da878735c208cb8568aba01bdc145523b2c3ba0d68c7", func := "cicerone/ciceronelaw03.FrameApart", spec := "frameApart", unfollowed := true, recurses := true, apart := false, narrowed := true }
def FrameApartUptoSaid : Prop := frameApartUptoRow.holds Try.pinned (OpenSpec.upto frameApartSpec)

end Rows
end Go.Proofs.Ytnjakbkecimjcaa
