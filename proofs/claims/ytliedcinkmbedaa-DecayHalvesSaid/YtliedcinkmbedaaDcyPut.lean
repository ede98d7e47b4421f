/- decay: put walked. -/
import Derived.Test.YtliedcinkmbedaaDcyBase
import Derived.Test.YtliedcinkmbedaaCicOps
import Derived.Test.YtliedcinkmbedaaCicSep
import Derived.WalkSpells
import Derived.Maps.OwnOps
namespace Go.Proofs.Dcy
open Go.RowKit Go.Cic Go.ChangeMaps
open Go.Maps (Keyed)
set_option linter.unusedVariables false
def kE : Enc Try.prog 9 ByteArray := strEnc Try.underlying9
def tE : Enc Try.prog 3 Int := intEnc (q := .i64) Try.underlying3
theorem kE_v (x : ByteArray) : kE.v x = .string x := rfl
theorem tE_v (x : Int) : tE.v x = .int .i64 x := rfl
theorem K9 : Keyed Try.prog 9 := Go.Maps.string_keyed Try.underlying9
theorem K3 : Keyed Try.prog 3 := Go.Maps.int_keyed Try.underlying3
abbrev pV : Nat → Value := fun b => .map (some b)
abbrev iV : Int → Value := fun n => .int .i64 n
theorem zero61 (w : World) : (zeroValue 61).run Try.prog w = .ok (.map none) w := by kernel_rfl
theorem zero2 (w : World) : (zeroValue 2).run Try.prog w = .ok (.int .i64 0) w := by kernel_rfl
def PutOld (bi : Nat) (at_ n : Int) (T : List (Int × Int)) (w : World) (e : Ending) (w' : World) : Prop :=
  e = .returned (.tuple #[]) ∧ ∃ ob, w' = setBlock w bi ob ∧ MapT tE iV w' bi (AL.put T at_ (wrap64 ((AL.get T at_).getD 0 + n)))

theorem put_old (p bm bi : Nat) (key : ByteArray) (at_ n : Int) (M : List (ByteArray × Nat)) (T : List (Int × Int)) (w : World)
    (hp : w.cell? ⟨p, 1, none⟩ = some (.map (some bm))) (hM : MapT kE pV w bm M) (hget : AL.get M key = some bi) (hT : MapT tE iV w bi T) (hk : kE.ok key) (ha : tE.ok at_) :
    Calls Try.prog 28 #[.pointer (some ⟨p, 0, none⟩), .string key, .int .i64 at_, .int .i64 n] w (PutOld bi at_ n T w) := by
  have heq : ∀ (w : World) (r : Option Nat), (binOp .eql 61 (.map r) (.map none)).run Try.prog w = .ok (.bool r.isNone) w := fun w r => run_eql_map_nil w _ _ _ r Try.underlying61
  go_enter Try.func28, Try.ntmps28
  go_wp2_with (first
    | (at_lookup; refine wpList_lookupT (E := kE) (V := pV) rfl _ _ 57 _ rfl K9 Try.underlying57 rfl hM (zero61 _) key rfl hk ?_)
    | (at_lookup; refine wpList_lookupT (E := tE) (V := iV) rfl _ _ 61 _ rfl K3 Try.underlying61 rfl hT (zero2 _) at_ rfl ha ?_)
    | (at_mapUpdate; refine wpList_updateT (E := tE) (V := iV) rfl _ _ _ 61 rfl K3 Try.underlying61 rfl hT at_ rfl ha _ rfl ?_; intro ob hT'))
  go_end0
  exact ⟨rfl, ob, rfl, hT'⟩

def PutNew (bm : Nat) (key : ByteArray) (at_ n : Int) (M : List (ByteArray × Nat)) (w : World) (e : Ending) (w' : World) : Prop :=
  e = .returned (.tuple #[]) ∧ MapT kE pV w' bm (AL.put M key w.heap.size) ∧ MapT tE iV w' w.heap.size [(at_, wrap64 (0 + n))] ∧ Keeps (· = bm) w w' ∧ w'.heap.size = w.heap.size + 1

theorem put_new (p bm : Nat) (key : ByteArray) (at_ n : Int) (M : List (ByteArray × Nat)) (w : World) (hlt : p < w.heap.size) (hne : p ≠ bm)
    (hp : w.cell? ⟨p, 1, none⟩ = some (.map (some bm))) (hM : MapT kE pV w bm M) (hget : AL.get M key = none) (hk : kE.ok key) (ha : tE.ok at_) :
    Calls Try.prog 28 #[.pointer (some ⟨p, 0, none⟩), .string key, .int .i64 at_, .int .i64 n] w (PutNew bm key at_ n M w) := by
  have heq : ∀ (w : World) (r : Option Nat), (binOp .eql 61 (.map r) (.map none)).run Try.prog w = .ok (.bool r.isNone) w := fun w r => run_eql_map_nil w _ _ _ r Try.underlying61
  have hmm := @run_makeMap Try.prog
  have hM1 : MapT kE pV (w.alloc (.map #[] 0)) bm M := hM.keeps ((Keeps.refl (fun _ => False) w).alloc _) (fun h => h)
  have hN := MapT.made tE iV w
  have hnb : w.heap.size ≠ bm := Nat.ne_of_gt hM.lt
  have hp2 : ∀ ob, (setBlock (w.alloc (.map #[] 0)) bm ob).cell? ⟨p, 1, none⟩ = some (.map (some bm)) := fun ob => by
    rw [setBlock_cell _ _ _ hne, alloc_cell _ _ hlt]; exact hp
  have hgp := Hid.mk' (AL.get_put_same M key w.heap.size)
  go_enter Try.func28, Try.ntmps28
  go_wp2_with (first
    | (at_lookup; refine wpList_lookupT (E := kE) (V := pV) rfl _ _ 57 _ rfl K9 Try.underlying57 rfl hM (zero61 _) key rfl hk ?_)
    | (at_mapUpdate; refine wpList_updateT (E := kE) (V := pV) rfl _ _ _ 57 rfl K9 Try.underlying57 rfl hM1 key rfl hk w.heap.size rfl ?_; intro ob hM2; have hN2 := hN.of_block (w' := setBlock (w.alloc (.map #[] 0)) bm ob) (setBlock_other _ _ _ hnb); have hget2 := hgp.out; clear hgp)
    | (at_lookup; refine wpList_lookupT (E := kE) (V := pV) rfl _ _ 57 _ rfl K9 Try.underlying57 rfl hM2 (zero61 _) key rfl hk ?_)
    | (at_lookup; refine wpList_lookupT (E := tE) (V := iV) rfl _ _ 61 _ rfl K3 Try.underlying61 rfl hN2 (zero2 _) at_ rfl ha ?_)
    | (at_mapUpdate; refine wpList_updateT (E := tE) (V := iV) rfl _ _ _ 61 rfl K3 Try.underlying61 rfl hN2 at_ rfl ha _ rfl ?_; intro ob2 hT'))
  go_end0
  refine ⟨rfl, hM2.of_block (setBlock_other _ _ _ (Ne.symm hnb)), hT', ?_, by simp [setBlock_size]⟩
  exact (((Keeps.refl (· = bm) w).alloc _).setBlock (fun _ => rfl) _).setBlock (fun h => absurd h (Nat.lt_irrefl _)) _
end Go.Proofs.Dcy
