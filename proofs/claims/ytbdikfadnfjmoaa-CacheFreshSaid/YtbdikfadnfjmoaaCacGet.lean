/- cache: Get. -/
import Derived.Test.YtbdikfadnfjmoaaCacPut
namespace Go.Proofs.Cac
open Go.RowKit Go.Cic Go.ChangeMaps
open Go.Maps (Keyed)
set_option linter.unusedVariables false
set_option maxRecDepth 100000
theorem zero59 (w : World) : (zeroValue 59).run Try.prog w = .ok (.agg #[.string ByteArray.empty, .slice none 0 0]) w := by kernel_rfl
def Got (B p : Nat) (size : Int) (ks : List ByteArray) (C : Tab) (l : List Asrt) (key : ByteArray) (w : World) (e : Ending) (w' : World) : Prop :=
  match AL.get C key with
  | some c => e = .returned (.tuple #[.string c.1, .bool true]) ∧ Owns B (CacA p size (ks.filter (nk key) ++ [key]) C :: l) w' ∧ Below B w w'
  | none => e = .returned (.tuple #[.string ByteArray.empty, .bool false]) ∧ Owns B (CacA p size ks C :: l) w' ∧ Below B w w'
theorem got_some {B p : Nat} {size : Int} {ks : List ByteArray} {C : Tab} {l : List Asrt} {key : ByteArray} {w : World} {e : Ending} {w' : World} {c : Ent} (hg : AL.get C key = some c) (h : Owns B (CacA p size (ks.filter (nk key) ++ [key]) C :: l) w') (hb : Below B w w') (he : e = .returned (.tuple #[.string c.1, .bool true])) : Got B p size ks C l key w e w' := by
  unfold Got; rw [hg]; exact ⟨he, h, hb⟩
theorem got_none {B p : Nat} {size : Int} {ks : List ByteArray} {C : Tab} {l : List Asrt} {key : ByteArray} {w : World} {e : Ending} {w' : World} (hg : AL.get C key = none) (h : Owns B (CacA p size ks C :: l) w') (hb : Below B w w') (he : e = .returned (.tuple #[.string ByteArray.empty, .bool false])) : Got B p size ks C l key w e w' := by
  unfold Got; rw [hg]; exact ⟨he, h, hb⟩
set_option maxHeartbeats 1000000 in
theorem get_own {B p : Nat} {size : Int} {ks : List ByteArray} {C : Tab} {l : List Asrt} {w : World} (key : ByteArray) (hO : Owns B (CacA p size ks C :: l) w) (hB : B ≤ w.heap.size) (hk : ks.length ≤ 4294967295) (hkey : key.size ≤ maxLen) :
    Calls Try.prog 12 #[.pointer (some ⟨p, 0, none⟩), .string key] w (Got B p size ks C l key w) := by
  obtain ⟨bm, v, h⟩ := cac_iff.1 hO
  have hok : sE.ok key := hkey
  have c1 : w.cell? ⟨p, 1, none⟩ = some (.map (some bm)) := by rw [cell_of h.cellsE.1]; rfl
  cases hg : AL.get C key with
  | none =>
    obtain ⟨T, R, hT, _, hTg, _⟩ := (h.front 2 _ rfl).over
    have hTn := (hTg key).2 hg
    have hM := hT.mapE.1
    have hg := Hid.mk' hg
    clear h
    go_enter Try.func12, Try.ntmps12
    go_wp2_with (refine wpList_lookupNok rfl _ _ 54 rfl K9 Try.underlying54 rfl hM (zero59 _) key rfl hok hTn ?_)
    go_ret2
    exact got_none hg.out (hO.keep ((Below.refl _ _).alloc (Nat.le_refl _) _)) ((Below.refl _ _).alloc hB _) rfl
  | some c =>
    obtain ⟨x, T, R, hT, hTs, _, _⟩ := (h.front 2 _ rfl).focus hg
    obtain ⟨hx, hrow⟩ := Owns.fact_iff.1 (Owns.star_iff.1 (hT.front 1 _ rfl))
    obtain ⟨ab, cs, hx2, _⟩ := hrow.rowE
    have hM := hT.mapE.1
    replace hg := Hid.mk' hg
    have hl := hM.lookup K9 Try.underlying54 (zero59 w) hok true
    have hVx : eV x = .agg #[.string c.1, .slice ab (sv c.2).length cs] := by unfold eV; rw [hx, hx2]
    generalize (sv c.2).length = m at *
    have hA := (hO.alloc_cells hB #[.string c.1, .slice ab m cs] 59).swap
    have hbA := (Below.refl B w).alloc hB (.cells #[.string c.1, .slice ab m cs] 59)
    have hus := used_own key hA (Nat.le_trans hB hbA.size) hk
    clear hl h
    go_enter Try.func12, Try.ntmps12
    go_wp2_with (refine wpList_lookupSok rfl _ _ 54 rfl K9 Try.underlying54 rfl hM (zero59 _) key rfl hok hTs ?_; simp only [hVx])
    refine hus.mono ?_
    rintro e w1 ⟨rfl, h1, hb1⟩
    have c0 : w1.cell? ⟨w.heap.size, 0, none⟩ = some (.string c.1) := by rw [cell_of h1.swap.cellsE.1]; rfl
    go_wp2_with fail
    go_ret2
    exact got_some hg.out h1.drop1 (hbA.trans hb1) rfl
end Go.Proofs.Cac
