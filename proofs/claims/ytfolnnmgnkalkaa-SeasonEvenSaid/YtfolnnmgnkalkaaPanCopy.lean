/- pane: Copy, Width. -/
import Derived.Test.YtfolnnmgnkalkaaPanDrop
import Derived.Deep.RegionHeld3
namespace Go.Proofs.Pan
open Go.RowKit Go.Cic Go.ChangeMaps
set_option linter.unusedVariables false
set_option maxRecDepth 100000
theorem clone_any (bm : Nat) (T : Tab) (w : World) (hM : MapT cE iV w bm T) : Calls Try.prog 48 #[.map (some bm)] w fun e w' => e = .returned (.map (some w.heap.size)) ∧ ∃ ob, w' = w.alloc ob ∧ MapT cE iV (w.alloc ob) w.heap.size T := by
  have heq : ∀ (w : World) (r : Option Nat), (binOp .eql 77 (.map r) (.map none)).run Try.prog w = .ok (.bool r.isNone) w := fun w r => run_eql_map_nil w _ _ _ r Try.underlying77
  obtain ⟨ob, hcl, hM2⟩ := hM.clone 77
  go_enter Try.func48, Try.ntmps48
  go_wp2
  rw [run_callFunc_extern Try.func58 (by kernel_rfl) (by kernel_rfl) (by kernel_rfl) (e := Extern.MapsClone.clone) (by kernel_rfl), hcl]
  simp only [Result.andThen]
  rw [Oper.upon_value]
  go_wp2
  rw [run_typeAssert_same 77 _ _ _ _ Try.underlying77]
  simp only [Result.andThen]
  rw [Oper.upon_value]
  go_wp2
  go_ret
  exact ⟨rfl, ob, rfl, hM2⟩
theorem copy_any (p bm : Nat) (width added : Int) (T : Tab) (w : World) (hr : w.heap[p]? = some (.cells #[.int .i64 width, .int .i64 added, .map (some bm)] 79 (0, 0))) (hM : MapT cE iV w bm T) :
    Calls Try.prog 20 #[.pointer (some ⟨p, 0, none⟩)] w fun e w' => ∃ ob, e = .returned (.pointer (some ⟨w.heap.size + 1, 0, none⟩)) ∧
      w' = (((w.drew).alloc ob).alloc (.cells #[.int .i64 width, .int .i64 added, .map (some w.heap.size)] 79)) ∧ MapT cE iV (w.drew.alloc ob) w.heap.size T := by
  have c0 : w.cell? ⟨p, 0, none⟩ = some (.int .i64 width) := by rw [cell_of hr]; rfl
  have c1 : w.cell? ⟨p, 1, none⟩ = some (.int .i64 added) := by rw [cell_of hr]; rfl
  have c2 : w.cell? ⟨p, 2, none⟩ = some (.map (some bm)) := by rw [cell_of hr]; rfl
  have hplt := (Array.getElem?_eq_some_iff.1 hr).1
  have a0 : ∀ ob, (w.alloc ob).cell? ⟨p, 0, none⟩ = some (.int .i64 width) := fun ob => by rw [alloc_cell _ _ hplt]; exact c0
  have a1 : ∀ ob, (w.alloc ob).cell? ⟨p, 1, none⟩ = some (.int .i64 added) := fun ob => by rw [alloc_cell _ _ hplt]; exact c1
  have hM1 : MapT cE iV w.drew bm T := hM
  go_enter Try.func20, Try.ntmps20
  go_wp2_with fail
  go_region_held3 (fun w' => w'.cell? ⟨p, 0, none⟩ = some (.int .i64 width) ∧ w'.cell? ⟨p, 1, none⟩ = some (.int .i64 added) ∧ w'.cell? ⟨p, 2, none⟩ = some (.map (some bm))) (go_keep)
    (first | (go_at_call 48; refine (clone_any bm T w.drew hM1).mono ?_; rintro e w' ⟨rfl, ob, rfl, hM2⟩))
  all_goals go_wp2
  all_goals
    refine bodyPost_ret (results_tmp rfl _ _ _) rfl ⟨ob, rfl, rfl, hM2⟩
theorem copy_own {B p : Nat} {width added : Int} {T : Tab} {l : List Asrt} {w : World} (hO : Owns B (PanA p width added T :: l) w) (hB : B ≤ w.heap.size) :
    Calls Try.prog 20 #[.pointer (some ⟨p, 0, none⟩)] w fun e w' => ∃ q, e = .returned (.pointer (some ⟨q, 0, none⟩)) ∧ Owns B (PanA q width added T :: PanA p width added T :: l) w' ∧ Below B w w' := by
  obtain ⟨bm, h⟩ := pan_iff.1 hO
  refine (copy_any p bm width added T w h.cellsE.1 h.swap.mapE.1).mono ?_
  rintro e w' ⟨ob, rfl, rfl, hM⟩
  have hb1 : Below w.heap.size w (w.drew.alloc ob) := ((Below.refl _ w).drew).alloc (Nat.le_refl _) _
  have h1 : Owns B (Asrt.map cE iV w.heap.size T :: PanA p width added T :: l) (w.drew.alloc ob) := hO.new hB (S := (· = w.heap.size)) ⟨hM, fun _ => Iff.rfl⟩ (fun b hb => Nat.le_of_eq hb.symm) hb1
  have h2 := h1.alloc_cells (by simp; omega) #[.int .i64 width, .int .i64 added, .map (some w.heap.size)] 79
  refine ⟨_, rfl, pan_iff.2 ⟨w.heap.size, ?_⟩, (hb1.mono hB).alloc (by simp; omega) _⟩
  simpa using h2
theorem width_any (p : Nat) (width : Int) (w : World) (c0 : w.cell? ⟨p, 0, none⟩ = some (.int .i64 width)) : Calls Try.prog 21 #[.pointer (some ⟨p, 0, none⟩)] w fun e w' => e = .returned (.int .i64 width) ∧ w = w' := by
  go_enter Try.func21, Try.ntmps21
  go_wp2
  go_ret
  exact ⟨rfl, rfl⟩
theorem pan_cell {B p : Nat} {width added : Int} {T : Tab} {l : List Asrt} {w : World} (hO : Owns B (PanA p width added T :: l) w) : w.cell? ⟨p, 0, none⟩ = some (.int .i64 width) := by
  obtain ⟨bm, h⟩ := pan_iff.1 hO
  rw [cell_of h.cellsE.1]; rfl
end Go.Proofs.Pan
