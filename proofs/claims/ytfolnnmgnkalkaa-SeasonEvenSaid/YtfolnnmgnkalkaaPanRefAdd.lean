/- pane: the document's Add. -/
import Derived.Test.YtfolnnmgnkalkaaPanRefRows
import Derived.Deep.CutBlock
import Derived.Deep.DeepCutAuto
namespace Go.Proofs.Pan
open Go.RowKit Go.Cic Go.ChangeMaps
set_option linter.unusedVariables false
set_option linter.unusedSimpArgs false
set_option maxRecDepth 100000
set_option maxHeartbeats 4000000 in
theorem refadd_yes {B p : Nat} {width count : Int} {L : List Sm} {l : List Asrt} {w : World} (key : ByteArray) (at_ n : Int) (hO : Owns B (RefA p width L count :: l) w) (hB : B ≤ w.heap.size) (hok : ∀ x ∈ L, rdSum.ok x) (hlen : L.length ≤ 1000) (h0 : 0 ≤ count) (h1 : count < 1048576) (hw1 : 1 ≤ width) (hw2 : width ≤ 1099511627776)
    (hm : mayAdd key at_ n) (hsk : rdSum.ok (key, pn width at_, n)) :
    Calls Try.prog 30 #[.pointer (some ⟨p, 0, none⟩), .string key, .int .i64 at_, .int .i64 n] w fun e w' => e = .returned (.bool true) ∧ Owns B (RefA p width (L ++ [(key, pn width at_, n)]) (count + 1) :: l) w' ∧ Below B w w' := by
  obtain ⟨m1, m2, m3, m4, m5, m6⟩ := hm
  obtain ⟨v, hO⟩ := ref_iff.1 hO
  obtain ⟨hc, hpB, hpz⟩ := hO.cellsE
  obtain ⟨ao, cL, rfl, hsl⟩ := sums_at hO.swap hok
  have c0 : w.cell? ⟨p, 0, none⟩ = some (.int .i64 width) := by rw [cell_of hc]; rfl
  have c1 : w.cell? ⟨p, 1, none⟩ = some (.slice ao L.length cL) := by rw [cell_of hc]; rfl
  have c2 : w.cell? ⟨p, 2, none⟩ = some (.int .i64 count) := by rw [cell_of hc]; rfl
  have hrn : Owns B (Asrt.rows rdSum (.slice (some ⟨w.heap.size, 0, none⟩) 0 0) [] :: _) (w.alloc (.cells #[] 89)) := sums_new hO hB
  have hbn : Below B w (w.alloc (.cells #[] 89)) := (Below.refl B w).alloc hB _
  have zn := Nat.le_trans hB hbn.size
  obtain ⟨ao1, x1, w4, hr4, hO4, b4⟩ := append_sums 45 hrn (by simp) zn (c := cL) (sums_lie (hrn.front 2 _ rfl) hok).1 rfl (N := L.length) (by simp) (by omega)
  rw [List.nil_append] at hO4
  have hb4 : Below B w w4 := hbn.trans b4
  have z4 := Nat.le_trans hB hb4.size
  obtain ⟨hc4, _⟩ := (hO4.front 1 _ rfl).cellsE
  have q0 : w4.cell? ⟨p, 0, none⟩ = some (.int .i64 width) := by rw [cell_of hc4]; rfl
  have hpane := refpane_any p width at_ w4 q0 hw1 hw2 (by omega) (by omega)
  obtain ⟨sl5, hO5', b5⟩ := one_at hO4 z4 (key, pn width at_, n) hsk
  dsimp only at sl5 hO5' b5
  have z5 := Nat.le_trans z4 b5.size
  obtain ⟨ao2, x2, w6, hr6, hO6, b6⟩ := append_sums 45 hO5' hok z5 (c := 1) sl5 rfl (N := L.length + 1) rfl (by omega)
  have hb6 : Below B w w6 := (hb4.trans b5).trans b6
  have z6 := Nat.le_trans hB hb6.size
  obtain ⟨hO7, b7⟩ := (hO6.front 1 _ rfl).poke z6 1 (.slice ao2 (L.length + 1) x2)
  obtain ⟨hc6, _⟩ := (hO6.front 1 _ rfl).cellsE
  have fr6 : w6.frozen? ⟨p, 1, none⟩ = false := free_of hc6 _
  have y1 : w6.cell? ⟨p, 1, none⟩ = some (.slice ao L.length cL) := by rw [cell_of hc6]; rfl
  replace b7 := hb6.trans b7
  have z7 := Nat.le_trans hB b7.size
  obtain ⟨hc7, _⟩ := hO7.cellsE
  have y2 : (w6.setCell ⟨p, 1, none⟩ (.slice ao2 (L.length + 1) x2)).cell? ⟨p, 2, none⟩ = some (.int .i64 count) := by rw [cell_of hc7]; rfl
  have fr7 : (w6.setCell ⟨p, 1, none⟩ (.slice ao2 (L.length + 1) x2)).frozen? ⟨p, 2, none⟩ = false := free_of hc7 _
  obtain ⟨hO8, b8⟩ := hO7.poke z7 2 (.int .i64 (count + 1))
  replace b8 := b7.trans b8
  generalize pn width at_ = pk at *
  go_enter Try.func30, Try.ntmps30
  go_wp2_with (refine wpList_app rfl rfl rfl rfl rfl hr4 ?_)
  refine hpane.mono ?_
  rintro e w9 ⟨rfl, rfl⟩
  go_wp2_with (refine wpList_app rfl rfl rfl rfl rfl hr6 ?_)
  all_goals
    go_ret
    refine ⟨rfl, ref_iff.2 ⟨.slice ao2 (L.length + 1) x2, ?_⟩, b8⟩
    have h9 := (hO8.front 2 _ rfl).tail
    simpa using h9
set_option maxHeartbeats 2000000 in
theorem refadd_no {p : Nat} {count : Int} {w : World} (key : ByteArray) (at_ n : Int) (hc2 : w.cell? ⟨p, 2, none⟩ = some (.int .i64 count)) (hkey : key.size ≤ 9223372036854775807) (hm : ¬ mayAdd key at_ n) :
    Calls Try.prog 30 #[.pointer (some ⟨p, 0, none⟩), .string key, .int .i64 at_, .int .i64 n] w fun e w' => e = .returned (.bool false) ∧ w = w' := by
  have hcs : (key.size < 1) ∨ (1 ≤ key.size ∧ 24 < key.size) ∨ (1 ≤ key.size ∧ key.size ≤ 24 ∧ at_ < 0) ∨ (1 ≤ key.size ∧ key.size ≤ 24 ∧ 0 ≤ at_ ∧ 1099511627776 < at_) ∨ (1 ≤ key.size ∧ key.size ≤ 24 ∧ 0 ≤ at_ ∧ at_ ≤ 1099511627776 ∧ n < 0) ∨ (1 ≤ key.size ∧ key.size ≤ 24 ∧ 0 ≤ at_ ∧ at_ ≤ 1099511627776 ∧ 0 ≤ n ∧ 1048576 < n) := by
    unfold mayAdd at hm; omega
  clear hm
  rcases hcs with h1 | ⟨h1, h2⟩ | ⟨h1, h2, h3⟩ | ⟨h1, h2, h3, h4⟩ | ⟨h1, h2, h3, h4, h5⟩ | ⟨h1, h2, h3, h4, h5, h6⟩
  all_goals
    go_enter Try.func30, Try.ntmps30
    go_wp2_with fail
    go_ret
    exact ⟨rfl, rfl⟩
end Go.Proofs.Pan
