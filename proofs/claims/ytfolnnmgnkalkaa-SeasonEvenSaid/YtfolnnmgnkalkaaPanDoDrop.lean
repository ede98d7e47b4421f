/- pane: the law's 'do', an act that drops. -/
import Derived.Test.YtfolnnmgnkalkaaPanDo
import Derived.Test.YtfolnnmgnkalkaaPanRefDropWalk
namespace Go.Proofs.Pan
open Go.RowKit Go.Cic Go.ChangeMaps
set_option linter.unusedVariables false
set_option maxRecDepth 100000
set_option maxHeartbeats 1000000 in
theorem do_drop {B p q k : Nat} {width count : Int} {L : List Sm} {T : Tab} {l : List Asrt} {w : World} (key : ByteArray) (at_ n : Int) (hO : Owns B (PanA p width count T :: RefA q width L count :: l) w) (hB : B ≤ w.heap.size) (hS : Sim T L count k) (hk : k ≤ 1000) (hw1 : 1 ≤ width) (hw2 : width ≤ 1099511627776)
    (hf1 : -9223372036854775808 ≤ at_) (hf2 : at_ ≤ 9223372036854775807) :
    Calls Try.prog 27 #[.pointer (some ⟨p, 0, none⟩), .pointer (some ⟨q, 0, none⟩), .agg #[.int .i64 0, .string key, .int .i64 at_, .int .i64 n]] w fun e w' => e = .returned (.bool true) ∧ (∃ T' L' count', Sim T' L' count' (k + 1) ∧ Owns B (PanA p width count' T' :: RefA q width L' count' :: l) w') ∧ Below B w w' := by
  have hA := hO.alloc_cells hB #[.int .i64 0, .string key, .int .i64 at_, .int .i64 n] 29
  have bA : Below B w (w.alloc (.cells #[.int .i64 0, .string key, .int .i64 at_, .int .i64 n] 29)) := (Below.refl B w).alloc hB _
  obtain ⟨x1, x2, x3⟩ := box_cells hA
  have x0 : (w.alloc (.cells #[.int .i64 0, .string key, .int .i64 at_, .int .i64 n] 29)).cell? ⟨w.heap.size, 0, none⟩ = some (.int .i64 0) := by rw [cell_of hA.cellsE.1]; rfl
  have hdr := drop_own at_ hA.drew.swap (Nat.le_trans hB bA.size) hw1 hw2 hf1 hf2 (by have := hS.len; omega)
  have hrefg := fun {lA : List Asrt} {W : World} (hO : Owns B (RefA q width L count :: lA) W) (hB : B ≤ W.heap.size) => refdrop_own at_ hO hB hS.lok (by have := hS.llen; omega) hw1 hw2 hf1 hf2
  have hfin := (hS.drop (pn width at_)).mono (Nat.le_succ k)
  have hsame := drop_same hS (pn width at_)
  rw [hsame] at hdr
  replace hfin := Hid.mk' (show Sim (kept (pn width at_) T) (keptL (pn width at_) L) count (k + 1) from hfin)
  clear hsame
  generalize kept (pn width at_) T = T' at hdr hfin
  generalize keptL (pn width at_) L = L' at hrefg hfin
  generalize (((goneL (pn width at_) L).length : Nat) : Int) = gn at hdr hrefg
  go_enter Try.func27, Try.ntmps27
  go_wp2_with fail
  go_region_held3 (fun w' => w'.cell? ⟨w.heap.size, 1, none⟩ = some (.string key) ∧ w'.cell? ⟨w.heap.size, 2, none⟩ = some (.int .i64 at_) ∧ w'.cell? ⟨w.heap.size, 3, none⟩ = some (.int .i64 n)) (go_keep)
    (first
      | (go_at_call 23; refine hdr.mono ?_; rintro e w4 ⟨rfl, hO4, b4⟩; obtain ⟨s1, s2, s3⟩ := box_cells hO4.swap; have hb4 := bA.drew.trans b4; have href := hrefg (hO4.front 2 _ rfl) (Nat.le_trans hB hb4.size))
      | (go_at_call 51; refine href.mono ?_; rintro e w5 ⟨rfl, hO5, b5⟩; obtain ⟨r1, r2, r3⟩ := box_cells (hO5.front 2 _ rfl); have hb5 := hb4.trans b5))
  go_wp2_with fail
  go_ret
  exact ⟨rfl, ⟨T', L', count, hfin.out, (hO5.swap).front 2 _ rfl |>.tail⟩, hb5⟩
end Go.Proofs.Pan
