/- pane: the law's 'do', an act that adds. -/
import Derived.Test.YtfolnnmgnkalkaaPanRefOwn
import Derived.Deep.RegionHeld3
namespace Go.Proofs.Pan
open Go.RowKit Go.Cic Go.ChangeMaps
set_option linter.unusedVariables false
set_option maxRecDepth 100000
theorem box_cells {B H : Nat} {kd : Int} {key : ByteArray} {at_ n : Int} {l : List Asrt} {w : World} (h : Owns B (Asrt.cells H #[.int .i64 kd, .string key, .int .i64 at_, .int .i64 n] 29 :: l) w) :
    w.cell? ⟨H, 1, none⟩ = some (.string key) ∧ w.cell? ⟨H, 2, none⟩ = some (.int .i64 at_) ∧ w.cell? ⟨H, 3, none⟩ = some (.int .i64 n) := by
  obtain ⟨hc, _⟩ := h.cellsE
  exact ⟨by rw [cell_of hc]; rfl, by rw [cell_of hc]; rfl, by rw [cell_of hc]; rfl⟩
set_option maxHeartbeats 1000000 in
theorem do_add {B p q k : Nat} {width count : Int} {L : List Sm} {T : Tab} {l : List Asrt} {w : World} (kd : Int) (key : ByteArray) (at_ n : Int) (hkd : kd ≠ 0) (hO : Owns B (PanA p width count T :: RefA q width L count :: l) w) (hB : B ≤ w.heap.size) (hS : Sim T L count k) (hk : k ≤ 1000) (hw1 : 1 ≤ width) (hw2 : width ≤ 1099511627776)
    (hkey : key.size ≤ 9223372036854775807) (hsk : mayAdd key at_ n → rdSum.ok (key, pn width at_, n)) :
    Calls Try.prog 27 #[.pointer (some ⟨p, 0, none⟩), .pointer (some ⟨q, 0, none⟩), .agg #[.int .i64 kd, .string key, .int .i64 at_, .int .i64 n]] w fun e w' => e = .returned (.bool true) ∧ (∃ T' L' count', Sim T' L' count' (k + 1) ∧ Owns B (PanA p width count' T' :: RefA q width L' count' :: l) w') ∧ Below B w w' := by
  have hc1 : count < 1048576 := by have := hS.c1; omega
  have hA := hO.alloc_cells hB #[.int .i64 kd, .string key, .int .i64 at_, .int .i64 n] 29
  have bA : Below B w (w.alloc (.cells #[.int .i64 kd, .string key, .int .i64 at_, .int .i64 n] 29)) := (Below.refl B w).alloc hB _
  obtain ⟨x1, x2, x3⟩ := box_cells hA
  have hadd := add_own key at_ n hA.drew.swap (Nat.le_trans hB bA.size) hS.c0 hw1 hw2
  have e1 : (mayAdd key at_ n ∧ count < 1048576) ↔ mayAdd key at_ n := ⟨fun h => h.1, fun h => ⟨h, hc1⟩⟩
  simp only [e1] at hadd
  have hsim : mayAdd key at_ n → Sim (if 0 < n then AL.put T (key, pn width at_) (wrap64 ((AL.get T (key, pn width at_)).getD 0 + n)) else T) (L ++ [(key, pn width at_, n)]) (count + 1) (k + 1) := fun hm => hS.add hk key at_ n hm (hsk hm)
  have t1 : (kd == 0) = false := by simpa using hkd
  have hrefg := fun {lA : List Asrt} {W : World} (hO : Owns B (RefA q width L count :: lA) W) (hB : B ≤ W.heap.size) => refadd_own key at_ n hO hB hS hk hw1 hw2 hkey hsk
  have hmono := hS.mono (Nat.le_succ k)
  clear hsk
  have hfin : (if mayAdd key at_ n then count + 1 else count) = (if mayAdd key at_ n then count + 1 else count) ∧ Sim (if mayAdd key at_ n ∧ 0 < n then AL.put T (key, pn width at_) (wrap64 ((AL.get T (key, pn width at_)).getD 0 + n)) else T) (if mayAdd key at_ n then L ++ [(key, pn width at_, n)] else L) (if mayAdd key at_ n then count + 1 else count) (k + 1) := by
    refine ⟨rfl, ?_⟩
    by_cases hm : mayAdd key at_ n
    · simp only [hm, true_and, if_true]; exact hsim hm
    · simp only [hm, false_and, if_false]; exact hmono
  replace hfin := Hid.mk' hfin.2
  clear hsim hmono
  generalize (if mayAdd key at_ n ∧ 0 < n then AL.put T (key, pn width at_) (wrap64 ((AL.get T (key, pn width at_)).getD 0 + n)) else T) = T' at hadd hfin
  generalize (if mayAdd key at_ n then L ++ [(key, pn width at_, n)] else L) = L' at hrefg hfin
  generalize (if mayAdd key at_ n then count + 1 else count) = count' at hadd hrefg hfin
  generalize decide (mayAdd key at_ n) = bq at hadd hrefg
  have t2 : (bq == bq) = true := by simp
  go_enter Try.func27, Try.ntmps27
  go_wp2_with fail
  go_region_held3 (fun w' => w'.cell? ⟨w.heap.size, 1, none⟩ = some (.string key) ∧ w'.cell? ⟨w.heap.size, 2, none⟩ = some (.int .i64 at_) ∧ w'.cell? ⟨w.heap.size, 3, none⟩ = some (.int .i64 n)) (go_keep)
    (first
      | (go_at_call 19; refine hadd.mono ?_; rintro e w4 ⟨rfl, hO4, b4⟩; obtain ⟨s1, s2, s3⟩ := box_cells hO4.swap; have hb4 := bA.drew.trans b4; have href := hrefg (hO4.front 2 _ rfl) (Nat.le_trans hB hb4.size))
      | (go_at_call 30; refine href.mono ?_; rintro e w5 ⟨rfl, hO5, b5⟩; obtain ⟨r1, r2, r3⟩ := box_cells (hO5.front 2 _ rfl); have hb5 := hb4.trans b5))
  go_wp2_with fail
  go_ret
  exact ⟨rfl, ⟨T', L', count', hfin.out, (hO5.swap).front 2 _ rfl |>.tail⟩, hb5⟩
end Go.Proofs.Pan
