/- pane: Sum. -/
import Derived.Test.YtfolnnmgnkalkaaPanAdd
import Derived.Test.YtfolnnmgnkalkaaCicSum
namespace Go.Proofs.Pan
open Go.RowKit Go.Cic Go.ChangeMaps
set_option linter.unusedVariables false
set_option maxRecDepth 100000
attribute [local go_sem] cE_v
/-- Which cells a sum goes over. -/
def inr (key : ByteArray) (first last : Int) (c : Cell) : Int := if c.1 = key ∧ first ≤ c.2 ∧ c.2 < last then 1 else 0
theorem inr_yes {key : ByteArray} {first last : Int} {c : Cell} (h1 : c.1 = key) (h2 : first ≤ c.2) (h3 : c.2 < last) : inr key first last c = 1 := if_pos ⟨h1, h2, h3⟩
theorem inr_no {key : ByteArray} {first last : Int} {c : Cell} (h : ¬ (c.1 = key ∧ first ≤ c.2 ∧ c.2 < last)) : inr key first last c = 0 := if_neg h
def SumPost (r : Int) (w : World) (e : Ending) (w' : World) : Prop := e = .returned (.int .i64 r) ∧ Below w.heap.size w w'
theorem sum_any (p bm : Nat) (width added : Int) (key : ByteArray) (from_ to_ : Int) (T : Tab) (w : World) (hr : w.heap[p]? = some (.cells #[.int .i64 width, .int .i64 added, .map (some bm)] 79 (0, 0))) (hM : MapT cE iV w bm T)
    (hw1 : 1 ≤ width) (hw2 : width ≤ 1099511627776) (h1 : -9223372036854775808 ≤ from_) (h2 : from_ ≤ 9223372036854775807) (h3 : -9223372036854775808 ≤ to_) (h4 : to_ ≤ 9223372036854775807) :
    Calls Try.prog 22 #[.pointer (some ⟨p, 0, none⟩), .string key, .int .i64 from_, .int .i64 to_] w (SumPost (wrap64 (wsum (inr key (pn width from_) (pn width to_)) T)) w) := by
  have c0 : w.cell? ⟨p, 0, none⟩ = some (.int .i64 width) := by rw [cell_of hr]; rfl
  have c2 : w.cell? ⟨p, 2, none⟩ = some (.map (some bm)) := by rw [cell_of hr]; rfl
  obtain ⟨first, hfi⟩ : ∃ x, Hid (pn width from_ = x) := ⟨_, rfl⟩
  obtain ⟨last, hla⟩ : ∃ x, Hid (pn width to_ = x) := ⟨_, rfl⟩
  go_enter Try.func22, Try.ntmps22
  go_wp2_with fail
  refine (pane_any p width from_ _ c0 hw1 hw2 h1 h2).mono ?_
  rintro e w' ⟨rfl, rfl⟩
  rw [hfi.out]
  go_wp2_with fail
  refine (pane_any p width to_ _ c0 hw1 hw2 h3 h4).mono ?_
  rintro e w' ⟨rfl, rfl⟩
  rw [hla.out]
  go_wp2_with (at_range; refine wpList_rangeT (E := cE) (V := iV) rfl _ 77 rfl Try.underlying77 rfl hM ?_; intro ob hrg0)
  try go_frame
  go_loopw [11] (fun v wr => ∃ L, RngT cE iV wr bm w.heap.size T L ∧ Below w.heap.size w wr ∧ v = .int .i64 (wrap64 (wsum (inr key first last) T - wsum (inr key first last) L))) (fun _ wr => wr.rangeLeft bm w.heap.size)
  case atStart => exact ⟨T, hrg0, (Below.refl _ _).alloc (Nat.le_refl _) _, by simp [wrap64]⟩
  case round =>
    obtain ⟨L, hrg, hbl, rfl⟩ := hrel
    have hsz := hbl.size
    go_wp2_with (at_next; refine wpList_nextT (E := cE) (V := iV) rfl _ rfl rfl hrg ?_ ?_)
    · intro hL
      subst hL
      go_wp2
      go_ret
      refine ⟨ret_int ?_, hbl⟩
      rw [wsum_nil, hfi.out, hla.out, Int.sub_zero]
    · intro ck cp n w1 hq hk1 hs1 hrg1 hen
      have hd := Hid.mk' (wsum_del (f := inr key first last) hrg.nodup hq)
      have hlt := Hid.mk' (AL.del_length_lt hq)
      have hbl1 : Below w.heap.size w w1 := hbl.trans (hk1.below hsz (by omega))
      by_cases hc : ck = key ∧ first ≤ cp ∧ cp < last
      · obtain ⟨q1, q2, q3⟩ := hc
        subst q1
        have hin := Hid.mk' (inr_yes (key := ck) (first := first) (last := last) (c := (ck, cp)) rfl q2 q3)
        go_wp2
        go_roundw
        case rel => exact ⟨AL.del L (ck, cp), hrg1.alloc _, hbl1.alloc (by omega) _, by rw [hd.out, hin.out, wrap_add]; congr 2; omega⟩
        case measure => rw [(hrg1.alloc _).left, hrg.left]; exact hlt.out
      · have hin := Hid.mk' (inr_no (c := (ck, cp)) hc)
        go_wp2
        all_goals first
          | (exfalso; exact hc ⟨str_inj (by assumption), by assumption, by assumption⟩)
          | (go_roundw
             case rel => exact ⟨AL.del L (ck, cp), hrg1.alloc _, hbl1.alloc (by omega) _, by rw [hd.out, hin.out, Int.mul_zero, Int.sub_zero]⟩
             case measure => rw [(hrg1.alloc _).left, hrg.left]; exact hlt.out)
theorem sum_own {B p : Nat} {width added : Int} {T : Tab} {l : List Asrt} {w : World} (key : ByteArray) (from_ to_ : Int) (hO : Owns B (PanA p width added T :: l) w) (hB : B ≤ w.heap.size) (hw1 : 1 ≤ width) (hw2 : width ≤ 1099511627776)
    (h1 : -9223372036854775808 ≤ from_) (h2 : from_ ≤ 9223372036854775807) (h3 : -9223372036854775808 ≤ to_) (h4 : to_ ≤ 9223372036854775807) :
    Calls Try.prog 22 #[.pointer (some ⟨p, 0, none⟩), .string key, .int .i64 from_, .int .i64 to_] w fun e w' => e = .returned (.int .i64 (wrap64 (wsum (inr key (pn width from_) (pn width to_)) T))) ∧ Owns B (PanA p width added T :: l) w' ∧ Below B w w' := by
  obtain ⟨bm, h⟩ := pan_iff.1 hO
  refine (sum_any p bm width added key from_ to_ T w h.cellsE.1 h.swap.mapE.1 hw1 hw2 h1 h2 h3 h4).mono ?_
  rintro e w' ⟨rfl, hb⟩
  exact ⟨rfl, hO.keep hb, hb.mono hB⟩
end Go.Proofs.Pan
