/- pane: a tick's pane, New. -/
import Derived.Test.YtfolnnmgnkalkaaProg
import Derived.Test.YtfolnnmgnkalkaaCicOps
import Derived.Test.YtfolnnmgnkalkaaCicSep
import Derived.Test.YtfolnnmgnkalkaaCicRd
import Derived.WalkSpells
import Derived.LoopTactic
import Derived.Outline
import Derived.DeepKeys4
import Derived.Deep.RegionWith
namespace Go.Proofs.Pan
open Go.RowKit Go.Cic Go.ChangeMaps
open Go.Maps (Keyed)
set_option linter.unusedVariables false
set_option maxRecDepth 100000
theorem ret_int {k : IntKind} {a b : Int} (h : a = b) : Ending.returned (.int k a) = .returned (.int k b) := by rw [h]
theorem ret_bool {a b : Bool} (h : a = b) : Ending.returned (.bool a) = .returned (.bool b) := by rw [h]
abbrev Cell := ByteArray × Int
theorem laidOut : laidOutB Try.prog = true := by kernel_rfl
theorem tys : (decide (81 < Try.prog.types.size)) = true := by kernel_rfl
theorem row81 : 81 < Try.prog.types.size := of_decide_eq_true tys
theorem kt81 : Try.prog.keyTypeAt 2 81 = true := by kernel_rfl
theorem wide81 : (match Try.prog.underlying 81 with | some (.array _ _) | some (.struct _) => true | _ => false) = true := by kernel_rfl
theorem K81 : Keyed Try.prog 81 := Keyed.of_law (deep_law_laid laidOut (m := 2) (by omega) row81 kt81 wide81)
theorem co81 : Try.prog.cellsOf 81 = 2 := by kernel_rfl
theorem co9 : Try.prog.cellsOf 9 = 1 := by kernel_rfl
theorem co3 : Try.prog.cellsOf 3 = 1 := by kernel_rfl
theorem kty81 : Try.prog.keyType 81 = true := by kernel_rfl
theorem key81 (s : ByteArray) (n : Int) (hs : s.size ≤ maxLen) (hn : (Lit.int .i64 n).wf = true) : ∃ l, keyOf Try.prog 81 (.agg #[.string s, .int .i64 n]) = some l := by
  have hu : Try.prog.underlying 81 = some _ := Try.underlying81
  have hf : Value.formed Try.prog 81 (.agg #[.string s, .int .i64 n]) = true := by simp [Value.formed, hu, co81]
  obtain ⟨m, hm⟩ : ∃ m, Try.prog.types.size = m + 1 := ⟨Try.prog.types.size - 1, by have := row81; omega⟩
  have hl : ∃ ls, Try.prog.keyLits (m + 1 + 1) 81 [.string s, .int .i64 n] = some ls := by
    unfold Program.keyLits
    rw [hu]
    simp [co81, Program.keyLits, Try.underlying9, Try.underlying3, co9, co3, hs, hn]
  obtain ⟨ls, hls⟩ := hl
  refine ⟨.string (keyBytes ls), ?_⟩
  unfold keyOf
  rw [hu]
  simp only [kty81, hf, Bool.and_self, if_true, Value.cells, hm]
  rw [hls]
  rfl
def cE : Enc Try.prog 81 Cell := ⟨fun c => .agg #[.string c.1, .int .i64 c.2], fun c => c.1.size ≤ maxLen ∧ (Lit.int .i64 c.2).wf = true, fun a b h => by
  injection h with h; simp at h; exact Prod.ext h.1 h.2, fun c h => key81 c.1 c.2 h.1 h.2⟩
theorem cE_v (c : Cell) : cE.v c = .agg #[.string c.1, .int .i64 c.2] := rfl
abbrev iV : Int → Value := fun n => .int .i64 n
theorem zero2 (w : World) : (zeroValue 2).run Try.prog w = .ok (.int .i64 0) w := by kernel_rfl

/-- The pane of a tick. -/
def pn (width at_ : Int) : Int := at_ / width
theorem pn_pos {width at_ : Int} (h : 0 ≤ at_) : at_.tdiv width = pn width at_ := by unfold pn; rw [Int.tdiv_eq_ediv_of_nonneg h]
theorem floor_of {w a k : Int} (hw : 1 ≤ w) (h1 : k * w ≤ a) (h2 : a < (k + 1) * w) : a / w = k := by
  have h3 : k ≤ a / w := (Int.le_ediv_iff_mul_le (by omega)).2 h1
  have h4 : a / w < k + 1 := (Int.ediv_lt_iff_lt_mul (by omega)).2 h2
  omega
theorem tmod_neg {w a : Int} (hw : 1 ≤ w) (ha : a < 0) : ∃ q r : Int, a.tdiv w = -q ∧ a.tmod w = -r ∧ -a = q * w + r ∧ 0 ≤ r ∧ r < w ∧ 0 ≤ q ∧ q ≤ -a := by
  have h1 : a.tdiv w = -((-a) / w) := by
    have := Int.neg_tdiv (-a) w
    rw [Int.neg_neg] at this
    rw [this, Int.tdiv_eq_ediv_of_nonneg (by omega)]
  have h2 : a.tmod w = -((-a) % w) := by
    have := Int.neg_tmod (-a) w
    rw [Int.neg_neg] at this
    rw [this, Int.tmod_eq_emod_of_nonneg (by omega)]
  refine ⟨(-a) / w, (-a) % w, h1, h2, ?_, Int.emod_nonneg _ (by omega), Int.emod_lt_of_pos _ (by omega), Int.ediv_nonneg (by omega) (by omega), ?_⟩
  · have := Int.mul_ediv_add_emod (-a) w
    rw [Int.mul_comm] at this; omega
  · exact Int.ediv_le_self _ (by omega)
theorem pn_neg1 {width at_ : Int} (hw : 1 ≤ width) (ha : at_ < 0) (h : at_.tmod width < 0) (h3 : -9223372036854775808 ≤ at_) : wrap64 (at_.tdiv width - 1) = pn width at_ := by
  obtain ⟨q, r, e1, e2, e3, e4, e5, e6, e7⟩ := tmod_neg hw ha
  rw [e2] at h
  have hfl : pn width at_ = -q - 1 := floor_of hw (by rw [Int.sub_mul, Int.neg_mul]; omega) (by rw [show -q - 1 + 1 = -q by omega, Int.neg_mul]; omega)
  rw [hfl, e1]
  have h8 : -9223372036854775808 ≤ -q - 1 := by
    have : q * 1 ≤ q * width := Int.mul_le_mul_of_nonneg_left hw e6
    omega
  unfold wrap64; omega
theorem pn_neg0 {width at_ : Int} (hw : 1 ≤ width) (ha : at_ < 0) (h : 0 ≤ at_.tmod width) : at_.tdiv width = pn width at_ := by
  obtain ⟨q, r, e1, e2, e3, e4, e5, e6, e7⟩ := tmod_neg hw ha
  rw [e2] at h
  have hfl : pn width at_ = -q := floor_of hw (by rw [Int.neg_mul]; omega) (by rw [Int.add_mul, Int.neg_mul]; omega)
  rw [hfl, e1]
theorem pane_any (p : Nat) (width at_ : Int) (w : World) (hp : w.cell? ⟨p, 0, none⟩ = some (.int .i64 width)) (h1 : 1 ≤ width) (h2 : width ≤ 1099511627776) (h3 : -9223372036854775808 ≤ at_) (h4 : at_ ≤ 9223372036854775807) :
    Calls Try.prog 47 #[.pointer (some ⟨p, 0, none⟩), .int .i64 at_] w fun e w' => e = .returned (.int .i64 (pn width at_)) ∧ w = w' := by
  by_cases hn : 0 ≤ at_
  · have hm : 0 ≤ at_ % width := Int.emod_nonneg _ (by omega)
    go_enter Try.func47, Try.ntmps47
    go_wp2
    go_ret; exact ⟨rfl, rfl⟩
  · have hn' : at_ < 0 := by omega
    by_cases ht : at_.tmod width < 0
    · have H := Hid.mk' (pn_neg1 h1 hn' ht h3)
      go_enter Try.func47, Try.ntmps47
      go_wp2
      go_ret; exact ⟨ret_int H.out, rfl⟩
    · have H := Hid.mk' (pn_neg0 h1 hn' (by omega))
      go_enter Try.func47, Try.ntmps47
      go_wp2
      go_ret; exact ⟨ret_int H.out, rfl⟩
theorem pn_bd {width at_ : Int} (h1 : 1 ≤ width) : (0 ≤ at_ → 0 ≤ pn width at_ ∧ pn width at_ ≤ at_) ∧ (at_ < 0 → at_ ≤ pn width at_ ∧ pn width at_ < 0) := by
  unfold pn
  constructor
  · intro h
    exact ⟨Int.ediv_nonneg h (by omega), Int.ediv_le_self _ h⟩
  · intro h
    refine ⟨(Int.le_ediv_iff_mul_le (by omega)).2 ?_, Int.ediv_neg_of_neg_of_pos h (by omega)⟩
    have := Int.mul_le_mul_of_nonpos_right h1 (Int.le_of_lt h)
    rw [Int.mul_comm width, Int.one_mul] at this
    exact this
/-- The width that is kept. -/
def wf (width : Int) : Int := min (max width 1) 1099511627776
theorem wf_bd (width : Int) : 1 ≤ wf width ∧ wf width ≤ 1099511627776 := by unfold wf; omega
abbrev Tab := List (Cell × Int)
/-- Panes in memory. -/
def PanA (p : Nat) (width added : Int) (T : Tab) : Asrt :=
  Asrt.some' fun bm => Asrt.star (Asrt.cells p #[.int .i64 width, .int .i64 added, .map (some bm)] 79) (Asrt.map cE iV bm T)
theorem pan_iff {B p : Nat} {width added : Int} {T : Tab} {l : List Asrt} {w : World} : Owns B (PanA p width added T :: l) w ↔
    ∃ bm, Owns B (Asrt.cells p #[.int .i64 width, .int .i64 added, .map (some bm)] 79 :: Asrt.map cE iV bm T :: l) w := by
  unfold PanA
  rw [Owns.ex_iff]
  exact exists_congr fun _ => Owns.star_iff
theorem new_any (width : Int) (w : World) : Calls Try.prog 18 #[.int .i64 width] w fun e w' => e = .returned (.pointer (some ⟨w.heap.size + 1, 0, none⟩)) ∧
    w' = (w.alloc (.map #[] 0)).alloc (.cells #[.int .i64 (wf width), .int .i64 0, .map (some w.heap.size)] 79) := by
  have hmm := @run_makeMap Try.prog
  go_enter Try.func18, Try.ntmps18
  go_wp2
  all_goals
    refine bodyPost_ret (results_tmp rfl _ _ _) rfl ⟨rfl, ?_⟩
    congr 5
    unfold wf; omega
theorem new_own {B : Nat} {l : List Asrt} {w : World} (width : Int) (hO : Owns B l w) (hB : B ≤ w.heap.size) :
    Calls Try.prog 18 #[.int .i64 width] w fun e w' => ∃ p, e = .returned (.pointer (some ⟨p, 0, none⟩)) ∧ Owns B (PanA p (wf width) 0 [] :: l) w' ∧ Below B w w' := by
  refine (new_any width w).mono ?_
  rintro e w' ⟨rfl, rfl⟩
  have h1 := hO.alloc_map cE iV hB
  have h2 := h1.alloc_cells (by simp; omega) #[.int .i64 (wf width), .int .i64 0, .map (some w.heap.size)] 79
  refine ⟨_, rfl, pan_iff.2 ⟨w.heap.size, ?_⟩, ((Below.refl B w).alloc hB _).alloc (by simp; omega) _⟩
  simpa using h2
end Go.Proofs.Pan
