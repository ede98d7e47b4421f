/- decay: deeds as they come in. -/
import Derived.Test.YtliedcinkmbedaaDcyModel
import Derived.Test.YtliedcinkmbedaaCicRd
namespace Go.Proofs.Dcy
open Go.RowKit Go.Cic Go.ChangeMaps
set_option linter.unusedVariables false
set_option maxRecDepth 100000
theorem co2 : Try.prog.cellsOf 2 = 1 := by kernel_rfl
theorem co3 : Try.prog.cellsOf 3 = 1 := by kernel_rfl
theorem co5 : Try.prog.cellsOf 5 = 1 := by kernel_rfl
theorem co9 : Try.prog.cellsOf 9 = 1 := by kernel_rfl
theorem co30 : Try.prog.cellsOf 30 = 3 := by kernel_rfl
theorem co32 : Try.prog.cellsOf 32 = 5 := by kernel_rfl
/-- What is added: key, tick, number. -/
noncomputable def rdAdd : Rd Try.prog 30 (ByteArray × Int × Int) :=
  Rd.struct Try.underlying30 (FRd.cons (Rd.str Try.underlying9 co9) rfl (FRd.cons (Rd.int .i64 Try.underlying3 co3) rfl (FRd.last (Rd.int .i64 Try.underlying2 co2) rfl))) co30
/-- A deed: its kind, what is added, a now. -/
abbrev Deed := Int × (ByteArray × Int × Int) × Int
noncomputable def rdDeed : Rd Try.prog 32 Deed :=
  Rd.struct Try.underlying32 (FRd.cons (Rd.int .u8 Try.underlying5 co5) rfl (FRd.cons rdAdd rfl (FRd.last (Rd.int .i64 Try.underlying3 co3) rfl))) co32
theorem rdDeed_cells (d : Deed) : rdDeed.cells d = [.int .u8 d.1, .string d.2.1.1, .int .i64 d.2.1.2.1, .int .i64 d.2.1.2.2, .int .i64 d.2.2] := rfl
theorem rdDeed_n : rdDeed.n = 5 := rfl
theorem rdDeed_ok (d : Deed) : rdDeed.ok d ↔ ((Lit.int .u8 d.1).wf = true ∧ (d.2.1.1.size ≤ maxLen ∧ (Lit.int .i64 d.2.1.2.1).wf = true ∧ (Lit.int .i64 d.2.1.2.2).wf = true) ∧ (Lit.int .i64 d.2.2).wf = true) := Iff.rfl
theorem size32 (w : World) : (sizeOf 32).run Try.prog w = .ok rdDeed.n w := by kernel_rfl
/-- The cells of a deed. -/
theorem deed_at {w : World} {b p : Nat} {d : Deed} (h : ∀ j u, (rdDeed.cells d)[j]? = some u → w.cell? ⟨b, p + j, none⟩ = some u) :
    w.cell? ⟨b, p, none⟩ = some (.int .u8 d.1) ∧ w.cell? ⟨b, p + 1, none⟩ = some (.string d.2.1.1) ∧ w.cell? ⟨b, p + 2, none⟩ = some (.int .i64 d.2.1.2.1) ∧ w.cell? ⟨b, p + 3, none⟩ = some (.int .i64 d.2.1.2.2) ∧ w.cell? ⟨b, p + 4, none⟩ = some (.int .i64 d.2.2) :=
  ⟨h 0 _ rfl, h 1 _ rfl, h 2 _ rfl, h 3 _ rfl, h 4 _ rfl⟩

/-- 'heavy': more than is gone through? -/
def heavyB (l : List Deed) (most : Int) : Bool := decide (most < l.length) || l.any (fun d => decide (100 < d.2.1.1.size))
theorem heavyB_many {l : List Deed} {most : Int} (h : most < l.length) : heavyB l most = true := by unfold heavyB; rw [decide_eq_true h]; rfl
theorem heavyB_long {l : List Deed} {most : Int} {k : Nat} {d : Deed} (h : l[k]? = some d) (hd : 100 < d.2.1.1.size) : heavyB l most = true := by
  unfold heavyB
  rw [List.any_eq_true.2 ⟨d, List.mem_of_getElem? h, by simpa using hd⟩]; simp
theorem heavyB_no {l : List Deed} {most : Int} (h : (l.length : Int) ≤ most) (hl : ∀ d ∈ l, d.2.1.1.size ≤ 100) : heavyB l most = false := by
  unfold heavyB
  rw [decide_eq_false (by omega), Bool.false_or, List.any_eq_false]
  intro d hd; have := hl d hd; simp; omega
theorem ret_bool {a b : Bool} (h : a = b) : Ending.returned (.bool a) = .returned (.bool b) := by rw [h]
theorem take_succ_mem {α : Type} {l : List α} {k : Nat} {y : α} (h : l[k]? = some y) {d : α} (hd : d ∈ l.take (k + 1)) : d ∈ l.take k ∨ d = y := by
  rw [List.take_add_one, h] at hd
  simpa using hd
theorem heavy_any (a : Option Addr) (cap : Nat) (l : List Deed) (most : Int) (w : World) (hl : l.length ≤ maxLen) (hs : SlAt rdDeed w a l) :
    Calls Try.prog 13 #[.slice a l.length cap, .int .i64 most] w fun e w' => e = .returned (.bool (heavyB l most)) ∧ w = w' := by
  have hl2 : l.length ≤ 9223372036854775807 := by unfold maxLen at hl; omega
  clear hl
  by_cases hm : most < l.length
  · have H := Hid.mk' (heavyB_many hm)
    go_enter Try.func13, Try.ntmps13
    go_wp2
    go_ret; exact ⟨ret_bool H.out.symm, rfl⟩
  · go_enter Try.func13, Try.ntmps13
    go_wp2
    go_loop [5] (fun i => ∃ k : Nat, k ≤ l.length ∧ i = .int .i64 k ∧ ∀ d ∈ l.take k, d.2.1.1.size ≤ 100) (fun i => l.length - (intOf i).toNat)
    case atStart => exact ⟨0, Nat.zero_le _, rfl, by simp⟩
    case round =>
      obtain ⟨k, hk, rfl, hd⟩ := hrel
      by_cases hlt : k < l.length
      · have hy : l[k]? = some l[k] := List.getElem?_eq_getElem hlt
        generalize l[k] = y at hy
        have hd := Hid.mk' hd
        by_cases hlong : 100 < y.2.1.1.size
        · have H := Hid.mk' (heavyB_long (most := most) hy hlong)
          go_wp2_with (refine wpList_indexSl (r := rdDeed) rfl _ _ 25 rfl Try.underlying25 size32 rfl (k := k) rfl hs rfl hy ?_; intro b p hc hb; obtain ⟨c0, c1, c2, c3, c4⟩ := deed_at hc; clear hc)
          go_ret; exact ⟨ret_bool H.out.symm, rfl⟩
        · go_wp2_with (refine wpList_indexSl (r := rdDeed) rfl _ _ 25 rfl Try.underlying25 size32 rfl (k := k) rfl hs rfl hy ?_; intro b p hc hb; obtain ⟨c0, c1, c2, c3, c4⟩ := deed_at hc; clear hc)
          go_round
          case rel => exact ⟨k + 1, by omega, by go_num, fun d hdm => (take_succ_mem hy hdm).elim (hd.out d) (fun e => by subst e; omega)⟩
          case measure => simp [intOf]; omega
      · have hk2 : l.take k = l := List.take_of_length_le (by omega)
        rw [hk2] at hd
        have H := Hid.mk' (heavyB_no hm hd)
        clear hd hk2
        go_wp2
        go_ret; exact ⟨ret_bool H.out.symm, rfl⟩
end Go.Proofs.Dcy
