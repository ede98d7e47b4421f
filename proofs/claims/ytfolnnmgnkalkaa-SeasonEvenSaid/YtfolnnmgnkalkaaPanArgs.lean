/- pane: acts as they come in; the chapter's example. -/
import Derived.Test.YtfolnnmgnkalkaaPanCopy
namespace Go.Proofs.Pan
open Go.RowKit Go.Cic Go.ChangeMaps
set_option linter.unusedVariables false
set_option maxRecDepth 100000
theorem co2 : Try.prog.cellsOf 2 = 1 := by kernel_rfl
theorem co29 : Try.prog.cellsOf 29 = 4 := by kernel_rfl
/-- An act: its kind, a key, a tick, a number. -/
abbrev Act' := Int × ByteArray × Int × Int
noncomputable def rdAct : Rd Try.prog 29 Act' :=
  Rd.struct Try.underlying29 (FRd.cons (Rd.int .i64 Try.underlying3 co3) rfl (FRd.cons (Rd.str Try.underlying9 co9) rfl (FRd.cons (Rd.int .i64 Try.underlying3 co3) rfl (FRd.last (Rd.int .i64 Try.underlying2 co2) rfl)))) co29
theorem size29 (w : World) : (sizeOf 29).run Try.prog w = .ok rdAct.n w := by kernel_rfl
theorem act_at {w : World} {b p : Nat} {d : Act'} (h : ∀ j u, (rdAct.cells d)[j]? = some u → w.cell? ⟨b, p + j, none⟩ = some u) :
    w.cell? ⟨b, p, none⟩ = some (.int .i64 d.1) ∧ w.cell? ⟨b, p + 1, none⟩ = some (.string d.2.1) ∧ w.cell? ⟨b, p + 2, none⟩ = some (.int .i64 d.2.2.1) ∧ w.cell? ⟨b, p + 3, none⟩ = some (.int .i64 d.2.2.2) :=
  ⟨h 0 _ rfl, h 1 _ rfl, h 2 _ rfl, h 3 _ rfl⟩
/-- 'few': few, and short? -/
def fewB (l : List Act') : Bool := decide (l.length ≤ 101) && l.all (fun d => decide (d.2.1.size ≤ 100))
theorem fewB_yes {l : List Act'} (h : l.length ≤ 101) (hl : ∀ d ∈ l, d.2.1.size ≤ 100) : fewB l = true := by
  unfold fewB; rw [decide_eq_true h, Bool.true_and, List.all_eq_true]; intro d hd; simpa using hl d hd
theorem fewB_long {l : List Act'} {k : Nat} {d : Act'} (h : l[k]? = some d) (hd : 100 < d.2.1.size) : fewB l = false := by
  unfold fewB
  have : l.all (fun d => decide (d.2.1.size ≤ 100)) = false := List.all_eq_false.2 ⟨d, List.mem_of_getElem? h, by simpa using hd⟩
  rw [this]; simp
theorem fewB_many {l : List Act'} (h : 101 < l.length) : fewB l = false := by unfold fewB; rw [decide_eq_false (by omega)]; rfl
theorem fewB_spec {l : List Act'} (h : fewB l = true) : l.length ≤ 101 ∧ ∀ d ∈ l, d.2.1.size ≤ 100 := by
  unfold fewB at h; simpa using h
theorem take_succ_mem {α : Type} {l : List α} {k : Nat} {y : α} (h : l[k]? = some y) {d : α} (hd : d ∈ l.take (k + 1)) : d ∈ l.take k ∨ d = y := by
  rw [List.take_add_one, h] at hd
  simpa using hd
theorem few_any (a : Option Addr) (cap : Nat) (l : List Act') (w : World) (hl : l.length ≤ maxLen) (hs : SlAt rdAct w a l) :
    Calls Try.prog 17 #[.slice a l.length cap] w fun e w' => e = .returned (.bool (fewB l)) ∧ w = w' := by
  have hl2 : l.length ≤ 9223372036854775807 := by unfold maxLen at hl; omega
  clear hl
  go_enter Try.func17, Try.ntmps17
  go_wp2
  go_loop [3] (fun i => ∃ k : Nat, k ≤ l.length ∧ k ≤ 101 ∧ i = .int .i64 k ∧ ∀ d ∈ l.take k, d.2.1.size ≤ 100) (fun i => l.length - (intOf i).toNat)
  case atStart => exact ⟨0, Nat.zero_le _, by omega, rfl, by simp⟩
  case round =>
    obtain ⟨k, hk, hk2, rfl, hd⟩ := hrel
    by_cases hlt : k < l.length
    · have hy : l[k]? = some l[k] := List.getElem?_eq_getElem hlt
      generalize l[k] = y at hy
      have hd := Hid.mk' hd
      by_cases hlong : 100 < y.2.1.size
      · have H := Hid.mk' (fewB_long hy hlong)
        go_wp2_with (refine wpList_indexSl (r := rdAct) rfl _ _ 22 rfl Try.underlying22 size29 rfl (k := k) rfl hs rfl hy ?_; intro b p hc hb; obtain ⟨c0, c1, c2, c3⟩ := act_at hc; clear hc)
        all_goals (go_ret; exact ⟨ret_bool H.out.symm, rfl⟩)
      · by_cases hkk : 100 < k
        · have H := Hid.mk' (fewB_many (l := l) (by omega))
          go_wp2_with (refine wpList_indexSl (r := rdAct) rfl _ _ 22 rfl Try.underlying22 size29 rfl (k := k) rfl hs rfl hy ?_; intro b p hc hb; obtain ⟨c0, c1, c2, c3⟩ := act_at hc; clear hc)
          all_goals (go_ret; exact ⟨ret_bool H.out.symm, rfl⟩)
        · go_wp2_with (refine wpList_indexSl (r := rdAct) rfl _ _ 22 rfl Try.underlying22 size29 rfl (k := k) rfl hs rfl hy ?_; intro b p hc hb; obtain ⟨c0, c1, c2, c3⟩ := act_at hc; clear hc)
          go_round
          case rel => exact ⟨k + 1, by omega, by omega, by go_num, fun d hdm => (take_succ_mem hy hdm).elim (hd.out d) (fun e => by subst e; omega)⟩
          case measure => simp [intOf]; omega
    · have hk3 : l.take k = l := List.take_of_length_le (by omega)
      rw [hk3] at hd
      have H := Hid.mk' (fewB_yes (l := l) (by omega) hd)
      clear hd hk3
      go_wp2
      go_ret; exact ⟨ret_bool H.out.symm, rfl⟩

abbrev sA : ByteArray := { data := #[97] }
theorem live_add {B p : Nat} {added : Int} {T T' : Tab} {l : List Asrt} {w : World} (at_ n : Int) (hO : Owns B (PanA p 10 added T :: l) w) (hB : B ≤ w.heap.size) (h0 : 0 ≤ added) (hm : mayAdd sA at_ n ∧ added < 1048576) (hn : 0 < n) (hT : AL.put T (sA, pn 10 at_) (wrap64 ((AL.get T (sA, pn 10 at_)).getD 0 + n)) = T') :
    Calls Try.prog 19 #[.pointer (some ⟨p, 0, none⟩), .string { data := #[97] }, .int .i64 at_, .int .i64 n] w fun e w' => e = .returned (.bool true) ∧ Owns B (PanA p 10 (added + 1) T' :: l) w' ∧ Below B w w' := by
  refine (add_own { data := #[97] } at_ n hO hB h0 (by decide) (by decide)).mono ?_
  rintro e w' ⟨rfl, h1, h2⟩
  rw [if_pos hm, if_pos ⟨hm, hn⟩, hT] at h1
  exact ⟨by rw [decide_eq_true hm], h1, h2⟩
theorem live_sum {B p : Nat} {added : Int} {T : Tab} {l : List Asrt} {w : World} (from_ to_ r : Int) (hO : Owns B (PanA p 10 added T :: l) w) (hB : B ≤ w.heap.size) (h1 : 0 ≤ from_ ∧ from_ ≤ 1000 ∧ 0 ≤ to_ ∧ to_ ≤ 1000) (hr : wrap64 (wsum (inr sA (pn 10 from_) (pn 10 to_)) T) = r) :
    Calls Try.prog 22 #[.pointer (some ⟨p, 0, none⟩), .string { data := #[97] }, .int .i64 from_, .int .i64 to_] w fun e w' => e = .returned (.int .i64 r) ∧ Owns B (PanA p 10 added T :: l) w' ∧ Below B w w' := by
  refine (sum_own { data := #[97] } from_ to_ hO hB (by decide) (by decide) (by omega) (by omega) (by omega) (by omega)).mono ?_
  rintro e w' ⟨rfl, h2, h3⟩
  exact ⟨by rw [hr], h2, h3⟩
def tA : Tab := [((sA, 0), 2)]
def tB : Tab := [((sA, 0), 2), ((sA, 1), 3)]
theorem awake_any (w : World) : Calls Try.prog 16 #[] w fun e w' => e = .returned (.bool true) ∧ Below w.heap.size w w' := by
  have hO := Owns.nil w.heap.size w
  have e1 := Hid.mk' (show wf 10 = 10 by decide)
  go_enter Try.func16, Try.ntmps16
  go_wp2_with (go_at_call 18; refine (new_own 10 hO (Nat.le_refl _)).mono ?_; rintro e w1 ⟨p, rfl, hO1, hB1⟩; rw [e1.out] at hO1; have hs1 := hB1.size)
  refine (live_add (T' := tA) 5 2 hO1 hs1 (by decide) (by decide) (by decide) (by decide +kernel)).mono ?_
  rintro e w2 ⟨rfl, hO2, hB2⟩
  have hs2 := Nat.le_trans hs1 hB2.size
  go_wp2_with fail
  refine (live_add (T' := tB) 12 3 hO2 hs2 (by decide) (by decide) (by decide) (by decide +kernel)).mono ?_
  rintro e w3 ⟨rfl, hO3, hB3⟩
  have hs3 := Nat.le_trans hs2 hB3.size
  go_wp2_with fail
  refine (live_sum 0 20 5 hO3 hs3 (by decide) (by decide +kernel)).mono ?_
  rintro e w4 ⟨rfl, hO4, hB4⟩
  have hs4 := Nat.le_trans hs3 hB4.size
  go_wp2_with fail
  refine (live_sum 0 19 2 hO4 hs4 (by decide) (by decide +kernel)).mono ?_
  rintro e w5 ⟨rfl, hO5, hB5⟩
  have hs5 := Nat.le_trans hs4 hB5.size
  go_wp2_with fail
  refine (live_sum 7 20 5 hO5 hs5 (by decide) (by decide +kernel)).mono ?_
  rintro e w6 ⟨rfl, hO6, hB6⟩
  have hc := pan_cell hO6
  go_wp2_with (go_at_call 21; refine (width_any p 10 _ hc).mono ?_; rintro e w7 ⟨rfl, rfl⟩)
  go_ret
  exact ⟨rfl, hB1.trans (hB2.trans (hB3.trans (hB4.trans (hB5.trans hB6))))⟩
end Go.Proofs.Pan
