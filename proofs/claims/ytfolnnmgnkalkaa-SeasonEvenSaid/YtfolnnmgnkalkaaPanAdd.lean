/- pane: Add. -/
import Derived.Test.YtfolnnmgnkalkaaPanBase
namespace Go.Proofs.Pan
open Go.RowKit Go.Cic Go.ChangeMaps
open Go.Maps (Keyed)
set_option linter.unusedVariables false
set_option maxRecDepth 100000
attribute [local go_sem] cE_v
def mayAdd (key : ByteArray) (at_ n : Int) : Prop := 1 ≤ key.size ∧ key.size ≤ 24 ∧ 0 ≤ at_ ∧ at_ ≤ 1099511627776 ∧ 0 ≤ n ∧ n ≤ 1048576
instance (key : ByteArray) (at_ n : Int) : Decidable (mayAdd key at_ n) := by unfold mayAdd; infer_instance
theorem add_bad (p : Nat) (added : Int) (key : ByteArray) (at_ n : Int) (w : World) (hc : w.cell? ⟨p, 1, none⟩ = some (.int .i64 added)) (h : ¬ (mayAdd key at_ n ∧ added < 1048576)) :
    Calls Try.prog 19 #[.pointer (some ⟨p, 0, none⟩), .string key, .int .i64 at_, .int .i64 n] w fun e w' => e = .returned (.bool false) ∧ w = w' := by
  have h' : key.size < 1 ∨ 24 < key.size ∨ at_ < 0 ∨ 1099511627776 < at_ ∨ n < 0 ∨ 1048576 < n ∨ 1048576 ≤ added := by unfold mayAdd at h; omega
  clear h
  go_enter Try.func19, Try.ntmps19
  go_wp2
  all_goals (go_ret; exact ⟨rfl, rfl⟩)
theorem add_zero (p : Nat) (added : Int) (key : ByteArray) (at_ : Int) (w : World) (hc : w.cell? ⟨p, 1, none⟩ = some (.int .i64 added)) (hf : w.frozen? ⟨p, 1, none⟩ = false) (h : mayAdd key at_ 0) (h0 : 0 ≤ added) (h1 : added < 1048576) :
    Calls Try.prog 19 #[.pointer (some ⟨p, 0, none⟩), .string key, .int .i64 at_, .int .i64 0] w fun e w' => e = .returned (.bool true) ∧ w' = w.setCell ⟨p, 1, none⟩ (.int .i64 (added + 1)) := by
  obtain ⟨m1, m2, m3, m4, m5, m6⟩ := h
  go_enter Try.func19, Try.ntmps19
  go_wp2
  go_ret
  exact ⟨rfl, rfl⟩
def AddPost (p bm : Nat) (added : Int) (c : Cell) (n : Int) (T : Tab) (w : World) (e : Ending) (w' : World) : Prop :=
  e = .returned (.bool true) ∧ MapT cE iV w' bm (AL.put T c (wrap64 ((AL.get T c).getD 0 + n))) ∧ Keeps (· = bm) (w.setCell ⟨p, 1, none⟩ (.int .i64 (added + 1))) w'
theorem add_pos (p bm : Nat) (width added : Int) (key : ByteArray) (at_ n : Int) (T : Tab) (w : World) (hr : w.heap[p]? = some (.cells #[.int .i64 width, .int .i64 added, .map (some bm)] 79 (0, 0))) (hM : MapT cE iV w bm T) (hne : p ≠ bm)
    (h : mayAdd key at_ n) (hn : 0 < n) (h0 : 0 ≤ added) (h1 : added < 1048576) (hw1 : 1 ≤ width) (hw2 : width ≤ 1099511627776) :
    Calls Try.prog 19 #[.pointer (some ⟨p, 0, none⟩), .string key, .int .i64 at_, .int .i64 n] w (AddPost p bm added (key, pn width at_) n T w) := by
  obtain ⟨m1, m2, m3, m4, m5, m6⟩ := h
  have c1 : w.cell? ⟨p, 1, none⟩ = some (.int .i64 added) := by rw [cell_of hr]; rfl
  have f1 : w.frozen? ⟨p, 1, none⟩ = false := free_of hr _
  have hr1 := setCell_of (o := 1) hr (.int .i64 (added + 1))
  have hM0 : MapT cE iV (w.setCell ⟨p, 1, none⟩ (.int .i64 (added + 1))) bm T := hM.keeps (keeps_setCell w p 1 _) (fun e => hne e.symm)
  have hb := (pn_bd (width := width) (at_ := at_) hw1).1 m3
  obtain ⟨b1, b2⟩ := hb
  have hok : cE.ok (key, pn width at_) := ⟨by show key.size ≤ maxLen; unfold maxLen; omega, WalkArith.wf_i64 (by simp only; omega)⟩
  go_enter Try.func19, Try.ntmps19
  go_wp2_with fail
  generalize hW : w.setCell ⟨p, 1, none⟩ (.int .i64 (added + 1)) = w1 at *
  have HW := Hid.mk' hW
  clear hW
  have c0 : w1.cell? ⟨p, 0, none⟩ = some (.int .i64 width) := by rw [cell_of hr1]; rfl
  have c2 : w1.cell? ⟨p, 2, none⟩ = some (.map (some bm)) := by rw [cell_of hr1]; rfl
  have hM1 : MapT cE iV w1.drew bm T := hM0.of_block rfl
  obtain ⟨ob, st, he, hM2, hst⟩ := hM1.entry K81 Try.underlying77 (zero2 _) hok
  have hl0 := hM1.lookup K81 Try.underlying77 (zero2 _) hok false
  have hl1 := hM2.lookup K81 Try.underlying77 (zero2 _) hok false
  rw [AL.get_put_same] at hl1
  obtain ⟨v, hv⟩ : ∃ v, (AL.get T (key, pn width at_)).getD 0 = v := ⟨_, rfl⟩
  have hv2 : ((AL.get T (key, pn width at_)).map iV).getD (.int .i64 0) = .int .i64 v := by
    rw [← hv]; cases AL.get T (key, pn width at_) <;> rfl
  rw [hv] at he hM2 hl1
  rw [hv2] at hl0
  obtain ⟨ob2, hs, hM3⟩ := hM2.entryStore (t := 77) hst (wrap64 (v + n))
  simp only [Bool.false_eq_true, if_false, cE_v, Option.map_some, Option.getD_some] at he hl0 hl1 hs
  have ew : wrap64 (v + n) = IntKind.i64.wrap (v + n) := (IntWalk.i64_left _).symm
  rw [ew] at hs
  simp only [goInt] at hs he
  clear ew
  have HM := Hid.mk' hM3
  have HV := Hid.mk' hv
  have HH := Hid.mk' hok
  clear hM3 hM2 hst hM1 hM0 hr1 hr hv hv2 hok c1 f1 hM
  go_region_with (go_at_call 47; refine (pane_any p width at_ w1.drew c0 hw1 hw2 (by omega) (by omega)).mono ?_; rintro e w' ⟨rfl, rfl⟩)
  all_goals go_wp2
  all_goals
    go_ret
    refine ⟨rfl, ?_, ?_⟩
    · have h9 := HM.out
      rw [AL.put_put] at h9
      rw [HV.out]; exact h9
    · rw [HW.out]
      exact (((Keeps.refl (· = bm) w1).drew.setBlock (fun _ => rfl) _).setBlock (fun _ => rfl) _)
theorem add_own {B p : Nat} {width added : Int} {T : Tab} {l : List Asrt} {w : World} (key : ByteArray) (at_ n : Int) (hO : Owns B (PanA p width added T :: l) w) (hB : B ≤ w.heap.size) (h0 : 0 ≤ added) (hw1 : 1 ≤ width) (hw2 : width ≤ 1099511627776) :
    Calls Try.prog 19 #[.pointer (some ⟨p, 0, none⟩), .string key, .int .i64 at_, .int .i64 n] w fun e w' => e = .returned (.bool (decide (mayAdd key at_ n ∧ added < 1048576))) ∧
      Owns B (PanA p width (if mayAdd key at_ n ∧ added < 1048576 then added + 1 else added)
        (if (mayAdd key at_ n ∧ added < 1048576) ∧ 0 < n then AL.put T (key, pn width at_) (wrap64 ((AL.get T (key, pn width at_)).getD 0 + n)) else T) :: l) w' ∧ Below B w w' := by
  obtain ⟨bm, h⟩ := pan_iff.1 hO
  have hr := h.cellsE
  have hM := h.swap.mapE.1
  have hne : p ≠ bm := by
    obtain ⟨S1, S2, ⟨_, e1⟩, ⟨_, e2⟩, h4⟩ := Owns.apart h
    intro e
    exact h4 p ((e1 p).2 rfl) ((e2 p).2 e)
  by_cases hm : mayAdd key at_ n ∧ added < 1048576
  · have hst : ∀ w', Keeps (· = p) w w' → w'.heap[p]? = some (.cells #[.int .i64 width, .int .i64 (added + 1), .map (some bm)] 79 (0, 0)) → Owns B (Asrt.cells p #[.int .i64 width, .int .i64 (added + 1), .map (some bm)] 79 :: Asrt.map cE iV bm T :: l) w' ∧ Below B w w' :=
      fun w' hk hh => h.step hB (step_cells hh hk)
    have hs1 := hst (w.setCell ⟨p, 1, none⟩ (.int .i64 (added + 1))) (keeps_setCell w p 1 _) (by rw [setCell_of hr.1]; rfl)
    by_cases hn : 0 < n
    · refine (add_pos p bm width added key at_ n T w hr.1 hM hne hm.1 hn h0 hm.2 hw1 hw2).mono ?_
      rintro e w' ⟨rfl, hM', hk⟩
      obtain ⟨h5, h6⟩ := hs1.1.swap.step (Nat.le_trans hB hs1.2.size) (step_map hM' hk)
      rw [if_pos hm, if_pos ⟨hm, hn⟩, decide_eq_true hm]
      exact ⟨rfl, pan_iff.2 ⟨bm, h5.swap⟩, hs1.2.trans h6⟩
    · have hn0 : n = 0 := by have := hm.1; unfold mayAdd at this; omega
      subst hn0
      have c1 : w.cell? ⟨p, 1, none⟩ = some (.int .i64 added) := by rw [cell_of hr.1]; rfl
      refine (add_zero p added key at_ w c1 (free_of hr.1 _) hm.1 h0 hm.2).mono ?_
      rintro e w' ⟨rfl, rfl⟩
      rw [if_pos hm, if_neg (by omega), decide_eq_true hm]
      exact ⟨rfl, pan_iff.2 ⟨bm, hs1.1⟩, hs1.2⟩
  · have c1 : w.cell? ⟨p, 1, none⟩ = some (.int .i64 added) := by rw [cell_of hr.1]; rfl
    refine (add_bad p added key at_ n w c1 hm).mono ?_
    rintro e w' ⟨rfl, rfl⟩
    rw [if_neg hm, if_neg (fun h => hm h.1), decide_eq_false hm]
    exact ⟨rfl, hO, Below.refl _ _⟩
end Go.Proofs.Pan
