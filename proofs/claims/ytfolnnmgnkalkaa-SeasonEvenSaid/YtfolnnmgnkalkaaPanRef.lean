/- pane: the document's panes in memory; New, Pane. -/
import Derived.Test.YtfolnnmgnkalkaaPanOrderPlain
namespace Go.Proofs.Pan
open Go.RowKit Go.Cic Go.ChangeMaps
set_option linter.unusedVariables false
set_option maxRecDepth 100000
theorem co89 : Try.prog.cellsOf 89 = 3 := by kernel_rfl
/-- What was added, as the document keeps it: a key, a pane, a number. -/
abbrev Sm := ByteArray × Int × Int
noncomputable def rdSum : Rd Try.prog 89 Sm :=
  Rd.struct Try.underlying89 (FRd.cons (Rd.str Try.underlying9 co9) rfl (FRd.cons (Rd.int .i64 Try.underlying3 co3) rfl (FRd.last (Rd.int .i64 Try.underlying2 co2) rfl))) co89
theorem size89 (w : World) : (sizeOf 89).run Try.prog w = .ok rdSum.n w := by kernel_rfl
theorem sum_at {w : World} {b p : Nat} {d : Sm} (h : ∀ j u, (rdSum.cells d)[j]? = some u → w.cell? ⟨b, p + j, none⟩ = some u) :
    w.cell? ⟨b, p, none⟩ = some (.string d.1) ∧ w.cell? ⟨b, p + 1, none⟩ = some (.int .i64 d.2.1) ∧ w.cell? ⟨b, p + 2, none⟩ = some (.int .i64 d.2.2) :=
  ⟨h 0 _ rfl, h 1 _ rfl, h 2 _ rfl⟩
theorem sum_one (x : Sm) (u : Value) (h : u ∈ rdSum.cells x) : u.oneCell' = true := by
  have : rdSum.cells x = [.string x.1, .int .i64 x.2.1, .int .i64 x.2.2] := rfl
  rw [this] at h
  simp at h
  rcases h with rfl | rfl | rfl <;> rfl
/-- The document's panes in memory: a width, a row of what counts still, how many were added. -/
noncomputable def RefA (p : Nat) (width : Int) (L : List Sm) (count : Int) : Asrt :=
  Asrt.some' fun v => Asrt.star (Asrt.cells p #[.int .i64 width, v, .int .i64 count] 47) (Asrt.rows rdSum v L)
theorem ref_iff {B p : Nat} {width count : Int} {L : List Sm} {l : List Asrt} {w : World} : Owns B (RefA p width L count :: l) w ↔
    ∃ v, Owns B (Asrt.cells p #[.int .i64 width, v, .int .i64 count] 47 :: Asrt.rows rdSum v L :: l) w := by
  unfold RefA
  rw [Owns.ex_iff]
  exact exists_congr fun _ => Owns.star_iff
theorem rows_nil {B : Nat} {l : List Asrt} {w : World} (h : Owns B l w) : Owns B (Asrt.rows rdSum (.slice none 0 0) [] :: l) w := by
  obtain ⟨S, h1, h2⟩ := h
  exact Owns.cons_iff.2 ⟨fun _ => False, S, ⟨World.ownsRow_nil w 0 89 rdSum.n, fun b => ⟨fun h => h.elim, fun h => by simp [Value.ownBlock] at h⟩⟩, h1, fun _ h => h.elim, fun _ h => h.elim, h2⟩
theorem refnew_any (width : Int) (w : World) : Calls Try.prog 26 #[.int .i64 width] w fun e w' => e = .returned (.pointer (some ⟨w.heap.size, 0, none⟩)) ∧
    w' = w.alloc (.cells #[.int .i64 (wf width), .slice none 0 0, .int .i64 0] 47) := by
  go_enter Try.func26, Try.ntmps26
  go_wp2
  all_goals
    refine bodyPost_ret (results_tmp rfl _ _ _) rfl ⟨rfl, ?_⟩
    congr 5
theorem refnew_own {B : Nat} {l : List Asrt} {w : World} (width : Int) (hO : Owns B l w) (hB : B ≤ w.heap.size) :
    Calls Try.prog 26 #[.int .i64 width] w fun e w' => ∃ p, e = .returned (.pointer (some ⟨p, 0, none⟩)) ∧ Owns B (RefA p (wf width) [] 0 :: l) w' ∧ Below B w w' := by
  refine (refnew_any width w).mono ?_
  rintro e w' ⟨rfl, rfl⟩
  have h1 := (rows_nil hO).alloc_cells hB #[.int .i64 (wf width), .slice none 0 0, .int .i64 0] 47
  exact ⟨_, rfl, ref_iff.2 ⟨_, h1⟩, (Below.refl B w).alloc hB _⟩
theorem refpane_any (p : Nat) (width at_ : Int) (w : World) (hp : w.cell? ⟨p, 0, none⟩ = some (.int .i64 width)) (h1 : 1 ≤ width) (h2 : width ≤ 1099511627776) (h3 : -9223372036854775808 ≤ at_) (h4 : at_ ≤ 9223372036854775807) :
    Calls Try.prog 52 #[.pointer (some ⟨p, 0, none⟩), .int .i64 at_] w fun e w' => e = .returned (.int .i64 (pn width at_)) ∧ w = w' := by
  by_cases hn : 0 ≤ at_
  · have H := Hid.mk' (pn_pos (width := width) hn)
    go_enter Try.func52, Try.ntmps52
    go_wp2
    all_goals (go_ret; first | exact ⟨rfl, rfl⟩ | exact ⟨ret_int H.out, rfl⟩)
  · have hn' : at_ < 0 := by omega
    have hs : at_.tmod width ≤ 0 := by
      obtain ⟨q, r, e1, e2, e3, e4, e5, e6, e7⟩ := tmod_neg h1 hn'
      omega
    by_cases ht : at_.tmod width = 0
    · have H := Hid.mk' (pn_neg0 h1 hn' (by omega))
      go_enter Try.func52, Try.ntmps52
      go_wp2
      all_goals (go_ret; first | exact ⟨rfl, rfl⟩ | exact ⟨ret_int H.out, rfl⟩)
    · have H := Hid.mk' (pn_neg1 h1 hn' (by omega) h3)
      go_enter Try.func52, Try.ntmps52
      go_wp2
      all_goals (go_ret; first | exact ⟨rfl, rfl⟩ | exact ⟨ret_int H.out, rfl⟩)
end Go.Proofs.Pan
