/- pane: rows of the document's sums: made, read, appended onto. -/
import Derived.Test.YtfolnnmgnkalkaaPanRefSum
import Derived.Test.YtfolnnmgnkalkaaCicRow2
namespace Go.Proofs.Pan
open Go.RowKit Go.Cic Go.ChangeMaps
set_option linter.unusedVariables false
set_option maxRecDepth 100000
theorem sums_new {B : Nat} {l : List Asrt} {w : World} (h : Owns B l w) (hB : B ≤ w.heap.size) : Owns B (Asrt.rows rdSum (.slice (some ⟨w.heap.size, 0, none⟩) 0 0) [] :: l) (w.alloc (.cells #[] 89)) := by
  refine (h.alloc_cells hB #[] 89).imp ?_
  rintro S ⟨h1, h2⟩
  refine ⟨⟨by simp [Rd.all], .inr ⟨w.heap.size, 0, #[], rfl, Nat.zero_le _, h1, Nat.le_refl _, Nat.zero_le _, by simp, by simp [Rd.all]⟩⟩, fun x => ?_⟩
  rw [h2 x]
  simp [Value.ownBlock, eq_comm]
theorem info89 : ∃ z b, (Try.prog.info? 89).map (fun i => (i.zero, i.size, i.bytes)) = some (some z, 3, b) ∧ z.cells.size = 3 ∧ b ≤ 64 := ⟨_, _, rfl, rfl, by decide⟩
theorem append_sums {B : Nat} {l : List Asrt} {w : World} {v : Value} {L : List Sm} (ty : TypeId) (h : Owns B (Asrt.rows rdSum v L :: l) w) (hok : ∀ x ∈ L, rdSum.ok x) (hB : B ≤ w.heap.size) {ao : Option Addr} {m c : Nat} {M : List Sm} (hy : SlAt rdSum w ao M) (hm : M.length = m) {N : Nat} (hN : L.length + m = N) (hl : N ≤ 2000) :
    ∃ ao' c' w', (Builtin.append_ #[45, 45] ty #[v, .slice ao m c]).run Try.prog w = .ok (.slice ao' N c') w' ∧ Owns B (Asrt.rows rdSum (.slice ao' N c') (L ++ M) :: l) w' ∧ Below B w w' := by
  subst hN
  obtain ⟨z, b, h1, h2, h3⟩ := info89
  refine Owns.appendRows (r := rdSum) (by decide) Try.underlying45 h1 h2 ty h hok hB hy hm (fun x _ u hu => sum_one x u hu) (by unfold maxLen; omega) ?_
  have : (L.length + m) * b ≤ 2000 * 64 := Nat.mul_le_mul hl h3
  omega
theorem sums_at {B : Nat} {l : List Asrt} {w : World} {v : Value} {L : List Sm} (h : Owns B (Asrt.rows rdSum v L :: l) w) (hok : ∀ x ∈ L, rdSum.ok x) : ∃ ao c, v = .slice ao L.length c ∧ SlAt rdSum w ao L := by
  obtain ⟨ao, c, hv, _, h2⟩ := h.rowsE (by decide) hok
  exact ⟨ao, c, hv, h2⟩
theorem sums_lie {B : Nat} {l : List Asrt} {w : World} {ao : Option Addr} {n c : Nat} {L : List Sm} (h : Owns B (Asrt.rows rdSum (.slice ao n c) L :: l) w) (hok : ∀ x ∈ L, rdSum.ok x) : SlAt rdSum w ao L ∧ L.length = n := by
  obtain ⟨ao', c', hv, h2⟩ := sums_at h hok
  injection hv with e1 e2 e3
  subst e1
  exact ⟨h2, e2.symm⟩
/-- A literal of one. -/
theorem one_at {B : Nat} {l : List Asrt} {w : World} (h : Owns B l w) (hB : B ≤ w.heap.size) (s : Sm) (hok : rdSum.ok s) :
    SlAt rdSum (w.alloc (.cells #[.string s.1, .int .i64 s.2.1, .int .i64 s.2.2] 89)) (some ⟨w.heap.size, 0, none⟩) [s] ∧ Owns B l (w.alloc (.cells #[.string s.1, .int .i64 s.2.1, .int .i64 s.2.2] 89)) ∧ Below B w (w.alloc (.cells #[.string s.1, .int .i64 s.2.1, .int .i64 s.2.2] 89)) := by
  have h1 := h.alloc_cells hB #[.string s.1, .int .i64 s.2.1, .int .i64 s.2.2] 89
  obtain ⟨g1, _, g3⟩ := h1.cellsE
  refine ⟨⟨by simpa using hok, fun i x hx => ⟨_, 0, rfl, g3, fun j u hu => ?_⟩⟩, h1.tail, (Below.refl B w).alloc hB _⟩
  have hi : i = 0 := by
    have := (List.getElem?_eq_some_iff.1 hx).1
    simpa using this
  subst hi
  obtain rfl : s = x := by simpa using hx
  rw [cell_of g1]
  have : rdSum.cells s = [.string s.1, .int .i64 s.2.1, .int .i64 s.2.2] := rfl
  rw [this] at hu
  rw [← hu]
  simp
/-- An append in its turn, by its run. -/
theorem wpList_app {P : Program} {ops : Array Oper} {rest : List Oper} {o : Oper} {a : Act} {Q : Exit → Act → World → Prop} {w w' : World} {s x : Operand} {t ty : TypeId} {v u r : Value} (hg : o.guard = none) (ho : o.op = .call { callee := .builtin .append, args := #[s, x], argTypes := #[t, t] }) (hty : o.type = ty)
    (hs : a.eval s = v) (hx : a.eval x = u) (hr : (Builtin.append_ #[t, t] ty #[v, u]).run P w = .ok r w') (hK : wpList P ops Q rest (a.put o.dst r) w') : wpList P ops Q (o :: rest) a w := by
  subst hty
  refine wpList_plain hg fun K hK' => ?_
  unfold Oper.wp execOp
  simp only [ho, resolve, invoke, builtin, Sem.run_bind, Sem.run_pure, Result.andThen_ok, List.map_toArray, List.map_cons, List.map_nil, hs, hx, hr]
  exact hK' _ _ hK
end Go.Proofs.Pan
