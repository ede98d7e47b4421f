/- PaneOrder: the plain law; what 'l[turn:]' and 'l[:turn]' are; the row that the law makes. -/
import Derived.Test.YtfolnnmgnkalkaaPanLawKeyed
import Derived.Test.YtfolnnmgnkalkaaPanTexts
import Derived.Test.YtfolnnmgnkalkaaCicRows
namespace Go.Proofs.Pan
open Go.RowKit Go.Cic Go.ChangeMaps
set_option linter.unusedVariables false
set_option maxRecDepth 100000
theorem turn_sum (wd : Int) (f : Cell → Int) (l : List Act') (t : Nat) : asum wd f (l.drop t ++ l.take t) = asum wd f l := by
  have h := asum_append wd f (l.take t) (l.drop t)
  rw [List.take_append_drop] at h
  rw [asum_append, h]; omega
theorem turn_len (l : List Act') (t : Nat) : (l.drop t ++ l.take t).length = l.length := by simp; omega
theorem slat_sub {w : World} {a : Option Addr} {L : List Act'} (h : SlAt rdAct w a L) {lo hi c : Nat} (hc : hi ≤ c) : SlAt rdAct w (if c = lo then a else a.map (·.add (lo * 4))) ((L.drop lo).take (hi - lo)) := by
  refine ⟨fun x hx => h.1 x (List.mem_of_mem_drop (List.mem_of_mem_take hx)), fun i x hx => ?_⟩
  rw [List.getElem?_take] at hx
  split at hx
  · rename_i hlt
    rw [List.getElem?_drop] at hx
    obtain ⟨b, o, rfl, h2, h3⟩ := h.2 _ x hx
    rw [if_neg (by omega)]
    refine ⟨b, o + lo * 4, by simp [add_one'], h2, fun j u hu => ?_⟩
    have e1 : o + lo * 4 + i * rdAct.n + j = o + (lo + i) * rdAct.n + j := by
      have : rdAct.n = 4 := rfl
      rw [this]; omega
    rw [e1]; exact h3 j u hu
  · cases hx
theorem run_from (A : Option Addr) (n c t : Nat) (ht : t ≤ n) (W : World) : (Instr.slice 22 (.slice A n c) (some (.int .i64 t)) none none).run Try.prog W = .ok (.slice (if c = t then A else A.map (·.add (t * 4))) (n - t) (c - t)) W := by
  simp [Instr.slice, run_underlying Try.underlying22, Result.andThen, go_sem, ht]
theorem run_to (A : Option Addr) (n c t : Nat) (ht : t ≤ n) (hc : n ≤ c) (W : World) : (Instr.slice 22 (.slice A n c) none (some (.int .i64 t)) none).run Try.prog W = .ok (.slice (if c = 0 then A else A.map (·.add (0 * 4))) t c) W := by
  have : t ≤ c := by omega
  simp [Instr.slice, run_underlying Try.underlying22, Result.andThen, go_sem, this]
theorem act_one (x : Act') (u : Value) (h : u ∈ rdAct.cells x) : u.oneCell' = true := by
  have : rdAct.cells x = [.int .i64 x.1, .string x.2.1, .int .i64 x.2.2.1, .int .i64 x.2.2.2] := rfl
  rw [this] at h
  simp at h
  rcases h with rfl | rfl | rfl | rfl <;> rfl
theorem rows_new {B : Nat} {l : List Asrt} {w : World} (h : Owns B l w) (hB : B ≤ w.heap.size) : Owns B (Asrt.rows rdAct (.slice (some ⟨w.heap.size, 0, none⟩) 0 0) [] :: l) (w.alloc (.cells #[] 29)) := by
  refine (h.alloc_cells hB #[] 29).imp ?_
  rintro S ⟨h1, h2⟩
  refine ⟨⟨by simp [Rd.all], .inr ⟨w.heap.size, 0, #[], rfl, Nat.zero_le _, h1, Nat.le_refl _, Nat.zero_le _, by simp, by simp [Rd.all]⟩⟩, fun x => ?_⟩
  rw [h2 x]
  simp [Value.ownBlock, eq_comm]
theorem info29 : ∃ z b, (Try.prog.info? 29).map (fun i => (i.zero, i.size, i.bytes)) = some (some z, 4, b) ∧ z.cells.size = 4 ∧ b ≤ 64 := ⟨_, _, rfl, rfl, by decide⟩
theorem append_acts {B : Nat} {l : List Asrt} {w : World} {v : Value} {L : List Act'} (ty : TypeId) (h : Owns B (Asrt.rows rdAct v L :: l) w) (hok : ∀ x ∈ L, rdAct.ok x) (hB : B ≤ w.heap.size) {ao : Option Addr} {m c : Nat} {M : List Act'} (hy : SlAt rdAct w ao M) (hm : M.length = m) (hl : L.length + m ≤ 1000) :
    ∃ ao' c' w', (Builtin.append_ #[22, 22] ty #[v, .slice ao m c]).run Try.prog w = .ok (.slice ao' (L.length + m) c') w' ∧ Owns B (Asrt.rows rdAct (.slice ao' (L.length + m) c') (L ++ M) :: l) w' ∧ Below B w w' := by
  obtain ⟨z, b, h1, h2, h3⟩ := info29
  refine Owns.appendRows (r := rdAct) (by decide) Try.underlying22 h1 h2 ty h hok hB hy hm (fun x _ u hu => act_one x u hu) (by unfold maxLen; omega) ?_
  have : (L.length + m) * b ≤ 1000 * 64 := Nat.mul_le_mul hl h3
  omega
theorem rows_at {B : Nat} {l : List Asrt} {w : World} {ao : Option Addr} {n c : Nat} {L : List Act'} (h : Owns B (Asrt.rows rdAct (.slice ao n c) L :: l) w) (hok : ∀ x ∈ L, rdAct.ok x) : SlAt rdAct w ao L ∧ L.length = n := by
  obtain ⟨ao', cap, hv, h1, h2⟩ := h.rowsE (by decide) hok
  injection hv with e1 e2 e3
  subst e1
  exact ⟨h2, e2.symm⟩
theorem slat_cells {w : World} {ao : Option Addr} {n c : Nat} {m : List Act'} (h : SlAt rdAct w ao m) (hn : m.length = n) {b o k : Nat} {y : Act'} (hk : m[k]? = some y) (hidx : ∀ W : World, (Instr.indexAt 22 (.slice ao n c) (.int .i64 k)).run Try.prog W = .ok (.pointer (some ⟨b, o, none⟩)) W) :
    w.cell? ⟨b, o + 1, none⟩ = some (.string y.2.1) ∧ w.cell? ⟨b, o + 2, none⟩ = some (.int .i64 y.2.2.1) ∧ w.cell? ⟨b, o + 3, none⟩ = some (.int .i64 y.2.2.2) := by
  obtain ⟨b1, o1, i1, g1, _⟩ := h.idx (cap := c) Try.underlying22 size29 hn hk
  have := (hidx w).symm.trans (i1 w)
  simp only [Result.ok.injEq, Value.pointer.injEq, Option.some.injEq, Addr.mk.injEq, and_true] at this
  rw [this.1, this.2]
  exact (act_at g1).2
/-- An append in a drawn region, its turn having come. -/
theorem step_append {P : Program} {ops : Array Oper} {K : Act → World → Prop} {Q : Exit → Act → World → Prop} {a : Act} {w w' : World} {o : Oper} {s x : Operand} {t ty : TypeId} {v u r : Value} (ho : o.op = .call { callee := .builtin .append, args := #[s, x], argTypes := #[t, t] }) (hty : o.type = ty)
    (hw : Region.wanted o (yielded ops a.tmps) = true) (hs : a.eval s = v) (hx : a.eval x = u) (hr : (Builtin.append_ #[t, t] ty #[v, u]).run P w = .ok r w') (hK : K (a.put o.dst r) w') :
    if Region.wanted o (yielded ops a.tmps) = true then o.wp P a w K Q else K (a.put o.dst undef) w := by
  subst hty
  rw [if_pos hw]
  unfold Oper.wp execOp
  simp only [ho, resolve, invoke, builtin, Sem.run_bind, Sem.run_pure, Result.andThen_ok, List.map_toArray, List.map_cons, List.map_nil, hs, hx, hr]
  exact hK
end Go.Proofs.Pan
