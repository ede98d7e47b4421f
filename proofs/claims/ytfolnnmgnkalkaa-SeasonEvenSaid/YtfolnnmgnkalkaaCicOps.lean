/- The laws on maps at the operations, for the walk. Own library text. -/
import Derived.Test.YtfolnnmgnkalkaaCicRange
import Derived.Maps.RangeWalk
import Derived.Laws.Externs
namespace Go.Cic
set_option linter.unusedSectionVars false
set_option linter.unusedVariables false
set_option linter.unusedSimpArgs false
open Go.MapKept Go.ChangeMaps
open Go.Maps (Keyed)
variable {α β : Type} [DecidableEq α]
/-- maps.Clone's extern. -/
theorem MapT.clone {P : Program} {k : TypeId} {E : Enc P k α} {V : β → Value} {w : World} {b : Nat} {T : List (α × β)} (h : MapT E V w b T) (t : TypeId) :
    ∃ ob, (Extern.MapsClone.clone #[.iface t (.map (some b))]).run P w = .ok (.iface t (.map (some w.heap.size))) (w.alloc ob) ∧ MapT E V (w.alloc ob) w.heap.size T := by
  obtain ⟨es, clk, hb, r⟩ := h
  refine ⟨.map es clk, ?_, ⟨es, clk, (MapKept.heap_alloc w _).1, r⟩⟩
  have e : Extern.MapsClone.clone #[.iface t (.map (some b))] = (getObj b >>= fun o => match o with
      | .map entries clock => (newObj (.map entries clock) >>= fun n => pure (.iface t (.map (some n))))
      | _ => stuck "maps.clone: a map expected") := rfl
  rw [e]
  simp [MapKept.run_getObj_map hb, Result.andThen, go_sem]
theorem run_typeAssert_same {P : Program} {w : World} (t xT k e : TypeId) (v : Value) (h : P.underlying t = some (.map k e)) : (Instr.typeAssert (.iface t v) xT t false).run P w = .ok v w := by
  simp [Instr.typeAssert, run_underlying h, go_sem, Result.andThen]
section
variable {P : Program} {k : TypeId} {E : Enc P k α} {V : β → Value} {w : World} {b r : Nat} {T L : List (α × β)} {ops : Array Oper} {rest : List Oper} {o : Oper} {a : Act} {Q : Exit → Act → World → Prop}

theorem wpList_lookupT (hg : o.guard = none) (m x : Operand) (t : TypeId) (c : Bool) (hop : o.op = Op.lookup t m x c) {e : TypeId} (K : Keyed P k) (ht : P.underlying t = some (.map k e)) (hm : a.eval m = .map (some b))
    (h : MapT E V w b T) {z : Value} (hz : (zeroValue e).run P w = .ok z w) (x0 : α) (hx : a.eval x = E.v x0) (ha : E.ok x0)
    (hK : wpList P ops Q rest (a.put o.dst (if c then .tuple #[((AL.get T x0).map V).getD z, .bool (AL.get T x0).isSome] else ((AL.get T x0).map V).getD z)) w) : wpList P ops Q (o :: rest) a w := by
  refine wpList_plain hg fun K' hK' => ?_
  have hrun := h.lookup K ht hz ha c
  unfold Oper.wp
  simp only [execOp, hop, hm, hx]
  simp only [Sem.run_bind, hrun, Result.andThen]
  exact hK' _ _ hK
theorem wpList_lookupS (hg : o.guard = none) (m x : Operand) (t : TypeId) (hop : o.op = Op.lookup t m x false) {e : TypeId} (K : Keyed P k) (ht : P.underlying t = some (.map k e)) (hm : a.eval m = .map (some b))
    (h : MapT E V w b T) {z : Value} (hz : (zeroValue e).run P w = .ok z w) (x0 : α) (hx : a.eval x = E.v x0) (ha : E.ok x0) {v0 : β} (hget : AL.get T x0 = some v0)
    (hK : wpList P ops Q rest (a.put o.dst (V v0)) w) : wpList P ops Q (o :: rest) a w :=
  wpList_lookupT hg m x t false hop K ht hm h hz x0 hx ha (by rw [hget]; exact hK)
theorem wpList_lookupN (hg : o.guard = none) (m x : Operand) (t : TypeId) (hop : o.op = Op.lookup t m x false) {e : TypeId} (K : Keyed P k) (ht : P.underlying t = some (.map k e)) (hm : a.eval m = .map (some b))
    (h : MapT E V w b T) {z : Value} (hz : (zeroValue e).run P w = .ok z w) (x0 : α) (hx : a.eval x = E.v x0) (ha : E.ok x0) (hget : AL.get T x0 = none)
    (hK : wpList P ops Q rest (a.put o.dst z) w) : wpList P ops Q (o :: rest) a w :=
  wpList_lookupT hg m x t false hop K ht hm h hz x0 hx ha (by rw [hget]; exact hK)
theorem wpList_lookupD (hg : o.guard = none) (m x : Operand) (t : TypeId) (hop : o.op = Op.lookup t m x false) {e : TypeId} (K : Keyed P k) (ht : P.underlying t = some (.map k e)) (hm : a.eval m = .map (some b))
    (h : MapT E V w b T) (z : β) (hz : (zeroValue e).run P w = .ok (V z) w) (x0 : α) (hx : a.eval x = E.v x0) (ha : E.ok x0)
    (hK : wpList P ops Q rest (a.put o.dst (V ((AL.get T x0).getD z))) w) : wpList P ops Q (o :: rest) a w :=
  wpList_lookupT hg m x t false hop K ht hm h hz x0 hx ha (by cases hgt : AL.get T x0 <;> rw [hgt] at hK <;> exact hK)
theorem wpList_lookupSok (hg : o.guard = none) (m x : Operand) (t : TypeId) (hop : o.op = Op.lookup t m x true) {e : TypeId} (K : Keyed P k) (ht : P.underlying t = some (.map k e)) (hm : a.eval m = .map (some b))
    (h : MapT E V w b T) {z : Value} (hz : (zeroValue e).run P w = .ok z w) (x0 : α) (hx : a.eval x = E.v x0) (ha : E.ok x0) {v0 : β} (hget : AL.get T x0 = some v0)
    (hK : wpList P ops Q rest (a.put o.dst (.tuple #[V v0, .bool true])) w) : wpList P ops Q (o :: rest) a w :=
  wpList_lookupT hg m x t true hop K ht hm h hz x0 hx ha (by rw [hget]; exact hK)
theorem wpList_lookupNok (hg : o.guard = none) (m x : Operand) (t : TypeId) (hop : o.op = Op.lookup t m x true) {e : TypeId} (K : Keyed P k) (ht : P.underlying t = some (.map k e)) (hm : a.eval m = .map (some b))
    (h : MapT E V w b T) {z : Value} (hz : (zeroValue e).run P w = .ok z w) (x0 : α) (hx : a.eval x = E.v x0) (ha : E.ok x0) (hget : AL.get T x0 = none)
    (hK : wpList P ops Q rest (a.put o.dst (.tuple #[z, .bool false])) w) : wpList P ops Q (o :: rest) a w :=
  wpList_lookupT hg m x t true hop K ht hm h hz x0 hx ha (by rw [hget]; exact hK)
theorem wpList_lookupNil (hg : o.guard = none) (m x : Operand) (t : TypeId) (c : Bool) (hop : o.op = Op.lookup t m x c) {e : TypeId} (K : Keyed P k) (ht : P.underlying t = some (.map k e)) (hm : a.eval m = .map none)
    {z : Value} (hz : (zeroValue e).run P w = .ok z w) (x0 : α) (hx : a.eval x = E.v x0) (ha : E.ok x0)
    (hK : wpList P ops Q rest (a.put o.dst (if c then .tuple #[z, .bool false] else z)) w) : wpList P ops Q (o :: rest) a w := by
  refine wpList_plain hg fun K' hK' => ?_
  have hrun := lookup_nil (E := E) K ht hz ha c
  unfold Oper.wp
  simp only [execOp, hop, hm, hx]
  simp only [Sem.run_bind, hrun, Result.andThen]
  exact hK' _ _ hK
theorem wpList_updateT (hg : o.guard = none) (m x v : Operand) (t : TypeId) (hop : o.op = Op.mapUpdate t m x v) {e : TypeId} (K : Keyed P k) (ht : P.underlying t = some (.map k e)) (hm : a.eval m = .map (some b))
    (h : MapT E V w b T) (x0 : α) (hx : a.eval x = E.v x0) (ha : E.ok x0) (v0 : β) (hv : a.eval v = V v0)
    (hK : ∀ ob, MapT E V (setBlock w b ob) b (AL.put T x0 v0) → wpList P ops Q rest (a.put o.dst undef) (setBlock w b ob)) : wpList P ops Q (o :: rest) a w := by
  refine wpList_plain hg fun K' hK' => ?_
  obtain ⟨ob, hrun, h'⟩ := h.update K ht ha v0
  unfold Oper.wp
  simp only [execOp, hop, hm, hx, hv]
  simp only [Sem.run_bind, hrun, Result.andThen]
  exact hK' _ _ (hK ob h')
theorem wpList_deleteT (hg : o.guard = none) (m x : Operand) (t : TypeId) (hop : o.op = Op.call { callee := Callee.builtin Builtin.delete, args := #[m, x], argTypes := #[t, k] }) {e : TypeId} (K : Keyed P k) (ht : P.underlying t = some (.map k e)) (hm : a.eval m = .map (some b))
    (h : MapT E V w b T) (x0 : α) (hx : a.eval x = E.v x0) (ha : E.ok x0)
    (hK : ∀ ob, MapT E V (setBlock w b ob) b (AL.del T x0) → wpList P ops Q rest (a.put o.dst (.tuple #[])) (setBlock w b ob)) : wpList P ops Q (o :: rest) a w := by
  refine wpList_plain hg fun K' hK' => ?_
  obtain ⟨ob, hrun, h'⟩ := h.delete K ht ha
  unfold Oper.wp
  simp [execOp, hop, resolve, invoke, builtin, hm, hx, hrun, Result.andThen]
  exact hK' _ _ (hK ob h')
theorem wpList_deleteR (hg : o.guard = none) (m x : Operand) (t : TypeId) (hop : o.op = Op.call { callee := Callee.builtin Builtin.delete, args := #[m, x], argTypes := #[t, k] }) {e : TypeId} (K : Keyed P k) (ht : P.underlying t = some (.map k e)) (hm : a.eval m = .map (some b))
    (h : RngT E V w b r T L) (x0 : α) (hx : a.eval x = E.v x0) (ha : E.ok x0)
    (hK : ∀ ob, RngT E V (setBlock w b ob) b r (AL.del T x0) (AL.del L x0) → wpList P ops Q rest (a.put o.dst (.tuple #[])) (setBlock w b ob)) : wpList P ops Q (o :: rest) a w := by
  refine wpList_plain hg fun K' hK' => ?_
  obtain ⟨ob, hrun, h'⟩ := h.delete K ht ha
  unfold Oper.wp
  simp [execOp, hop, resolve, invoke, builtin, hm, hx, hrun, Result.andThen]
  exact hK' _ _ (hK ob h')
theorem wpList_rangeT (hg : o.guard = none) (m : Operand) (t : TypeId) (hop : o.op = Op.range t m) {e : TypeId} (ht : P.underlying t = some (.map k e)) (hm : a.eval m = .map (some b)) (h : MapT E V w b T)
    (hK : ∀ ob, RngT E V (w.alloc ob) b w.heap.size T T → wpList P ops Q rest (a.put o.dst (.pointer (some ⟨w.heap.size, 0, none⟩))) (w.alloc ob)) : wpList P ops Q (o :: rest) a w := by
  refine wpList_plain hg fun K' hK' => ?_
  obtain ⟨ob, hrun, h'⟩ := h.range ht
  unfold Oper.wp
  simp only [execOp, hop, hm]
  simp only [Sem.run_bind, hrun, Result.andThen]
  exact hK' _ _ (hK ob h')
theorem wpList_nextT (hg : o.guard = none) (it : Operand) (hop : o.op = Op.next it false) (hit : a.eval it = .pointer (some ⟨r, 0, none⟩)) (h : RngT E V w b r T L)
    (hDone : L = [] → wpList P ops Q rest (a.put o.dst (.tuple #[.bool false])) w)
    (hMore : ∀ x y w', (x, y) ∈ L → Keeps (· = r) w w' → w'.heap.size = w.heap.size → RngT E V w' b r T (AL.del L x) → (Instr.entry (.pointer (some ⟨r, 0, none⟩))).run P w' = .ok (.tuple #[E.v x, V y]) w' → wpList P ops Q rest (a.put o.dst (.tuple #[.bool true, E.v x, V y])) w') :
    wpList P ops Q (o :: rest) a w := by
  refine wpList_plain hg fun K' hK' => ?_
  unfold Oper.wp
  rcases h.next o.type with ⟨h0, hrun⟩ | ⟨p, hp, w1, ob, hw1, hrun, h', hen⟩
  · simp only [execOp, hop, hit]
    simp only [Sem.run_bind, hrun, Result.andThen]
    exact hK' _ _ (hDone h0)
  · simp only [execOp, hop, hit]
    simp only [Sem.run_bind, hrun, Result.andThen]
    have hk : Keeps (· = r) w w1 := by rcases hw1 with rfl | rfl; exact Keeps.refl _ _; exact (Keeps.refl _ _).drew
    have hsz : (setBlock w1 r ob).heap.size = w.heap.size := by rw [setBlock_size]; rcases hw1 with rfl | rfl <;> rfl
    exact hK' _ _ (hMore p.1 p.2 _ hp (hk.setBlock (fun _ => rfl) ob) hsz h' hen)
theorem wpList_lenT (hg : o.guard = none) (m : Operand) (t : TypeId) (hop : o.op = Op.call { callee := Callee.builtin Builtin.len, args := #[m], argTypes := #[t] }) {e : TypeId} (ht : P.underlying t = some (.map k e)) (hm : a.eval m = .map (some b)) (h : MapT E V w b T)
    (hK : wpList P ops Q rest (a.put o.dst (.int .i64 (T.length : Int))) w) : wpList P ops Q (o :: rest) a w := by
  refine wpList_plain hg fun K' hK' => ?_
  obtain ⟨es, clk, hb, hs⟩ := h.len
  unfold Oper.wp
  simp [execOp, hop, resolve, invoke, builtin, hm, Builtin.len_, run_underlying ht, MapKept.run_getObj_map hb, Result.andThen, goInt, hs]
  exact hK' _ _ hK
end
end Go.Cic
