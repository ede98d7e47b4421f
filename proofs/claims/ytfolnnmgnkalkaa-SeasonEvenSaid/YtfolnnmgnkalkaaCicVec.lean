/- Slices of plain elements, one bundle for a slice's type: literals, appends, cuts, indexes. Own library text. -/
import Derived.Test.YtfolnnmgnkalkaaCicRows
import Derived.Test.YtfolnnmgnkalkaaCicRow2
namespace Go.Cic
set_option linter.unusedVariables false
open Go.RowKit
/-- What is to be known of a slice's type and its elements'. -/
structure Vec {P : Program} (t : TypeId) {e : TypeId} {α : Type} (r : Rd P e α) : Prop where
  ht : P.underlying t = some (.slice e)
  pos : 0 < r.n
  size : ∀ w : World, (sizeOf e).run P w = .ok r.n w
  info : ∃ z b, (P.info? e).map (fun i => (i.zero, i.size, i.bytes)) = some (some z, r.n, b) ∧ z.cells.size = r.n ∧ b ≤ 128
  one : ∀ x : α, ∀ u ∈ r.cells x, u.oneCell' = true
section
variable {P : Program} {t e : TypeId} {α : Type} {r : Rd P e α} {B : Nat} {l : List Asrt} {w : World} {v : Value} {L : List α}
theorem Owns.rowsNil (h : Owns B l w) : Owns B (Asrt.rows r (.slice none 0 0) [] :: l) w := by
  obtain ⟨S, h1, h2⟩ := h
  exact Owns.cons_iff.2 ⟨fun _ => False, S, ⟨World.ownsRow_nil w 0 e r.n, fun b => ⟨fun h => h.elim, fun h => by simp [Value.ownBlock] at h⟩⟩, h1, fun _ h => h.elim, fun _ h => h.elim, h2⟩
theorem Owns.rowsOfCells {b n : Nat} {cs : Array Value} (h : Owns B (Asrt.cells b cs e :: l) w) (hcs : cs = (r.all L).toArray) (hn : L.length = n) (hm : n ≤ maxLen) : Owns B (Asrt.rows r (.slice (some ⟨b, 0, none⟩) n n) L :: l) w := by
  subst hn; subst hcs
  have hlen := r.all_len L
  refine h.imp ?_
  rintro S ⟨h1, h2⟩
  refine ⟨⟨by rw [r.all_len], .inr ⟨b, L.length, _, rfl, Nat.zero_le _, h1, Nat.le_refl _, hm, by simp [hlen], by exact List.take_of_length_le (by rw [hlen]; exact Nat.le_refl _)⟩⟩, fun x => ?_⟩
  rw [h2 x]
  simp [Value.ownBlock, eq_comm]
theorem Owns.rowsLit (h : Owns B l w) (hB : B ≤ w.heap.size) {cs : Array Value} {n : Nat} (hcs : cs = (r.all L).toArray) (hn : L.length = n) (hm : n ≤ maxLen) :
    Owns B (Asrt.rows r (.slice (some ⟨w.heap.size, 0, none⟩) n n) L :: l) (w.alloc (.cells cs e)) ∧ Below B w (w.alloc (.cells cs e)) :=
  ⟨(h.alloc_cells hB cs e).rowsOfCells hcs hn hm, (Below.refl B w).alloc hB _⟩
/-- What one owns, read. -/
theorem Vec.at_ (V : Vec t r) (h : Owns B (Asrt.rows r v L :: l) w) (hok : ∀ x ∈ L, r.ok x) : ∃ ao c, v = .slice ao L.length c ∧ L.length ≤ c ∧ SlAt r w ao L := h.rowsE V.pos hok
theorem Vec.sl (V : Vec t r) {ao : Option Addr} {n c : Nat} (h : Owns B (Asrt.rows r (.slice ao n c) L :: l) w) (hok : ∀ x ∈ L, r.ok x) : SlAt r w ao L ∧ L.length = n ∧ n ≤ c := by
  obtain ⟨ao', c', hv, hc, h2⟩ := V.at_ h hok
  injection hv with e1 e2 e3
  subst e1; subst e2; subst e3
  exact ⟨h2, rfl, hc⟩
theorem Vec.app (V : Vec t r) (ty : TypeId) (h : Owns B (Asrt.rows r v L :: l) w) (hok : ∀ x ∈ L, r.ok x) (hB : B ≤ w.heap.size) {ao : Option Addr} {m c : Nat} {M : List α} (hy : SlAt r w ao M) (hm : M.length = m) {N : Nat} (hN : L.length + m = N) (hl : N ≤ 1000000000) :
    ∃ ao' c' w', (Builtin.append_ #[t, t] ty #[v, .slice ao m c]).run P w = .ok (.slice ao' N c') w' ∧ Owns B (Asrt.rows r (.slice ao' N c') (L ++ M) :: l) w' ∧ Below B w w' := by
  subst hN
  obtain ⟨z, b, h1, h2, h3⟩ := V.info
  refine Owns.appendRows (r := r) V.pos V.ht h1 h2 ty h hok hB hy hm (fun x _ u hu => V.one x u hu) (by unfold maxLen; omega) ?_
  have : (L.length + m) * b ≤ 1000000000 * 128 := Nat.mul_le_mul hl h3
  omega
/-- The same, at the operation, in its turn. -/
theorem Vec.wpApp (V : Vec t r) {ops : Array Oper} {rest : List Oper} {o : Oper} {a : Act} {Q : Exit → Act → World → Prop} (hg : o.guard = none) (s x : Operand) (ho : o.op = .call { callee := .builtin .append, args := #[s, x], argTypes := #[t, t] })
    (hs : a.eval s = v) {ao : Option Addr} {m c : Nat} (hx : a.eval x = .slice ao m c) (h : Owns B (Asrt.rows r v L :: l) w) (hok : ∀ x ∈ L, r.ok x) (hB : B ≤ w.heap.size) {M : List α} (hy : SlAt r w ao M) (hm : M.length = m) {N : Nat} (hN : L.length + m = N) (hl : N ≤ 1000000000)
    (hK : ∀ ao' c' w', Owns B (Asrt.rows r (.slice ao' N c') (L ++ M) :: l) w' → Below B w w' → wpList P ops Q rest (a.put o.dst (.slice ao' N c')) w') : wpList P ops Q (o :: rest) a w := by
  obtain ⟨ao', c', w', hr, h2, h3⟩ := V.app o.type h hok hB (c := c) hy hm hN hl
  refine wpList_plain hg fun K hK' => ?_
  unfold Oper.wp execOp
  simp only [ho, resolve, invoke, builtin, Sem.run_bind, Sem.run_pure, Result.andThen_ok, List.map_toArray, List.map_cons, List.map_nil, hs, hx, hr]
  exact hK' _ _ (hK ao' c' w' h2 h3)
/-- One element, made to be appended. -/
theorem SlAt.ofLit {cs : Array Value} (h : Owns B l w) (hB : B ≤ w.heap.size) (x : α) (hok : r.ok x) (hcs : cs = (r.cells x).toArray) :
    SlAt r (w.alloc (.cells cs e)) (some ⟨w.heap.size, 0, none⟩) [x] ∧ Owns B l (w.alloc (.cells cs e)) ∧ Below B w (w.alloc (.cells cs e)) := by
  subst hcs
  have h1 := h.alloc_cells hB (r.cells x).toArray e
  obtain ⟨g1, _, g3⟩ := h1.cellsE
  refine ⟨⟨by simpa using hok, fun i y hy => ⟨_, 0, rfl, g3, fun j u hu => ?_⟩⟩, h1.tail, (Below.refl B w).alloc hB _⟩
  have hi : i = 0 := by
    have := (List.getElem?_eq_some_iff.1 hy).1
    simpa using this
  subst hi
  obtain rfl : x = y := by simpa using hy
  rw [cell_of g1]
  simpa using hu
theorem SlAt.nil (r : Rd P e α) (w : World) (a : Option Addr) : SlAt r w a [] := ⟨by simp, by simp⟩
/-- 's[lo:hi]', what it reads. -/
theorem SlAt.cut {ad : Option Addr} (h : SlAt r w ad L) {lo hi c : Nat} (hc : hi ≤ c) : SlAt r w (if c = lo then ad else ad.map (·.add (lo * r.n))) ((L.drop lo).take (hi - lo)) := by
  refine ⟨fun x hx => h.1 x (List.mem_of_mem_drop (List.mem_of_mem_take hx)), fun i x hx => ?_⟩
  rw [List.getElem?_take] at hx
  split at hx
  · rename_i hlt
    rw [List.getElem?_drop] at hx
    obtain ⟨b, o, rfl, h2, h3⟩ := h.2 _ x hx
    rw [if_neg (by omega)]
    refine ⟨b, o + lo * r.n, by simp [add_one'], h2, fun j u hu => ?_⟩
    have e1 : o + lo * r.n + i * r.n + j = o + (lo + i) * r.n + j := by rw [Nat.add_mul]; omega
    rw [e1]; exact h3 j u hu
  · cases hx
theorem SlAt.cutTo {ad : Option Addr} (h : SlAt r w ad L) {k c : Nat} (hk : k ≤ L.length) (hc : L.length ≤ c) : SlAt r w (if c = 0 then ad else ad.map (·.add (0 * r.n))) (L.take k) := by
  have := h.cut (lo := 0) (hi := k) (c := c) (by omega)
  simpa using this
theorem SlAt.cutFrom {ad : Option Addr} (h : SlAt r w ad L) {k c : Nat} (hk : k ≤ L.length) (hc : L.length ≤ c) : SlAt r w (if c = k then ad else ad.map (·.add (k * r.n))) (L.drop k) := by
  have := h.cut (lo := k) (hi := L.length) (c := c) hc
  rwa [List.take_of_length_le (by simp)] at this
theorem Vec.runFrom (V : Vec t r) (ad : Option Addr) (n c k : Nat) (hk : k ≤ n) (W : World) : (Instr.slice t (.slice ad n c) (some (.int .i64 k)) none none).run P W = .ok (.slice (if c = k then ad else ad.map (·.add (k * r.n))) (n - k) (c - k)) W := by
  simp [Instr.slice, run_underlying V.ht, V.size, Result.andThen, go_sem, hk]
theorem Vec.runTo (V : Vec t r) (ad : Option Addr) (n c k : Nat) (hk : k ≤ c) (W : World) : (Instr.slice t (.slice ad n c) none (some (.int .i64 k)) none).run P W = .ok (.slice (if c = 0 then ad else ad.map (·.add (0 * r.n))) k c) W := by
  simp [Instr.slice, run_underlying V.ht, V.size, Result.andThen, go_sem, hk]
theorem Vec.runBoth (V : Vec t r) (ad : Option Addr) (n c j k : Nat) (hj : j ≤ k) (hk : k ≤ c) (W : World) : (Instr.slice t (.slice ad n c) (some (.int .i64 j)) (some (.int .i64 k)) none).run P W = .ok (.slice (if c = j then ad else ad.map (·.add (j * r.n))) (k - j) (c - j)) W := by
  simp [Instr.slice, run_underlying V.ht, V.size, Result.andThen, go_sem, hj, hk]
/-- 'l[i]': its address, and its cells. -/
theorem Vec.idx (V : Vec t r) {ad : Option Addr} {n c k : Nat} (hs : SlAt r w ad L) (hn : L.length = n) {y : α} (hk : L[k]? = some y) :
    ∃ b p, (∀ W : World, (Instr.indexAt t (.slice ad n c) (.int .i64 k)).run P W = .ok (.pointer (some ⟨b, p, none⟩)) W) ∧ (∀ j u, (r.cells y)[j]? = some u → w.cell? ⟨b, p + j, none⟩ = some u) ∧ b < w.heap.size := hs.idx (cap := c) V.ht V.size hn hk
end
/-- An append in its turn, by its run. -/
theorem wpList_appRun {P : Program} {ops : Array Oper} {rest : List Oper} {o : Oper} {a : Act} {Q : Exit → Act → World → Prop} {w w' : World} {s x : Operand} {t ty : TypeId} {v u r : Value} (hr : (Builtin.append_ #[t, t] ty #[v, u]).run P w = .ok r w') (hg : o.guard = none) (ho : o.op = .call { callee := .builtin .append, args := #[s, x], argTypes := #[t, t] }) (hty : o.type = ty)
    (hs : a.eval s = v) (hx : a.eval x = u) (hK : wpList P ops Q rest (a.put o.dst r) w') : wpList P ops Q (o :: rest) a w := by
  subst hty
  refine wpList_plain hg fun K hK' => ?_
  unfold Oper.wp execOp
  simp only [ho, resolve, invoke, builtin, Sem.run_bind, Sem.run_pure, Result.andThen_ok, List.map_toArray, List.map_cons, List.map_nil, hs, hx, hr]
  exact hK' _ _ hK
/-- An append in a drawn region, its turn having come. -/
theorem step_appRun {P : Program} {ops : Array Oper} {K : Act → World → Prop} {Q : Exit → Act → World → Prop} {a : Act} {w w' : World} {o : Oper} {s x : Operand} {t ty : TypeId} {v u r : Value} (hr : (Builtin.append_ #[t, t] ty #[v, u]).run P w = .ok r w') (ho : o.op = .call { callee := .builtin .append, args := #[s, x], argTypes := #[t, t] }) (hty : o.type = ty)
    (hw : Region.wanted o (yielded ops a.tmps) = true) (hs : a.eval s = v) (hx : a.eval x = u) (hK : K (a.put o.dst r) w') :
    if Region.wanted o (yielded ops a.tmps) = true then o.wp P a w K Q else K (a.put o.dst undef) w := by
  subst hty
  rw [if_pos hw]
  unfold Oper.wp execOp
  simp only [ho, resolve, invoke, builtin, Sem.run_bind, Sem.run_pure, Result.andThen_ok, List.map_toArray, List.map_cons, List.map_nil, hs, hx, hr]
  exact hK
/-- 'append(append(append([]T{}, s[:k]...), x), s[k:]...)': the three orders in which its steps may come. -/
def Ins3 {P : Program} (t : TypeId) {e : TypeId} {α : Type} (r : Rd P e α) (ty B : Nat) (v : Value) (L M : List α) (l : List Asrt) (w : World) (n0 n1 n2 : Nat) (to_ from_ : Value) (cs : Array Value) : Prop :=
  (∃ a1 c1 w1 a2 c2 w2 a3 c3 w3, (Builtin.append_ #[t, t] ty #[.slice (some ⟨w.heap.size, 0, none⟩) 0 0, to_]).run P (w.alloc (.cells #[] e)) = .ok (.slice a1 n0 c1) w1 ∧
    (Builtin.append_ #[t, t] ty #[.slice a1 n0 c1, .slice (some ⟨w1.heap.size, 0, none⟩) 1 1]).run P (w1.alloc (.cells cs e)) = .ok (.slice a2 n1 c2) w2 ∧
    (Builtin.append_ #[t, t] ty #[.slice a2 n1 c2, from_]).run P w2 = .ok (.slice a3 n2 c3) w3 ∧ Owns B (Asrt.rows r (.slice a3 n2 c3) M :: Asrt.rows r v L :: l) w3 ∧ Below B w w3) ∧
  (∃ a1 c1 w1 a2 c2 w2 a3 c3 w3, (Builtin.append_ #[t, t] ty #[.slice (some ⟨w.heap.size, 0, none⟩) 0 0, to_]).run P ((w.alloc (.cells #[] e)).alloc (.cells cs e)) = .ok (.slice a1 n0 c1) w1 ∧
    (Builtin.append_ #[t, t] ty #[.slice a1 n0 c1, .slice (some ⟨w.heap.size + 1, 0, none⟩) 1 1]).run P w1 = .ok (.slice a2 n1 c2) w2 ∧
    (Builtin.append_ #[t, t] ty #[.slice a2 n1 c2, from_]).run P w2 = .ok (.slice a3 n2 c3) w3 ∧ Owns B (Asrt.rows r (.slice a3 n2 c3) M :: Asrt.rows r v L :: l) w3 ∧ Below B w w3) ∧
  (∃ a1 c1 w1 a2 c2 w2 a3 c3 w3, (Builtin.append_ #[t, t] ty #[.slice (some ⟨w.heap.size + 1, 0, none⟩) 0 0, to_]).run P ((w.alloc (.cells cs e)).alloc (.cells #[] e)) = .ok (.slice a1 n0 c1) w1 ∧
    (Builtin.append_ #[t, t] ty #[.slice a1 n0 c1, .slice (some ⟨w.heap.size, 0, none⟩) 1 1]).run P w1 = .ok (.slice a2 n1 c2) w2 ∧
    (Builtin.append_ #[t, t] ty #[.slice a2 n1 c2, from_]).run P w2 = .ok (.slice a3 n2 c3) w3 ∧ Owns B (Asrt.rows r (.slice a3 n2 c3) M :: Asrt.rows r v L :: l) w3 ∧ Below B w w3)
/-- The same in a region that has drawn. -/
def Ins3D {P : Program} (t : TypeId) {e : TypeId} {α : Type} (r : Rd P e α) (ty B : Nat) (v : Value) (L M : List α) (l : List Asrt) (w : World) (n0 n1 n2 : Nat) (to_ from_ : Value) (cs : Array Value) : Prop :=
  (∃ a1 c1 w1 a2 c2 w2 a3 c3 w3, (Builtin.append_ #[t, t] ty #[.slice (some ⟨w.heap.size, 0, none⟩) 0 0, to_]).run P (w.alloc (.cells #[] e)).drew = .ok (.slice a1 n0 c1) w1 ∧
    (Builtin.append_ #[t, t] ty #[.slice a1 n0 c1, .slice (some ⟨w1.heap.size, 0, none⟩) 1 1]).run P (w1.alloc (.cells cs e)) = .ok (.slice a2 n1 c2) w2 ∧
    (Builtin.append_ #[t, t] ty #[.slice a2 n1 c2, from_]).run P w2 = .ok (.slice a3 n2 c3) w3 ∧ Owns B (Asrt.rows r (.slice a3 n2 c3) M :: Asrt.rows r v L :: l) w3 ∧ Below B w w3) ∧
  (∃ a1 c1 w1 a2 c2 w2 a3 c3 w3, (Builtin.append_ #[t, t] ty #[.slice (some ⟨w.heap.size, 0, none⟩) 0 0, to_]).run P ((w.alloc (.cells #[] e)).alloc (.cells cs e)).drew = .ok (.slice a1 n0 c1) w1 ∧
    (Builtin.append_ #[t, t] ty #[.slice a1 n0 c1, .slice (some ⟨w.heap.size + 1, 0, none⟩) 1 1]).run P w1 = .ok (.slice a2 n1 c2) w2 ∧
    (Builtin.append_ #[t, t] ty #[.slice a2 n1 c2, from_]).run P w2 = .ok (.slice a3 n2 c3) w3 ∧ Owns B (Asrt.rows r (.slice a3 n2 c3) M :: Asrt.rows r v L :: l) w3 ∧ Below B w w3) ∧
  (∃ a1 c1 w1 a2 c2 w2 a3 c3 w3, (Builtin.append_ #[t, t] ty #[.slice (some ⟨w.heap.size + 1, 0, none⟩) 0 0, to_]).run P ((w.alloc (.cells cs e)).alloc (.cells #[] e)).drew = .ok (.slice a1 n0 c1) w1 ∧
    (Builtin.append_ #[t, t] ty #[.slice a1 n0 c1, .slice (some ⟨w.heap.size, 0, none⟩) 1 1]).run P w1 = .ok (.slice a2 n1 c2) w2 ∧
    (Builtin.append_ #[t, t] ty #[.slice a2 n1 c2, from_]).run P w2 = .ok (.slice a3 n2 c3) w3 ∧ Owns B (Asrt.rows r (.slice a3 n2 c3) M :: Asrt.rows r v L :: l) w3 ∧ Below B w w3)
section
variable {P : Program} {t e : TypeId} {α : Type} {r : Rd P e α} {B : Nat} {l : List Asrt} {w : World} {L : List α}
theorem Vec.ins3 (V : Vec t r) (ty : TypeId) {ao : Option Addr} {n c : Nat} (h : Owns B (Asrt.rows r (.slice ao n c) L :: l) w) (hB : B ≤ w.heap.size) (hok : ∀ x ∈ L, r.ok x) {k : Nat} (hk : k ≤ n) (x : α) (hx : r.ok x) (hl : n + 1 ≤ 1000000000) {cs : Array Value} (hcs : cs = (r.cells x).toArray) :
    Ins3 t r ty B (.slice ao n c) L (L.take k ++ [x] ++ L.drop k) l w k (k + 1) (n + 1) (.slice (if c = 0 then ao else ao.map (·.add (0 * r.n))) k c) (.slice (if c = k then ao else ao.map (·.add (k * r.n))) (n - k) (c - k)) cs := by
  obtain ⟨hs, hn, hc⟩ := V.sl h hok
  subst hn
  have t1 : (L.take k).length = k := by rw [List.length_take]; omega
  have t2 : (L.drop k).length = L.length - k := List.length_drop
  have ok1 : ∀ y ∈ L.take k, r.ok y := fun y hy => hok y (List.mem_of_mem_take hy)
  have ok2 : ∀ y ∈ L.take k ++ [x], r.ok y := fun y hy => (List.mem_append.1 hy).elim (ok1 y) (fun h => by simp at h; subst h; exact hx)
  have l2 : (L.take k ++ [x]).length = k + 1 := by rw [List.length_append, t1]; rfl
  have tail : ∀ (l : List Asrt) (w2 : World) (a2 : Option Addr) (c2 : Nat), Owns B (Asrt.rows r (.slice a2 (k + 1) c2) (L.take k ++ [x]) :: Asrt.rows r (.slice ao L.length c) L :: l) w2 → Below B w w2 → ∃ a3 c3 w3,
      (Builtin.append_ #[t, t] ty #[.slice a2 (k + 1) c2, .slice (if c = k then ao else ao.map (·.add (k * r.n))) (L.length - k) (c - k)]).run P w2 = .ok (.slice a3 (L.length + 1) c3) w3 ∧ Owns B (Asrt.rows r (.slice a3 (L.length + 1) c3) (L.take k ++ [x] ++ L.drop k) :: Asrt.rows r (.slice ao L.length c) L :: l) w3 ∧ Below B w w3 := by
    intro l w2 a2 c2 hO hb
    obtain ⟨hs2, _, _⟩ := V.sl hO.swap hok
    obtain ⟨a3, c3, w3, g1, g2, g3⟩ := V.app ty hO ok2 (Nat.le_trans hB hb.size) (c := c - k) (hs2.cutFrom hk hc) t2 (N := L.length + 1) (by rw [l2]; omega) (by omega)
    exact ⟨a3, c3, w3, g1, g2, hb.trans g3⟩
  have mid : ∀ (l : List Asrt) (w1 : World) (a1 : Option Addr) (c1 bx : Nat), Owns B (Asrt.rows r (.slice a1 k c1) (L.take k) :: Asrt.rows r (.slice ao L.length c) L :: l) w1 → Below B w w1 → SlAt r w1 (some ⟨bx, 0, none⟩) [x] → ∃ a2 c2 w2 a3 c3 w3,
      (Builtin.append_ #[t, t] ty #[.slice a1 k c1, .slice (some ⟨bx, 0, none⟩) 1 1]).run P w1 = .ok (.slice a2 (k + 1) c2) w2 ∧
      (Builtin.append_ #[t, t] ty #[.slice a2 (k + 1) c2, .slice (if c = k then ao else ao.map (·.add (k * r.n))) (L.length - k) (c - k)]).run P w2 = .ok (.slice a3 (L.length + 1) c3) w3 ∧ Owns B (Asrt.rows r (.slice a3 (L.length + 1) c3) (L.take k ++ [x] ++ L.drop k) :: Asrt.rows r (.slice ao L.length c) L :: l) w3 ∧ Below B w w3 := by
    intro l w1 a1 c1 bx hO hb hsx
    obtain ⟨a2, c2, w2, g1, g2, g3⟩ := V.app ty hO ok1 (Nat.le_trans hB hb.size) (c := 1) hsx (m := 1) rfl (N := k + 1) (by rw [t1]) (by omega)
    obtain ⟨a3, c3, w3, g4, g5, g6⟩ := tail l w2 a2 c2 g2 (hb.trans g3)
    exact ⟨a2, c2, w2, a3, c3, w3, g1, g4, g5, g6⟩
  have fst : ∀ (l : List Asrt) (w0 : World) (b0 : Nat), Owns B (Asrt.rows r (.slice (some ⟨b0, 0, none⟩) 0 0) [] :: Asrt.rows r (.slice ao L.length c) L :: l) w0 → Below B w w0 → ∃ a1 c1 w1,
      (Builtin.append_ #[t, t] ty #[.slice (some ⟨b0, 0, none⟩) 0 0, .slice (if c = 0 then ao else ao.map (·.add (0 * r.n))) k c]).run P w0 = .ok (.slice a1 k c1) w1 ∧ Owns B (Asrt.rows r (.slice a1 k c1) (L.take k) :: Asrt.rows r (.slice ao L.length c) L :: l) w1 ∧ Below B w0 w1 := by
    intro l w0 b0 hO hb
    obtain ⟨hs2, _, _⟩ := V.sl hO.swap hok
    obtain ⟨a1, c1, w1, g1, g2, g3⟩ := V.app ty hO (by simp) (Nat.le_trans hB hb.size) (c := c) (hs2.cutTo hk hc) t1 (N := k) (by simp) (by omega)
    exact ⟨a1, c1, w1, g1, by simpa using g2, g3⟩
  have hA : Owns B (Asrt.rows r (.slice (some ⟨w.heap.size, 0, none⟩) 0 0) [] :: Asrt.rows r (.slice ao L.length c) L :: l) (w.alloc (.cells #[] e)) := (h.rowsLit (L := []) (r := r) hB (cs := #[]) (n := 0) (by simp [Rd.all]) rfl (Nat.zero_le _)).1
  have bA : Below B w (w.alloc (.cells #[] e)) := (Below.refl B w).alloc hB _
  refine ⟨?_, ?_, ?_⟩
  · obtain ⟨a1, c1, w1, g1, g2, g3⟩ := fst l _ _ hA bA
    have b1 := bA.trans g3
    obtain ⟨hsx, hOx, bx⟩ := SlAt.ofLit g2 (Nat.le_trans hB b1.size) x hx hcs
    obtain ⟨a2, c2, w2, a3, c3, w3, g4, g5, g6, g7⟩ := mid l _ a1 c1 _ hOx (b1.trans bx) hsx
    exact ⟨a1, c1, w1, a2, c2, w2, a3, c3, w3, g1, g4, g5, g6, g7⟩
  · have hX := (hA.rowsLit (L := [x]) (r := r) (Nat.le_trans hB bA.size) (cs := cs) (n := 1) (by simp [Rd.all, hcs]) rfl (by unfold maxLen; omega))
    have b0 := bA.trans hX.2
    have hz : (w.alloc (.cells #[] e)).heap.size = w.heap.size + 1 := World.size_alloc _ _
    rw [hz] at hX
    obtain ⟨a1, c1, w1, g1, g2, g3⟩ := fst (Asrt.rows r (.slice (some ⟨w.heap.size + 1, 0, none⟩) 1 1) [x] :: l) _ _ (hX.1.perm ((List.Perm.swap _ _ _).trans (List.Perm.cons _ (List.Perm.swap _ _ _)))) b0
    obtain ⟨a2, c2, w2, a3, c3, w3, g4, g5, g6, g7⟩ := mid _ _ a1 c1 _ g2 (b0.trans g3) (V.sl (g2.front 2 _ rfl) (by simpa using hx)).1
    exact ⟨a1, c1, w1, a2, c2, w2, a3, c3, w3, g1, g4, g5, (g6.front 2 _ rfl).tail, g7⟩
  · have hX := (h.rowsLit (L := [x]) (r := r) hB (cs := cs) (n := 1) (by simp [Rd.all, hcs]) rfl (by unfold maxLen; omega))
    have hz : (w.alloc (.cells cs e)).heap.size = w.heap.size + 1 := World.size_alloc _ _
    have hA2 := (hX.1.rowsLit (L := []) (r := r) (Nat.le_trans hB hX.2.size) (cs := #[]) (n := 0) (by simp [Rd.all]) rfl (Nat.zero_le _))
    rw [hz] at hA2
    have b0 := hX.2.trans hA2.2
    obtain ⟨a1, c1, w1, g1, g2, g3⟩ := fst (Asrt.rows r (.slice (some ⟨w.heap.size, 0, none⟩) 1 1) [x] :: l) _ _ (hA2.1.perm (List.Perm.cons _ (List.Perm.swap _ _ _))) b0
    obtain ⟨a2, c2, w2, a3, c3, w3, g4, g5, g6, g7⟩ := mid _ _ a1 c1 _ g2 (b0.trans g3) (V.sl (g2.front 2 _ rfl) (by simpa using hx)).1
    exact ⟨a1, c1, w1, a2, c2, w2, a3, c3, w3, g1, g4, g5, (g6.front 2 _ rfl).tail, g7⟩
theorem Vec.ins3d (V : Vec t r) (ty : TypeId) {ao : Option Addr} {n c : Nat} (h : Owns B (Asrt.rows r (.slice ao n c) L :: l) w) (hB : B ≤ w.heap.size) (hok : ∀ x ∈ L, r.ok x) {k : Nat} (hk : k ≤ n) (x : α) (hx : r.ok x) (hl : n + 1 ≤ 1000000000) {cs : Array Value} (hcs : cs = (r.cells x).toArray) :
    Ins3D t r ty B (.slice ao n c) L (L.take k ++ [x] ++ L.drop k) l w k (k + 1) (n + 1) (.slice (if c = 0 then ao else ao.map (·.add (0 * r.n))) k c) (.slice (if c = k then ao else ao.map (·.add (k * r.n))) (n - k) (c - k)) cs := by
  have h1 := V.ins3 ty h.drew hB hok hk x hx hl hcs
  obtain ⟨⟨a1, c1, w1, a2, c2, w2, a3, c3, w3, g1, g2, g3, g4, g5⟩, ⟨b1, d1, x1, b2, d2, x2, b3, d3, x3, i1, i2, i3, i4, i5⟩, ⟨e1, f1, y1, e2, f2, y2, e3, f3, y3, j1, j2, j3, j4, j5⟩⟩ := h1
  have bd : Below B w w.drew := (Below.refl B w).drew
  exact ⟨⟨a1, c1, w1, a2, c2, w2, a3, c3, w3, g1, g2, g3, g4, bd.trans g5⟩, ⟨b1, d1, x1, b2, d2, x2, b3, d3, x3, i1, i2, i3, i4, bd.trans i5⟩, ⟨e1, f1, y1, e2, f2, y2, e3, f3, y3, j1, j2, j3, j4, bd.trans j5⟩⟩
end
end Go.Cic
