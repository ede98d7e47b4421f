/- Rows of the call's own: one element written, cut, cleared. Own library text. -/
import Derived.Test.YtfolnnmgnkalkaaCicRow
import Derived.Lib.SliceRun
import Derived.Deep.Draws
namespace Go.Cic
set_option linter.unusedVariables false
open Go.RowKit
theorem take_set_aux' {γ : Type} : ∀ (l : List γ) (k n : Nat) (x : γ), (l.set k x).take n = (l.take n).set k x
  | [], _, _, _ => by simp
  | a :: l, 0, n, x => by cases n <;> simp
  | a :: l, k + 1, 0, x => by simp
  | a :: l, k + 1, n + 1, x => by simp [take_set_aux' l k n x]
theorem Owns.rowAt' {B : Nat} {e : TypeId} {ao : Option Addr} {n c k : Nat} {xs : List Value} {l : List Asrt} {w : World} (h : Owns B (Asrt.row e (.slice ao n c) xs :: l) w) (hB : B ≤ w.heap.size) {x : Value} (hk : xs[k]? = some x) :
    ∃ b, ao = some ⟨b, 0, none⟩ ∧ w.cell? ⟨b, k, none⟩ = some x ∧ w.frozen? ⟨b, k, none⟩ = false ∧ b < w.heap.size ∧
      ∀ u : Value, Owns B (Asrt.row e (.slice ao n c) (xs.set k u) :: l) (w.setCell ⟨b, k, none⟩ u) ∧ Below B w (w.setCell ⟨b, k, none⟩ u) := by
  obtain ⟨S, ⟨h1, h2⟩, h3⟩ := h.head
  have hkl := (List.getElem?_eq_some_iff.1 hk).1
  rcases h1.2 with ⟨_, h0⟩ | ⟨g, cap, cur, hv, _, hg, hnc, hcm, hcs, htake⟩
  · omega
  injection hv with e1 e2 e3
  subst e1; subst e3
  have hlt := (Array.getElem?_eq_some_iff.1 hg).1
  have hcu : k < cur.size := by omega
  refine ⟨g, rfl, ?_, free_of hg k, hlt, fun u => ?_⟩
  · rw [cell_of hg]
    have : (cur.toList.take (xs.length * 1))[k]? = some x := by rw [htake]; exact hk
    rw [List.getElem?_take, if_pos (by omega)] at this
    simpa using this
  · refine h.step hB ?_
    rintro S' ⟨g1, g2⟩
    have hw := setCell_of (o := k) hg u
    refine ⟨S', ⟨⟨by simp, .inr ⟨g, c, cur.setIfInBounds k u, by rw [List.length_set, ← e2], Nat.zero_le _, hw, by simpa using hnc, hcm, by simpa using hcs, ?_⟩⟩, g2⟩, fun b hb => .inl hb, ?_⟩
    · rw [Array.toList_setIfInBounds, List.length_set, take_set_aux', htake]
    · exact (keeps_setCell w g k u).mono (fun b _ hb => by subst hb; exact (g2 b).2 rfl)
/-- 's[:j]'. -/
theorem Owns.rowTake {B : Nat} {e : TypeId} {ao : Option Addr} {n c j : Nat} {xs : List Value} {l : List Asrt} {w : World} (h : Owns B (Asrt.row e (.slice ao n c) xs :: l) w) (hj : j ≤ n) : Owns B (Asrt.row e (.slice ao j c) (xs.take j) :: l) w := by
  have hlen := h.rowLies.2.1
  refine h.imp ?_
  rintro S ⟨h1, h2⟩
  have e1 : (xs.take j).length = j := by rw [List.length_take]; omega
  rcases h1.2 with ⟨hv, h0⟩ | ⟨g, cap, cur, hv, hb, hg, hnc, hcm, hcs, htake⟩
  · injection hv with a1 a2 a3
    subst a1; subst a3
    have hj0 : j = 0 := by omega
    subst hj0
    exact ⟨⟨by simp, .inl ⟨rfl, by simp⟩⟩, fun b => by rw [h2 b]; simp [Value.ownBlock]⟩
  · injection hv with a1 a2 a3
    subst a1; subst a3
    refine ⟨⟨by simp, .inr ⟨g, c, cur, by rw [e1], hb, hg, by omega, hcm, hcs, ?_⟩⟩, fun b => by rw [h2 b]; simp [Value.ownBlock]⟩
    rw [e1, ← htake, List.take_take, Nat.mul_one, Nat.mul_one, Nat.min_eq_left (by omega)]
theorem setCells_heap (b : Nat) : ∀ (vs : List Value) (o : Nat) (w : World) (cs : Array Value) (T : TypeId) (fz : Nat × Nat), w.heap[b]? = some (.cells cs T fz) → ∃ cs', (w.setCells b o vs).heap[b]? = some (.cells cs' T fz) ∧ cs'.size = cs.size ∧
    ∀ i, cs'[i]? = if o ≤ i ∧ i < o + vs.length ∧ i < cs.size then vs[i - o]? else cs[i]?
  | [], o, w, cs, T, fz, h => ⟨cs, by simpa [World.setCells] using h, rfl, fun i => by rw [if_neg (by simp; omega)]⟩
  | v :: vs, o, w, cs, T, fz, h => by
    have h1 := setCell_of (o := o) h v
    obtain ⟨cs', h2, h3, h4⟩ := setCells_heap b vs (o + 1) _ _ T fz h1
    refine ⟨cs', by simpa [World.setCells] using h2, by simpa using h3, fun i => ?_⟩
    rw [h4 i]
    simp only [Array.size_setIfInBounds, List.length_cons]
    by_cases hio : i = o
    · subst hio
      rw [if_neg (by omega), Array.getElem?_setIfInBounds]
      by_cases hc : i < cs.size
      · rw [if_pos rfl, if_pos hc, if_pos (by omega)]; simp
      · rw [if_pos rfl, if_neg hc, if_neg (by omega)]
        simp [Array.getElem?_eq_none (Nat.le_of_not_lt hc)]
    · rw [Array.getElem?_setIfInBounds, if_neg (show ¬ o = i from fun e => hio e.symm)]
      by_cases hc : o + 1 ≤ i ∧ i < o + 1 + vs.length ∧ i < cs.size
      · rw [if_pos hc, if_pos (by omega)]
        have : i - o = (i - (o + 1)) + 1 := by omega
        rw [this, List.getElem?_cons_succ]
      · rw [if_neg hc, if_neg (by omega)]
theorem keeps_setCells (b : Nat) : ∀ (vs : List Value) (o : Nat) (w : World), Keeps (· = b) w (w.setCells b o vs)
  | [], o, w => by simpa [World.setCells] using Keeps.refl (· = b) w
  | v :: vs, o, w => by
    have := (keeps_setCell w b o v).trans0 (keeps_setCells b vs (o + 1) (w.setCell ⟨b, o, none⟩ v) |>.mono (fun _ _ h => h))
    simpa [World.setCells] using this
/-- 'clear(s[j:])': what stands from j on is zero. -/
theorem Owns.rowClear {P : Program} {t : TypeId} {z : Value} {B : Nat} {e : TypeId} {ao : Option Addr} {n c j : Nat} {xs : List Value} {l : List Asrt} {w : World} (ht : P.underlying t = some (.slice e)) (hv : ∀ w, (zeroValue e).run P w = .ok z w) (hz : z.cells = #[z]) (h1 : z.oneCell' = true)
    (h : Owns B (Asrt.row e (.slice ao n c) xs :: l) w) (hB : B ≤ w.heap.size) (hj : j ≤ n) (ty : TypeId) :
    ∃ w', (Builtin.clear_ #[t] ty #[.slice (if c = j then ao else ao.map (·.add (j * 1))) (n - j) (c - j)]).run P w = .ok (.tuple #[]) w' ∧ Owns B (Asrt.row e (.slice ao n c) (xs.take j ++ List.replicate (n - j) z) :: l) w' ∧ Below B w w' := by
  obtain ⟨hlies, hlen, hnc⟩ := h.rowLies
  by_cases hjn : j = n
  · subst hjn
    refine ⟨w, ?_, ?_, Below.refl _ _⟩
    · rw [Nat.sub_self]
      cases hh : (if c = j then ao else ao.map (·.add (j * 1))) with
      | none => simp [Builtin.clear_, run_underlying ht, Result.andThen]
      | some a => simp [Builtin.clear_, run_underlying ht, Result.andThen]
    · rw [Nat.sub_self, List.replicate_zero, List.append_nil, List.take_of_length_le (by omega)]; exact h
  · have hlt : j < n := by omega
    obtain ⟨S, ⟨g1, g2⟩, _⟩ := h.head
    rcases g1.2 with ⟨_, h0⟩ | ⟨g, cap, cur, hv', _, hg, hnc', hcm, hcs, htake⟩
    · omega
    injection hv' with e1 e2 e3
    subst e1; subst e3
    have hsz : cur.size = c := by omega
    rw [if_neg (by omega)]
    have ha : (some (⟨g, 0, none⟩ : Addr)).map (·.add (j * 1)) = some ⟨g, j, none⟩ := by simp [add_one']
    rw [ha]
    have hrun := Lib.run_clear_slice (P := P) w t e ty z ht hv hz h1 g j (n - j) (c - j) (by omega) (fun i hi => by rw [cell_of hg]; rw [Array.getElem?_eq_getElem (by omega)]; rfl) (fun i _ => free_of hg _)
    refine ⟨_, hrun, ?_⟩
    obtain ⟨cs', k1, k2, k3⟩ := setCells_heap g (List.replicate (n - j) z) j w cur e (0, 0) hg
    refine h.step hB ?_
    rintro S' ⟨q1, q2⟩
    have hlen2 : (xs.take j ++ List.replicate (n - j) z).length = n := by simp; omega
    refine ⟨S', ⟨⟨by simp, .inr ⟨g, c, cs', by rw [hlen2], Nat.zero_le _, k1, by rw [hlen2]; exact hnc, hcm, by omega, ?_⟩⟩, q2⟩, fun b hb => .inl hb, (keeps_setCells g _ j w).mono (fun b _ hb => by subst hb; exact (q2 b).2 rfl)⟩
    rw [hlen2]
    apply List.ext_getElem?
    intro i
    rw [List.getElem?_take, Array.getElem?_toList, k3 i]
    simp only [List.length_replicate]
    by_cases hi : i < n
    · rw [if_pos (by omega)]
      by_cases hij : j ≤ i
      · rw [if_pos (by omega), List.getElem?_append_right (by simp; omega), List.getElem?_replicate, if_pos (by omega), List.getElem?_replicate, if_pos (by simp; omega)]
      · rw [if_neg (by omega), List.getElem?_append_left (by simp; omega), List.getElem?_take, if_pos (by omega), ← htake, List.getElem?_take, if_pos (by omega), Array.getElem?_toList]
    · rw [if_neg (by omega), List.getElem?_eq_none (by omega)]
theorem wpList_clearRow {P : Program} {ops : Array Oper} {rest : List Oper} {o : Oper} {a : Act} {Q : Exit → Act → World → Prop} {t : TypeId} {z : Value} {B : Nat} {e : TypeId} {ao : Option Addr} {n c j : Nat} {xs : List Value} {l : List Asrt} {w : World} (hgd : o.guard = none) (x : Operand)
    (ho : o.op = .call { callee := .builtin .clear, args := #[x], argTypes := #[t] }) (ht : P.underlying t = some (.slice e)) (hv : ∀ w, (zeroValue e).run P w = .ok z w) (hz : z.cells = #[z]) (h1 : z.oneCell' = true)
    {v : Value} (hvv : v = .slice (if c = j then ao else ao.map (·.add (j * 1))) (n - j) (c - j)) (hx : a.eval x = v) (h : Owns B (Asrt.row e (.slice ao n c) xs :: l) w) (hB : B ≤ w.heap.size) (hj : j ≤ n)
    (hK : ∀ w', Owns B (Asrt.row e (.slice ao n c) (xs.take j ++ List.replicate (n - j) z) :: l) w' → Below B w w' → wpList P ops Q rest (a.put o.dst (.tuple #[])) w') : wpList P ops Q (o :: rest) a w := by
  refine wpList_plain hgd fun K hK' => ?_
  obtain ⟨w', hr, h2, h3⟩ := Owns.rowClear ht hv hz h1 h hB hj o.type
  rw [← hvv] at hr
  unfold Oper.wp execOp
  simp only [ho, resolve, invoke, builtin, Sem.run_bind, Sem.run_pure, Result.andThen_ok, List.map_toArray, List.map_cons, List.map_nil, hx, hr]
  exact hK' _ _ (hK w' h2 h3)
theorem _root_.Go.RowKit.Below.drewN' (w : World) (m : Nat) : Below w.heap.size w (w.drewN m) := ⟨rfl, rfl, rfl, Nat.le_refl _, fun _ _ => rfl⟩
theorem Owns.drewN {B : Nat} {l : List Asrt} {w : World} (h : Owns B l w) (m : Nat) : Owns B l (w.drewN m) := h.keep (Below.drewN' w m)
/-- A cell is written. -/
theorem Owns.poke {B p : Nat} {cs : Array Value} {T : TypeId} {l : List Asrt} {w : World} (h : Owns B (Asrt.cells p cs T :: l) w) (hB : B ≤ w.heap.size) (o : Nat) (v : Value) : Owns B (Asrt.cells p (cs.setIfInBounds o v) T :: l) (w.setCell ⟨p, o, none⟩ v) ∧ Below B w (w.setCell ⟨p, o, none⟩ v) :=
  h.step hB (step_cells (setCell_of h.cellsE.1 v) (keeps_setCell w p o v))
theorem Owns.drop1 {B : Nat} {A C : Asrt} {l : List Asrt} {w : World} (h : Owns B (A :: C :: l) w) : Owns B (A :: l) w := h.swap.tail.perm (List.Perm.refl _)
theorem Owns.drop1_2 {B : Nat} {A C D : Asrt} {l : List Asrt} {w : World} (h : Owns B (A :: C :: D :: l) w) : Owns B (A :: C :: l) w := (h.front 2 _ rfl).tail
theorem Owns.drop1_1 {B : Nat} {A C D : Asrt} {l : List Asrt} {w : World} (h : Owns B (A :: C :: D :: l) w) : Owns B (A :: D :: l) w := (h.front 1 _ rfl).tail
/-- 's[j:]' of a slice, its run. -/
theorem run_sliceFrom {P : Program} {t e : TypeId} (ht : P.underlying t = some (.slice e)) (hsz : ∀ w : World, (sizeOf e).run P w = .ok 1 w) (ao : Option Addr) (n c j : Nat) (hj : j ≤ n) (W : World) :
    (Instr.slice t (.slice ao n c) (some (.int .i64 j)) none none).run P W = .ok (.slice (if c = j then ao else ao.map (·.add (j * 1))) (n - j) (c - j)) W := by
  simp [Instr.slice, run_underlying ht, hsz, Result.andThen, go_sem, hj]
end Go.Cic
