/- Slices of one-cell elements: rows of the call's own, and what a slice reads. Own library text. -/
import Derived.Test.YtfolnnmgnkalkaaCicRd
import Derived.Maps.AppendAt
import Derived.Deep.Upon
import Derived.OwnWalk
import Derived.WalkSpells
import Derived.Laws.BytesString
namespace Go.Cic
set_option linter.unusedVariables false
open Go.RowKit

/-- Behind this address these cells lie. -/
def Lies (w : World) (ao : Option Addr) (ys : List Value) : Prop := ∀ (j : Nat) (u : Value), ys[j]? = some u → ∃ b o, ao = some ⟨b, o, none⟩ ∧ b < w.heap.size ∧ w.cell? ⟨b, o + j, none⟩ = some u
theorem Lies.nil (w : World) (ao : Option Addr) : Lies w ao [] := fun j u h => by simp at h
theorem Lies.below {w w' : World} {ao : Option Addr} {ys : List Value} (h : Lies w ao ys) (hb : Below w.heap.size w w') : Lies w' ao ys := fun j u hj => by
  obtain ⟨b, o, h1, h2, h3⟩ := h j u hj
  exact ⟨b, o, h1, Nat.lt_of_lt_of_le h2 hb.size, (hb.cell (p := ⟨b, o + j, none⟩) h2).trans h3⟩
theorem add_one' (b o j : Nat) : (⟨b, o, none⟩ : Addr).add j = ⟨b, o + j, none⟩ := by
  unfold Addr.add; split
  · rename_i h; rw [h]; rfl
  · rfl
theorem Lies.sub {w : World} {ao : Option Addr} {ys : List Value} (h : Lies w ao ys) {lo hi cap : Nat} (hc : hi ≤ cap) (size : Nat) (hs : size = 1) : Lies w (if cap = lo then ao else ao.map (·.add (lo * size))) ((ys.drop lo).take (hi - lo)) := by
  subst hs
  intro j u hj
  rw [List.getElem?_take] at hj
  split at hj
  · rename_i hlt
    rw [List.getElem?_drop] at hj
    obtain ⟨b, o, rfl, h2, h3⟩ := h _ u hj
    rw [if_neg (by omega)]
    refine ⟨b, o + lo, ?_, h2, by rw [Nat.add_assoc]; exact h3⟩
    simp [add_one']
  · cases hj
section
variable {P : Program}
theorem Lies.idx {w : World} {t e : TypeId} (ht : P.underlying t = some (.slice e)) (hsz : ∀ w : World, (sizeOf e).run P w = .ok 1 w) {ao : Option Addr} {n c k : Nat} {ys : List Value} (h : Lies w ao ys) (hn : ys.length = n) {u : Value} (hk : ys[k]? = some u) :
    ∃ b p, (∀ W : World, (Instr.indexAt t (.slice ao n c) (.int .i64 k)).run P W = .ok (.pointer (some ⟨b, p, none⟩)) W) ∧ w.cell? ⟨b, p, none⟩ = some u ∧ b < w.heap.size := by
  obtain ⟨b, o, rfl, h2, h3⟩ := h k u hk
  have hlt : k < n := by rw [← hn]; exact (List.getElem?_eq_some_iff.1 hk).1
  refine ⟨b, o + k, fun W => ?_, h3, h2⟩
  simp [Instr.indexAt, asIntOf, run_underlying ht, hsz, Result.andThen, hlt, add_one']
theorem wpList_idx {w : World} {ops : Array Oper} {rest : List Oper} {o : Oper} {a : Act} {Q : Exit → Act → World → Prop} (hg : o.guard = none) (x ix : Operand) (t : TypeId) (hop : o.op = Op.indexAddr t x ix) {e : TypeId}
    (ht : P.underlying t = some (.slice e)) (hsz : ∀ w : World, (sizeOf e).run P w = .ok 1 w) {ao : Option Addr} {n c : Nat} (hx : a.eval x = .slice ao n c) {k : Nat} (hi : a.eval ix = .int .i64 k) {ys : List Value} (hs : Lies w ao ys) (hn : ys.length = n) {u : Value} (hk : ys[k]? = some u)
    (hK : ∀ b p, w.cell? ⟨b, p, none⟩ = some u → b < w.heap.size → wpList P ops Q rest (a.put o.dst (.pointer (some ⟨b, p, none⟩))) w) : wpList P ops Q (o :: rest) a w := by
  refine wpList_plain hg fun K' hK' => ?_
  obtain ⟨b, p, hr, hc, hb⟩ := hs.idx (c := c) ht hsz hn hk
  unfold Oper.wp
  simp [execOp, hop, hx, hi, Result.andThen, hr]
  exact hK' _ _ (hK b _ hc hb)
theorem bytes_of_lies {w : World} {ao : Option Addr} {n c : Nat} {l : List UInt8} (h : Lies w ao (l.map fun b => Value.int .u8 b.toNat)) (hn : l.length = n) (src dst e : TypeId) (hs : P.underlying src = some (.slice e)) (he : P.underlying e = some (.int .u8)) (hd : P.underlying dst = some .string) :
    (convert src dst (.slice ao n c)).run P w = .ok (.string ⟨l.toArray⟩) w := by
  rw [run_convert_bytes_string w src dst e ao n c hs he hd]
  have hfold : ∀ (l : List UInt8) (s : ByteArray), (l.map fun b => (b.toNat : Int)).foldl (fun r n => r.push (UInt8.ofNat n.toNat)) s = ⟨s.data ++ l.toArray⟩ := by
    intro l
    induction l with
    | nil => intro s; simp
    | cons b l ih =>
      intro s
      rw [List.map_cons, List.foldl_cons, ih]
      simp [ByteArray.push]
  cases ao with
  | none =>
    have hl : l = [] := by
      cases l with
      | nil => rfl
      | cons b l => obtain ⟨_, _, h1, _⟩ := h 0 _ rfl; cases h1
    subst hl
    subst hn
    simp [Conv.bytesToString]
    rfl
  | some a =>
    have hload : (loadCells a n).run P w = .ok ((l.map fun b => (b.toNat : Int)).map (Value.int .u8)).toArray w := by
      have := run_firstCells_some (P := P) w 1 n a n c (l.map fun b => Value.int .u8 b.toNat) (by simp [hn]) (fun j u hj => by
        obtain ⟨b, o, h1, h2, h3⟩ := h j u hj
        obtain rfl : a = ⟨b, o, none⟩ := by simpa using h1
        rw [add_one']; exact h3)
      simp [Builtin.firstCells] at this
      simpa [Function.comp_def] using this
    rw [run_bytesToString w a n c _ hload, hfold]
    simp [ByteArray.empty, ByteArray.emptyWithCapacity]
    rfl
end

/-- A slice of the call's own: elements of one cell each. -/
def Asrt.row (e : TypeId) (v : Value) (xs : List Value) : Asrt where
  holds w S := w.ownsRow 0 e 1 v xs.length xs ∧ ∀ b, S b ↔ v.ownBlock = some b
  lt := by
    rintro w S ⟨h1, h2⟩ b hb
    exact (h1.lt b ((h2 b).1 hb)).2
  loc := by
    rintro w w' S ⟨h1, h2⟩ h
    refine ⟨⟨h1.1, ?_⟩, h2⟩
    rcases h1.2 with hn | ⟨g, cap, cur, rfl, hb, hg, rest⟩
    · exact .inl hn
    · exact .inr ⟨g, cap, cur, rfl, hb, (h g ((h2 g).2 rfl)).trans hg, rest⟩
section
variable {B : Nat} {l : List Asrt} {w : World} {e : TypeId} {v : Value} {xs : List Value}
theorem Owns.rowE (h : Owns B (Asrt.row e v xs :: l) w) : ∃ ao cap, v = .slice ao xs.length cap ∧ xs.length ≤ cap ∧ Lies w ao xs ∧ (ao = none → v = .slice none 0 0) ∧ (∀ a, ao = some a → ∃ g, a = ⟨g, 0, none⟩ ∧ B ≤ g ∧ g < w.heap.size ∧ ∃ cur, w.heap[g]? = some (.cells cur e (0, 0)) ∧ cur.size = cap) := by
  obtain ⟨S, ⟨h1, h2⟩, h3⟩ := h.head
  rcases h1.2 with ⟨rfl, hn⟩ | ⟨g, cap, cur, rfl, hb, hg, hnc, hcm, hcs, htake⟩
  · have hx : xs = [] := List.eq_nil_of_length_eq_zero hn
    subst hx
    exact ⟨none, 0, rfl, Nat.le_refl _, Lies.nil _ _, fun _ => rfl, fun a ha => by cases ha⟩
  · have hc := h1.cells (g := g) rfl
    have hlt := (Array.getElem?_eq_some_iff.1 hg).1
    refine ⟨_, cap, rfl, hnc, fun j u hj => ⟨g, 0, rfl, hlt, (by have := hc j u hj; rw [add_one'] at this; exact this)⟩, (fun hh => nomatch hh), fun a ha => ?_⟩
    obtain rfl : (⟨g, 0, none⟩ : Addr) = a := by simpa using ha
    exact ⟨g, rfl, h3 g ((h2 g).2 rfl), hlt, cur, hg, by simpa using hcs⟩
theorem Owns.rowLies {ao : Option Addr} {n c : Nat} (h : Owns B (Asrt.row e (.slice ao n c) xs :: l) w) : Lies w ao xs ∧ xs.length = n ∧ n ≤ c := by
  obtain ⟨ao', cap, hv, h1, h2, _⟩ := h.rowE
  injection hv with e1 e2 e3
  subst e1; subst e2; subst e3
  exact ⟨h2, rfl, h1⟩
theorem Owns.rowNil (h : Owns B l w) : Owns B (Asrt.row e (.slice none 0 0) [] :: l) w := by
  obtain ⟨S, h1, h2⟩ := h
  exact Owns.cons_iff.2 ⟨fun _ => False, S, ⟨World.ownsRow_nil w 0 e 1, fun b => ⟨fun h => h.elim, fun h => by simp [Value.ownBlock] at h⟩⟩, h1, fun _ h => h.elim, fun _ h => h.elim, h2⟩
theorem Owns.rowOfCells {b n : Nat} (h : Owns B (Asrt.cells b xs.toArray e :: l) w) (hn : xs.length = n) (hm : n ≤ maxLen) : Owns B (Asrt.row e (.slice (some ⟨b, 0, none⟩) n n) xs :: l) w := by
  subst hn
  refine h.imp ?_
  rintro S ⟨h1, h2⟩
  refine ⟨⟨by simp, .inr ⟨b, xs.length, xs.toArray, rfl, Nat.zero_le _, h1, Nat.le_refl _, hm, by simp, by simp⟩⟩, fun x => ?_⟩
  rw [h2 x]
  simp [Value.ownBlock, eq_comm]
theorem Owns.cellsLies {b : Nat} {T : TypeId} (h : Owns B (Asrt.cells b xs.toArray T :: l) w) : Lies w (some ⟨b, 0, none⟩) xs := fun j u hj => by
  obtain ⟨h1, h2, h3⟩ := h.cellsE
  refine ⟨b, 0, rfl, h3, ?_⟩
  rw [cell_of h1]
  simpa using hj
theorem step_grown {v' : Value} {xs' : List Value} {w' : World} (h : w'.ownsRow 0 e 1 v' xs'.length xs') (hg : w.grownBy w' v.ownBlock) (ha : v'.ownBlock = v.ownBlock ∨ v'.ownBlock = some w.heap.size) : ∀ S, (Asrt.row e v xs).holds w S → Step S (Asrt.row e v' xs') w w' := by
  rintro S ⟨h1, h2⟩
  refine ⟨fun b => v'.ownBlock = some b, ⟨h, fun _ => Iff.rfl⟩, ?_, ⟨hg.os, hg.tape, hg.output, hg.size, fun b hb hS => hg.block b hb (fun e => hS ((h2 b).2 e.symm))⟩⟩
  intro b hb
  rcases ha with ha | ha
  · exact .inl ((h2 b).2 (ha ▸ hb))
  · rw [hb] at ha
    injection ha with ha
    exact .inr (Nat.le_of_eq ha.symm)
theorem Owns.append {P : Program} {t : TypeId} {z : Value} {bytes : Nat} (ht : P.underlying t = some (.slice e)) (hi : (P.info? e).map (fun i => (i.zero, i.size, i.bytes)) = some (some z, 1, bytes)) (hz : z.cells.size = 1) (ty : TypeId)
    (h : Owns B (Asrt.row e v xs :: l) w) (hB : B ≤ w.heap.size) {ao : Option Addr} {m c : Nat} {ys : List Value} (hy : Lies w ao ys) (hm : ys.length = m) (h1 : ∀ u ∈ ys, u.oneCell' = true) (h63 : xs.length + m ≤ maxLen) (hby : (xs.length + m) * bytes ≤ 140737488355328) :
    ∃ ao' c' w', (Builtin.append_ #[t, t] ty #[v, .slice ao m c]).run P w = .ok (.slice ao' (xs.length + m) c') w' ∧ Owns B (Asrt.row e (.slice ao' (xs.length + m) c') (xs ++ ys) :: l) w' ∧ Below B w w' := by
  obtain ⟨i, hi1, hi2, hi3, hi4⟩ := info_parts hi
  have key : ∃ v' w', (Builtin.append_ #[t, t] ty #[v, .slice ao m c]).run P w = .ok v' w' ∧ Owns B (Asrt.row e v' (xs ++ ys) :: l) w' ∧ Below B w w' := by
    cases ys with
    | nil =>
      obtain rfl : m = 0 := by simpa using hm.symm
      obtain ⟨ao', cap, rfl, hle, _⟩ := h.rowE
      refine ⟨_, w, ?_, by rw [List.append_nil]; exact h, Below.refl _ _⟩
      refine run_append_nothing w t t ty e i ht hi1 ao' xs.length cap hle _ ?_
      cases ao with
      | none => exact Src.ofNil w ht c
      | some a => exact Src.ofSlice w ht a 0 c [] (by simp) (by simp) (by simp)
    | cons y ys =>
      obtain ⟨b, o, rfl, hb, _⟩ := hy 0 y rfl
      obtain ⟨S, ⟨hown, _⟩, _⟩ := h.head
      obtain ⟨v', w', hr, h2, h3, _, h5⟩ := run_append_own_at (P := P) w 0 t ty e i z 1 bytes ht hi1 hi2 hi3 hi4 hz (by omega) v xs.length xs hown ⟨b, o, none⟩ m c (y :: ys) (by rw [hm]; omega) (fun j u hj => by
        obtain ⟨b', o', e1, _, e3⟩ := hy j u hj
        simp only [Option.some.injEq, Addr.mk.injEq] at e1
        obtain ⟨rfl, rfl, _⟩ := e1
        rw [add_one']; exact e3) h1 h63 hby (Nat.zero_le _)
      have hlen : (xs ++ y :: ys).length = xs.length + m := by rw [List.length_append, hm]
      rw [← hlen] at h2
      exact ⟨v', w', hr, h.step hB (step_grown h2 h3 h5)⟩
  obtain ⟨v', w', hr, h2, h3⟩ := key
  obtain ⟨ao', cap, rfl, _⟩ := h2.rowE
  have hlen : (xs ++ ys).length = xs.length + m := by rw [List.length_append, hm]
  rw [hlen] at hr h2
  exact ⟨ao', cap, w', hr, h2, h3⟩
theorem wpList_appendRow {P : Program} {ops : Array Oper} {rest : List Oper} {o : Oper} {a : Act} {Q : Exit → Act → World → Prop} (hgd : o.guard = none) (s x : Operand) (t : TypeId)
    (ho : o.op = .call { callee := .builtin .append, args := #[s, x], argTypes := #[t, t] }) {z : Value} {bytes : Nat} (ht : P.underlying t = some (.slice e)) (hi : (P.info? e).map (fun i => (i.zero, i.size, i.bytes)) = some (some z, 1, bytes)) (hz : z.cells.size = 1)
    (hs : a.eval s = v) {ao : Option Addr} {m c : Nat} (hx : a.eval x = .slice ao m c) {ys : List Value}
    (h : Owns B (Asrt.row e v xs :: l) w) (hB : B ≤ w.heap.size) (hy : Lies w ao ys) (hm : ys.length = m) (h1 : ∀ u ∈ ys, u.oneCell' = true) (h63 : xs.length + m ≤ maxLen) (hby : (xs.length + m) * bytes ≤ 140737488355328) {N : Nat} (hN : xs.length + m = N)
    (hK : ∀ ao' c' w', Owns B (Asrt.row e (.slice ao' N c') (xs ++ ys) :: l) w' → Below B w w' → wpList P ops Q rest (a.put o.dst (.slice ao' N c')) w') : wpList P ops Q (o :: rest) a w := by
  subst hN
  refine wpList_plain hgd fun K hK' => ?_
  obtain ⟨ao', c', w', hr, h2, h3⟩ := Owns.append ht hi hz o.type h hB (c := c) hy hm h1 h63 hby
  unfold Oper.wp execOp
  simp only [ho, resolve, invoke, builtin, Sem.run_bind, Sem.run_pure, Result.andThen_ok, List.map_toArray, List.map_cons, List.map_nil, hs, hx, hr]
  exact hK' _ _ (hK ao' c' w' h2 h3)
theorem wpList_makeRow {P : Program} {ops : Array Oper} {rest : List Oper} {o : Oper} {a : Act} {Q : Exit → Act → World → Prop} (hg : o.guard = none) (lo co : Operand) (t : TypeId) (hop : o.op = Op.makeSlice t lo co)
    {z : Value} {bytes : Nat} (ht : P.underlying t = some (.slice e)) (hi : (P.info? e).map (fun i => (i.zero, i.size, i.bytes)) = some (some z, 1, bytes))
    {kl kc : IntKind} {C : Int} {n : Nat} (hl : a.eval lo = .int kl 0) (hc : a.eval co = .int kc C) (hC : C = (n : Int)) (b2 : bytes * n ≤ 281474976710656) (b3 : n ≤ maxLen) (h : Owns B l w) (hB : B ≤ w.heap.size)
    (hK : ∀ ao w', Owns B (Asrt.row e (.slice ao 0 n) [] :: l) w' → Below B w w' → wpList P ops Q rest (a.put o.dst (.slice ao 0 n)) w') : wpList P ops Q (o :: rest) a w := by
  obtain ⟨i, hi1, hi2, hi3, hi4⟩ := info_parts hi
  refine wpList_make_own w hg lo co t hop 0 e i z 1 ht hi1 hi2 hi3 kl kc C n hl hc hC (by rw [hi4]; exact b2) b3 (Nat.zero_le _) ?_
  intro w' hown hgrow
  have hb : Below w.heap.size w w' := ⟨hgrow.os, hgrow.tape, hgrow.output, hgrow.size, fun k hk => hgrow.block k hk (by simp)⟩
  refine hK _ w' (h.new hB (S := (· = w.heap.size)) ⟨hown, fun b => by simp [Value.ownBlock, eq_comm]⟩ (fun b hb => Nat.le_of_eq hb.symm) hb) (hb.mono hB)
end
end Go.Cic
