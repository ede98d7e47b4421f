/- Arguments that are slices of plain data (numbers, bools, strings, structs of these): how they lie in memory. Own library text. -/
import Derived.Test.YtfolnnmgnkalkaaCicSep
import Derived.Deep.Slices
import Derived.OpenShut
namespace Go.Cic
set_option linter.unusedVariables false
open Go.RowKit Go.ChangeShapes

/-- A type's plain values, as cells. -/
structure Rd (P : Program) (t : TypeId) (α : Type) where
  n : Nat
  cells : α → List Value
  ok : α → Prop
  len : ∀ a, (cells a).length = n
  size : P.cellsOf t = n
  opens : ∀ {H : Type} {enc : TypeId × Value → H} {w : World} {base : Nat} {spare : Nat → Bool} {held : Bool} {fuel : Nat} {cs : List Value} {x : DataW H × List MemPlace}, DataW.trod enc P w base spare held fuel t cs = some x → ∃ a, cs = cells a ∧ ok a
section
variable {P : Program}
def Rd.int {t : TypeId} (k : IntKind) (ht : P.underlying t = some (.int k)) (hs : P.cellsOf t = 1) : Rd P t Int :=
  ⟨1, fun a => [.int k a], fun a => (Lit.int k a).wf = true, fun _ => rfl, hs, fun h => by obtain ⟨a, rfl, _, hw⟩ := DataW.trod_int ht h; exact ⟨a, rfl, hw⟩⟩
def Rd.bool {t : TypeId} (ht : P.underlying t = some .bool) (hs : P.cellsOf t = 1) : Rd P t Bool :=
  ⟨1, fun a => [.bool a], fun _ => True, fun _ => rfl, hs, fun h => by obtain ⟨a, rfl, _⟩ := DataW.trod_bool ht h; exact ⟨a, rfl, trivial⟩⟩
def Rd.str {t : TypeId} (ht : P.underlying t = some .string) (hs : P.cellsOf t = 1) : Rd P t ByteArray :=
  ⟨1, fun a => [.string a], fun a => a.size ≤ maxLen, fun _ => rfl, hs, fun h => by obtain ⟨a, rfl, _, hw⟩ := DataW.trod_string ht h; exact ⟨a, rfl, hw⟩⟩
/-- Fields, from an offset on. -/
structure FRd (P : Program) (fs : List Field) (off : Nat) (α : Type) where
  n : Nat
  cells : α → List Value
  ok : α → Prop
  len : ∀ a, (cells a).length = n
  opens : ∀ {H : Type} {enc : TypeId × Value → H} {w : World} {base : Nat} {spare : Nat → Bool} {held : Bool} {fuel : Nat} {cs : List Value}, cs.length = off + n →
    (∀ (i : Nat) (f : Field), fs[i]? = some f → ∃ y, DataW.trod enc P w base spare held fuel f.type ((cs.drop f.offset).take (P.cellsOf f.type)) = some y) → ∃ a, cs.drop off = cells a ∧ ok a
def FRd.last {f : Field} {off : Nat} {α : Type} (r : Rd P f.type α) (ho : f.offset = off) : FRd P [f] off α :=
  ⟨r.n, r.cells, r.ok, r.len, fun {H enc w base spare held fuel cs} hl h => by
    obtain ⟨y, hy⟩ := h 0 f rfl
    rw [ho, r.size] at hy
    have : (cs.drop off).take r.n = cs.drop off := List.take_of_length_le (by simp; omega)
    rw [this] at hy
    exact r.opens hy⟩
def FRd.cons {f : Field} {fs : List Field} {off : Nat} {α β : Type} (r : Rd P f.type α) (ho : f.offset = off) (R : FRd P fs (off + r.n) β) : FRd P (f :: fs) off (α × β) :=
  ⟨r.n + R.n, fun a => r.cells a.1 ++ R.cells a.2, fun a => r.ok a.1 ∧ R.ok a.2, fun a => by rw [List.length_append, r.len, R.len], fun {H enc w base spare held fuel cs} hl h => by
    obtain ⟨y, hy⟩ := h 0 f rfl
    rw [ho, r.size] at hy
    obtain ⟨a, ha, hao⟩ := r.opens hy
    obtain ⟨b, hb, hbo⟩ := R.opens (enc := enc) (w := w) (base := base) (spare := spare) (held := held) (fuel := fuel) (cs := cs) (by omega) (fun i g hg => h (i + 1) g (by simpa using hg))
    refine ⟨(a, b), ?_, hao, hbo⟩
    show cs.drop off = r.cells a ++ R.cells b
    rw [← ha, ← hb, ← List.drop_drop, List.take_append_drop]⟩
theorem drop_add (cs : List Value) (a b : Nat) : cs.drop (a + b) = (cs.drop a).drop b := by rw [List.drop_drop]
def Rd.struct {t : TypeId} {fs : Array Field} {α : Type} (ht : P.underlying t = some (.struct fs)) (F : FRd P fs.toList 0 α) (hs : P.cellsOf t = F.n) : Rd P t α :=
  ⟨F.n, F.cells, F.ok, F.len, hs, fun {H enc w base spare held fuel cs x} h => by
    obtain ⟨xs, n, _, _, hl, hlen, hf⟩ := DataW.trod_struct ht h
    have := F.opens (enc := enc) (w := w) (base := base) (spare := spare) (held := held) (fuel := n) (cs := cs) (by omega) (fun i f hf2 => by
      have h2 := hf i f (by simpa using hf2)
      have hi : i < xs.length := by
        rw [hlen]
        have := (List.getElem?_eq_some_iff.1 hf2).1
        simpa using this
      exact ⟨xs[i], by rw [h2, List.getElem?_eq_getElem hi]⟩)
    simpa using this⟩

variable {e : TypeId} {α : Type}
/-- A slice over L lies at a. -/
def SlAt (r : Rd P e α) (w : World) (a : Option Addr) (L : List α) : Prop :=
  (∀ x ∈ L, r.ok x) ∧ ∀ (i : Nat) (x : α), L[i]? = some x → ∃ b o, a = some ⟨b, o, none⟩ ∧ b < w.heap.size ∧ ∀ j u, (r.cells x)[j]? = some u → w.cell? ⟨b, o + i * r.n + j, none⟩ = some u
theorem SlAt.below {r : Rd P e α} {w w' : World} {a : Option Addr} {L : List α} (h : SlAt r w a L) (hb : Below w.heap.size w w') : SlAt r w' a L :=
  ⟨h.1, fun i x hx => by
    obtain ⟨b, o, h1, h2, h3⟩ := h.2 i x hx
    exact ⟨b, o, h1, Nat.lt_of_lt_of_le h2 hb.size, fun j u hu => (hb.cell (p := ⟨b, o + i * r.n + j, none⟩) h2).trans (h3 j u hu)⟩⟩
/-- As an argument reads. -/
theorem SlAt.open {r : Rd P e α} (hn : 0 < r.n) {t : TypeId} (ht : P.underlying t = some (.slice e)) {H : Type} {enc : TypeId × Value → H} {w : World} {base : Nat} {spare : Nat → Bool} {held : Bool} {a : Option Addr} {len cap : Nat} {d : DataW H} {ps : List MemPlace}
    (h : DataW.Trod enc P w base spare held t (.slice a len cap) d ps) : ∃ L : List α, L.length = len ∧ len ≤ maxLen ∧ SlAt r w a L := by
  obtain ⟨fuel, hf⟩ := h
  rcases Go.Deep.open_slice ht hf with ⟨h1, _⟩ | ⟨a', len', cap', m, n, D, Pl, h1, hb, hl, hm, hmm, _, hx⟩
  · simp [Value.cells] at h1
    obtain ⟨rfl, rfl, rfl⟩ := h1
    exact ⟨[], rfl, Nat.zero_le _, by simp [SlAt]⟩
  · simp [Value.cells] at h1
    obtain ⟨rfl, rfl, rfl⟩ := h1
    have hlm : len ≤ m := by rw [hmm]; split <;> omega
    have key : ∀ i, i < len → ∃ x, r.ok x ∧ ∀ j, j < r.n → w.cell? ((a'.add (i * r.n)).add j) = (r.cells x)[j]? := by
      intro i hi
      obtain ⟨cs', h2, h3⟩ := hx i (by omega)
      rw [r.size] at h2
      obtain ⟨_, hlen, hc⟩ := World.cells?_some h2
      obtain ⟨x, rfl, hok⟩ := r.opens h3
      exact ⟨x, hok, hc⟩
    have hL : ∀ n, n ≤ len → ∃ L : List α, L.length = n ∧ (∀ x ∈ L, r.ok x) ∧ ∀ i x, L[i]? = some x → ∀ j, j < r.n → w.cell? ((a'.add (i * r.n)).add j) = (r.cells x)[j]? := by
      intro n
      induction n with
      | zero => intro _; exact ⟨[], rfl, by simp, by simp⟩
      | succ n ih =>
        intro hn
        obtain ⟨L, l1, l2, l3⟩ := ih (by omega)
        obtain ⟨x, hok, hxc⟩ := key n (by omega)
        refine ⟨L ++ [x], by simp [l1], ?_, ?_⟩
        · intro y hy
          rcases List.mem_append.1 hy with hy | hy
          · exact l2 y hy
          · simp at hy; subst hy; exact hok
        · intro i y hy
          rcases Nat.lt_or_ge i L.length with hi | hi
          · rw [List.getElem?_append_left hi] at hy
            exact l3 i y hy
          · rw [List.getElem?_append_right hi] at hy
            have : i - L.length = 0 := by
              rcases Nat.eq_zero_or_pos (i - L.length) with h | h
              · exact h
              · rw [List.getElem?_eq_none (by simp; omega)] at hy; cases hy
            rw [this] at hy
            simp at hy
            subst hy
            have : i = n := by omega
            subst this
            exact hxc
    obtain ⟨L, l1, l2, l3⟩ := hL len (Nat.le_refl _)
    refine ⟨L, l1, by omega, l2, fun i x hi => ?_⟩
    have h4 := l3 i x hi 0 hn
    have hlen := r.len x
    have h5 : ∃ v, w.cell? ((a'.add (i * r.n)).add 0) = some v := ⟨(r.cells x)[0]'(by omega), by rw [h4, List.getElem?_eq_getElem]⟩
    obtain ⟨v, hv⟩ := h5
    have hspot : ∀ q, (w.cell? q).isSome → q.spot = none ∧ q.block < w.heap.size := by
      intro q hq
      unfold World.cell? at hq
      split at hq
      · rename_i h6
        refine ⟨?_, (Array.getElem?_eq_some_iff.1 h6).1⟩
        cases hs : q.spot with
        | none => rfl
        | some _ => rw [hs] at hq; simp at hq
      · simp at hq
    obtain ⟨b, o, sp⟩ := a'
    -- the first element's cell tells that the address is no spot
    have h0 : ∃ x0, L[0]? = some x0 := by
      have := (List.getElem?_eq_some_iff.1 hi).1
      exact ⟨L[0]'(by omega), List.getElem?_eq_getElem (by omega)⟩
    obtain ⟨x0, hx0⟩ := h0
    have h7 := l3 0 x0 hx0 0 hn
    have hl0 := r.len x0
    simp only [Nat.zero_mul, Addr.add, if_true] at h7
    have h8 := hspot ⟨b, o, sp⟩ (by rw [h7, List.getElem?_eq_getElem (by omega)]; rfl)
    obtain ⟨h9, h10⟩ := h8
    simp only at h9 h10
    subst h9
    refine ⟨b, o, rfl, h10, fun j u hu => ?_⟩
    have hj : j < r.n := by have := (List.getElem?_eq_some_iff.1 hu).1; omega
    have h11 := l3 i x hi j hj
    have e1 : ((⟨b, o, none⟩ : Addr).add (i * r.n)).add j = ⟨b, o + i * r.n + j, none⟩ := by
      unfold Addr.add
      split
      · rename_i hj0
        subst hj0
        split
        · rename_i h12; rw [h12]; rfl
        · rfl
      · split
        · rename_i h12; simp only [h12]; rfl
        · rfl
    rw [e1] at h11
    rw [h11, hu]

/-- 'l[i]' of such a slice: its address, as an equation of the run. -/
theorem SlAt.idx {r : Rd P e α} {w : World} {t : TypeId} (ht : P.underlying t = some (.slice e)) (hsz : ∀ w : World, (sizeOf e).run P w = .ok r.n w) {ad : Option Addr} {len cap k : Nat} {L : List α} (hs : SlAt r w ad L) (hlen : L.length = len) {y : α} (hk : L[k]? = some y) :
    ∃ b p, (∀ W : World, (Instr.indexAt t (.slice ad len cap) (.int .i64 k)).run P W = .ok (.pointer (some ⟨b, p, none⟩)) W) ∧ (∀ j u, (r.cells y)[j]? = some u → w.cell? ⟨b, p + j, none⟩ = some u) ∧ b < w.heap.size := by
  obtain ⟨b, p, rfl, hb, hc⟩ := hs.2 k y hk
  have hlt : k < len := by rw [← hlen]; exact (List.getElem?_eq_some_iff.1 hk).1
  have e1 : (⟨b, p, none⟩ : Addr).add (k * r.n) = ⟨b, p + k * r.n, none⟩ := by
    unfold Addr.add; split
    · rename_i h; rw [h]; rfl
    · rfl
  refine ⟨b, p + k * r.n, fun W => ?_, hc, hb⟩
  simp [Instr.indexAt, asIntOf, run_underlying ht, hsz, Result.andThen, hlt, e1]
/-- 'l[i]' of such a slice: its address. -/
theorem wpList_indexSl {r : Rd P e α} {w : World} {ops : Array Oper} {rest : List Oper} {o : Oper} {a : Act} {Q : Exit → Act → World → Prop} (hg : o.guard = none) (x ix : Operand) (t : TypeId) (hop : o.op = Op.indexAddr t x ix)
    (ht : P.underlying t = some (.slice e)) (hsz : ∀ w : World, (sizeOf e).run P w = .ok r.n w) {ad : Option Addr} {len cap : Nat} (hx : a.eval x = .slice ad len cap) {k : Nat} (hi : a.eval ix = .int .i64 k) {L : List α} (hs : SlAt r w ad L) (hlen : L.length = len) {y : α} (hk : L[k]? = some y)
    (hK : ∀ b p, (∀ j u, (r.cells y)[j]? = some u → w.cell? ⟨b, p + j, none⟩ = some u) → b < w.heap.size → wpList P ops Q rest (a.put o.dst (.pointer (some ⟨b, p, none⟩))) w) : wpList P ops Q (o :: rest) a w := by
  refine wpList_plain hg fun K' hK' => ?_
  obtain ⟨b, p, rfl, hb, hc⟩ := hs.2 k y hk
  have hlt : k < len := by rw [← hlen]; exact (List.getElem?_eq_some_iff.1 hk).1
  have e1 : (⟨b, p, none⟩ : Addr).add (k * r.n) = ⟨b, p + k * r.n, none⟩ := by
    unfold Addr.add; split
    · rename_i h; rw [h]; rfl
    · rfl
  unfold Oper.wp
  simp [execOp, hop, hx, hi, Instr.indexAt, asIntOf, run_underlying ht, hsz, Result.andThen, hlt, e1]
  exact hK' _ _ (hK b _ hc hb)
end
end Go.Cic
