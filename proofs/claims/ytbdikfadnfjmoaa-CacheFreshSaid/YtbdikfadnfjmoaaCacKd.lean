/- Kinds of values (the print's words) and rows of one's own: from the one to the other; how arguments read. -/
import Derived.Test.YtbdikfadnfjmoaaWWords
import Derived.Test.YtbdikfadnfjmoaaWShare
import Derived.Test.YtbdikfadnfjmoaaWMore
import Derived.Test.YtbdikfadnfjmoaaCicLib
import Derived.DataElems
namespace Go.Proofs.Cac
open Go.RowKit Go.Cic Go.ChangeMaps Go.ChangeShapes Go.Proofs.YtbdikfadnfjmoaaW.PrintWords
set_option linter.unusedVariables false
theorem spot_of {w : World} {q : Addr} (hq : (w.cell? q).isSome) : q.spot = none ∧ q.block < w.heap.size := by
  unfold World.cell? at hq
  split at hq
  · rename_i h6
    refine ⟨?_, (Array.getElem?_eq_some_iff.1 h6).1⟩
    cases hs : q.spot with
    | none => rfl
    | some _ => rw [hs] at hq; simp at hq
  · simp at hq
theorem lies_of_C {w : World} {A : Option Addr} {n : Nat} {xs : List ByteArray} (h : Kd.string.C w A n xs) : Lies w A (xs.map Value.string) := fun j u hj => by
  rw [List.getElem?_map] at hj
  cases hx : xs[j]? with
  | none => rw [hx] at hj; cases hj
  | some x =>
    rw [hx] at hj
    simp only [Option.map_some, Option.some.injEq] at hj
    subst hj
    have hl := (List.getElem?_eq_some_iff.1 hx).1
    obtain ⟨ad, rfl, hc⟩ := h.2.2 (by have := h.1; omega)
    obtain ⟨c, _, hk, hcc⟩ := hc j x hx
    have hk' : c = [Value.string x] := hk
    subst hk'
    have h1 := hcc 0 _ rfl
    obtain ⟨c0, _, hk0, hcc0⟩ := hc 0 (xs[0]'(by omega)) (List.getElem?_eq_getElem (by omega))
    have hk0' : c0 = [Value.string (xs[0]'(by omega))] := hk0
    rw [hk0'] at hcc0
    have h0 := hcc0 0 _ rfl
    obtain ⟨hs, hb⟩ := spot_of (w := w) (q := ad) (by
      have e : ad.add (0 * Kd.string.sz + 0) = ad := by simp [Addr.add]
      rw [e] at h0; rw [h0]; rfl)
    obtain ⟨b, o, sp⟩ := ad
    simp only at hs hb
    subst hs
    refine ⟨b, o, rfl, hb, ?_⟩
    rw [add_one'] at h1
    have e : o + (j * Kd.string.sz + 0) = o + j := by show o + (j * 1 + 0) = o + j; omega
    rwa [e] at h1
theorem C_of_lies {w : World} {A : Option Addr} {n : Nat} {xs : List ByteArray} (h : Lies w A (xs.map Value.string)) (hn : xs.length = n) (hm : n ≤ 9223372036854775807) : Kd.string.C w A n xs := by
  refine ⟨hn, hm, fun hp => ?_⟩
  have h0 : (xs.map Value.string)[0]? = some (.string (xs[0]'(by omega))) := by rw [List.getElem?_map, List.getElem?_eq_getElem (by omega)]; rfl
  obtain ⟨b, o, rfl, hb, _⟩ := h 0 _ h0
  refine ⟨_, rfl, fun j p hj => ⟨[.string p], rfl, rfl, fun i u hi => ?_⟩⟩
  have h1 : (xs.map Value.string)[j]? = some (.string p) := by rw [List.getElem?_map, hj]; rfl
  obtain ⟨b', o', e1, _, h2⟩ := h j _ h1
  injection e1 with e1
  cases e1
  cases i with
  | zero =>
    simp only [List.getElem?_cons_zero, Option.some.injEq] at hi
    subst hi
    rw [add_one']
    have e : o + (j * Kd.string.sz + 0) = o + j := by show o + (j * 1 + 0) = o + j; omega
    rw [e]; exact h2
  | succ i => simp at hi
theorem R_of_row {B e : Nat} {w : World} {v : Value} {xs : List ByteArray} {S : Nat → Prop} (h : (Asrt.row e v (xs.map Value.string)).holds w S) (hB : ∀ b, S b → B ≤ b) : Kd.string.R e w B (fun k => v.ownBlock = some k) v xs := by
  obtain ⟨h1, h2⟩ := h
  rw [List.length_map] at h1
  refine ⟨fun k hk => hk, xs.map Value.string, ⟨h1.1, ?_⟩, ⟨by simp [Kd.string, Kd.scalar], fun j p hj => ?_⟩⟩
  · rcases h1.2 with hn | ⟨g, cap, cur, rfl, hb, r⟩
    · exact .inl hn
    · exact .inr ⟨g, cap, cur, rfl, hB g ((h2 g).2 rfl), r⟩
  · show ((xs.map Value.string).drop (j * 1)).take 1 = [Value.string p]
    have hl := (List.getElem?_eq_some_iff.1 hj).1
    rw [Nat.mul_one, List.drop_eq_getElem_cons (by simpa using hl)]
    simp only [List.take_succ_cons, List.take_zero, List.getElem_map, (List.getElem?_eq_some_iff.1 hj).2]
theorem row_of_R {base e : Nat} {w : World} {v : Value} {xs : List ByteArray} {ok : Nat → Prop} (h : Kd.string.R e w base ok v xs) : (Asrt.row e v (xs.map Value.string)).holds w (fun b => v.ownBlock = some b) ∧ ∀ b, v.ownBlock = some b → ok b ∧ base ≤ b := by
  obtain ⟨h0, inner, ho, hr⟩ := h
  have hin : inner = xs.map Value.string := by
    have hl : inner.length = xs.length := by have := hr.1; simpa [Kd.string, Kd.scalar] using this
    apply List.ext_getElem (by simpa using hl)
    intro j h1 h2
    have hx : j < xs.length := by omega
    have h3 : (inner.drop (j * 1)).take 1 = [Value.string xs[j]] := hr.2 j xs[j] (List.getElem?_eq_getElem hx)
    rw [Nat.mul_one, List.drop_eq_getElem_cons h1] at h3
    simp only [List.take_succ_cons, List.take_zero, List.cons.injEq, and_true] at h3
    rw [h3, List.getElem_map]
  subst hin
  refine ⟨⟨?_, fun b => Iff.rfl⟩, fun b hb => ⟨h0 b hb, own_base ho b hb⟩⟩
  rw [List.length_map]
  exact own_weaken ho (Nat.zero_le _)
theorem C_nil' {α : Type} (d : Kd α) (w : World) (A : Option Addr) : d.C w A ([] : List α).length [] := ⟨rfl, by simp, fun h => by simp at h⟩
/-- An element of a row: its address, its cells. -/
theorem C_at {P : Program} {α : Type} {d : Kd α} {t e : TypeId} (ht : P.underlying t = some (.slice e)) (hsz : ∀ w : World, (sizeOf e).run P w = .ok d.sz w) (h0 : 0 < d.sz) {w : World} {A : Option Addr} {n c k : Nat} {xs : List α} (h : d.C w A n xs) {x : α} (hk : xs[k]? = some x) :
    ∃ b o cs, (∀ W : World, (Instr.indexAt t (.slice A n c) (.int .i64 k)).run P W = .ok (.pointer (some ⟨b, o, none⟩)) W) ∧ d.K w x cs ∧ (∀ j u, cs[j]? = some u → w.cell? ⟨b, o + j, none⟩ = some u) ∧ b < w.heap.size := by
  have hl := (List.getElem?_eq_some_iff.1 hk).1
  have hlt : k < n := by have := h.1; omega
  obtain ⟨ad, rfl, hc⟩ := h.2.2 (by omega)
  obtain ⟨cs, hcl, hK, hcc⟩ := hc k x hk
  obtain ⟨cs0, hcl0, _, hcc0⟩ := hc 0 (xs[0]'(by omega)) (List.getElem?_eq_getElem (by omega))
  have h1 := hcc0 0 _ (List.getElem?_eq_getElem (by omega))
  obtain ⟨hs, hb⟩ := spot_of (w := w) (q := ad) (by
    have e : ad.add (0 * d.sz + 0) = ad := by simp [Addr.add]
    rw [e] at h1; rw [h1]; rfl)
  obtain ⟨b, o, sp⟩ := ad
  simp only at hs hb
  subst hs
  refine ⟨b, o + k * d.sz, cs, fun W => ?_, hK, fun j u hj => ?_, hb⟩
  · simp [Instr.indexAt, asIntOf, run_underlying ht, hsz, Result.andThen, hlt, add_one']
  · have := hcc j u hj
    rw [add_one'] at this
    rwa [Nat.add_assoc]
section
variable {P : Program} {α β : Type} {t e : TypeId}
/-- How an argument's cells read as such a kind. -/
structure RdK (P : Program) (t : TypeId) (d : Kd α) (ok : α → Prop) : Prop where
  size : P.cellsOf t = d.sz
  opens : ∀ {H : Type} {enc : TypeId × Value → H} {w : World} {base : Nat} {spare : Nat → Bool} {held : Bool} {fuel : Nat} {cs : List Value} {x : DataW H × List MemPlace}, DataW.trod enc P w base spare held fuel t cs = some x → ∃ a, Kd.FK d w (fun k => k < w.heap.size) a cs ∧ ok a
theorem RdK.int (k : IntKind) (ht : P.underlying t = some (.int k)) (hs : P.cellsOf t = 1) : RdK P t (Kd.int k) (fun a => (Lit.int k a).wf = true) :=
  ⟨hs, fun h => by obtain ⟨a, rfl, _, hw⟩ := DataW.trod_int ht h; exact ⟨a, fun _ _ => rfl, hw⟩⟩
theorem RdK.bool (ht : P.underlying t = some .bool) (hs : P.cellsOf t = 1) : RdK P t Kd.bool (fun _ => True) :=
  ⟨hs, fun h => by obtain ⟨a, rfl, _⟩ := DataW.trod_bool ht h; exact ⟨a, fun _ _ => rfl, trivial⟩⟩
theorem RdK.string (ht : P.underlying t = some .string) (hs : P.cellsOf t = 1) : RdK P t Kd.string (fun a => a.size ≤ maxLen) :=
  ⟨hs, fun h => by obtain ⟨a, rfl, _, hw⟩ := DataW.trod_string ht h; exact ⟨a, fun _ _ => rfl, hw⟩⟩
theorem RdK.row {d : Kd α} {ok : α → Prop} (r : RdK P e d ok) (hn : 0 < d.sz) (ht : P.underlying t = some (.slice e)) {H : Type} {enc : TypeId × Value → H} {w : World} {base : Nat} {spare : Nat → Bool} {held : Bool} {fuel : Nat} {cs : List Value} {x : DataW H × List MemPlace}
    (h : DataW.trod enc P w base spare held fuel t cs = some x) : ∃ A c, ∃ L : List α, cs = [.slice A L.length c] ∧ L.length ≤ c ∧ c ≤ maxLen ∧ Kd.F d w (fun k => k < w.heap.size) A L.length L ∧ ∀ a ∈ L, ok a := by
  rcases Go.Deep.open_slice ht h with ⟨h1, _⟩ | ⟨a, len, cap, m, n, D, Pl, h1, hb, hl, hm, hmm, _, hx⟩
  · exact ⟨none, 0, [], h1, Nat.le_refl _, Nat.zero_le _, Kd.F_nil d w _, by simp⟩
  have hlm : len ≤ m := by rw [hmm]; split <;> omega
  have key : ∀ i, i < len → ∃ y cs', cs'.length = d.sz ∧ Kd.FK d w (fun k => k < w.heap.size) y cs' ∧ ok y ∧ ∀ j u, cs'[j]? = some u → w.cell? (a.add (i * d.sz + j)) = some u := by
    intro i hi
    obtain ⟨cs', h2, h3⟩ := hx i (by omega)
    rw [r.size] at h2
    obtain ⟨_, hlen, hc⟩ := World.cells?_some h2
    obtain ⟨y, hy, hok⟩ := r.opens h3
    refine ⟨y, cs', hlen, hy, hok, fun j u hj => ?_⟩
    have hjl : j < d.sz := by have := (List.getElem?_eq_some_iff.1 hj).1; omega
    rw [← Addr.add_add, hc j hjl, hj]
  have hL : ∀ n, n ≤ len → ∃ L : List α, L.length = n ∧ (∀ y ∈ L, ok y) ∧ ∀ i y, L[i]? = some y → ∃ cs', cs'.length = d.sz ∧ Kd.FK d w (fun k => k < w.heap.size) y cs' ∧ ∀ j u, cs'[j]? = some u → w.cell? (a.add (i * d.sz + j)) = some u := by
    intro n
    induction n with
    | zero => intro _; exact ⟨[], rfl, by simp, by simp⟩
    | succ n ih =>
      intro hn
      obtain ⟨L, l1, l2, l3⟩ := ih (by omega)
      obtain ⟨y, cs', k1, k2, k3, k4⟩ := key n (by omega)
      refine ⟨L ++ [y], by simp [l1], ?_, ?_⟩
      · intro z hz
        rcases List.mem_append.1 hz with hz | hz
        · exact l2 z hz
        · simp at hz; subst hz; exact k3
      · intro i z hz
        rcases Nat.lt_or_ge i L.length with hi | hi
        · rw [List.getElem?_append_left hi] at hz
          exact l3 i z hz
        · rw [List.getElem?_append_right hi] at hz
          have : i - L.length = 0 := by
            rcases Nat.eq_zero_or_pos (i - L.length) with h | h
            · exact h
            · rw [List.getElem?_eq_none (by simp; omega)] at hz; cases hz
          rw [this] at hz
          simp at hz
          subst hz
          have : i = n := by omega
          subst this
          exact ⟨cs', k1, k2, k4⟩
  obtain ⟨L, l1, l2, l3⟩ := hL len (Nat.le_refl _)
  subst l1
  refine ⟨some a, cap, L, h1, hl, hm, fun W' hW => ⟨rfl, by unfold maxLen at hm; omega, fun hp => ⟨a, rfl, fun j y hj => ?_⟩⟩, l2⟩
  obtain ⟨cs', k1, k2, k3⟩ := l3 j y hj
  refine ⟨cs', k1, k2 W' hW, fun i u hi => ?_⟩
  have hold := k3 i u hi
  have hbl := (spot_of (w := w) (q := a.add (j * d.sz + i)) (by rw [hold]; rfl)).2
  exact (World.cell?_of_block (w := w) (hW _ hbl hbl)).trans hold
theorem RdK.slice {d : Kd α} {ok : α → Prop} (r : RdK P e d ok) (hn : 0 < d.sz) (ht : P.underlying t = some (.slice e)) (hs : P.cellsOf t = 1) : RdK P t (Kd.slice e d) (fun L => L.length ≤ maxLen ∧ ∀ a ∈ L, ok a) :=
  ⟨hs, fun h => by
    obtain ⟨A, c, L, rfl, h1, h2, h3, h4⟩ := r.row hn ht h
    exact ⟨L, fun W' hW => ⟨A, c, rfl, h1, h3 W' hW⟩, Nat.le_trans h1 h2, h4⟩⟩
theorem RdK.iso {d : Kd α} {ok : α → Prop} (r : RdK P t d ok) (f : β → α) (g : α → β) (hfg : ∀ a, f (g a) = a) : RdK P t (Kd.iso d f) (fun b => ok (f b)) :=
  ⟨r.size, fun h => by
    obtain ⟨a, h1, h2⟩ := r.opens h
    exact ⟨g a, by show Kd.FK d _ _ (f (g a)) _; rw [hfg]; exact h1, by rw [hfg]; exact h2⟩⟩
/-- Fields from an offset on. -/
structure FRdK (P : Program) (fs : List Field) (off : Nat) (d : Kd α) (ok : α → Prop) : Prop where
  opens : ∀ {H : Type} {enc : TypeId × Value → H} {w : World} {base : Nat} {spare : Nat → Bool} {held : Bool} {fuel : Nat} {cs : List Value}, cs.length = off + d.sz →
    (∀ (i : Nat) (f : Field), fs[i]? = some f → ∃ y, DataW.trod enc P w base spare held fuel f.type ((cs.drop f.offset).take (P.cellsOf f.type)) = some y) → ∃ a, Kd.FK d w (fun k => k < w.heap.size) a (cs.drop off) ∧ ok a
theorem FRdK.last {f : Field} {off : Nat} {d : Kd α} {ok : α → Prop} (r : RdK P f.type d ok) (ho : f.offset = off) : FRdK P [f] off d ok :=
  ⟨fun {H enc w base spare held fuel cs} hl h => by
    obtain ⟨y, hy⟩ := h 0 f rfl
    rw [ho, r.size] at hy
    have : (cs.drop off).take d.sz = cs.drop off := List.take_of_length_le (by simp; omega)
    rw [this] at hy
    exact r.opens hy⟩
theorem FRdK.cons {f : Field} {fs : List Field} {off : Nat} {d : Kd α} {d2 : Kd β} {ok : α → Prop} {ok2 : β → Prop} (r : RdK P f.type d ok) (ho : f.offset = off) (R : FRdK P fs (off + d.sz) d2 ok2) : FRdK P (f :: fs) off (Kd.pair d d2) (fun a => ok a.1 ∧ ok2 a.2) :=
  ⟨fun {H enc w base spare held fuel cs} hl h => by
    have hl' : cs.length = off + (d.sz + d2.sz) := hl
    obtain ⟨y, hy⟩ := h 0 f rfl
    rw [ho, r.size] at hy
    obtain ⟨a, ha, hao⟩ := r.opens hy
    obtain ⟨b, hb, hbo⟩ := R.opens (enc := enc) (w := w) (base := base) (spare := spare) (held := held) (fuel := fuel) (cs := cs) (by omega) (fun i g hg => h (i + 1) g (by simpa using hg))
    refine ⟨(a, b), fun W' hW => ⟨_, _, ?_, ha W' hW, hb W' hW⟩, hao, hbo⟩
    rw [← List.drop_drop, List.take_append_drop]⟩
theorem RdK.struct {fs : Array Field} {d : Kd α} {ok : α → Prop} (ht : P.underlying t = some (.struct fs)) (F : FRdK P fs.toList 0 d ok) (hs : P.cellsOf t = d.sz) : RdK P t d ok :=
  ⟨hs, fun {H enc w base spare held fuel cs x} h => by
    obtain ⟨xs, n, _, _, hl, hlen, hf⟩ := DataW.trod_struct ht h
    have := F.opens (enc := enc) (w := w) (base := base) (spare := spare) (held := held) (fuel := n) (cs := cs) (by omega) (fun i f hf2 => by
      have h2 := hf i f (by simpa using hf2)
      have hi : i < xs.length := by
        rw [hlen]
        have := (List.getElem?_eq_some_iff.1 hf2).1
        simpa using this
      exact ⟨xs[i], by rw [h2, List.getElem?_eq_getElem hi]⟩)
    simpa using this⟩
/-- A slice that is an argument. -/
theorem RdK.arg {d : Kd α} {ok : α → Prop} (r : RdK P e d ok) (hn : 0 < d.sz) (ht : P.underlying t = some (.slice e)) {H : Type} {enc : TypeId × Value → H} {w : World} {base : Nat} {spare : Nat → Bool} {held : Bool} {a : Option Addr} {len cap : Nat} {D : DataW H} {ps : List MemPlace}
    (h : DataW.Trod enc P w base spare held t (.slice a len cap) D ps) : ∃ L : List α, L.length = len ∧ len ≤ cap ∧ cap ≤ maxLen ∧ Kd.F d w (fun k => k < w.heap.size) a L.length L ∧ ∀ x ∈ L, ok x := by
  obtain ⟨fuel, hf⟩ := h
  obtain ⟨A, c, L, h1, h2, h3, h4, h5⟩ := r.row hn ht hf
  simp [Value.cells] at h1
  obtain ⟨rfl, rfl, rfl⟩ := h1
  exact ⟨L, rfl, h2, h3, h4, h5⟩
end
end Go.Proofs.Cac
