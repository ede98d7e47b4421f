/- Own texts, joined: CicMap, CicRange, CicOps, CicSep, CicRd, CicSum, CicRow, CicKeys. -/
import Derived.Maps.RangeRun
import Derived.Maps.Keyed
import Derived.Maps.OwnSet
import Derived.WalkKit
import Derived.Maps.Range
import Derived.Maps.RangeWalk
import Derived.Laws.Externs
import Derived.WideShapes
import Derived.Deep.Slices
import Derived.OpenShut
import Derived.Maps.AppendAt
import Derived.Deep.Upon
import Derived.OwnWalk
import Derived.WalkSpells
import Derived.Laws.BytesString
import Derived.Sort.KeysCollected
import Derived.Sort.Walk0
/- Maps in memory as lists of pairs: what a lookup, a store, 'm[k] op= v', a delete, len and a range do to them. Own library text. -/
namespace Go.Cic
set_option linter.unusedSectionVars false
set_option linter.unusedVariables false
set_option linter.unusedSimpArgs false
open Go.MapKept Go.ChangeMaps
open Go.Maps (Keyed)

/-! ### which blocks have turned -/

/-- Nothing but the blocks of S has turned; new blocks may have come. -/
structure Keeps (S : Nat → Prop) (w w' : World) : Prop where
  os : w'.os = w.os
  tape : w'.tape = w.tape
  output : w'.output = w.output
  size : w.heap.size ≤ w'.heap.size
  block : ∀ b, b < w.heap.size → ¬ S b → w'.heap[b]? = w.heap[b]?

theorem Keeps.refl (S : Nat → Prop) (w : World) : Keeps S w w := ⟨rfl, rfl, rfl, Nat.le_refl _, fun _ _ _ => rfl⟩
theorem Keeps.mono {S T : Nat → Prop} {w w' : World} (h : Keeps S w w') (hs : ∀ b, b < w.heap.size → S b → T b) : Keeps T w w' :=
  ⟨h.os, h.tape, h.output, h.size, fun b hb ht => h.block b hb (fun hS => ht (hs b hb hS))⟩
/-- Two steps; what the second one turns was of S, or was new. -/
theorem Keeps.trans {S T : Nat → Prop} {a b c : World} (h : Keeps S a b) (k : Keeps T b c) (hT : ∀ x, x < a.heap.size → T x → S x) : Keeps S a c :=
  ⟨k.os.trans h.os, k.tape.trans h.tape, k.output.trans h.output, Nat.le_trans h.size k.size, fun x hx hs =>
    (k.block x (Nat.lt_of_lt_of_le hx h.size) (fun ht => hs (hT x hx ht))).trans (h.block x hx hs)⟩
theorem Keeps.trans0 {S : Nat → Prop} {a b c : World} (h : Keeps S a b) (k : Keeps S b c) : Keeps S a c := h.trans k (fun _ _ h => h)
theorem Keeps.drew {S : Nat → Prop} {a w : World} (h : Keeps S a w) : Keeps S a w.drew := ⟨h.os, h.tape, h.output, h.size, h.block⟩
theorem Keeps.alloc {S : Nat → Prop} {a w : World} (h : Keeps S a w) (o : Obj) : Keeps S a (w.alloc o) :=
  ⟨h.os, h.tape, h.output, by have := h.size; simp; omega, fun b hb hs => by
    rw [Go.RowKit.Below.heap_alloc w o b (Nat.lt_of_lt_of_le hb h.size)]; exact h.block b hb hs⟩
theorem Keeps.setCell {S : Nat → Prop} {a w : World} (h : Keeps S a w) {p : Addr} (hp : p.block < a.heap.size → S p.block) (v : Value) : Keeps S a (w.setCell p v) :=
  ⟨h.os, h.tape, h.output, by have := h.size; simp [World.setCell]; omega, fun b hb hs => by
    rw [Go.RowKit.Below.heap_setCell w p v b (fun e => hs (e ▸ hp (e ▸ hb)))]; exact h.block b hb hs⟩
theorem setBlock_size (w : World) (b : Nat) (o : Obj) : (setBlock w b o).heap.size = w.heap.size := by simp [setBlock]
theorem setBlock_other (w : World) (b : Nat) (o : Obj) {i : Nat} (h : i ≠ b) : (setBlock w b o).heap[i]? = w.heap[i]? := by
  simp only [setBlock, Array.getElem?_setIfInBounds]
  rw [if_neg (fun e => h e.symm)]
theorem setBlock_same (w : World) (b : Nat) (o : Obj) (h : b < w.heap.size) : (setBlock w b o).heap[b]? = some o := by
  simp [setBlock, h]
theorem Keeps.setBlock {S : Nat → Prop} {a w : World} (h : Keeps S a w) {b : Nat} (hp : b < a.heap.size → S b) (o : Obj) : Keeps S a (setBlock w b o) :=
  ⟨h.os, h.tape, h.output, by have := h.size; simp [ChangeMaps.setBlock]; omega, fun i hi hs => by
    rw [setBlock_other w b o (fun e => by subst e; exact hs (hp hi))]; exact h.block i hi hs⟩
theorem Keeps.below {B : Nat} {S : Nat → Prop} {w w' : World} (h : Keeps S w w') (hB : B ≤ w.heap.size) (hS : ∀ b, S b → B ≤ b) : Go.RowKit.Below B w w' :=
  ⟨h.os, h.tape, h.output, h.size, fun b hb => h.block b (Nat.lt_of_lt_of_le hb hB) (fun hs => by have := hS b hs; omega)⟩
theorem Keeps.of_below {w w' : World} (h : Go.RowKit.Below w.heap.size w w') (S : Nat → Prop) : Keeps S w w' := ⟨h.os, h.tape, h.output, h.size, fun b hb _ => h.block b hb⟩
theorem Keeps.of_grownBy {w w' : World} {b : Nat} (h : w.grownBy w' (some b)) : Keeps (· = b) w w' :=
  ⟨h.os, h.tape, h.output, h.size, fun i hi hs => h.block i hi (fun e => hs (by injection e))⟩
theorem Keeps.of_grownBy0 {w w' : World} (h : w.grownBy w' none) (S : Nat → Prop) : Keeps S w w' :=
  ⟨h.os, h.tape, h.output, h.size, fun i hi _ => h.block i hi (by simp)⟩
theorem Keeps.cell {S : Nat → Prop} {w w' : World} (h : Keeps S w w') {p : Addr} (hp : p.block < w.heap.size) (hs : ¬ S p.block) : w'.cell? p = w.cell? p :=
  World.cell?_of_block (w := w) (h.block p.block hp hs)
theorem Keeps.frozen {S : Nat → Prop} {w w' : World} (h : Keeps S w w') {p : Addr} (hp : p.block < w.heap.size) (hs : ¬ S p.block) : w'.frozen? p = w.frozen? p :=
  World.frozen?_of_block (w := w) (h.block p.block hp hs)

/-! ### lists of pairs -/
section
variable {α β : Type} [DecidableEq α]
def AL.get : List (α × β) → α → Option β
  | [], _ => none
  | p :: r, a => if p.1 = a then some p.2 else AL.get r a
def AL.put : List (α × β) → α → β → List (α × β)
  | [], a, v => [(a, v)]
  | p :: r, a, v => if p.1 = a then (a, v) :: r else p :: AL.put r a v
def AL.del (T : List (α × β)) (a : α) : List (α × β) := T.filter (fun p => p.1 ≠ a)

theorem AL.get_none {T : List (α × β)} {a : α} (h : ∀ p ∈ T, p.1 ≠ a) : AL.get T a = none := by
  induction T with
  | nil => rfl
  | cons q r ih => simp only [AL.get]; rw [if_neg (h q (by simp))]; exact ih (fun p hp => h p (by simp [hp]))
theorem AL.get_some {T : List (α × β)} (hn : (T.map (·.1)).Nodup) {p : α × β} (hp : p ∈ T) : AL.get T p.1 = some p.2 := by
  induction T with
  | nil => cases hp
  | cons q r ih =>
    simp only [List.map_cons, List.nodup_cons] at hn
    rcases List.mem_cons.1 hp with rfl | hp'
    · simp [AL.get]
    · have : q.1 ≠ p.1 := fun e => hn.1 (e ▸ List.mem_map.2 ⟨p, hp', rfl⟩)
      simp only [AL.get]; rw [if_neg this]
      exact ih hn.2 hp'
theorem AL.get_mem {T : List (α × β)} {a : α} {v : β} (h : AL.get T a = some v) : (a, v) ∈ T := by
  induction T with
  | nil => cases h
  | cons q r ih =>
    simp only [AL.get] at h
    split at h
    · rename_i e; cases h; subst e; simp
    · exact List.mem_cons_of_mem _ (ih h)
theorem AL.get_none_iff {T : List (α × β)} {a : α} : AL.get T a = none ↔ ∀ p ∈ T, p.1 ≠ a := by
  refine ⟨fun h p hp e => ?_, AL.get_none⟩
  induction T with
  | nil => cases hp
  | cons q r ih =>
    simp only [AL.get] at h
    split at h
    · cases h
    · rename_i hq
      rcases List.mem_cons.1 hp with rfl | hp'
      · exact hq e
      · exact ih h hp'
theorem AL.put_new {T : List (α × β)} {a : α} (h : ∀ p ∈ T, p.1 ≠ a) (v : β) : AL.put T a v = T ++ [(a, v)] := by
  induction T with
  | nil => rfl
  | cons q r ih => simp only [AL.put, List.cons_append]; rw [if_neg (h q (by simp)), ih (fun p hp => h p (by simp [hp]))]
theorem AL.put_set {T : List (α × β)} (hn : (T.map (·.1)).Nodup) {j : Nat} {p : α × β} (hj : T[j]? = some p) (v : β) : AL.put T p.1 v = T.set j (p.1, v) := by
  induction T generalizing j with
  | nil => simp at hj
  | cons q r ih =>
    simp only [List.map_cons, List.nodup_cons] at hn
    cases j with
    | zero => simp at hj; subst hj; simp [AL.put]
    | succ j =>
      simp only [List.getElem?_cons_succ] at hj
      have : q.1 ≠ p.1 := fun e => hn.1 (e ▸ List.mem_map.2 ⟨p, List.mem_of_getElem? hj, rfl⟩)
      simp only [AL.put, List.set_cons_succ]; rw [if_neg this, ih hn.2 hj]
theorem AL.del_keep {T : List (α × β)} {a : α} (h : ∀ p ∈ T, p.1 ≠ a) : AL.del T a = T := by
  unfold AL.del
  exact List.filter_eq_self.2 (fun p hp => by simpa using h p hp)
theorem AL.del_erase {T : List (α × β)} (hn : (T.map (·.1)).Nodup) {j : Nat} {p : α × β} (hj : T[j]? = some p) : AL.del T p.1 = T.eraseIdx j := by
  induction T generalizing j with
  | nil => simp at hj
  | cons q r ih =>
    simp only [List.map_cons, List.nodup_cons] at hn
    cases j with
    | zero =>
      simp only [List.getElem?_cons_zero, Option.some.injEq] at hj
      subst hj
      rw [List.eraseIdx_cons_zero]
      unfold AL.del
      rw [List.filter_cons_of_neg (by simp)]
      exact AL.del_keep (fun x hx e => hn.1 (e ▸ List.mem_map.2 ⟨x, hx, rfl⟩))
    | succ j =>
      simp only [List.getElem?_cons_succ] at hj
      rw [List.eraseIdx_cons_succ, ← ih hn.2 hj]
      unfold AL.del
      rw [List.filter_cons_of_pos]
      have : q.1 ≠ p.1 := fun e => hn.1 (e ▸ List.mem_map.2 ⟨p, List.mem_of_getElem? hj, rfl⟩)
      simpa using this
theorem AL.mem_put {T : List (α × β)} {a : α} {v : β} {p : α × β} (h : p ∈ AL.put T a v) : p = (a, v) ∨ p ∈ T := by
  induction T with
  | nil => simp [AL.put] at h; exact .inl h
  | cons q r ih =>
    simp only [AL.put] at h
    split at h
    · rcases List.mem_cons.1 h with rfl | h
      · exact .inl rfl
      · exact .inr (by simp [h])
    · rcases List.mem_cons.1 h with rfl | h
      · exact .inr (by simp)
      · rcases ih h with h | h
        · exact .inl h
        · exact .inr (by simp [h])
theorem AL.get_put_same (T : List (α × β)) (a : α) (v : β) : AL.get (AL.put T a v) a = some v := by
  induction T with
  | nil => simp [AL.put, AL.get]
  | cons q r ih =>
    simp only [AL.put]
    split
    · simp [AL.get]
    · rename_i h; simp [AL.get, h, ih]
theorem AL.get_put_other (T : List (α × β)) {a b : α} (v : β) (hne : b ≠ a) : AL.get (AL.put T a v) b = AL.get T b := by
  induction T with
  | nil => simp [AL.put, AL.get, Ne.symm hne]
  | cons q r ih =>
    simp only [AL.put]
    split
    · rename_i h; subst h; simp [AL.get, Ne.symm hne]
    · simp [AL.get, ih]
theorem AL.get_del_same (T : List (α × β)) (a : α) : AL.get (AL.del T a) a = none :=
  AL.get_none (fun p hp => by simpa using (List.mem_filter.1 hp).2)
theorem AL.get_del_other (T : List (α × β)) {a b : α} (hne : b ≠ a) : AL.get (AL.del T a) b = AL.get T b := by
  induction T with
  | nil => rfl
  | cons q r ih =>
    unfold AL.del at ih ⊢
    by_cases h : q.1 = a
    · rw [List.filter_cons_of_neg (by simp [h]), ih]; simp [AL.get, h, Ne.symm hne]
    · rw [List.filter_cons_of_pos (by simpa using h)]; simp only [AL.get]; rw [ih]
theorem AL.put_map {γ : Type} (f : β → γ) (T : List (α × β)) (a : α) (v : β) : (AL.put T a v).map (fun p => (p.1, f p.2)) = AL.put (T.map (fun p => (p.1, f p.2))) a (f v) := by
  induction T with
  | nil => rfl
  | cons q r ih => simp only [AL.put, List.map_cons]; split <;> simp [ih]
theorem AL.put_keys (T : List (α × β)) (a : α) (v : β) : (AL.put T a v).map (·.1) = if a ∈ T.map (·.1) then T.map (·.1) else T.map (·.1) ++ [a] := by
  induction T with
  | nil => simp [AL.put]
  | cons q r ih =>
    simp only [AL.put]
    split
    · rename_i h; simp [h]
    · rename_i h
      simp only [List.map_cons, ih, List.mem_cons, Ne.symm h, false_or]
      split <;> simp
theorem AL.put_nodup {T : List (α × β)} (h : (T.map (·.1)).Nodup) (a : α) (v : β) : ((AL.put T a v).map (·.1)).Nodup := by
  rw [AL.put_keys]
  split
  · exact h
  · rename_i hn
    refine List.nodup_append.2 ⟨h, by simp, fun x hx y hy => ?_⟩
    simp at hy; subst hy; exact fun e => hn (e ▸ hx)
theorem AL.del_nodup {T : List (α × β)} (h : (T.map (·.1)).Nodup) (a : α) : ((AL.del T a).map (·.1)).Nodup :=
  (List.Sublist.map _ (List.filter_sublist)).nodup h
theorem AL.put_put (T : List (α × β)) (a : α) (u v : β) : AL.put (AL.put T a u) a v = AL.put T a v := by
  induction T with
  | nil => simp [AL.put]
  | cons q r ih =>
    simp only [AL.put]
    split
    · simp [AL.put]
    · rename_i h; simp [AL.put, h, ih]
theorem AL.get_map {γ : Type} (f : β → γ) (T : List (α × β)) (a : α) : AL.get (T.map (fun p => (p.1, f p.2))) a = (AL.get T a).map f := by
  induction T with
  | nil => rfl
  | cons q r ih => simp only [AL.get, List.map_cons]; split <;> simp [ih]
theorem AL.mem_put_iff {T : List (α × β)} (hn : (T.map (·.1)).Nodup) {a : α} {v : β} {p : α × β} : p ∈ AL.put T a v ↔ p = (a, v) ∨ (p ∈ T ∧ p.1 ≠ a) := by
  induction T with
  | nil => simp [AL.put]
  | cons q r ih =>
    simp only [List.map_cons, List.nodup_cons] at hn
    simp only [AL.put]
    split
    · rename_i h
      subst h
      constructor
      · intro hp
        rcases List.mem_cons.1 hp with rfl | hp
        · exact .inl rfl
        · exact .inr ⟨by simp [hp], fun e => hn.1 (e ▸ List.mem_map.2 ⟨p, hp, rfl⟩)⟩
      · rintro (rfl | ⟨hp, hne⟩)
        · simp
        · rcases List.mem_cons.1 hp with rfl | hp
          · exact absurd rfl hne
          · simp [hp]
    · rename_i h
      constructor
      · intro hp
        rcases List.mem_cons.1 hp with rfl | hp
        · exact .inr ⟨by simp, h⟩
        · rcases (ih hn.2).1 hp with rfl | ⟨h1, h2⟩
          · exact .inl rfl
          · exact .inr ⟨by simp [h1], h2⟩
      · rintro (rfl | ⟨hp, hne⟩)
        · exact List.mem_cons_of_mem _ ((ih hn.2).2 (.inl rfl))
        · rcases List.mem_cons.1 hp with rfl | hp
          · simp
          · exact List.mem_cons_of_mem _ ((ih hn.2).2 (.inr ⟨hp, hne⟩))
theorem AL.put_length_le (T : List (α × β)) (a : α) (v : β) : (AL.put T a v).length ≤ T.length + 1 := by
  induction T with
  | nil => simp [AL.put]
  | cons q r ih => simp only [AL.put]; split <;> simp; omega
end

/-! ### a map's block -/
/-- How the keys of a map are typed. -/
structure Enc (P : Program) (k : TypeId) (α : Type) where
  v : α → Value
  ok : α → Prop
  inj : ∀ a b, v a = v b → a = b
  key : ∀ a, ok a → ∃ l, keyOf P k (v a) = some l

def strEnc {P : Program} {k : TypeId} (hk : P.underlying k = some .string) : Enc P k ByteArray :=
  ⟨.string, fun s => s.size ≤ maxLen, fun a b h => by injection h, fun a h => ⟨_, WideMaps.keyOf_string_mk hk h⟩⟩
def intEnc {P : Program} {k : TypeId} {q : IntKind} (hk : P.underlying k = some (.int q)) : Enc P k Int :=
  ⟨.int q, fun a => (Lit.int q a).wf = true, fun a b h => by injection h, fun a h => ⟨_, Go.Maps.keyOf_int_mk hk h⟩⟩

variable {α β : Type} [DecidableEq α]

/-- Block b is a map that holds just these pairs, in the order in which their keys came. -/
def MapT {P : Program} {k : TypeId} (E : Enc P k α) (V : β → Value) (w : World) (b : Nat) (T : List (α × β)) : Prop :=
  ∃ es clk, w.heap[b]? = some (.map es clk) ∧ es.toList.map (fun e => (e.key, e.val)) = T.map (fun p => (E.v p.1, V p.2)) ∧ Stamped es clk ∧ ∀ p ∈ T, E.ok p.1

section
variable {P : Program} {k : TypeId} {E : Enc P k α} {V : β → Value} {w : World} {b : Nat} {T : List (α × β)}

theorem MapT.lt (h : MapT E V w b T) : b < w.heap.size := by
  obtain ⟨es, clk, hb, _⟩ := h
  exact (Array.getElem?_eq_some_iff.1 hb).1
theorem MapT.of_block {w' : World} (h : MapT E V w b T) (hb : w'.heap[b]? = w.heap[b]?) : MapT E V w' b T := by
  obtain ⟨es, clk, h1, r⟩ := h
  exact ⟨es, clk, hb.trans h1, r⟩
theorem MapT.keeps {w' : World} {S : Nat → Prop} (h : MapT E V w b T) (hk : Keeps S w w') (hs : ¬ S b) : MapT E V w' b T :=
  h.of_block (hk.block b h.lt hs)
theorem MapT.made (E : Enc P k α) (V : β → Value) (w : World) : MapT E V (w.alloc (.map #[] 0)) w.heap.size ([] : List (α × β)) :=
  ⟨#[], 0, (MapKept.heap_alloc w _).1, by simp, stamped_empty 0, by simp⟩
theorem MapT.len (h : MapT E V w b T) : ∃ es clk, w.heap[b]? = some (.map es clk) ∧ es.size = T.length := by
  obtain ⟨es, clk, hb, he, _⟩ := h
  refine ⟨es, clk, hb, ?_⟩
  have := congrArg List.length he
  simpa using this
theorem keys_of_map {es : Array MapEntry} (he : es.toList.map (fun e => (e.key, e.val)) = T.map (fun p => (E.v p.1, V p.2))) : es.toList.map (·.key) = T.map (fun p => E.v p.1) := by
  have := congrArg (List.map Prod.fst) he
  simpa [List.map_map, Function.comp_def] using this
theorem MapT.nodup (h : MapT E V w b T) : (T.map (·.1)).Nodup := by
  obtain ⟨es, clk, _, he, hs, _⟩ := h
  have h3 := hs.2.2
  rw [keys_of_map he] at h3
  have e2 : T.map (fun p => E.v p.1) = (T.map (·.1)).map E.v := by simp [List.map_map, Function.comp_def]
  rw [e2] at h3
  exact List.Pairwise.of_map E.v (fun _ _ h e => h (congrArg E.v e)) h3
theorem MapT.ok (h : MapT E V w b T) : ∀ p ∈ T, E.ok p.1 := by obtain ⟨_, _, _, _, _, h⟩ := h; exact h

/-- What looking for a key comes to. -/
theorem find_spec (K : Keyed P k) {es : Array MapEntry} (he : es.toList.map (fun e => (e.key, e.val)) = T.map (fun p => (E.v p.1, V p.2))) (hok : ∀ p ∈ T, E.ok p.1) (w : World) {a : α} (ha : E.ok a) :
    ((Instr.findKey k (E.v a) es.toList).run P w = .ok none w ∧ (∀ p ∈ T, p.1 ≠ a) ∧ ∀ e ∈ es.toList, e.key ≠ E.v a) ∨
    ∃ j e p, (Instr.findKey k (E.v a) es.toList).run P w = .ok (some (j, e.val)) w ∧ es.toList[j]? = some e ∧ e.key = E.v a ∧ T[j]? = some p ∧ p.1 = a ∧ e.val = V p.2 := by
  obtain ⟨l, hl⟩ := E.key a ha
  have hkeys : ∀ e ∈ es.toList, ∃ l, keyOf P k e.key = some l := by
    intro e hem
    have : e.key ∈ es.toList.map (·.key) := List.mem_map.2 ⟨e, hem, rfl⟩
    rw [keys_of_map he] at this
    obtain ⟨p, hp, hpe⟩ := List.mem_map.1 this
    rw [← hpe]
    exact E.key _ (hok p hp)
  rcases K.find w hl es.toList hkeys with ⟨h1, h2⟩ | ⟨j, e, h1, h2, h3⟩
  · refine .inl ⟨h1, fun p hp e => ?_, h2⟩
    have : E.v p.1 ∈ es.toList.map (·.key) := by rw [keys_of_map he]; exact List.mem_map.2 ⟨p, hp, rfl⟩
    obtain ⟨x, hx, hxe⟩ := List.mem_map.1 this
    exact h2 x hx (by rw [hxe, e])
  · have hj : (es.toList.map (fun e => (e.key, e.val)))[j]? = some (e.key, e.val) := by rw [List.getElem?_map, h2]; rfl
    rw [he, List.getElem?_map] at hj
    cases hT : T[j]? with
    | none => rw [hT] at hj; cases hj
    | some p =>
      rw [hT] at hj
      simp only [Option.map_some, Option.some.injEq, Prod.mk.injEq] at hj
      exact .inr ⟨j, e, p, h1, h2, h3, hT, E.inj _ _ (hj.1.trans h3), hj.2.symm⟩

/-- 'm[k]', 'v, ok := m[k]'. -/
theorem MapT.lookup {t e : TypeId} (K : Keyed P k) (ht : P.underlying t = some (.map k e)) (h : MapT E V w b T) {z : Value} (hz : (zeroValue e).run P w = .ok z w) {a : α} (ha : E.ok a) (c : Bool) :
    (Instr.lookup t (.map (some b)) (E.v a) c).run P w = .ok (if c then .tuple #[((AL.get T a).map V).getD z, .bool (AL.get T a).isSome] else ((AL.get T a).map V).getD z) w := by
  have hnd := h.nodup
  obtain ⟨es, clk, hb, he, hs, hok⟩ := h
  obtain ⟨l, hl⟩ := E.key a ha
  rcases find_spec K he hok w ha with ⟨h1, h2, _⟩ | ⟨j, e0, p, h1, h2, h3, h4, rfl, h6⟩
  · rw [AL.get_none h2]
    simp [Instr.lookup, run_underlying ht, MapKept.run_getObj_map hb, K.check w _ hl, h1, hz, Result.andThen]
  · rw [AL.get_some hnd (List.mem_of_getElem? h4)]
    simp [Instr.lookup, run_underlying ht, MapKept.run_getObj_map hb, K.check w _ hl, h1, h6, Result.andThen]
/-- .. of a nil map. -/
theorem lookup_nil {t e : TypeId} (K : Keyed P k) (ht : P.underlying t = some (.map k e)) {z : Value} (hz : (zeroValue e).run P w = .ok z w) {a : α} (ha : E.ok a) (c : Bool) :
    (Instr.lookup t (.map none) (E.v a) c).run P w = .ok (if c then .tuple #[z, .bool false] else z) w := by
  obtain ⟨l, hl⟩ := E.key a ha
  have hf : (Instr.findKey k (E.v a) []).run P w = .ok none w := by
    rcases K.find w hl [] (by simp) with ⟨h1, _⟩ | ⟨j, e0, _, h2, _⟩
    · exact h1
    · simp at h2
  simp [Instr.lookup, run_underlying ht, K.check w _ hl, hf, hz, Result.andThen]

theorem set_same {γ : Type} {l : List γ} {j : Nat} {x : γ} (h : l[j]? = some x) : l.set j x = l := by
  obtain ⟨hl, rfl⟩ := List.getElem?_eq_some_iff.1 h
  exact List.set_getElem_self hl
theorem toList_set (es : Array MapEntry) (j : Nat) (f : MapEntry → MapEntry) {e : MapEntry} (h : es.toList[j]? = some e) : (es.modify j f).toList = es.toList.set j (f e) := by
  apply List.ext_getElem?
  intro i
  rw [Array.getElem?_toList, Array.getElem?_modify, List.getElem?_set, ← Array.getElem?_toList]
  by_cases hij : j = i
  · subst hij
    obtain ⟨hl, rfl⟩ := List.getElem?_eq_some_iff.1 h
    have hl' : j < es.size := by simpa using hl
    simp [hl']
  · simp [hij]

/-- 'm[k] = v'. -/
theorem MapT.update {t e : TypeId} (K : Keyed P k) (ht : P.underlying t = some (.map k e)) (h : MapT E V w b T) {a : α} (ha : E.ok a) (v : β) :
    ∃ o, (Instr.mapUpdate t (.map (some b)) (E.v a) (V v)).run P w = .ok () (setBlock w b o) ∧ MapT E V (setBlock w b o) b (AL.put T a v) := by
  have hnd := h.nodup
  have hlt := h.lt
  obtain ⟨es, clk, hb, he, hs, hok⟩ := h
  obtain ⟨l, hl⟩ := E.key a ha
  rcases find_spec K he hok w ha with ⟨h1, h2, h3⟩ | ⟨j, e0, p, h1, h2, h3, h4, rfl, h6⟩
  · refine ⟨.map (es.push ⟨E.v a, V v, clk⟩) (clk + 1), ?_, ⟨_, _, setBlock_same w b _ hlt, ?_, stamped_push hs h3, ?_⟩⟩
    · simp [Instr.mapUpdate, run_underlying ht, MapKept.run_getObj_map hb, K.check w _ hl, h1, MapKept.run_setObj_map _ hb, Result.andThen, setBlock]
    · rw [AL.put_new h2]; simp [he]
    · intro p hp
      rw [AL.put_new h2] at hp
      rcases List.mem_append.1 hp with hp | hp
      · exact hok p hp
      · simp at hp; subst hp; exact ha
  · have hj : es[j]? = some e0 := by simpa using h2
    have hkey : ∀ e', es[j]? = some e' → ({ e' with key := E.v p.1, val := V v } : MapEntry).key = e'.key := fun e' he' => by rw [hj] at he'; cases he'; exact h3.symm
    refine ⟨.map (es.modify j fun e => { e with key := E.v p.1, val := V v }) clk, ?_, ⟨_, _, setBlock_same w b _ hlt, ?_, stamped_modify hs _ _ (fun _ _ => rfl) (fun e' _ he' => hkey e' he'), ?_⟩⟩
    · simp [Instr.mapUpdate, run_underlying ht, MapKept.run_getObj_map hb, K.check w _ hl, h1, hj, h3, K.stays w hl, MapKept.run_setObj_map _ hb, Result.andThen, setBlock]
    · rw [toList_set es j _ h2, List.map_set, he, AL.put_set hnd h4, List.map_set]
    · intro q hq
      rcases AL.mem_put hq with rfl | hq
      · exact ha
      · exact hok q hq

/-- The stamp of a key's entry. -/
def StampAt (E : Enc P k α) (w : World) (b : Nat) (a : α) (st : Nat) : Prop :=
  ∃ es clk e, w.heap[b]? = some (.map es clk) ∧ e ∈ es.toList ∧ e.key = E.v a ∧ e.born = st
theorem StampAt.of_block {w' : World} {a : α} {st : Nat} (h : StampAt E w b a st) (hb : w'.heap[b]? = w.heap[b]?) : StampAt E w' b a st := by
  obtain ⟨es, clk, e, h1, r⟩ := h
  exact ⟨es, clk, e, hb.trans h1, r⟩

/-- 'm[k] op= v', the first half. -/
theorem MapT.entry {t e : TypeId} (K : Keyed P k) (ht : P.underlying t = some (.map k e)) (h : MapT E V w b T) {z : β} (hz : (zeroValue e).run P w = .ok (V z) w) {a : α} (ha : E.ok a) :
    ∃ o, ∃ st : Nat, (Instr.mapEntry t (.map (some b)) (E.v a)).run P w = .ok (.tuple #[V ((AL.get T a).getD z), goInt st]) (setBlock w b o) ∧ MapT E V (setBlock w b o) b (AL.put T a ((AL.get T a).getD z)) ∧ StampAt E (setBlock w b o) b a st := by
  have hnd := h.nodup
  have hlt := h.lt
  obtain ⟨es, clk, hb, he, hs, hok⟩ := h
  obtain ⟨l, hl⟩ := E.key a ha
  rcases find_spec K he hok w ha with ⟨h1, h2, h3⟩ | ⟨j, e0, p, h1, h2, h3, h4, rfl, h6⟩
  · rw [AL.get_none h2]
    refine ⟨.map (es.push ⟨E.v a, V z, clk⟩) (clk + 1), clk, ?_, ⟨_, _, setBlock_same w b _ hlt, ?_, stamped_push hs h3, ?_⟩, ⟨_, _, ⟨E.v a, V z, clk⟩, setBlock_same w b _ hlt, by simp, rfl, rfl⟩⟩
    · simp [Instr.mapEntry, run_underlying ht, MapKept.run_getObj_map hb, K.check w _ hl, h1, hz, MapKept.run_setObj_map _ hb, Result.andThen, setBlock]
    · rw [AL.put_new h2]; simp [he]
    · intro p hp
      rw [AL.put_new h2] at hp
      rcases List.mem_append.1 hp with hp | hp
      · exact hok p hp
      · simp at hp; subst hp; exact ha
  · have hj : es[j]? = some e0 := by simpa using h2
    rw [AL.get_some hnd (List.mem_of_getElem? h4)]
    have hkey : ∀ e', es[j]? = some e' → ({ e' with key := E.v p.1 } : MapEntry).key = e'.key := fun e' he' => by rw [hj] at he'; cases he'; exact h3.symm
    have hT : AL.put T p.1 p.2 = T := by
      rw [AL.put_set hnd h4]
      exact set_same h4
    refine ⟨.map (es.modify j fun e => { e with key := E.v p.1 }) clk, e0.born, ?_, ⟨_, _, setBlock_same w b _ hlt, ?_, stamped_modify hs _ _ (fun _ _ => rfl) (fun e' _ he' => hkey e' he'), ?_⟩, ⟨_, _, { e0 with key := E.v p.1 }, setBlock_same w b _ hlt, ?_, rfl, rfl⟩⟩
    · simp [Instr.mapEntry, run_underlying ht, MapKept.run_getObj_map hb, K.check w _ hl, h1, hj, h3, h6, K.stays w hl, MapKept.run_setObj_map _ hb, Result.andThen, setBlock]
    · rw [toList_set es j _ h2, List.map_set, he]
      simp only [Option.getD_some]
      rw [hT]
      refine set_same ?_
      rw [List.getElem?_map, h4, h6]
      rfl
    · simp only [Option.getD_some]
      rw [hT]; exact hok
    · rw [toList_set es j _ h2]
      obtain ⟨hl, _⟩ := List.getElem?_eq_some_iff.1 h2
      exact List.mem_iff_getElem?.2 ⟨j, by rw [List.getElem?_set]; simp; simpa using hl⟩

/-- .. the second half. -/
theorem MapT.entryStore {t : TypeId} (h : MapT E V w b T) {a : α} {st : Nat} (hst : StampAt E w b a st) (v : β) :
    ∃ o, (Instr.entryStore t (.map (some b)) (goInt st) (V v)).run P w = .ok () (setBlock w b o) ∧ MapT E V (setBlock w b o) b (AL.put T a v) := by
  have hnd := h.nodup
  have hlt := h.lt
  obtain ⟨es, clk, hb, he, hs, hok⟩ := h
  obtain ⟨es', clk', e0, hb', hem, hk0, rfl⟩ := hst
  rw [hb] at hb'
  cases hb'
  obtain ⟨j, hj⟩ := List.getElem?_of_mem hem
  obtain ⟨hjl, hje⟩ := List.getElem?_eq_some_iff.1 hj
  have hT : ∃ p, T[j]? = some p ∧ p.1 = a := by
    have hh : (es.toList.map (fun e => (e.key, e.val)))[j]? = some (e0.key, e0.val) := by rw [List.getElem?_map, hj]; rfl
    rw [he, List.getElem?_map] at hh
    cases hT : T[j]? with
    | none => rw [hT] at hh; cases hh
    | some p =>
      rw [hT] at hh
      simp only [Option.map_some, Option.some.injEq, Prod.mk.injEq] at hh
      exact ⟨p, rfl, E.inj _ _ (hh.1.trans hk0)⟩
  obtain ⟨p, hp, rfl⟩ := hT
  have hfi : es.findIdx? (fun e => (e.born : Int) == (e0.born : Int)) = some j := by
    have hjs : j < es.size := by simpa using hjl
    rw [Array.findIdx?_eq_some_iff_getElem]
    refine ⟨hjs, ?_, fun i hij => ?_⟩
    · have : es[j] = e0 := by simpa using hje
      simp [this]
    · intro e
      have hi : i < es.size := Nat.lt_trans hij hjs
      have e1 : es[i].born = e0.born := by have := beq_iff_eq.1 e; omega
      have h1 : (es.toList.map (·.born))[i]? = some e0.born := by simp [List.getElem?_map, Array.getElem?_eq_getElem hi, e1]
      have h2 : (es.toList.map (·.born))[j]? = some e0.born := by rw [List.getElem?_map, hj]; rfl
      have := (List.getElem?_inj (by simpa using hi) hs.2.1).1 (h1.trans h2.symm)
      omega
  refine ⟨.map (es.modify j fun e => { e with val := V v }) clk, ?_, ⟨_, _, setBlock_same w b _ hlt, ?_, stamped_modify hs _ _ (fun _ _ => rfl) (fun _ _ _ => rfl), ?_⟩⟩
  · simp [Instr.entryStore, MapKept.run_getObj_map hb, goInt, asInt, asIntOf, hfi, MapKept.run_setObj_map _ hb, Result.andThen, setBlock]
  · rw [toList_set es j _ hj, List.map_set, he, AL.put_set hnd hp, List.map_set, hk0]
  · intro q hq
    rcases AL.mem_put hq with rfl | hq
    · exact hok p (List.mem_of_getElem? hp)
    · exact hok q hq

/-- 'delete(m, k)'. -/
theorem MapT.delete {t e : TypeId} (K : Keyed P k) (ht : P.underlying t = some (.map k e)) (h : MapT E V w b T) {a : α} (ha : E.ok a) :
    ∃ o, (∀ ty, (Builtin.delete_ #[t, k] ty #[.map (some b), E.v a]).run P w = .ok (.tuple #[]) (setBlock w b o)) ∧ MapT E V (setBlock w b o) b (AL.del T a) := by
  have hnd := h.nodup
  have hlt := h.lt
  obtain ⟨es, clk, hb, he, hs, hok⟩ := h
  obtain ⟨l, hl⟩ := E.key a ha
  rcases find_spec K he hok w ha with ⟨h1, h2, h3⟩ | ⟨j, e0, p, h1, h2, h3, h4, rfl, h6⟩
  · refine ⟨.map es clk, ?_, ⟨_, _, setBlock_same w b _ hlt, ?_, hs, ?_⟩⟩
    · intro ty; simp [Builtin.delete_, run_underlying ht, MapKept.run_getObj_map hb, K.check w _ hl, h1, MapKept.run_setObj_map _ hb, Result.andThen, setBlock]
    · rw [AL.del_keep h2]; exact he
    · rw [AL.del_keep h2]; exact hok
  · obtain ⟨hjl, _⟩ := List.getElem?_eq_some_iff.1 h2
    have hjs : j < es.size := by simpa using hjl
    have hsub : (es.eraseIdxIfInBounds j).toList = es.toList.eraseIdx j := by
      unfold Array.eraseIdxIfInBounds
      rw [dif_pos hjs]
      simp
    refine ⟨.map (es.eraseIdxIfInBounds j) clk, ?_, ⟨_, _, setBlock_same w b _ hlt, ?_, stamped_erase hs j, ?_⟩⟩
    · intro ty; simp [Builtin.delete_, run_underlying ht, MapKept.run_getObj_map hb, K.check w _ hl, h1, MapKept.run_setObj_map _ hb, Result.andThen, setBlock]
    · rw [hsub, map_eraseIdx, he, AL.del_erase hnd h4, map_eraseIdx]
    · intro q hq
      exact hok q (List.mem_filter.1 hq).1
end
theorem setBlock_cell (w : World) (b : Nat) (ob : Obj) {p : Addr} (h : p.block ≠ b) : (setBlock w b ob).cell? p = w.cell? p :=
  World.cell?_of_block (w := w) (setBlock_other w b ob h)
theorem setBlock_frozen (w : World) (b : Nat) (ob : Obj) {p : Addr} (h : p.block ≠ b) : (setBlock w b ob).frozen? p = w.frozen? p :=
  World.frozen?_of_block (w := w) (setBlock_other w b ob h)
theorem alloc_cell (w : World) (o : Obj) {p : Addr} (h : p.block < w.heap.size) : (w.alloc o).cell? p = w.cell? p :=
  World.cell?_of_block (w := w) (Go.RowKit.Below.heap_alloc w o p.block h)
theorem _root_.Go.RowKit.Hid.mk' {p : Prop} (h : p) : Go.RowKit.Hid p := h
end Go.Cic

/- 'for k, v := range m' over a map as a list of pairs: who is still to come. Own library text. -/
namespace Go.Cic
set_option linter.unusedSectionVars false
set_option linter.unusedVariables false
set_option linter.unusedSimpArgs false
open Go.MapKept Go.ChangeMaps
open Go.Maps (Keyed)

variable {α β : Type} [DecidableEq α]

/-- Block r is an iterator over the map of block b, which holds T; L: what is still to come. -/
def RngT {P : Program} {k : TypeId} (E : Enc P k α) (V : β → Value) (w : World) (b r : Nat) (T L : List (α × β)) : Prop :=
  ∃ es clk since seen c0, w.heap[b]? = some (.map es clk) ∧ es.toList.map (fun e => (e.key, e.val)) = T.map (fun p => (E.v p.1, V p.2)) ∧ Stamped es clk ∧ (∀ p ∈ T, E.ok p.1) ∧
    w.heap[r]? = some (.mapIter (some b) since seen c0) ∧ (∀ x ∈ es.toList, x.born < since) ∧ since ≤ c0 ∧ since ≤ clk ∧
    (es.toList.filter (fun e => !seen.contains e.born)).map (fun e => (e.key, e.val)) = L.map (fun p => (E.v p.1, V p.2)) ∧ L.Sublist T

section
variable {P : Program} {k : TypeId} {E : Enc P k α} {V : β → Value} {w : World} {b r : Nat} {T L : List (α × β)}

theorem RngT.map (h : RngT E V w b r T L) : MapT E V w b T := by
  obtain ⟨es, clk, since, seen, c0, h1, h2, h3, h4, _⟩ := h
  exact ⟨es, clk, h1, h2, h3, h4⟩
theorem RngT.sub (h : RngT E V w b r T L) : L.Sublist T := by
  obtain ⟨es, clk, since, seen, c0, h1, h2, h3, h4, _, _, _, _, _, h⟩ := h
  exact h
theorem RngT.lt (h : RngT E V w b r T L) : r < w.heap.size := by
  obtain ⟨es, clk, since, seen, c0, h1, h2, h3, h4, h5, _⟩ := h
  exact (Array.getElem?_eq_some_iff.1 h5).1
theorem RngT.ne (h : RngT E V w b r T L) : r ≠ b := by
  obtain ⟨es, clk, since, seen, c0, h1, h2, h3, h4, h5, _⟩ := h
  intro e; rw [e, h1] at h5; cases h5
theorem RngT.of_block {w' : World} (h : RngT E V w b r T L) (hb : w'.heap[b]? = w.heap[b]?) (hr : w'.heap[r]? = w.heap[r]?) : RngT E V w' b r T L := by
  obtain ⟨es, clk, since, seen, c0, h1, h2, h3, h4, h5, r⟩ := h
  exact ⟨es, clk, since, seen, c0, hb.trans h1, h2, h3, h4, hr.trans h5, r⟩
theorem RngT.keeps {w' : World} {S : Nat → Prop} (h : RngT E V w b r T L) (hk : Keeps S w w') (hb : ¬ S b) (hr : ¬ S r) : RngT E V w' b r T L :=
  h.of_block (hk.block b h.map.lt hb) (hk.block r h.lt hr)
theorem RngT.nodup (h : RngT E V w b r T L) : (L.map (·.1)).Nodup := (h.sub.map _).nodup h.map.nodup

/-- 'range m'. -/
theorem MapT.range {t e : TypeId} (ht : P.underlying t = some (.map k e)) (h : MapT E V w b T) :
    ∃ o, (Instr.range t (.map (some b))).run P w = .ok (.pointer (some ⟨w.heap.size, 0, none⟩)) (w.alloc o) ∧ RngT E V (w.alloc o) b w.heap.size T T := by
  have hlt := h.lt
  obtain ⟨es, clk, hb, he, hs, hok⟩ := h
  refine ⟨_, run_range_map w t k e b es clk ht hb, ⟨es, clk, clk, #[], clk, ((MapKept.heap_alloc w _).2 b hlt).trans hb, he, hs, hok, (MapKept.heap_alloc w _).1, hs.1, Nat.le_refl _, Nat.le_refl _, ?_, List.Sublist.refl _⟩⟩
  simp only [List.contains_toArray, List.contains_nil, Bool.not_false]
  rw [List.filter_eq_self.2 (fun _ _ => by simp)]
  exact he

theorem mem_typed {es : List MapEntry} {T : List (α × β)} (he : es.map (fun e => (e.key, e.val)) = T.map (fun p => (E.v p.1, V p.2))) {e : MapEntry} (h : e ∈ es) : ∃ p ∈ T, E.v p.1 = e.key ∧ V p.2 = e.val := by
  have : (e.key, e.val) ∈ es.map (fun e => (e.key, e.val)) := List.mem_map.2 ⟨e, h, rfl⟩
  rw [he] at this
  obtain ⟨p, hp, hpe⟩ := List.mem_map.1 this
  simp only [Prod.mk.injEq] at hpe
  exact ⟨p, hp, hpe.1, hpe.2⟩

open Classical in
/-- Striking a key from entries and from pairs. -/
theorem strike_typed : ∀ {es : List MapEntry} {L : List (α × β)} (_ : es.map (fun e => (e.key, e.val)) = L.map (fun p => (E.v p.1, V p.2))) (a : α) (f : MapEntry → Bool) (_ : ∀ e ∈ es, f e = decide (e.key ≠ E.v a)),
    (es.filter f).map (fun e => (e.key, e.val)) = (AL.del L a).map (fun p => (E.v p.1, V p.2))
  | [], [], _, _, _, _ => rfl
  | [], _ :: _, h, _, _, _ => by simp at h
  | _ :: _, [], h, _, _, _ => by simp at h
  | e :: es, p :: L, h, a, f, hf => by
    simp only [List.map_cons, List.cons.injEq, Prod.mk.injEq] at h
    obtain ⟨⟨h1, h2⟩, h3⟩ := h
    have ih := strike_typed h3 a f (fun e he => hf e (by simp [he]))
    have hfe := hf e (by simp)
    unfold AL.del at ih ⊢
    by_cases hp : p.1 = a
    · have h4 : f e = false := by rw [hfe, h1, hp]; simp
      have h5 : decide (p.1 ≠ a) = false := by simp [hp]
      simp only [List.filter_cons, h4, h5, Bool.false_eq_true, if_false]
      exact ih
    · have h4 : f e = true := by rw [hfe, h1]; simpa using fun e => hp (E.inj _ _ e)
      have h5 : decide (p.1 ≠ a) = true := by simp [hp]
      simp only [List.filter_cons, h4, h5, if_true, List.map_cons, ih, h1, h2]

theorem toList_left (es : Array MapEntry) (seen : Array Nat) : (leftOf es seen).toList = es.toList.filter (fun e => !seen.contains e.born) := by
  unfold leftOf; simp

open Classical in
/-- THE STEP. -/
theorem RngT.next (h : RngT E V w b r T L) (ty : TypeId) :
    (L = [] ∧ (Instr.next (.pointer (some ⟨r, 0, none⟩)) false ty).run P w = .ok (.tuple #[.bool false]) w) ∨
    ∃ p ∈ L, ∃ w1 o, (w1 = w ∨ w1 = w.drew) ∧ (Instr.next (.pointer (some ⟨r, 0, none⟩)) false ty).run P w = .ok (.tuple #[.bool true, E.v p.1, V p.2]) (setBlock w1 r o) ∧
      RngT E V (setBlock w1 r o) b r T (AL.del L p.1) ∧ (Instr.entry (.pointer (some ⟨r, 0, none⟩))).run P (setBlock w1 r o) = .ok (.tuple #[E.v p.1, V p.2]) (setBlock w1 r o) := by
  have hne := h.ne
  obtain ⟨es, clk, since, seen, c0, hb, he, hs, hok, hr, hold, hsc, hsk, hL, hsub⟩ := h
  rcases run_next_at (P := P) w ty r b since c0 seen es clk hr hb hold hsc with ⟨h0, hrun⟩ | ⟨e, hem, w1, hal, hrun⟩
  · refine .inl ⟨?_, hrun⟩
    have : (es.toList.filter (fun e => !seen.contains e.born)) = [] := by
      rw [← toList_left]
      have : leftOf es seen = #[] := Array.eq_empty_of_size_eq_zero h0
      rw [this]
    rw [this] at hL
    simpa using hL.symm
  · have hem' := hem
    rw [toList_left] at hem'
    obtain ⟨p, hp, hpk, hpv⟩ := mem_typed hL hem'
    obtain ⟨hemT, hes⟩ := mem_left hem
    have hr1 : w1.heap[r]? = some (.mapIter (some b) since seen c0) := by rcases hal with rfl | rfl <;> exact hr
    have hb1 : w1.heap[b]? = some (.map es clk) := by rcases hal with rfl | rfl <;> exact hb
    have hlt1 : r < w1.heap.size := (Array.getElem?_eq_some_iff.1 hr1).1
    have hb' : (setBlock w1 r (.mapIter (some b) since (seen.push e.born) clk)).heap[b]? = some (.map es clk) := (setBlock_other w1 r _ (fun e1 => hne e1.symm)).trans hb1
    refine .inr ⟨p, hp, w1, .mapIter (some b) since (seen.push e.born) clk, hal, by rw [hpk, hpv]; exact hrun, ⟨es, clk, since, seen.push e.born, clk, hb', he, hs, hok, setBlock_same w1 r _ hlt1, hold, hsk, hsk, ?_, ?_⟩, ?_⟩
    · have e1 : es.toList.filter (fun x => !(seen.push e.born).contains x.born) = (es.toList.filter (fun x => !seen.contains x.born)).filter (fun x => !(x.born == e.born)) := by
        rw [List.filter_filter]
        apply List.filter_congr
        intro x _
        rw [contains_push]
        cases seen.contains x.born <;> cases (x.born == e.born) <;> rfl
      rw [e1]
      refine strike_typed hL p.1 _ (fun x hx => ?_)
      have hxT := (List.mem_filter.1 hx).1
      rw [hpk]
      by_cases hb2 : x.born = e.born
      · have := born_inj hs.2.1 hxT hemT hb2
        subst this
        simp
      · have h1 : (x.born == e.born) = false := by simpa using hb2
        rw [h1]
        have : x.key ≠ e.key := fun e3 => hb2 (congrArg MapEntry.born (entry_eq_of_key ((stamped_iff es clk).1 hs).2.2 hxT hemT e3))
        simp [this]
    · exact (List.filter_sublist).trans hsub
    · rw [hpk, hpv]
      exact run_entry_at _ r b since seen es clk e (setBlock_same w1 r _ hlt1) hb' hemT hs.2.1

/-- Of a nil map: nothing comes. -/
theorem range_nil {t e : TypeId} (ht : P.underlying t = some (.map k e)) (w : World) : ∃ o, (Instr.range t (.map none)).run P w = .ok (.pointer (some ⟨w.heap.size, 0, none⟩)) (w.alloc o) ∧
    ∀ ty (w' : World), w'.heap[w.heap.size]? = some o → (Instr.next (.pointer (some ⟨w.heap.size, 0, none⟩)) false ty).run P w' = .ok (.tuple #[.bool false]) w' := by
  refine ⟨.mapIter none 0 #[] 0, run_range_nilMap w t k e ht, fun ty w' h => ?_⟩
  simp [Instr.next, getObj, Sem.run_bind, Sem.run, h, Result.andThen]

open Classical in
/-- 'delete(m, k)' in the round. -/
theorem RngT.delete {t e : TypeId} (K : Keyed P k) (ht : P.underlying t = some (.map k e)) (h : RngT E V w b r T L) {a : α} (ha : E.ok a) :
    ∃ o, (∀ ty, (Builtin.delete_ #[t, k] ty #[.map (some b), E.v a]).run P w = .ok (.tuple #[]) (setBlock w b o)) ∧ RngT E V (setBlock w b o) b r (AL.del T a) (AL.del L a) := by
  have hne := h.ne
  have hnd := h.map.nodup
  have hlt := h.map.lt
  obtain ⟨es, clk, since, seen, c0, hb, he, hs, hok, hr, hold, hsc, hsk, hL, hsub⟩ := h
  obtain ⟨l, hl⟩ := E.key a ha
  have hr' : ∀ o, (setBlock w b o).heap[r]? = some (.mapIter (some b) since seen c0) := fun o => (setBlock_other w b o hne).trans hr
  rcases find_spec K he hok w ha with ⟨h1, h2, h3⟩ | ⟨j, e0, p, h1, h2, h3, h4, rfl, h6⟩
  · refine ⟨.map es clk, ?_, ⟨es, clk, since, seen, c0, setBlock_same w b _ hlt, ?_, hs, ?_, hr' _, hold, hsc, hsk, ?_, ?_⟩⟩
    · intro ty; simp [Builtin.delete_, run_underlying ht, MapKept.run_getObj_map hb, K.check w _ hl, h1, MapKept.run_setObj_map _ hb, Result.andThen, setBlock]
    · rw [AL.del_keep h2]; exact he
    · rw [AL.del_keep h2]; exact hok
    · rw [AL.del_keep (fun p hp => h2 p (hsub.subset hp))]; exact hL
    · rw [AL.del_keep h2, AL.del_keep (fun p hp => h2 p (hsub.subset hp))]; exact hsub
  · obtain ⟨hjl, hje⟩ := List.getElem?_eq_some_iff.1 h2
    have hjs : j < es.size := by simpa using hjl
    have hsb : (es.eraseIdxIfInBounds j).toList = es.toList.eraseIdx j := by
      unfold Array.eraseIdxIfInBounds
      rw [dif_pos hjs]
      simp
    have hflt : es.toList.eraseIdx j = es.toList.filter (fun x => decide (x.key ≠ E.v p.1)) := by
      have hst := ((stamped_iff es clk).1 hs).2.2
      have := filter_eq_eraseIdx (fun x : MapEntry => decide (x.key = E.v p.1)) es.toList j e0 h2 (by simpa using h3) (hst.imp (fun {a b} hab hc => hab (by
        have h7 := hc.1; have h8 := hc.2
        simp at h7 h8
        rw [h7, h8])))
      rw [← this]
      apply List.filter_congr
      intro x _
      simp
    refine ⟨.map (es.eraseIdxIfInBounds j) clk, ?_, ⟨_, _, since, seen, c0, setBlock_same w b _ hlt, ?_, stamped_erase hs j, ?_, hr' _, ?_, hsc, hsk, ?_, ?_⟩⟩
    · intro ty; simp [Builtin.delete_, run_underlying ht, MapKept.run_getObj_map hb, K.check w _ hl, h1, MapKept.run_setObj_map _ hb, Result.andThen, setBlock]
    · rw [hsb, map_eraseIdx, he, AL.del_erase hnd h4, map_eraseIdx]
    · intro q hq
      exact hok q (List.mem_filter.1 hq).1
    · intro x hx
      rw [hsb] at hx
      exact hold x (List.mem_of_mem_eraseIdx hx)
    · rw [hsb, hflt, List.filter_filter]
      have e1 : es.toList.filter (fun x => !seen.contains x.born && decide (x.key ≠ E.v p.1)) = (es.toList.filter (fun x => !seen.contains x.born)).filter (fun x => decide (x.key ≠ E.v p.1)) := by
        rw [List.filter_filter]
        apply List.filter_congr
        intro x _
        rw [Bool.and_comm]
      rw [e1]
      exact strike_typed hL p.1 _ (fun x _ => rfl)
    · exact hsub.filter _
end

theorem RngT.alloc {P : Program} {k : TypeId} {E : Enc P k α} {V : β → Value} {w : World} {b r : Nat} {T L : List (α × β)} (h : RngT E V w b r T L) (o : Obj) : RngT E V (w.alloc o) b r T L :=
  h.keeps ((Keeps.refl (fun _ => False) w).alloc o) (fun h => h) (fun h => h)
theorem RngT.drew {P : Program} {k : TypeId} {E : Enc P k α} {V : β → Value} {w : World} {b r : Nat} {T L : List (α × β)} (h : RngT E V w b r T L) : RngT E V w.drew b r T L := h
theorem MapT.alloc {P : Program} {k : TypeId} {E : Enc P k α} {V : β → Value} {w : World} {b : Nat} {T : List (α × β)} (h : MapT E V w b T) (o : Obj) : MapT E V (w.alloc o) b T :=
  h.keeps ((Keeps.refl (fun _ => False) w).alloc o) (fun h => h)
/-- HOW MANY ARE STILL TO COME, read off the world: the loop's measure. -/
theorem RngT.left {P : Program} {k : TypeId} {E : Enc P k α} {V : β → Value} {w : World} {b r : Nat} {T L : List (α × β)} (h : RngT E V w b r T L) : w.rangeLeft b r = L.length := by
  obtain ⟨es, clk, since, seen, c0, hb, he, hs, hok, hr, hold, hsc, hsk, hL, hsub⟩ := h
  simp only [World.rangeLeft, hb, hr]
  have := congrArg List.length hL
  rw [List.length_map, List.length_map, ← toList_left] at this
  simpa using this
theorem AL.del_length_lt {L : List (α × β)} {p : α × β} (hp : p ∈ L) : (AL.del L p.1).length < L.length := by
  unfold AL.del
  rcases Nat.lt_or_ge (L.filter (fun q => decide (q.1 ≠ p.1))).length L.length with h | h
  · exact h
  · have := List.filter_eq_self.1 (List.Sublist.eq_of_length_le List.filter_sublist h) p hp
    simp at this
end Go.Cic

/- The laws on maps at the operations, for the walk. Own library text. -/
namespace Go.Cic
set_option linter.unusedSectionVars false
set_option linter.unusedVariables false
set_option linter.unusedSimpArgs false
open Go.MapKept Go.ChangeMaps
open Go.Maps (Keyed)
variable {α β : Type} [DecidableEq α]
/-- maps.Clone's extern. -/
theorem MapT.clone {P : Program} {k : TypeId} {E : Enc P k α} {V : β → Value} {w : World} {b : Nat} {T : List (α × β)} (h : MapT E V w b T) (t : TypeId) :
    ∃ ob, (Extern.MapsClone.clone #[.iface t (.map (some b))]).run P w = .ok (.iface t (.map (some w.heap.size))) (w.alloc ob) ∧ MapT E V (w.alloc ob) w.heap.size T := by
  obtain ⟨es, clk, hb, r⟩ := h
  refine ⟨.map es clk, ?_, ⟨es, clk, (MapKept.heap_alloc w _).1, r⟩⟩
  have e : Extern.MapsClone.clone #[.iface t (.map (some b))] = (getObj b >>= fun o => match o with
      | .map entries clock => (newObj (.map entries clock) >>= fun n => pure (.iface t (.map (some n))))
      | _ => stuck "maps.clone: a map expected") := rfl
  rw [e]
  simp [MapKept.run_getObj_map hb, Result.andThen, go_sem]
theorem run_typeAssert_same {P : Program} {w : World} (t xT k e : TypeId) (v : Value) (h : P.underlying t = some (.map k e)) : (Instr.typeAssert (.iface t v) xT t false).run P w = .ok v w := by
  simp [Instr.typeAssert, run_underlying h, go_sem, Result.andThen]
section
variable {P : Program} {k : TypeId} {E : Enc P k α} {V : β → Value} {w : World} {b r : Nat} {T L : List (α × β)} {ops : Array Oper} {rest : List Oper} {o : Oper} {a : Act} {Q : Exit → Act → World → Prop}

theorem wpList_lookupT (hg : o.guard = none) (m x : Operand) (t : TypeId) (c : Bool) (hop : o.op = Op.lookup t m x c) {e : TypeId} (K : Keyed P k) (ht : P.underlying t = some (.map k e)) (hm : a.eval m = .map (some b))
    (h : MapT E V w b T) {z : Value} (hz : (zeroValue e).run P w = .ok z w) (x0 : α) (hx : a.eval x = E.v x0) (ha : E.ok x0)
    (hK : wpList P ops Q rest (a.put o.dst (if c then .tuple #[((AL.get T x0).map V).getD z, .bool (AL.get T x0).isSome] else ((AL.get T x0).map V).getD z)) w) : wpList P ops Q (o :: rest) a w := by
  refine wpList_plain hg fun K' hK' => ?_
  have hrun := h.lookup K ht hz ha c
  unfold Oper.wp
  simp only [execOp, hop, hm, hx]
  simp only [Sem.run_bind, hrun, Result.andThen]
  exact hK' _ _ hK
theorem wpList_lookupS (hg : o.guard = none) (m x : Operand) (t : TypeId) (hop : o.op = Op.lookup t m x false) {e : TypeId} (K : Keyed P k) (ht : P.underlying t = some (.map k e)) (hm : a.eval m = .map (some b))
    (h : MapT E V w b T) {z : Value} (hz : (zeroValue e).run P w = .ok z w) (x0 : α) (hx : a.eval x = E.v x0) (ha : E.ok x0) {v0 : β} (hget : AL.get T x0 = some v0)
    (hK : wpList P ops Q rest (a.put o.dst (V v0)) w) : wpList P ops Q (o :: rest) a w :=
  wpList_lookupT hg m x t false hop K ht hm h hz x0 hx ha (by rw [hget]; exact hK)
theorem wpList_lookupN (hg : o.guard = none) (m x : Operand) (t : TypeId) (hop : o.op = Op.lookup t m x false) {e : TypeId} (K : Keyed P k) (ht : P.underlying t = some (.map k e)) (hm : a.eval m = .map (some b))
    (h : MapT E V w b T) {z : Value} (hz : (zeroValue e).run P w = .ok z w) (x0 : α) (hx : a.eval x = E.v x0) (ha : E.ok x0) (hget : AL.get T x0 = none)
    (hK : wpList P ops Q rest (a.put o.dst z) w) : wpList P ops Q (o :: rest) a w :=
  wpList_lookupT hg m x t false hop K ht hm h hz x0 hx ha (by rw [hget]; exact hK)
theorem wpList_lookupD (hg : o.guard = none) (m x : Operand) (t : TypeId) (hop : o.op = Op.lookup t m x false) {e : TypeId} (K : Keyed P k) (ht : P.underlying t = some (.map k e)) (hm : a.eval m = .map (some b))
    (h : MapT E V w b T) (z : β) (hz : (zeroValue e).run P w = .ok (V z) w) (x0 : α) (hx : a.eval x = E.v x0) (ha : E.ok x0)
    (hK : wpList P ops Q rest (a.put o.dst (V ((AL.get T x0).getD z))) w) : wpList P ops Q (o :: rest) a w :=
  wpList_lookupT hg m x t false hop K ht hm h hz x0 hx ha (by cases hgt : AL.get T x0 <;> rw [hgt] at hK <;> exact hK)
theorem wpList_lookupSok (hg : o.guard = none) (m x : Operand) (t : TypeId) (hop : o.op = Op.lookup t m x true) {e : TypeId} (K : Keyed P k) (ht : P.underlying t = some (.map k e)) (hm : a.eval m = .map (some b))
    (h : MapT E V w b T) {z : Value} (hz : (zeroValue e).run P w = .ok z w) (x0 : α) (hx : a.eval x = E.v x0) (ha : E.ok x0) {v0 : β} (hget : AL.get T x0 = some v0)
    (hK : wpList P ops Q rest (a.put o.dst (.tuple #[V v0, .bool true])) w) : wpList P ops Q (o :: rest) a w :=
  wpList_lookupT hg m x t true hop K ht hm h hz x0 hx ha (by rw [hget]; exact hK)
theorem wpList_lookupNok (hg : o.guard = none) (m x : Operand) (t : TypeId) (hop : o.op = Op.lookup t m x true) {e : TypeId} (K : Keyed P k) (ht : P.underlying t = some (.map k e)) (hm : a.eval m = .map (some b))
    (h : MapT E V w b T) {z : Value} (hz : (zeroValue e).run P w = .ok z w) (x0 : α) (hx : a.eval x = E.v x0) (ha : E.ok x0) (hget : AL.get T x0 = none)
    (hK : wpList P ops Q rest (a.put o.dst (.tuple #[z, .bool false])) w) : wpList P ops Q (o :: rest) a w :=
  wpList_lookupT hg m x t true hop K ht hm h hz x0 hx ha (by rw [hget]; exact hK)
theorem wpList_lookupNil (hg : o.guard = none) (m x : Operand) (t : TypeId) (c : Bool) (hop : o.op = Op.lookup t m x c) {e : TypeId} (K : Keyed P k) (ht : P.underlying t = some (.map k e)) (hm : a.eval m = .map none)
    {z : Value} (hz : (zeroValue e).run P w = .ok z w) (x0 : α) (hx : a.eval x = E.v x0) (ha : E.ok x0)
    (hK : wpList P ops Q rest (a.put o.dst (if c then .tuple #[z, .bool false] else z)) w) : wpList P ops Q (o :: rest) a w := by
  refine wpList_plain hg fun K' hK' => ?_
  have hrun := lookup_nil (E := E) K ht hz ha c
  unfold Oper.wp
  simp only [execOp, hop, hm, hx]
  simp only [Sem.run_bind, hrun, Result.andThen]
  exact hK' _ _ hK
theorem wpList_updateT (hg : o.guard = none) (m x v : Operand) (t : TypeId) (hop : o.op = Op.mapUpdate t m x v) {e : TypeId} (K : Keyed P k) (ht : P.underlying t = some (.map k e)) (hm : a.eval m = .map (some b))
    (h : MapT E V w b T) (x0 : α) (hx : a.eval x = E.v x0) (ha : E.ok x0) (v0 : β) (hv : a.eval v = V v0)
    (hK : ∀ ob, MapT E V (setBlock w b ob) b (AL.put T x0 v0) → wpList P ops Q rest (a.put o.dst undef) (setBlock w b ob)) : wpList P ops Q (o :: rest) a w := by
  refine wpList_plain hg fun K' hK' => ?_
  obtain ⟨ob, hrun, h'⟩ := h.update K ht ha v0
  unfold Oper.wp
  simp only [execOp, hop, hm, hx, hv]
  simp only [Sem.run_bind, hrun, Result.andThen]
  exact hK' _ _ (hK ob h')
theorem wpList_deleteT (hg : o.guard = none) (m x : Operand) (t : TypeId) (hop : o.op = Op.call { callee := Callee.builtin Builtin.delete, args := #[m, x], argTypes := #[t, k] }) {e : TypeId} (K : Keyed P k) (ht : P.underlying t = some (.map k e)) (hm : a.eval m = .map (some b))
    (h : MapT E V w b T) (x0 : α) (hx : a.eval x = E.v x0) (ha : E.ok x0)
    (hK : ∀ ob, MapT E V (setBlock w b ob) b (AL.del T x0) → wpList P ops Q rest (a.put o.dst (.tuple #[])) (setBlock w b ob)) : wpList P ops Q (o :: rest) a w := by
  refine wpList_plain hg fun K' hK' => ?_
  obtain ⟨ob, hrun, h'⟩ := h.delete K ht ha
  unfold Oper.wp
  simp [execOp, hop, resolve, invoke, builtin, hm, hx, hrun, Result.andThen]
  exact hK' _ _ (hK ob h')
theorem wpList_deleteR (hg : o.guard = none) (m x : Operand) (t : TypeId) (hop : o.op = Op.call { callee := Callee.builtin Builtin.delete, args := #[m, x], argTypes := #[t, k] }) {e : TypeId} (K : Keyed P k) (ht : P.underlying t = some (.map k e)) (hm : a.eval m = .map (some b))
    (h : RngT E V w b r T L) (x0 : α) (hx : a.eval x = E.v x0) (ha : E.ok x0)
    (hK : ∀ ob, RngT E V (setBlock w b ob) b r (AL.del T x0) (AL.del L x0) → wpList P ops Q rest (a.put o.dst (.tuple #[])) (setBlock w b ob)) : wpList P ops Q (o :: rest) a w := by
  refine wpList_plain hg fun K' hK' => ?_
  obtain ⟨ob, hrun, h'⟩ := h.delete K ht ha
  unfold Oper.wp
  simp [execOp, hop, resolve, invoke, builtin, hm, hx, hrun, Result.andThen]
  exact hK' _ _ (hK ob h')
theorem wpList_rangeT (hg : o.guard = none) (m : Operand) (t : TypeId) (hop : o.op = Op.range t m) {e : TypeId} (ht : P.underlying t = some (.map k e)) (hm : a.eval m = .map (some b)) (h : MapT E V w b T)
    (hK : ∀ ob, RngT E V (w.alloc ob) b w.heap.size T T → wpList P ops Q rest (a.put o.dst (.pointer (some ⟨w.heap.size, 0, none⟩))) (w.alloc ob)) : wpList P ops Q (o :: rest) a w := by
  refine wpList_plain hg fun K' hK' => ?_
  obtain ⟨ob, hrun, h'⟩ := h.range ht
  unfold Oper.wp
  simp only [execOp, hop, hm]
  simp only [Sem.run_bind, hrun, Result.andThen]
  exact hK' _ _ (hK ob h')
theorem wpList_nextT (hg : o.guard = none) (it : Operand) (hop : o.op = Op.next it false) (hit : a.eval it = .pointer (some ⟨r, 0, none⟩)) (h : RngT E V w b r T L)
    (hDone : L = [] → wpList P ops Q rest (a.put o.dst (.tuple #[.bool false])) w)
    (hMore : ∀ x y w', (x, y) ∈ L → Keeps (· = r) w w' → w'.heap.size = w.heap.size → RngT E V w' b r T (AL.del L x) → (Instr.entry (.pointer (some ⟨r, 0, none⟩))).run P w' = .ok (.tuple #[E.v x, V y]) w' → wpList P ops Q rest (a.put o.dst (.tuple #[.bool true, E.v x, V y])) w') :
    wpList P ops Q (o :: rest) a w := by
  refine wpList_plain hg fun K' hK' => ?_
  unfold Oper.wp
  rcases h.next o.type with ⟨h0, hrun⟩ | ⟨p, hp, w1, ob, hw1, hrun, h', hen⟩
  · simp only [execOp, hop, hit]
    simp only [Sem.run_bind, hrun, Result.andThen]
    exact hK' _ _ (hDone h0)
  · simp only [execOp, hop, hit]
    simp only [Sem.run_bind, hrun, Result.andThen]
    have hk : Keeps (· = r) w w1 := by rcases hw1 with rfl | rfl; exact Keeps.refl _ _; exact (Keeps.refl _ _).drew
    have hsz : (setBlock w1 r ob).heap.size = w.heap.size := by rw [setBlock_size]; rcases hw1 with rfl | rfl <;> rfl
    exact hK' _ _ (hMore p.1 p.2 _ hp (hk.setBlock (fun _ => rfl) ob) hsz h' hen)
theorem wpList_lenT (hg : o.guard = none) (m : Operand) (t : TypeId) (hop : o.op = Op.call { callee := Callee.builtin Builtin.len, args := #[m], argTypes := #[t] }) {e : TypeId} (ht : P.underlying t = some (.map k e)) (hm : a.eval m = .map (some b)) (h : MapT E V w b T)
    (hK : wpList P ops Q rest (a.put o.dst (.int .i64 (T.length : Int))) w) : wpList P ops Q (o :: rest) a w := by
  refine wpList_plain hg fun K' hK' => ?_
  obtain ⟨es, clk, hb, hs⟩ := h.len
  unfold Oper.wp
  simp [execOp, hop, resolve, invoke, builtin, hm, Builtin.len_, run_underlying ht, MapKept.run_getObj_map hb, Result.andThen, goInt, hs]
  exact hK' _ _ hK
end
end Go.Cic

/- What a call owns: assertions on blocks, side by side. Own library text. -/
namespace Go.Cic
set_option linter.unusedVariables false
open Go.RowKit Go.ChangeMaps

/-- An assertion on the blocks of a set. -/
structure Asrt where
  holds : World → (Nat → Prop) → Prop
  lt : ∀ {w S}, holds w S → ∀ b, S b → b < w.heap.size
  loc : ∀ {w w' S}, holds w S → (∀ b, S b → w'.heap[b]? = w.heap[b]?) → holds w' S

def Asrt.emp : Asrt := ⟨fun _ S => ∀ b, ¬ S b, fun h b hb => (h b hb).elim, fun h _ => h⟩
def Asrt.star (A C : Asrt) : Asrt where
  holds w S := ∃ S1 S2, A.holds w S1 ∧ C.holds w S2 ∧ (∀ b, S1 b → ¬ S2 b) ∧ ∀ b, S b ↔ S1 b ∨ S2 b
  lt := by
    rintro w S ⟨S1, S2, h1, h2, _, h4⟩ b hb
    rcases (h4 b).1 hb with h | h
    · exact A.lt h1 b h
    · exact C.lt h2 b h
  loc := by
    rintro w w' S ⟨S1, S2, h1, h2, h3, h4⟩ h
    exact ⟨S1, S2, A.loc h1 (fun b hb => h b ((h4 b).2 (.inl hb))), C.loc h2 (fun b hb => h b ((h4 b).2 (.inr hb))), h3, h4⟩
def stars (l : List Asrt) : Asrt := l.foldr Asrt.star Asrt.emp

/-- From block B on all these lie side by side. -/
def Owns (B : Nat) (l : List Asrt) (w : World) : Prop := ∃ S, (stars l).holds w S ∧ ∀ b, S b → B ≤ b

theorem Owns.nil (B : Nat) (w : World) : Owns B [] w := ⟨fun _ => False, fun _ h => h, fun _ h => h.elim⟩
theorem Owns.cons_iff {B : Nat} {A : Asrt} {l : List Asrt} {w : World} : Owns B (A :: l) w ↔ ∃ S S2, A.holds w S ∧ (stars l).holds w S2 ∧ (∀ b, S b → ¬ S2 b) ∧ (∀ b, S b → B ≤ b) ∧ (∀ b, S2 b → B ≤ b) := by
  constructor
  · rintro ⟨S, ⟨S1, S2, h1, h2, h3, h4⟩, hB⟩
    exact ⟨S1, S2, h1, h2, h3, fun b hb => hB b ((h4 b).2 (.inl hb)), fun b hb => hB b ((h4 b).2 (.inr hb))⟩
  · rintro ⟨S1, S2, h1, h2, h3, h4, h5⟩
    exact ⟨fun b => S1 b ∨ S2 b, ⟨S1, S2, h1, h2, h3, fun _ => Iff.rfl⟩, fun b hb => hb.elim (h4 b) (h5 b)⟩
theorem Owns.tail {B : Nat} {A : Asrt} {l : List Asrt} {w : World} (h : Owns B (A :: l) w) : Owns B l w := by
  obtain ⟨S, S2, _, h2, _, _, h5⟩ := Owns.cons_iff.1 h
  exact ⟨S2, h2, h5⟩
theorem Owns.swap {B : Nat} {A C : Asrt} {l : List Asrt} {w : World} (h : Owns B (A :: C :: l) w) : Owns B (C :: A :: l) w := by
  obtain ⟨S, ⟨S1, S2, h1, ⟨S3, S4, h5, h6, h7, h8⟩, h3, h4⟩, hB⟩ := h
  refine ⟨S, ⟨S3, fun b => S1 b ∨ S4 b, h5, ⟨S1, S4, h1, h6, fun b hb h => h3 b hb ((h8 b).2 (.inr h)), fun _ => Iff.rfl⟩, ?_, ?_⟩, hB⟩
  · intro b hb h
    rcases h with h | h
    · exact h3 b h ((h8 b).2 (.inl hb))
    · exact h7 b hb h
  · intro b
    rw [h4 b, h8 b]
    constructor
    · rintro (h | h | h)
      · exact .inr (.inl h)
      · exact .inl h
      · exact .inr (.inr h)
    · rintro (h | h | h)
      · exact .inr (.inl h)
      · exact .inl h
      · exact .inr (.inr h)
theorem Owns.cons_mono {B : Nat} {A : Asrt} {l l' : List Asrt} {w : World} (h : Owns B (A :: l) w) (hl : ∀ B, Owns B l w → Owns B l' w) (hf : ∀ S, (stars l).holds w S → (stars l').holds w S) : Owns B (A :: l') w := by
  obtain ⟨S, S2, h1, h2, h3, h4, h5⟩ := Owns.cons_iff.1 h
  exact Owns.cons_iff.2 ⟨S, S2, h1, hf S2 h2, h3, h4, h5⟩
theorem stars_perm {l l' : List Asrt} (hp : l.Perm l') {w : World} {S : Nat → Prop} (h : (stars l).holds w S) : (stars l').holds w S := by
  induction hp generalizing S with
  | nil => exact h
  | cons A _ ih =>
    obtain ⟨S1, S2, h1, h2, h3, h4⟩ := h
    exact ⟨S1, S2, h1, ih h2, h3, h4⟩
  | swap A C l =>
    obtain ⟨S1, S2, h1, ⟨S3, S4, h5, h6, h7, h8⟩, h3, h4⟩ := h
    refine ⟨S3, fun b => S1 b ∨ S4 b, h5, ⟨S1, S4, h1, h6, fun b hb h => h3 b hb ((h8 b).2 (.inr h)), fun _ => Iff.rfl⟩, ?_, ?_⟩
    · intro b hb h
      rcases h with h | h
      · exact h3 b h ((h8 b).2 (.inl hb))
      · exact h7 b hb h
    · intro b
      rw [h4 b, h8 b]
      constructor
      · rintro (h | h | h)
        · exact .inr (.inl h)
        · exact .inl h
        · exact .inr (.inr h)
      · rintro (h | h | h)
        · exact .inr (.inl h)
        · exact .inl h
        · exact .inr (.inr h)
  | trans _ _ ih1 ih2 => exact ih2 (ih1 h)
theorem Owns.perm {B : Nat} {l l' : List Asrt} {w : World} (h : Owns B l w) (hp : l.Perm l') : Owns B l' w := by
  obtain ⟨S, h1, h2⟩ := h
  exact ⟨S, stars_perm hp h1, h2⟩
theorem erase_perm {γ : Type} : ∀ (l : List γ) (n : Nat) (x : γ), l[n]? = some x → l.Perm (x :: l.eraseIdx n)
  | [], _, _, h => by simp at h
  | y :: r, 0, x, h => by simp at h; subst h; exact List.Perm.refl _
  | y :: r, n + 1, x, h => by
    simp only [List.getElem?_cons_succ] at h
    rw [List.eraseIdx_cons_succ]
    exact ((erase_perm r n x h).cons y).trans (List.Perm.swap x y _)
/-- The assertion at place n comes to the front. -/
theorem Owns.front {B : Nat} {l : List Asrt} {w : World} (h : Owns B l w) (n : Nat) (A : Asrt) (hn : l[n]? = some A) : Owns B (A :: l.eraseIdx n) w := by
  exact h.perm (erase_perm l n A hn)

theorem Owns.app_left {B : Nat} : ∀ {l l' : List Asrt} {w : World}, Owns B (l ++ l') w → Owns B l w
  | [], _, w, _ => Owns.nil B w
  | A :: l, l', w, h => by
    rw [List.cons_append] at h
    obtain ⟨S, S2, h1, h2, h3, h4, h5⟩ := Owns.cons_iff.1 h
    have key : ∀ (l l' : List Asrt) (S : Nat → Prop), (stars (l ++ l')).holds w S → ∃ S', (stars l).holds w S' ∧ ∀ b, S' b → S b := by
      intro l
      induction l with
      | nil => intro l' S _; exact ⟨fun _ => False, fun _ h => h, fun _ h => h.elim⟩
      | cons A l ih =>
        intro l' S h
        obtain ⟨S1, S2, e1, e2, e3, e4⟩ := h
        obtain ⟨S3, e5, e6⟩ := ih l' S2 e2
        exact ⟨fun b => S1 b ∨ S3 b, ⟨S1, S3, e1, e5, fun b hb h => e3 b hb (e6 b h), fun _ => Iff.rfl⟩, fun b hb => (e4 b).2 (hb.imp id (e6 b))⟩
    obtain ⟨S3, h6, h7⟩ := key l l' S2 h2
    exact Owns.cons_iff.2 ⟨S, S3, h1, h6, fun b hb h => h3 b hb (h7 b h), h4, fun b hb => h5 b (h7 b hb)⟩
theorem range_all {γ : Type} : ∀ (l : List γ), (List.range l.length).filterMap (fun i => l[i]?) = l := by
  intro l
  induction l with
  | nil => rfl
  | cons a l ih =>
    rw [List.length_cons, List.range_succ_eq_map, List.filterMap_cons]
    simp only [List.getElem?_cons_zero, List.filterMap_map]
    congr 1
/-- Some of these, in an order of one's own. -/
theorem Owns.sel {B : Nat} {l : List Asrt} {w : World} (h : Owns B l w) (n : Nat) (is : List Nat) (hln : l.length = n) (hn : is.Nodup ∧ ∀ i ∈ is, i < n) : Owns B (is.filterMap (fun i => l[i]?)) w := by
  subst hln
  have h1 : (List.range l.length).Perm (is ++ (List.range l.length).filter (fun i => !is.contains i)) := by
    refine (List.perm_ext_iff_of_nodup List.nodup_range ?_).2 ?_
    · refine List.nodup_append.2 ⟨hn.1, List.nodup_range.sublist List.filter_sublist, ?_⟩
      intro a ha b hb e
      subst e
      have := (List.mem_filter.1 hb).2
      simp [ha] at this
    · intro a
      simp only [List.mem_range, List.mem_append, List.mem_filter, Bool.not_eq_true', List.contains_eq_mem, decide_eq_false_iff_not]
      constructor
      · intro ha
        by_cases hm : a ∈ is
        · exact .inl hm
        · exact .inr ⟨ha, hm⟩
      · rintro (ha | ha)
        · exact hn.2 a ha
        · exact ha.1
  have h2 := range_all l
  have h3 := h1.filterMap (fun i => l[i]?)
  rw [h2, List.filterMap_append] at h3
  exact Owns.app_left (h.perm h3)

/-- What a step from w does to what stood on S: it stands as A now, on blocks of S and new ones. -/
def Step (S : Nat → Prop) (A : Asrt) (w w' : World) : Prop := ∃ S', A.holds w' S' ∧ (∀ b, S' b → S b ∨ w.heap.size ≤ b) ∧ Keeps S w w'
theorem Owns.step {B : Nat} {A A' : Asrt} {l : List Asrt} {w w' : World} (h : Owns B (A :: l) w) (hB : B ≤ w.heap.size) (hs : ∀ S, A.holds w S → Step S A' w w') : Owns B (A' :: l) w' ∧ Below B w w' := by
  obtain ⟨S, S2, h1, h2, h3, h4, h5⟩ := Owns.cons_iff.1 h
  obtain ⟨S', h6, h7, h8⟩ := hs S h1
  refine ⟨Owns.cons_iff.2 ⟨S', S2, h6, (stars l).loc h2 (fun b hb => h8.block b ((stars l).lt h2 b hb) (fun hS => h3 b hS hb)), ?_, ?_, h5⟩, h8.below hB h4⟩
  · intro b hb h2b
    rcases h7 b hb with h | h
    · exact h3 b h h2b
    · exact absurd ((stars l).lt h2 b h2b) (by omega)
  · intro b hb
    rcases h7 b hb with h | h
    · exact h4 b h
    · omega
/-- A call that turns what is owned. -/
theorem Owns.call {P : Program} {f : FuncId} {args : Array Value} {B : Nat} {A A' : Asrt} {l : List Asrt} {w : World} {R : Ending → Prop} (h : Owns B (A :: l) w) (hB : B ≤ w.heap.size)
    (hc : ∀ S, A.holds w S → Calls P f args w fun e w' => R e ∧ Step S A' w w') : Calls P f args w fun e w' => R e ∧ Owns B (A' :: l) w' ∧ Below B w w' := by
  obtain ⟨S, S2, h1, h2, h3, h4, h5⟩ := Owns.cons_iff.1 h
  refine (hc S h1).mono ?_
  rintro e w' ⟨hR, S', h6, h7, h8⟩
  refine ⟨hR, Owns.cons_iff.2 ⟨S', S2, h6, (stars l).loc h2 (fun b hb => h8.block b ((stars l).lt h2 b hb) (fun hS => h3 b hS hb)), ?_, ?_, h5⟩, h8.below hB h4⟩
  · intro b hb h2b
    rcases h7 b hb with h | h
    · exact h3 b h h2b
    · exact absurd ((stars l).lt h2 b h2b) (by omega)
  · intro b hb
    rcases h7 b hb with h | h
    · exact h4 b h
    · omega
/-- A call that turns none of what is owned. -/
theorem Owns.keep {B : Nat} {l : List Asrt} {w w' : World} (h : Owns B l w) (hk : Below w.heap.size w w') : Owns B l w' := by
  obtain ⟨S, h1, h2⟩ := h
  exact ⟨S, (stars l).loc h1 (fun b hb => hk.block b ((stars l).lt h1 b hb)), h2⟩
theorem Owns.look {P : Program} {f : FuncId} {args : Array Value} {B : Nat} {A : Asrt} {l : List Asrt} {w : World} {R : Ending → Prop} (h : Owns B (A :: l) w) (hB : B ≤ w.heap.size)
    (hc : ∀ S, A.holds w S → Calls P f args w fun e w' => R e ∧ Below w.heap.size w w') : Calls P f args w fun e w' => R e ∧ Owns B (A :: l) w' ∧ Below B w w' := by
  obtain ⟨S, S2, h1, h2, h3, h4, h5⟩ := Owns.cons_iff.1 h
  refine (hc S h1).mono ?_
  rintro e w' ⟨hR, hk⟩
  exact ⟨hR, h.keep hk, hk.mono hB⟩
/-- Something new. -/
theorem Owns.new {B : Nat} {A : Asrt} {l : List Asrt} {w w' : World} (h : Owns B l w) (hB : B ≤ w.heap.size) {S : Nat → Prop} (hA : A.holds w' S) (hS : ∀ b, S b → w.heap.size ≤ b) (hk : Below w.heap.size w w') : Owns B (A :: l) w' := by
  obtain ⟨S2, h1, h2⟩ := h.keep hk
  obtain ⟨S3, h3, h4⟩ := h
  have hlt := (stars l).lt h3
  exact Owns.cons_iff.2 ⟨S, S3, hA, (stars l).loc h3 (fun b hb => hk.block b (hlt b hb)), fun b hb h => absurd (hlt b h) (by have := hS b hb; omega), fun b hb => Nat.le_trans hB (hS b hb), h4⟩
/-- Two that can be read alike. -/
theorem Owns.imp {B : Nat} {A A' : Asrt} {l : List Asrt} {w : World} (h : Owns B (A :: l) w) (hi : ∀ S, A.holds w S → A'.holds w S) : Owns B (A' :: l) w := by
  obtain ⟨S, S2, h1, r⟩ := Owns.cons_iff.1 h
  exact Owns.cons_iff.2 ⟨S, S2, hi S h1, r⟩
theorem Owns.head {B : Nat} {A : Asrt} {l : List Asrt} {w : World} (h : Owns B (A :: l) w) : ∃ S, A.holds w S ∧ ∀ b, S b → B ≤ b := by
  obtain ⟨S, S2, h1, _, _, h4, _⟩ := Owns.cons_iff.1 h
  exact ⟨S, h1, h4⟩
/-- A fact alone. -/
def Asrt.fact (p : Prop) : Asrt := ⟨fun _ S => p ∧ ∀ b, ¬ S b, fun h b hb => (h.2 b hb).elim, fun h _ => h⟩
/-- There is some x. -/
def Asrt.some' {γ : Type} (A : γ → Asrt) : Asrt := ⟨fun w S => ∃ x, (A x).holds w S, fun ⟨x, h⟩ => (A x).lt h, fun ⟨x, h⟩ hb => ⟨x, (A x).loc h hb⟩⟩
/-- A row of cells. -/
def Asrt.cells (b : Nat) (cs : Array Value) (T : TypeId) : Asrt where
  holds w S := w.heap[b]? = some (.cells cs T (0, 0)) ∧ ∀ x, S x ↔ x = b
  lt := by
    rintro w S ⟨h1, h2⟩ x hx
    rw [(h2 x).1 hx]
    exact (Array.getElem?_eq_some_iff.1 h1).1
  loc := by
    rintro w w' S ⟨h1, h2⟩ h
    exact ⟨(h b ((h2 b).2 rfl)).trans h1, h2⟩
/-- A map. -/
def Asrt.map {P : Program} {k : TypeId} {α β : Type} [DecidableEq α] (E : Enc P k α) (V : β → Value) (b : Nat) (T : List (α × β)) : Asrt where
  holds w S := MapT E V w b T ∧ ∀ x, S x ↔ x = b
  lt := by
    rintro w S ⟨h1, h2⟩ x hx
    rw [(h2 x).1 hx]
    exact h1.lt
  loc := by
    rintro w w' S ⟨h1, h2⟩ h
    exact ⟨h1.of_block (h b ((h2 b).2 rfl)), h2⟩
/-! ### opening and shutting -/
theorem Owns.alloc_cells {B : Nat} {l : List Asrt} {w : World} (h : Owns B l w) (hB : B ≤ w.heap.size) (cs : Array Value) (T : TypeId) : Owns B (Asrt.cells w.heap.size cs T :: l) (w.alloc (.cells cs T)) :=
  h.new hB (S := (· = w.heap.size)) ⟨(MapKept.heap_alloc w _).1, fun _ => Iff.rfl⟩ (fun b hb => Nat.le_of_eq hb.symm) ((Below.refl _ _).alloc (Nat.le_refl _) _)
theorem Owns.alloc_map {P : Program} {k : TypeId} {α β : Type} [DecidableEq α] (E : Enc P k α) (V : β → Value) {B : Nat} {l : List Asrt} {w : World} (h : Owns B l w) (hB : B ≤ w.heap.size) : Owns B (Asrt.map E V w.heap.size [] :: l) (w.alloc (.map #[] 0)) :=
  h.new hB (S := (· = w.heap.size)) ⟨MapT.made E V w, fun _ => Iff.rfl⟩ (fun b hb => Nat.le_of_eq hb.symm) ((Below.refl _ _).alloc (Nat.le_refl _) _)
theorem Owns.drew {B : Nat} {l : List Asrt} {w : World} (h : Owns B l w) : Owns B l w.drew := h.keep ((Below.refl _ _).drew)
section
variable {B : Nat} {A C : Asrt} {l : List Asrt} {w : World}
theorem Owns.star_iff : Owns B (Asrt.star A C :: l) w ↔ Owns B (A :: C :: l) w := by
  constructor
  · rintro ⟨S, ⟨S1, S2, ⟨S3, S4, h1, h2, h3, h4⟩, h5, h6, h7⟩, hB⟩
    refine ⟨S, ⟨S3, fun b => S4 b ∨ S2 b, h1, ⟨S4, S2, h2, h5, fun b hb => h6 b ((h4 b).2 (.inr hb)), fun _ => Iff.rfl⟩, ?_, ?_⟩, hB⟩
    · intro b hb h
      rcases h with h | h
      · exact h3 b hb h
      · exact h6 b ((h4 b).2 (.inl hb)) h
    · intro b; rw [h7 b, h4 b, or_assoc]
  · rintro ⟨S, ⟨S3, S5, h1, ⟨S4, S2, h2, h5, h6, h7⟩, h3, h4⟩, hB⟩
    refine ⟨S, ⟨fun b => S3 b ∨ S4 b, S2, ⟨S3, S4, h1, h2, fun b hb h => h3 b hb ((h7 b).2 (.inl h)), fun _ => Iff.rfl⟩, h5, ?_, ?_⟩, hB⟩
    · intro b hb h
      rcases hb with hb | hb
      · exact h3 b hb ((h7 b).2 (.inr h))
      · exact h6 b hb h
    · intro b; rw [h4 b, h7 b, or_assoc]
theorem Owns.emp_iff : Owns B (Asrt.emp :: l) w ↔ Owns B l w := by
  constructor
  · exact Owns.tail
  · rintro ⟨S, h, hB⟩
    exact Owns.cons_iff.2 ⟨fun _ => False, S, fun _ h => h, h, fun _ h => h.elim, fun _ h => h.elim, hB⟩
theorem Owns.flat_iff : ∀ {As : List Asrt} {l : List Asrt}, Owns B (stars As :: l) w ↔ Owns B (As ++ l) w
  | [], l => Owns.emp_iff
  | A :: As, l => by
    show Owns B (Asrt.star A (stars As) :: l) w ↔ _
    rw [Owns.star_iff, List.cons_append]
    constructor
    · intro h
      have h1 := Owns.flat_iff.1 h.swap
      exact h1.perm List.perm_middle
    · intro h
      have h1 : Owns B (As ++ A :: l) w := h.perm List.perm_middle.symm
      exact (Owns.flat_iff.2 h1).swap
theorem Owns.ex_iff {γ : Type} {A : γ → Asrt} : Owns B (Asrt.some' A :: l) w ↔ ∃ x, Owns B (A x :: l) w := by
  constructor
  · intro h
    obtain ⟨S, S2, ⟨x, h1⟩, r⟩ := Owns.cons_iff.1 h
    exact ⟨x, Owns.cons_iff.2 ⟨S, S2, h1, r⟩⟩
  · rintro ⟨x, h⟩
    obtain ⟨S, S2, h1, r⟩ := Owns.cons_iff.1 h
    exact Owns.cons_iff.2 ⟨S, S2, ⟨x, h1⟩, r⟩
theorem Owns.fact_iff {p : Prop} : Owns B (Asrt.fact p :: l) w ↔ p ∧ Owns B l w := by
  constructor
  · intro h
    obtain ⟨S, S2, ⟨h1, _⟩, _⟩ := Owns.cons_iff.1 h
    exact ⟨h1, h.tail⟩
  · rintro ⟨hp, S, h, hB⟩
    exact Owns.cons_iff.2 ⟨fun _ => False, S, ⟨hp, fun _ h => h⟩, h, fun _ h => h.elim, fun _ h => h.elim, hB⟩
theorem Owns.cellsE {b : Nat} {cs : Array Value} {T : TypeId} (h : Owns B (Asrt.cells b cs T :: l) w) : w.heap[b]? = some (.cells cs T (0, 0)) ∧ B ≤ b ∧ b < w.heap.size := by
  obtain ⟨S, ⟨h1, h2⟩, h3⟩ := h.head
  exact ⟨h1, h3 b ((h2 b).2 rfl), (Array.getElem?_eq_some_iff.1 h1).1⟩
theorem Owns.mapE {P : Program} {k : TypeId} {α β : Type} [DecidableEq α] {E : Enc P k α} {V : β → Value} {b : Nat} {T : List (α × β)} (h : Owns B (Asrt.map E V b T :: l) w) : MapT E V w b T ∧ B ≤ b := by
  obtain ⟨S, ⟨h1, h2⟩, h3⟩ := h.head
  exact ⟨h1, h3 b ((h2 b).2 rfl)⟩
/-- Two that lie side by side share no block. -/
theorem Owns.apart (h : Owns B (A :: C :: l) w) : ∃ S1 S2, A.holds w S1 ∧ C.holds w S2 ∧ ∀ b, S1 b → ¬ S2 b := by
  obtain ⟨S, S2, h1, ⟨S3, S4, h5, h6, h7, h8⟩, h3, _⟩ := Owns.cons_iff.1 h
  exact ⟨S, S3, h1, h5, fun b hb h => h3 b hb ((h8 b).2 (.inl h))⟩
/-- What stood as A stands as these now. -/
theorem Owns.turn {As : List Asrt} {w' : World} (h : Owns B (A :: l) w) (hB : B ≤ w.heap.size) (hs : ∀ S, A.holds w S → Step S (stars As) w w') : Owns B (As ++ l) w' ∧ Below B w w' := by
  obtain ⟨h1, h2⟩ := h.step hB hs
  exact ⟨Owns.flat_iff.1 h1, h2⟩
end
theorem step_cells {b : Nat} {cs cs' : Array Value} {T T' : TypeId} {w w' : World} (h : w'.heap[b]? = some (.cells cs' T' (0, 0))) (hk : Keeps (· = b) w w') : ∀ S, (Asrt.cells b cs T).holds w S → Step S (Asrt.cells b cs' T') w w' := by
  rintro S ⟨h1, h2⟩
  exact ⟨S, ⟨h, h2⟩, fun x hx => .inl hx, hk.mono (fun x _ hx => (h2 x).2 hx)⟩
theorem step_map {P : Program} {k : TypeId} {α β : Type} [DecidableEq α] {E : Enc P k α} {V : β → Value} {b : Nat} {T T' : List (α × β)} {w w' : World} (h : MapT E V w' b T') (hk : Keeps (· = b) w w') : ∀ S, (Asrt.map E V b T).holds w S → Step S (Asrt.map E V b T') w w' := by
  rintro S ⟨h1, h2⟩
  exact ⟨S, ⟨h, h2⟩, fun x hx => .inl hx, hk.mono (fun x _ hx => (h2 x).2 hx)⟩
theorem keeps_setBlock (w : World) (b : Nat) (o : Obj) : Keeps (· = b) w (setBlock w b o) := (Keeps.refl (· = b) w).setBlock (fun _ => rfl) o
theorem keeps_setCell (w : World) (b o : Nat) (v : Value) : Keeps (· = b) w (w.setCell ⟨b, o, none⟩ v) := (Keeps.refl (· = b) w).setCell (p := ⟨b, o, none⟩) (fun _ => rfl) v

/-! ### a map whose elements lead to blocks -/
section
variable {P : Program} {k : TypeId} {α β : Type} [DecidableEq α] {E : Enc P k α} {ζ : Type} {V : ζ → Value} {I : ζ → β → Asrt} {b : Nat} {C : List (α × β)} {B : Nat} {l : List Asrt} {w : World}
/-- A map of block b that holds C, each element by a block of its own (and what that leads to). -/
def Asrt.mapOf {ζ : Type} (E : Enc P k α) (V : ζ → Value) (I : ζ → β → Asrt) (b : Nat) (C : List (α × β)) : Asrt :=
  Asrt.some' fun M : List (α × ζ × β) => Asrt.star (Asrt.fact (M.map (fun m => (m.1, m.2.2)) = C)) (Asrt.star (Asrt.map E V b (M.map fun m => (m.1, m.2.1))) (stars (M.map fun m => I m.2.1 m.2.2)))
theorem Owns.mapOf_iff : Owns B (Asrt.mapOf E V I b C :: l) w ↔ ∃ M : List (α × ζ × β), M.map (fun m => (m.1, m.2.2)) = C ∧ Owns B (Asrt.map E V b (M.map fun m => (m.1, m.2.1)) :: stars (M.map fun m => I m.2.1 m.2.2) :: l) w := by
  unfold Asrt.mapOf
  rw [Owns.ex_iff]
  refine exists_congr fun M => ?_
  rw [Owns.star_iff, Owns.fact_iff, Owns.star_iff]
theorem Owns.mapOf_keys (h : Owns B (Asrt.mapOf E V I b C :: l) w) : (C.map (·.1)).Nodup ∧ ∀ c ∈ C, E.ok c.1 := by
  obtain ⟨M, rfl, h1⟩ := Owns.mapOf_iff.1 h
  have hm := h1.mapE.1
  have h2 := hm.nodup
  have h3 := hm.ok
  simp only [List.map_map, Function.comp_def, List.mem_map] at h2 h3 ⊢
  refine ⟨h2, ?_⟩
  rintro c ⟨m, hm, rfl⟩
  exact h3 (m.1, m.2.1) ⟨m, hm, rfl⟩
theorem Owns.mapOf_nil : Owns B (Asrt.map E V b [] :: l) w → Owns B (Asrt.mapOf E V I b [] :: l) w := fun h =>
  Owns.mapOf_iff.2 ⟨[], rfl, (Owns.emp_iff.2 h.tail |> fun _ => (Owns.emp_iff (l := Asrt.map E V b [] :: l)).2 h |> Owns.swap)⟩
theorem put_at {M : List (α × ζ × β)} (hn : (M.map (·.1)).Nodup) {j : Nat} {m : α × ζ × β} (hj : M[j]? = some m) (c' : β) :
    AL.put (M.map fun m => (m.1, m.2.2)) m.1 c' = (M.set j (m.1, m.2.1, c')).map (fun m => (m.1, m.2.2)) ∧ (M.set j (m.1, m.2.1, c')).map (fun m => (m.1, m.2.1)) = M.map (fun m => (m.1, m.2.1)) := by
  have hj2 : (M.map fun m => (m.1, m.2.2))[j]? = some (m.1, m.2.2) := by rw [List.getElem?_map, hj]; rfl
  have hn2 : ((M.map fun m => (m.1, m.2.2)).map (·.1)).Nodup := by simpa [List.map_map, Function.comp_def] using hn
  refine ⟨?_, ?_⟩
  · have := AL.put_set hn2 hj2 c'
    simp only at this
    rw [this, List.map_set]
  · rw [List.map_set]
    exact set_same (by rw [List.getElem?_map, hj]; rfl)
theorem get_at {γ δ : Type} {M : List (α × γ)} {f : γ → δ} (hn : (M.map (·.1)).Nodup) {a : α} {c : δ} (hg : AL.get (M.map fun m : α × γ => (m.1, f m.2)) a = some c) : ∃ (j : Nat) (m : α × γ), M[j]? = some m ∧ m.1 = a ∧ f m.2 = c := by
  have := AL.get_mem hg
  obtain ⟨m, hm, he⟩ := List.mem_map.1 this
  obtain ⟨j, hj⟩ := List.getElem?_of_mem hm
  simp only [Prod.mk.injEq] at he
  exact ⟨j, m, hj, he.1, he.2⟩
/-- ONE ELEMENT, and the way back. -/
theorem Owns.focus (h : Owns B (Asrt.mapOf E V I b C :: l) w) {a : α} {c : β} (hg : AL.get C a = some c) :
    ∃ (x : ζ) (T : List (α × ζ)) (R : Asrt), Owns B (Asrt.map E V b T :: I x c :: R :: l) w ∧ AL.get T a = some x ∧ T.map (·.1) = C.map (·.1) ∧
      ∀ (w' : World) (l' : List Asrt) (c' : β), Owns B (Asrt.map E V b T :: I x c' :: R :: l') w' → Owns B (Asrt.mapOf E V I b (AL.put C a c') :: l') w' := by
  obtain ⟨M, rfl, h1⟩ := Owns.mapOf_iff.1 h
  have hnd := h1.mapE.1.nodup
  have hn : (M.map (·.1)).Nodup := by simpa [List.map_map, Function.comp_def] using hnd
  obtain ⟨j, m, hj, rfl, rfl⟩ := get_at (f := fun y : ζ × β => y.2) hn hg
  have hjI : (M.map fun m => I m.2.1 m.2.2)[j]? = some (I m.2.1 m.2.2) := by rw [List.getElem?_map, hj]; rfl
  refine ⟨m.2.1, M.map (fun m => (m.1, m.2.1)), stars ((M.map fun m => I m.2.1 m.2.2).eraseIdx j), ?_, ?_, ?_, ?_⟩
  · have h2 : Owns B (stars (M.map fun m => I m.2.1 m.2.2) :: Asrt.map E V b (M.map fun m => (m.1, m.2.1)) :: l) w := h1.swap
    have h3 := Owns.flat_iff.1 h2
    have h4 : Owns B ((I m.2.1 m.2.2 :: (M.map fun m => I m.2.1 m.2.2).eraseIdx j) ++ (Asrt.map E V b (M.map fun m => (m.1, m.2.1)) :: l)) w := h3.perm ((erase_perm _ j _ hjI).append_right _)
    rw [List.cons_append] at h4
    have h5 : Owns B ((M.map fun m => I m.2.1 m.2.2).eraseIdx j ++ (Asrt.map E V b (M.map fun m => (m.1, m.2.1)) :: I m.2.1 m.2.2 :: l)) w := h4.perm (by
      refine (List.perm_middle.symm).trans (List.Perm.append_left _ (List.Perm.swap _ _ _)))
    have h6 := Owns.flat_iff.2 h5
    exact h6.perm ((List.Perm.swap _ _ _).trans (List.Perm.cons _ (List.Perm.swap _ _ _)))
  · have := AL.get_some (T := M.map fun m => (m.1, m.2.1)) hnd (p := (m.1, m.2.1)) (List.mem_map.2 ⟨m, List.mem_of_getElem? hj, rfl⟩)
    exact this
  · simp [List.map_map, Function.comp_def]
  · intro w' l' c' h7
    obtain ⟨e1, e2⟩ := put_at hn hj c'
    refine Owns.mapOf_iff.2 ⟨M.set j (m.1, m.2.1, c'), e1.symm, ?_⟩
    rw [e2]
    have h8 : Owns B (stars ((M.map fun m => I m.2.1 m.2.2).eraseIdx j) :: I m.2.1 c' :: Asrt.map E V b (M.map fun m => (m.1, m.2.1)) :: l') w' := h7.perm ((List.Perm.cons _ (List.Perm.swap _ _ _)).trans ((List.Perm.swap _ _ _).trans (List.Perm.cons _ (List.Perm.swap _ _ _))))
    have h9 := Owns.flat_iff.1 h8
    have hset : ((M.set j (m.1, m.2.1, c')).map fun m => I m.2.1 m.2.2).Perm (I m.2.1 c' :: (M.map fun m => I m.2.1 m.2.2).eraseIdx j) := by
      obtain ⟨hl, _⟩ := List.getElem?_eq_some_iff.1 hj
      have h10 := erase_perm ((M.set j (m.1, m.2.1, c')).map fun m => I m.2.1 m.2.2) j (I m.2.1 c') (by rw [List.getElem?_map, List.getElem?_set]; simp [hl])
      rw [List.map_set, List.eraseIdx_set_eq] at h10
      rw [List.map_set]
      exact h10
    have h11 : Owns B (((M.set j (m.1, m.2.1, c')).map fun m => I m.2.1 m.2.2) ++ (Asrt.map E V b (M.map fun m => (m.1, m.2.1)) :: l')) w' := by
      refine h9.perm (List.perm_middle.trans ?_)
      rw [← List.cons_append]
      exact hset.symm.append_right _
    exact (Owns.flat_iff.2 h11).swap
/-- ONE ELEMENT, and the way to another thing in its place. -/
theorem Owns.refocus (h : Owns B (Asrt.mapOf E V I b C :: l) w) {a : α} {c : β} (hg : AL.get C a = some c) :
    ∃ (x : ζ) (T : List (α × ζ)) (R : Asrt), Owns B (Asrt.map E V b T :: I x c :: R :: l) w ∧ AL.get T a = some x ∧ T.map (·.1) = C.map (·.1) ∧
      (∀ (w' : World) (l' : List Asrt) (x' : ζ) (c' : β), Owns B (Asrt.map E V b (AL.put T a x') :: I x' c' :: R :: l') w' → Owns B (Asrt.mapOf E V I b (AL.put C a c') :: l') w') ∧
      (∀ (w' : World) (l' : List Asrt), Owns B (Asrt.map E V b (AL.del T a) :: R :: l') w' → Owns B (Asrt.mapOf E V I b (AL.del C a) :: l') w') ∧
      (∀ (w' : World) (l' : List Asrt), Owns B (Asrt.map E V b T :: I x c :: R :: l') w' → Owns B (Asrt.mapOf E V I b C :: l') w') := by
  obtain ⟨M, rfl, h1⟩ := Owns.mapOf_iff.1 h
  have hnd := h1.mapE.1.nodup
  have hn : (M.map (·.1)).Nodup := by simpa [List.map_map, Function.comp_def] using hnd
  obtain ⟨j, m, hj, rfl, rfl⟩ := get_at (f := fun y : ζ × β => y.2) hn hg
  have hjI : (M.map fun m => I m.2.1 m.2.2)[j]? = some (I m.2.1 m.2.2) := by rw [List.getElem?_map, hj]; rfl
  have hnC : ((M.map fun m => (m.1, m.2.2)).map (·.1)).Nodup := by simpa [List.map_map, Function.comp_def] using hn
  have hjC : (M.map fun m => (m.1, m.2.2))[j]? = some (m.1, m.2.2) := by rw [List.getElem?_map, hj]; rfl
  have hjT : (M.map fun m => (m.1, m.2.1))[j]? = some (m.1, m.2.1) := by rw [List.getElem?_map, hj]; rfl
  have back : ∀ (w' : World) (l' : List Asrt) (x' : ζ) (c' : β), Owns B (Asrt.map E V b (AL.put (M.map fun m => (m.1, m.2.1)) m.1 x') :: I x' c' :: stars ((M.map fun m => I m.2.1 m.2.2).eraseIdx j) :: l') w' → Owns B (Asrt.mapOf E V I b (AL.put (M.map fun m => (m.1, m.2.2)) m.1 c') :: l') w' := by
    intro w' l' x' c' h7
    have e1 := AL.put_set hnC hjC c'
    have e2 := AL.put_set hnd hjT x'
    simp only at e1 e2
    refine Owns.mapOf_iff.2 ⟨M.set j (m.1, x', c'), by rw [e1, List.map_set], ?_⟩
    rw [e2] at h7
    rw [List.map_set (f := fun m : α × ζ × β => (m.1, m.2.1))]
    have h8 : Owns B (stars ((M.map fun m => I m.2.1 m.2.2).eraseIdx j) :: I x' c' :: Asrt.map E V b ((M.map fun m => (m.1, m.2.1)).set j (m.1, x')) :: l') w' := h7.perm ((List.Perm.cons _ (List.Perm.swap _ _ _)).trans ((List.Perm.swap _ _ _).trans (List.Perm.cons _ (List.Perm.swap _ _ _))))
    have h9 := Owns.flat_iff.1 h8
    have hset : ((M.set j (m.1, x', c')).map fun m => I m.2.1 m.2.2).Perm (I x' c' :: (M.map fun m => I m.2.1 m.2.2).eraseIdx j) := by
      obtain ⟨hl, _⟩ := List.getElem?_eq_some_iff.1 hj
      have h10 := erase_perm ((M.set j (m.1, x', c')).map fun m => I m.2.1 m.2.2) j (I x' c') (by rw [List.getElem?_map, List.getElem?_set]; simp [hl])
      rw [List.map_set, List.eraseIdx_set_eq] at h10
      rw [List.map_set]
      exact h10
    have h11 : Owns B (((M.set j (m.1, x', c')).map fun m => I m.2.1 m.2.2) ++ (Asrt.map E V b ((M.map fun m => (m.1, m.2.1)).set j (m.1, x')) :: l')) w' := by
      refine h9.perm (List.perm_middle.trans ?_)
      rw [← List.cons_append]
      exact hset.symm.append_right _
    exact (Owns.flat_iff.2 h11).swap
  refine ⟨m.2.1, M.map (fun m => (m.1, m.2.1)), stars ((M.map fun m => I m.2.1 m.2.2).eraseIdx j), ?_, ?_, ?_, back, ?_, ?_⟩
  · have h2 : Owns B (stars (M.map fun m => I m.2.1 m.2.2) :: Asrt.map E V b (M.map fun m => (m.1, m.2.1)) :: l) w := h1.swap
    have h3 := Owns.flat_iff.1 h2
    have h4 : Owns B ((I m.2.1 m.2.2 :: (M.map fun m => I m.2.1 m.2.2).eraseIdx j) ++ (Asrt.map E V b (M.map fun m => (m.1, m.2.1)) :: l)) w := h3.perm ((erase_perm _ j _ hjI).append_right _)
    rw [List.cons_append] at h4
    have h5 : Owns B ((M.map fun m => I m.2.1 m.2.2).eraseIdx j ++ (Asrt.map E V b (M.map fun m => (m.1, m.2.1)) :: I m.2.1 m.2.2 :: l)) w := h4.perm (by
      refine (List.perm_middle.symm).trans (List.Perm.append_left _ (List.Perm.swap _ _ _)))
    have h6 := Owns.flat_iff.2 h5
    exact h6.perm ((List.Perm.swap _ _ _).trans (List.Perm.cons _ (List.Perm.swap _ _ _)))
  · exact AL.get_some (T := M.map fun m => (m.1, m.2.1)) hnd (p := (m.1, m.2.1)) (List.mem_map.2 ⟨m, List.mem_of_getElem? hj, rfl⟩)
  · simp [List.map_map, Function.comp_def]
  · intro w' l' h7
    have e1 := AL.del_erase hnC hjC
    have e2 := AL.del_erase hnd hjT
    simp only at e1 e2
    refine Owns.mapOf_iff.2 ⟨M.eraseIdx j, by rw [e1, Go.ChangeMaps.map_eraseIdx], ?_⟩
    rw [e2] at h7
    rw [Go.ChangeMaps.map_eraseIdx (fun m : α × ζ × β => (m.1, m.2.1)), Go.ChangeMaps.map_eraseIdx (fun m : α × ζ × β => I m.2.1 m.2.2)]
    exact h7
  · intro w' l' h7
    have e1 := AL.put_set hnC hjC m.2.2
    have e2 := AL.put_set hnd hjT m.2.1
    simp only at e1 e2
    have h8 := back w' l' m.2.1 m.2.2 (by rw [e2, set_same hjT]; exact h7)
    rw [e1, set_same hjC] at h8
    exact h8
/-- A NEW ELEMENT, by the way back. -/
theorem Owns.fresh (h : Owns B (Asrt.mapOf E V I b C :: l) w) {a : α} (hg : AL.get C a = none) :
    ∃ (T : List (α × ζ)) (R : Asrt), Owns B (Asrt.map E V b T :: R :: l) w ∧ AL.get T a = none ∧ T.map (·.1) = C.map (·.1) ∧
      ∀ (w' : World) (l' : List Asrt) (x : ζ) (c' : β), Owns B (Asrt.map E V b (AL.put T a x) :: I x c' :: R :: l') w' → Owns B (Asrt.mapOf E V I b (AL.put C a c') :: l') w' := by
  obtain ⟨M, rfl, h1⟩ := Owns.mapOf_iff.1 h
  have hne : ∀ m ∈ M, m.1 ≠ a := fun m hm => AL.get_none_iff.1 hg (m.1, m.2.2) (List.mem_map.2 ⟨m, hm, rfl⟩)
  have hn1 : ∀ p ∈ M.map (fun m => (m.1, m.2.1)), p.1 ≠ a := by
    intro p hp; obtain ⟨m, hm, rfl⟩ := List.mem_map.1 hp; exact hne m hm
  have hn2 : ∀ p ∈ M.map (fun m => (m.1, m.2.2)), p.1 ≠ a := by
    intro p hp; obtain ⟨m, hm, rfl⟩ := List.mem_map.1 hp; exact hne m hm
  refine ⟨M.map (fun m => (m.1, m.2.1)), stars (M.map fun m => I m.2.1 m.2.2), h1, AL.get_none hn1, by simp [List.map_map, Function.comp_def], ?_⟩
  intro w' l' x c' h7
  rw [AL.put_new hn1] at h7
  refine Owns.mapOf_iff.2 ⟨M ++ [(a, x, c')], by rw [AL.put_new hn2]; simp, ?_⟩
  rw [List.map_append, List.map_append]
  have h8 : Owns B (stars (M.map fun m => I m.2.1 m.2.2) :: I x c' :: Asrt.map E V b (M.map (fun m => (m.1, m.2.1)) ++ [(a, x)]) :: l') w' := h7.perm ((List.Perm.cons _ (List.Perm.swap _ _ _)).trans ((List.Perm.swap _ _ _).trans (List.Perm.cons _ (List.Perm.swap _ _ _))))
  have h9 := Owns.flat_iff.1 h8
  have h10 : Owns B ((M.map (fun m => I m.2.1 m.2.2) ++ [I x c']) ++ (Asrt.map E V b (M.map (fun m => (m.1, m.2.1)) ++ [(a, x)]) :: l')) w' := by simpa using h9
  exact (Owns.flat_iff.2 h10).swap
/-- The map alone, for what only looks at it or ranges over it; each element by the way there. -/
theorem Owns.over (h : Owns B (Asrt.mapOf E V I b C :: l) w) :
    ∃ (T : List (α × ζ)) (R : Asrt), Owns B (Asrt.map E V b T :: R :: l) w ∧ T.map (·.1) = C.map (·.1) ∧ (∀ a, AL.get T a = none ↔ AL.get C a = none) ∧
      ∀ (w' : World) (l' : List Asrt), Owns B (Asrt.map E V b T :: R :: l') w' → Owns B (Asrt.mapOf E V I b C :: l') w' := by
  obtain ⟨M, rfl, h1⟩ := Owns.mapOf_iff.1 h
  refine ⟨M.map (fun m => (m.1, m.2.1)), stars (M.map fun m => I m.2.1 m.2.2), h1, by simp [List.map_map, Function.comp_def], ?_, fun w' l' h7 => Owns.mapOf_iff.2 ⟨M, rfl, h7⟩⟩
  intro a
  have e1 := AL.get_map (fun y : ζ × β => y.1) M a
  have e2 := AL.get_map (fun y : ζ × β => y.2) M a
  rw [e1, e2]
  cases AL.get M a <;> simp
end
section
variable {P : Program} {k : TypeId} {α β : Type} [DecidableEq α] {E : Enc P k α} {ζ : Type} {V : ζ → Value} {I : ζ → β → Asrt} {b : Nat} {C : List (α × β)} {B : Nat} {l : List Asrt} {w : World}
/-- 'delete(m, k)' of a map whose elements lead to blocks. -/
theorem Owns.mapOf_delete (h : Owns B (Asrt.mapOf E V I b C :: l) w) (a : α) : ∃ (T : List (α × ζ)) (R : Asrt), Owns B (Asrt.map E V b T :: R :: l) w ∧
    ∀ (w' : World) (l' : List Asrt), Owns B (Asrt.map E V b (AL.del T a) :: R :: l') w' → Owns B (Asrt.mapOf E V I b (AL.del C a) :: l') w' := by
  cases hg : AL.get C a with
  | none =>
    obtain ⟨T, R, h1, _, h2, h3⟩ := h.over
    refine ⟨T, R, h1, fun w' l' h4 => ?_⟩
    rw [AL.del_keep (AL.get_none_iff.1 ((h2 a).2 hg))] at h4
    rw [AL.del_keep (AL.get_none_iff.1 hg)]
    exact h3 w' l' h4
  | some c =>
    obtain ⟨x, T, R, h1, _, _, _, h2, _⟩ := h.refocus hg
    exact ⟨T, R, h1.perm (List.Perm.refl _) |> fun h => (h.front 1 _ rfl).tail, h2⟩
/-- 'm[k] = v' of such a map. -/
theorem Owns.mapOf_put (h : Owns B (Asrt.mapOf E V I b C :: l) w) (a : α) : ∃ (T : List (α × ζ)) (R : Asrt), Owns B (Asrt.map E V b T :: R :: l) w ∧ T.map (·.1) = C.map (·.1) ∧
    ∀ (w' : World) (l' : List Asrt) (x' : ζ) (c' : β), Owns B (Asrt.map E V b (AL.put T a x') :: I x' c' :: R :: l') w' → Owns B (Asrt.mapOf E V I b (AL.put C a c') :: l') w' := by
  cases hg : AL.get C a with
  | none =>
    obtain ⟨T, R, h1, _, h0, h2⟩ := h.fresh hg
    exact ⟨T, R, h1, h0, h2⟩
  | some c =>
    obtain ⟨x, T, R, h1, _, h0, h2, _⟩ := h.refocus hg
    exact ⟨T, R, (h1.front 1 _ rfl).tail, h0, h2⟩
end
theorem str_inj {a b : ByteArray} (h : a.toList = b.toList) : a = b := by
  rw [ByteArray.toList_eq, ByteArray.toList_eq] at h
  exact Go.WideShapes.bytes_inj h
theorem cell_of {w : World} {p T : Nat} {cs : Array Value} {fz : Nat × Nat} (h : w.heap[p]? = some (.cells cs T fz)) (o : Nat) : w.cell? ⟨p, o, none⟩ = cs[o]? := by
  simp [World.cell?, h]
theorem free_of {w : World} {p T : Nat} {cs : Array Value} (h : w.heap[p]? = some (.cells cs T (0, 0))) (o : Nat) : w.frozen? ⟨p, o, none⟩ = false := by
  simp [World.frozen?, h]
theorem setCell_of {w : World} {p T o : Nat} {cs : Array Value} {fz : Nat × Nat} (h : w.heap[p]? = some (.cells cs T fz)) (v : Value) : (w.setCell ⟨p, o, none⟩ v).heap[p]? = some (.cells (cs.setIfInBounds o v) T fz) := by
  simp [World.setCell, Array.getElem?_modify, h]
end Go.Cic

/- Arguments that are slices of plain data (numbers, bools, strings, structs of these): how they lie in memory. Own library text. -/
namespace Go.Cic
set_option linter.unusedVariables false
open Go.RowKit Go.ChangeShapes

/-- A type's plain values, as cells. -/
structure Rd (P : Program) (t : TypeId) (α : Type) where
  n : Nat
  cells : α → List Value
  ok : α → Prop
  len : ∀ a, (cells a).length = n
  size : P.cellsOf t = n
  opens : ∀ {H : Type} {enc : TypeId × Value → H} {w : World} {base : Nat} {spare : Nat → Bool} {held : Bool} {fuel : Nat} {cs : List Value} {x : DataW H × List MemPlace}, DataW.trod enc P w base spare held fuel t cs = some x → ∃ a, cs = cells a ∧ ok a
section
variable {P : Program}
def Rd.int {t : TypeId} (k : IntKind) (ht : P.underlying t = some (.int k)) (hs : P.cellsOf t = 1) : Rd P t Int :=
  ⟨1, fun a => [.int k a], fun a => (Lit.int k a).wf = true, fun _ => rfl, hs, fun h => by obtain ⟨a, rfl, _, hw⟩ := DataW.trod_int ht h; exact ⟨a, rfl, hw⟩⟩
def Rd.bool {t : TypeId} (ht : P.underlying t = some .bool) (hs : P.cellsOf t = 1) : Rd P t Bool :=
  ⟨1, fun a => [.bool a], fun _ => True, fun _ => rfl, hs, fun h => by obtain ⟨a, rfl, _⟩ := DataW.trod_bool ht h; exact ⟨a, rfl, trivial⟩⟩
def Rd.str {t : TypeId} (ht : P.underlying t = some .string) (hs : P.cellsOf t = 1) : Rd P t ByteArray :=
  ⟨1, fun a => [.string a], fun a => a.size ≤ maxLen, fun _ => rfl, hs, fun h => by obtain ⟨a, rfl, _, hw⟩ := DataW.trod_string ht h; exact ⟨a, rfl, hw⟩⟩
/-- Fields, from an offset on. -/
structure FRd (P : Program) (fs : List Field) (off : Nat) (α : Type) where
  n : Nat
  cells : α → List Value
  ok : α → Prop
  len : ∀ a, (cells a).length = n
  opens : ∀ {H : Type} {enc : TypeId × Value → H} {w : World} {base : Nat} {spare : Nat → Bool} {held : Bool} {fuel : Nat} {cs : List Value}, cs.length = off + n →
    (∀ (i : Nat) (f : Field), fs[i]? = some f → ∃ y, DataW.trod enc P w base spare held fuel f.type ((cs.drop f.offset).take (P.cellsOf f.type)) = some y) → ∃ a, cs.drop off = cells a ∧ ok a
def FRd.last {f : Field} {off : Nat} {α : Type} (r : Rd P f.type α) (ho : f.offset = off) : FRd P [f] off α :=
  ⟨r.n, r.cells, r.ok, r.len, fun {H enc w base spare held fuel cs} hl h => by
    obtain ⟨y, hy⟩ := h 0 f rfl
    rw [ho, r.size] at hy
    have : (cs.drop off).take r.n = cs.drop off := List.take_of_length_le (by simp; omega)
    rw [this] at hy
    exact r.opens hy⟩
def FRd.cons {f : Field} {fs : List Field} {off : Nat} {α β : Type} (r : Rd P f.type α) (ho : f.offset = off) (R : FRd P fs (off + r.n) β) : FRd P (f :: fs) off (α × β) :=
  ⟨r.n + R.n, fun a => r.cells a.1 ++ R.cells a.2, fun a => r.ok a.1 ∧ R.ok a.2, fun a => by rw [List.length_append, r.len, R.len], fun {H enc w base spare held fuel cs} hl h => by
    obtain ⟨y, hy⟩ := h 0 f rfl
    rw [ho, r.size] at hy
    obtain ⟨a, ha, hao⟩ := r.opens hy
    obtain ⟨b, hb, hbo⟩ := R.opens (enc := enc) (w := w) (base := base) (spare := spare) (held := held) (fuel := fuel) (cs := cs) (by omega) (fun i g hg => h (i + 1) g (by simpa using hg))
    refine ⟨(a, b), ?_, hao, hbo⟩
    show cs.drop off = r.cells a ++ R.cells b
    rw [← ha, ← hb, ← List.drop_drop, List.take_append_drop]⟩
theorem drop_add (cs : List Value) (a b : Nat) : cs.drop (a + b) = (cs.drop a).drop b := by rw [List.drop_drop]
def Rd.struct {t : TypeId} {fs : Array Field} {α : Type} (ht : P.underlying t = some (.struct fs)) (F : FRd P fs.toList 0 α) (hs : P.cellsOf t = F.n) : Rd P t α :=
  ⟨F.n, F.cells, F.ok, F.len, hs, fun {H enc w base spare held fuel cs x} h => by
    obtain ⟨xs, n, _, _, hl, hlen, hf⟩ := DataW.trod_struct ht h
    have := F.opens (enc := enc) (w := w) (base := base) (spare := spare) (held := held) (fuel := n) (cs := cs) (by omega) (fun i f hf2 => by
      have h2 := hf i f (by simpa using hf2)
      have hi : i < xs.length := by
        rw [hlen]
        have := (List.getElem?_eq_some_iff.1 hf2).1
        simpa using this
      exact ⟨xs[i], by rw [h2, List.getElem?_eq_getElem hi]⟩)
    simpa using this⟩

variable {e : TypeId} {α : Type}
/-- A slice over L lies at a. -/
def SlAt (r : Rd P e α) (w : World) (a : Option Addr) (L : List α) : Prop :=
  (∀ x ∈ L, r.ok x) ∧ ∀ (i : Nat) (x : α), L[i]? = some x → ∃ b o, a = some ⟨b, o, none⟩ ∧ b < w.heap.size ∧ ∀ j u, (r.cells x)[j]? = some u → w.cell? ⟨b, o + i * r.n + j, none⟩ = some u
theorem SlAt.below {r : Rd P e α} {w w' : World} {a : Option Addr} {L : List α} (h : SlAt r w a L) (hb : Below w.heap.size w w') : SlAt r w' a L :=
  ⟨h.1, fun i x hx => by
    obtain ⟨b, o, h1, h2, h3⟩ := h.2 i x hx
    exact ⟨b, o, h1, Nat.lt_of_lt_of_le h2 hb.size, fun j u hu => (hb.cell (p := ⟨b, o + i * r.n + j, none⟩) h2).trans (h3 j u hu)⟩⟩
/-- As an argument reads. -/
theorem SlAt.open {r : Rd P e α} (hn : 0 < r.n) {t : TypeId} (ht : P.underlying t = some (.slice e)) {H : Type} {enc : TypeId × Value → H} {w : World} {base : Nat} {spare : Nat → Bool} {held : Bool} {a : Option Addr} {len cap : Nat} {d : DataW H} {ps : List MemPlace}
    (h : DataW.Trod enc P w base spare held t (.slice a len cap) d ps) : ∃ L : List α, L.length = len ∧ len ≤ maxLen ∧ SlAt r w a L := by
  obtain ⟨fuel, hf⟩ := h
  rcases Go.Deep.open_slice ht hf with ⟨h1, _⟩ | ⟨a', len', cap', m, n, D, Pl, h1, hb, hl, hm, hmm, _, hx⟩
  · simp [Value.cells] at h1
    obtain ⟨rfl, rfl, rfl⟩ := h1
    exact ⟨[], rfl, Nat.zero_le _, by simp [SlAt]⟩
  · simp [Value.cells] at h1
    obtain ⟨rfl, rfl, rfl⟩ := h1
    have hlm : len ≤ m := by rw [hmm]; split <;> omega
    have key : ∀ i, i < len → ∃ x, r.ok x ∧ ∀ j, j < r.n → w.cell? ((a'.add (i * r.n)).add j) = (r.cells x)[j]? := by
      intro i hi
      obtain ⟨cs', h2, h3⟩ := hx i (by omega)
      rw [r.size] at h2
      obtain ⟨_, hlen, hc⟩ := World.cells?_some h2
      obtain ⟨x, rfl, hok⟩ := r.opens h3
      exact ⟨x, hok, hc⟩
    have hL : ∀ n, n ≤ len → ∃ L : List α, L.length = n ∧ (∀ x ∈ L, r.ok x) ∧ ∀ i x, L[i]? = some x → ∀ j, j < r.n → w.cell? ((a'.add (i * r.n)).add j) = (r.cells x)[j]? := by
      intro n
      induction n with
      | zero => intro _; exact ⟨[], rfl, by simp, by simp⟩
      | succ n ih =>
        intro hn
        obtain ⟨L, l1, l2, l3⟩ := ih (by omega)
        obtain ⟨x, hok, hxc⟩ := key n (by omega)
        refine ⟨L ++ [x], by simp [l1], ?_, ?_⟩
        · intro y hy
          rcases List.mem_append.1 hy with hy | hy
          · exact l2 y hy
          · simp at hy; subst hy; exact hok
        · intro i y hy
          rcases Nat.lt_or_ge i L.length with hi | hi
          · rw [List.getElem?_append_left hi] at hy
            exact l3 i y hy
          · rw [List.getElem?_append_right hi] at hy
            have : i - L.length = 0 := by
              rcases Nat.eq_zero_or_pos (i - L.length) with h | h
              · exact h
              · rw [List.getElem?_eq_none (by simp; omega)] at hy; cases hy
            rw [this] at hy
            simp at hy
            subst hy
            have : i = n := by omega
            subst this
            exact hxc
    obtain ⟨L, l1, l2, l3⟩ := hL len (Nat.le_refl _)
    refine ⟨L, l1, by omega, l2, fun i x hi => ?_⟩
    have h4 := l3 i x hi 0 hn
    have hlen := r.len x
    have h5 : ∃ v, w.cell? ((a'.add (i * r.n)).add 0) = some v := ⟨(r.cells x)[0]'(by omega), by rw [h4, List.getElem?_eq_getElem]⟩
    obtain ⟨v, hv⟩ := h5
    have hspot : ∀ q, (w.cell? q).isSome → q.spot = none ∧ q.block < w.heap.size := by
      intro q hq
      unfold World.cell? at hq
      split at hq
      · rename_i h6
        refine ⟨?_, (Array.getElem?_eq_some_iff.1 h6).1⟩
        cases hs : q.spot with
        | none => rfl
        | some _ => rw [hs] at hq; simp at hq
      · simp at hq
    obtain ⟨b, o, sp⟩ := a'
    -- the first element's cell tells that the address is no spot
    have h0 : ∃ x0, L[0]? = some x0 := by
      have := (List.getElem?_eq_some_iff.1 hi).1
      exact ⟨L[0]'(by omega), List.getElem?_eq_getElem (by omega)⟩
    obtain ⟨x0, hx0⟩ := h0
    have h7 := l3 0 x0 hx0 0 hn
    have hl0 := r.len x0
    simp only [Nat.zero_mul, Addr.add, if_true] at h7
    have h8 := hspot ⟨b, o, sp⟩ (by rw [h7, List.getElem?_eq_getElem (by omega)]; rfl)
    obtain ⟨h9, h10⟩ := h8
    simp only at h9 h10
    subst h9
    refine ⟨b, o, rfl, h10, fun j u hu => ?_⟩
    have hj : j < r.n := by have := (List.getElem?_eq_some_iff.1 hu).1; omega
    have h11 := l3 i x hi j hj
    have e1 : ((⟨b, o, none⟩ : Addr).add (i * r.n)).add j = ⟨b, o + i * r.n + j, none⟩ := by
      unfold Addr.add
      split
      · rename_i hj0
        subst hj0
        split
        · rename_i h12; rw [h12]; rfl
        · rfl
      · split
        · rename_i h12; simp only [h12]; rfl
        · rfl
    rw [e1] at h11
    rw [h11, hu]

/-- 'l[i]' of such a slice: its address, as an equation of the run. -/
theorem SlAt.idx {r : Rd P e α} {w : World} {t : TypeId} (ht : P.underlying t = some (.slice e)) (hsz : ∀ w : World, (sizeOf e).run P w = .ok r.n w) {ad : Option Addr} {len cap k : Nat} {L : List α} (hs : SlAt r w ad L) (hlen : L.length = len) {y : α} (hk : L[k]? = some y) :
    ∃ b p, (∀ W : World, (Instr.indexAt t (.slice ad len cap) (.int .i64 k)).run P W = .ok (.pointer (some ⟨b, p, none⟩)) W) ∧ (∀ j u, (r.cells y)[j]? = some u → w.cell? ⟨b, p + j, none⟩ = some u) ∧ b < w.heap.size := by
  obtain ⟨b, p, rfl, hb, hc⟩ := hs.2 k y hk
  have hlt : k < len := by rw [← hlen]; exact (List.getElem?_eq_some_iff.1 hk).1
  have e1 : (⟨b, p, none⟩ : Addr).add (k * r.n) = ⟨b, p + k * r.n, none⟩ := by
    unfold Addr.add; split
    · rename_i h; rw [h]; rfl
    · rfl
  refine ⟨b, p + k * r.n, fun W => ?_, hc, hb⟩
  simp [Instr.indexAt, asIntOf, run_underlying ht, hsz, Result.andThen, hlt, e1]
/-- 'l[i]' of such a slice: its address. -/
theorem wpList_indexSl {r : Rd P e α} {w : World} {ops : Array Oper} {rest : List Oper} {o : Oper} {a : Act} {Q : Exit → Act → World → Prop} (hg : o.guard = none) (x ix : Operand) (t : TypeId) (hop : o.op = Op.indexAddr t x ix)
    (ht : P.underlying t = some (.slice e)) (hsz : ∀ w : World, (sizeOf e).run P w = .ok r.n w) {ad : Option Addr} {len cap : Nat} (hx : a.eval x = .slice ad len cap) {k : Nat} (hi : a.eval ix = .int .i64 k) {L : List α} (hs : SlAt r w ad L) (hlen : L.length = len) {y : α} (hk : L[k]? = some y)
    (hK : ∀ b p, (∀ j u, (r.cells y)[j]? = some u → w.cell? ⟨b, p + j, none⟩ = some u) → b < w.heap.size → wpList P ops Q rest (a.put o.dst (.pointer (some ⟨b, p, none⟩))) w) : wpList P ops Q (o :: rest) a w := by
  refine wpList_plain hg fun K' hK' => ?_
  obtain ⟨b, p, rfl, hb, hc⟩ := hs.2 k y hk
  have hlt : k < len := by rw [← hlen]; exact (List.getElem?_eq_some_iff.1 hk).1
  have e1 : (⟨b, p, none⟩ : Addr).add (k * r.n) = ⟨b, p + k * r.n, none⟩ := by
    unfold Addr.add; split
    · rename_i h; rw [h]; rfl
    · rfl
  unfold Oper.wp
  simp [execOp, hop, hx, hi, Instr.indexAt, asIntOf, run_underlying ht, hsz, Result.andThen, hlt, e1]
  exact hK' _ _ (hK b _ hc hb)
end
end Go.Cic

/- Sums over a table, by a weighing. Own library text. -/
namespace Go.Cic
set_option linter.unusedSectionVars false
open Go.RowKit
variable {α : Type} [DecidableEq α]
/-- A table by a weighing. -/
def wsum (f : α → Int) (T : List (α × Int)) : Int := (T.map fun x => x.2 * f x.1).sum
theorem wsum_nil (f : α → Int) : wsum f [] = 0 := rfl
theorem wsum_cons (f : α → Int) (q : α × Int) (r : List (α × Int)) : wsum f (q :: r) = q.2 * f q.1 + wsum f r := by simp [wsum]
theorem wsum_append (f : α → Int) (T T' : List (α × Int)) : wsum f (T ++ T') = wsum f T + wsum f T' := by simp [wsum]
theorem wsum_put (f : α → Int) (T : List (α × Int)) (t : α) (n : Int) : wsum f (AL.put T t ((AL.get T t).getD 0 + n)) = wsum f T + n * f t := by
  induction T with
  | nil => simp [AL.put, AL.get, wsum]
  | cons q r ih =>
    simp only [AL.put, AL.get]
    split
    · rename_i h
      subst h
      simp only [Option.getD_some, wsum_cons, Int.add_mul]; omega
    · simp only [wsum_cons] at ih ⊢
      omega
theorem wsum_at {T : List (α × Int)} (hn : (T.map (·.1)).Nodup) (t : α) : wsum (fun x => if x = t then 1 else 0) T = (AL.get T t).getD 0 := by
  induction T with
  | nil => rfl
  | cons q r ih =>
    simp only [List.map_cons, List.nodup_cons] at hn
    simp only [AL.get, wsum_cons]
    split
    · rename_i h
      subst h
      have : wsum (fun x => if x = q.1 then 1 else 0) r = 0 := by
        rw [ih hn.2, AL.get_none (fun p hp e => hn.1 (List.mem_map.2 ⟨p, hp, e⟩))]; rfl
      simp [this]
    · rename_i h
      rw [ih hn.2]; simp
theorem wsum_del {f : α → Int} {L : List (α × Int)} (hn : (L.map (·.1)).Nodup) {x : α} {y : Int} (hp : (x, y) ∈ L) : wsum f (AL.del L x) = wsum f L - y * f x := by
  induction L with
  | nil => cases hp
  | cons q r ih =>
    simp only [List.map_cons, List.nodup_cons] at hn
    unfold AL.del at ih ⊢
    rcases List.mem_cons.1 hp with e | hp'
    · subst e
      have h1 : r.filter (fun p => decide (p.1 ≠ x)) = r := AL.del_keep (fun p hp e => hn.1 (List.mem_map.2 ⟨p, hp, e⟩))
      have h2 : decide (x ≠ x) = false := by simp
      simp only [List.filter_cons, h2, Bool.false_eq_true, if_false]
      rw [h1, wsum_cons]; simp only; omega
    · have h2 : decide (q.1 ≠ x) = true := by
        have : q.1 ≠ x := fun e => hn.1 (List.mem_map.2 ⟨(x, y), hp', e.symm⟩)
        simpa using this
      have := ih hn.2 hp'
      simp only [List.filter_cons, h2, if_true, wsum_cons] at this ⊢
      omega
theorem wsum_filter (f : α → Int) (q : α → Bool) (T : List (α × Int)) : wsum f (T.filter fun x => q x.1) = wsum (fun c => if q c then f c else 0) T := by
  induction T with
  | nil => rfl
  | cons p r ih =>
    simp only [List.filter_cons, wsum_cons]
    split
    · rw [wsum_cons, ih]
    · rw [ih]; simp
theorem wsum_congr {f g : α → Int} {T : List (α × Int)} (h : ∀ x ∈ T, f x.1 = g x.1) : wsum f T = wsum g T := by
  induction T with
  | nil => rfl
  | cons p r ih => rw [wsum_cons, wsum_cons, h p (by simp), ih (fun x hx => h x (by simp [hx]))]
theorem wsum_bd {f : α → Int} {T : List (α × Int)} {m V : Int} (hV : 0 ≤ V) (hf : ∀ t, 0 ≤ f t ∧ f t ≤ m) (hA : ∀ a ∈ T, 0 ≤ a.2 ∧ a.2 ≤ V) : 0 ≤ wsum f T ∧ wsum f T ≤ T.length * (V * m) := by
  induction T with
  | nil => simp [wsum]
  | cons a r ih =>
    obtain ⟨i1, i2⟩ := ih (fun x hx => hA x (by simp [hx]))
    obtain ⟨a1, a2⟩ := hA a (by simp)
    obtain ⟨f1, f2⟩ := hf a.1
    have h1 : 0 ≤ a.2 * f a.1 := Int.mul_nonneg a1 f1
    have h2 : a.2 * f a.1 ≤ V * m := Int.mul_le_mul a2 f2 f1 hV
    rw [wsum_cons, List.length_cons]
    push_cast
    rw [Int.add_mul]
    omega
theorem wsum_nonneg {f : α → Int} {T : List (α × Int)} (hf : ∀ x ∈ T, 0 ≤ f x.1) (hA : ∀ a ∈ T, 0 ≤ a.2) : 0 ≤ wsum f T := by
  induction T with
  | nil => simp [wsum]
  | cons a r ih =>
    have := ih (fun x hx => hf x (by simp [hx])) (fun x hx => hA x (by simp [hx]))
    have h1 : 0 ≤ a.2 * f a.1 := Int.mul_nonneg (hA a (by simp)) (hf a (by simp))
    rw [wsum_cons]; omega
theorem wsum_le {f g : α → Int} {T : List (α × Int)} (h : ∀ x ∈ T, f x.1 ≤ g x.1) (hA : ∀ a ∈ T, 0 ≤ a.2) : wsum f T ≤ wsum g T := by
  induction T with
  | nil => simp [wsum]
  | cons a r ih =>
    have := ih (fun x hx => h x (by simp [hx])) (fun x hx => hA x (by simp [hx]))
    have h1 : a.2 * f a.1 ≤ a.2 * g a.1 := Int.mul_le_mul_of_nonneg_left (h a (by simp)) (hA a (by simp))
    rw [wsum_cons, wsum_cons]; omega
theorem wsum_add (f g : α → Int) (T : List (α × Int)) : wsum (fun c => f c + g c) T = wsum f T + wsum g T := by
  induction T with
  | nil => rfl
  | cons a r ih => simp only [wsum_cons, ih, Int.mul_add]; omega
theorem wsum_zero {f : α → Int} {T : List (α × Int)} (h : ∀ x ∈ T, f x.1 = 0) : wsum f T = 0 := by
  induction T with
  | nil => rfl
  | cons a r ih => rw [wsum_cons, h a (by simp), ih (fun x hx => h x (by simp [hx]))]; simp
/-- Somewhere is something. -/
theorem wsum_pos {f : α → Int} {T : List (α × Int)} (hf : ∀ x ∈ T, 0 ≤ f x.1) (hA : ∀ a ∈ T, 0 ≤ a.2) (h : 0 < wsum f T) : ∃ a ∈ T, 0 < a.2 ∧ 0 < f a.1 := by
  induction T with
  | nil => simp [wsum] at h
  | cons a r ih =>
    by_cases ha : 0 < a.2 * f a.1
    · refine ⟨a, by simp, ?_⟩
      have h1 := hA a (by simp); have h2 := hf a (by simp)
      constructor
      · rcases Int.lt_or_eq_of_le h1 with h | h
        · exact h
        · rw [← h] at ha; simp at ha
      · rcases Int.lt_or_eq_of_le h2 with h | h
        · exact h
        · rw [← h] at ha; simp at ha
    · rw [wsum_cons] at h
      obtain ⟨b, hb, h3⟩ := ih (fun x hx => hf x (by simp [hx])) (fun x hx => hA x (by simp [hx])) (by omega)
      exact ⟨b, by simp [hb], h3⟩
theorem wsum_mem_le {f : α → Int} {T : List (α × Int)} (hf : ∀ x ∈ T, 0 ≤ f x.1) (hA : ∀ a ∈ T, 0 ≤ a.2) {a : α × Int} (ha : a ∈ T) : a.2 * f a.1 ≤ wsum f T := by
  induction T with
  | nil => cases ha
  | cons b r ih =>
    have hr := wsum_nonneg (f := f) (T := r) (fun x hx => hf x (by simp [hx])) (fun x hx => hA x (by simp [hx]))
    rw [wsum_cons]
    rcases List.mem_cons.1 ha with rfl | ha
    · omega
    · have := ih (fun x hx => hf x (by simp [hx])) (fun x hx => hA x (by simp [hx])) ha
      have h1 : 0 ≤ b.2 * f b.1 := Int.mul_nonneg (hA b (by simp)) (hf b (by simp))
      omega
theorem wrap_add (a b : Int) : wrap64 (wrap64 a + b) = wrap64 (a + b) := by unfold wrap64; omega
theorem wrap_id {a : Int} (h1 : -9223372036854775808 ≤ a) (h2 : a ≤ 9223372036854775807) : wrap64 a = a := by unfold wrap64; omega
end Go.Cic

/- Slices of one-cell elements: rows of the call's own, and what a slice reads. Own library text. -/
namespace Go.Cic
set_option linter.unusedVariables false
open Go.RowKit

/-- Behind this address these cells lie. -/
def Lies (w : World) (ao : Option Addr) (ys : List Value) : Prop := ∀ (j : Nat) (u : Value), ys[j]? = some u → ∃ b o, ao = some ⟨b, o, none⟩ ∧ b < w.heap.size ∧ w.cell? ⟨b, o + j, none⟩ = some u
theorem Lies.nil (w : World) (ao : Option Addr) : Lies w ao [] := fun j u h => by simp at h
theorem Lies.below {w w' : World} {ao : Option Addr} {ys : List Value} (h : Lies w ao ys) (hb : Below w.heap.size w w') : Lies w' ao ys := fun j u hj => by
  obtain ⟨b, o, h1, h2, h3⟩ := h j u hj
  exact ⟨b, o, h1, Nat.lt_of_lt_of_le h2 hb.size, (hb.cell (p := ⟨b, o + j, none⟩) h2).trans h3⟩
theorem add_one' (b o j : Nat) : (⟨b, o, none⟩ : Addr).add j = ⟨b, o + j, none⟩ := by
  unfold Addr.add; split
  · rename_i h; rw [h]; rfl
  · rfl
theorem Lies.sub {w : World} {ao : Option Addr} {ys : List Value} (h : Lies w ao ys) {lo hi cap : Nat} (hc : hi ≤ cap) (size : Nat) (hs : size = 1) : Lies w (if cap = lo then ao else ao.map (·.add (lo * size))) ((ys.drop lo).take (hi - lo)) := by
  subst hs
  intro j u hj
  rw [List.getElem?_take] at hj
  split at hj
  · rename_i hlt
    rw [List.getElem?_drop] at hj
    obtain ⟨b, o, rfl, h2, h3⟩ := h _ u hj
    rw [if_neg (by omega)]
    refine ⟨b, o + lo, ?_, h2, by rw [Nat.add_assoc]; exact h3⟩
    simp [add_one']
  · cases hj
section
variable {P : Program}
theorem Lies.idx {w : World} {t e : TypeId} (ht : P.underlying t = some (.slice e)) (hsz : ∀ w : World, (sizeOf e).run P w = .ok 1 w) {ao : Option Addr} {n c k : Nat} {ys : List Value} (h : Lies w ao ys) (hn : ys.length = n) {u : Value} (hk : ys[k]? = some u) :
    ∃ b p, (∀ W : World, (Instr.indexAt t (.slice ao n c) (.int .i64 k)).run P W = .ok (.pointer (some ⟨b, p, none⟩)) W) ∧ w.cell? ⟨b, p, none⟩ = some u ∧ b < w.heap.size := by
  obtain ⟨b, o, rfl, h2, h3⟩ := h k u hk
  have hlt : k < n := by rw [← hn]; exact (List.getElem?_eq_some_iff.1 hk).1
  refine ⟨b, o + k, fun W => ?_, h3, h2⟩
  simp [Instr.indexAt, asIntOf, run_underlying ht, hsz, Result.andThen, hlt, add_one']
theorem wpList_idx {w : World} {ops : Array Oper} {rest : List Oper} {o : Oper} {a : Act} {Q : Exit → Act → World → Prop} (hg : o.guard = none) (x ix : Operand) (t : TypeId) (hop : o.op = Op.indexAddr t x ix) {e : TypeId}
    (ht : P.underlying t = some (.slice e)) (hsz : ∀ w : World, (sizeOf e).run P w = .ok 1 w) {ao : Option Addr} {n c : Nat} (hx : a.eval x = .slice ao n c) {k : Nat} (hi : a.eval ix = .int .i64 k) {ys : List Value} (hs : Lies w ao ys) (hn : ys.length = n) {u : Value} (hk : ys[k]? = some u)
    (hK : ∀ b p, w.cell? ⟨b, p, none⟩ = some u → b < w.heap.size → wpList P ops Q rest (a.put o.dst (.pointer (some ⟨b, p, none⟩))) w) : wpList P ops Q (o :: rest) a w := by
  refine wpList_plain hg fun K' hK' => ?_
  obtain ⟨b, p, hr, hc, hb⟩ := hs.idx (c := c) ht hsz hn hk
  unfold Oper.wp
  simp [execOp, hop, hx, hi, Result.andThen, hr]
  exact hK' _ _ (hK b _ hc hb)
theorem bytes_of_lies {w : World} {ao : Option Addr} {n c : Nat} {l : List UInt8} (h : Lies w ao (l.map fun b => Value.int .u8 b.toNat)) (hn : l.length = n) (src dst e : TypeId) (hs : P.underlying src = some (.slice e)) (he : P.underlying e = some (.int .u8)) (hd : P.underlying dst = some .string) :
    (convert src dst (.slice ao n c)).run P w = .ok (.string ⟨l.toArray⟩) w := by
  rw [run_convert_bytes_string w src dst e ao n c hs he hd]
  have hfold : ∀ (l : List UInt8) (s : ByteArray), (l.map fun b => (b.toNat : Int)).foldl (fun r n => r.push (UInt8.ofNat n.toNat)) s = ⟨s.data ++ l.toArray⟩ := by
    intro l
    induction l with
    | nil => intro s; simp
    | cons b l ih =>
      intro s
      rw [List.map_cons, List.foldl_cons, ih]
      simp [ByteArray.push]
  cases ao with
  | none =>
    have hl : l = [] := by
      cases l with
      | nil => rfl
      | cons b l => obtain ⟨_, _, h1, _⟩ := h 0 _ rfl; cases h1
    subst hl
    subst hn
    simp [Conv.bytesToString]
    rfl
  | some a =>
    have hload : (loadCells a n).run P w = .ok ((l.map fun b => (b.toNat : Int)).map (Value.int .u8)).toArray w := by
      have := run_firstCells_some (P := P) w 1 n a n c (l.map fun b => Value.int .u8 b.toNat) (by simp [hn]) (fun j u hj => by
        obtain ⟨b, o, h1, h2, h3⟩ := h j u hj
        obtain rfl : a = ⟨b, o, none⟩ := by simpa using h1
        rw [add_one']; exact h3)
      simp [Builtin.firstCells] at this
      simpa [Function.comp_def] using this
    rw [run_bytesToString w a n c _ hload, hfold]
    simp [ByteArray.empty, ByteArray.emptyWithCapacity]
    rfl
end

/-- A slice of the call's own: elements of one cell each. -/
def Asrt.row (e : TypeId) (v : Value) (xs : List Value) : Asrt where
  holds w S := w.ownsRow 0 e 1 v xs.length xs ∧ ∀ b, S b ↔ v.ownBlock = some b
  lt := by
    rintro w S ⟨h1, h2⟩ b hb
    exact (h1.lt b ((h2 b).1 hb)).2
  loc := by
    rintro w w' S ⟨h1, h2⟩ h
    refine ⟨⟨h1.1, ?_⟩, h2⟩
    rcases h1.2 with hn | ⟨g, cap, cur, rfl, hb, hg, rest⟩
    · exact .inl hn
    · exact .inr ⟨g, cap, cur, rfl, hb, (h g ((h2 g).2 rfl)).trans hg, rest⟩
section
variable {B : Nat} {l : List Asrt} {w : World} {e : TypeId} {v : Value} {xs : List Value}
theorem Owns.rowE (h : Owns B (Asrt.row e v xs :: l) w) : ∃ ao cap, v = .slice ao xs.length cap ∧ xs.length ≤ cap ∧ Lies w ao xs ∧ (ao = none → v = .slice none 0 0) ∧ (∀ a, ao = some a → ∃ g, a = ⟨g, 0, none⟩ ∧ B ≤ g ∧ g < w.heap.size ∧ ∃ cur, w.heap[g]? = some (.cells cur e (0, 0)) ∧ cur.size = cap) := by
  obtain ⟨S, ⟨h1, h2⟩, h3⟩ := h.head
  rcases h1.2 with ⟨rfl, hn⟩ | ⟨g, cap, cur, rfl, hb, hg, hnc, hcm, hcs, htake⟩
  · have hx : xs = [] := List.eq_nil_of_length_eq_zero hn
    subst hx
    exact ⟨none, 0, rfl, Nat.le_refl _, Lies.nil _ _, fun _ => rfl, fun a ha => by cases ha⟩
  · have hc := h1.cells (g := g) rfl
    have hlt := (Array.getElem?_eq_some_iff.1 hg).1
    refine ⟨_, cap, rfl, hnc, fun j u hj => ⟨g, 0, rfl, hlt, (by have := hc j u hj; rw [add_one'] at this; exact this)⟩, (fun hh => nomatch hh), fun a ha => ?_⟩
    obtain rfl : (⟨g, 0, none⟩ : Addr) = a := by simpa using ha
    exact ⟨g, rfl, h3 g ((h2 g).2 rfl), hlt, cur, hg, by simpa using hcs⟩
theorem Owns.rowLies {ao : Option Addr} {n c : Nat} (h : Owns B (Asrt.row e (.slice ao n c) xs :: l) w) : Lies w ao xs ∧ xs.length = n ∧ n ≤ c := by
  obtain ⟨ao', cap, hv, h1, h2, _⟩ := h.rowE
  injection hv with e1 e2 e3
  subst e1; subst e2; subst e3
  exact ⟨h2, rfl, h1⟩
theorem Owns.rowNil (h : Owns B l w) : Owns B (Asrt.row e (.slice none 0 0) [] :: l) w := by
  obtain ⟨S, h1, h2⟩ := h
  exact Owns.cons_iff.2 ⟨fun _ => False, S, ⟨World.ownsRow_nil w 0 e 1, fun b => ⟨fun h => h.elim, fun h => by simp [Value.ownBlock] at h⟩⟩, h1, fun _ h => h.elim, fun _ h => h.elim, h2⟩
theorem Owns.rowOfCells {b n : Nat} (h : Owns B (Asrt.cells b xs.toArray e :: l) w) (hn : xs.length = n) (hm : n ≤ maxLen) : Owns B (Asrt.row e (.slice (some ⟨b, 0, none⟩) n n) xs :: l) w := by
  subst hn
  refine h.imp ?_
  rintro S ⟨h1, h2⟩
  refine ⟨⟨by simp, .inr ⟨b, xs.length, xs.toArray, rfl, Nat.zero_le _, h1, Nat.le_refl _, hm, by simp, by simp⟩⟩, fun x => ?_⟩
  rw [h2 x]
  simp [Value.ownBlock, eq_comm]
theorem Owns.cellsLies {b : Nat} {T : TypeId} (h : Owns B (Asrt.cells b xs.toArray T :: l) w) : Lies w (some ⟨b, 0, none⟩) xs := fun j u hj => by
  obtain ⟨h1, h2, h3⟩ := h.cellsE
  refine ⟨b, 0, rfl, h3, ?_⟩
  rw [cell_of h1]
  simpa using hj
theorem step_grown {v' : Value} {xs' : List Value} {w' : World} (h : w'.ownsRow 0 e 1 v' xs'.length xs') (hg : w.grownBy w' v.ownBlock) (ha : v'.ownBlock = v.ownBlock ∨ v'.ownBlock = some w.heap.size) : ∀ S, (Asrt.row e v xs).holds w S → Step S (Asrt.row e v' xs') w w' := by
  rintro S ⟨h1, h2⟩
  refine ⟨fun b => v'.ownBlock = some b, ⟨h, fun _ => Iff.rfl⟩, ?_, ⟨hg.os, hg.tape, hg.output, hg.size, fun b hb hS => hg.block b hb (fun e => hS ((h2 b).2 e.symm))⟩⟩
  intro b hb
  rcases ha with ha | ha
  · exact .inl ((h2 b).2 (ha ▸ hb))
  · rw [hb] at ha
    injection ha with ha
    exact .inr (Nat.le_of_eq ha.symm)
theorem Owns.append {P : Program} {t : TypeId} {z : Value} {bytes : Nat} (ht : P.underlying t = some (.slice e)) (hi : (P.info? e).map (fun i => (i.zero, i.size, i.bytes)) = some (some z, 1, bytes)) (hz : z.cells.size = 1) (ty : TypeId)
    (h : Owns B (Asrt.row e v xs :: l) w) (hB : B ≤ w.heap.size) {ao : Option Addr} {m c : Nat} {ys : List Value} (hy : Lies w ao ys) (hm : ys.length = m) (h1 : ∀ u ∈ ys, u.oneCell' = true) (h63 : xs.length + m ≤ maxLen) (hby : (xs.length + m) * bytes ≤ 140737488355328) :
    ∃ ao' c' w', (Builtin.append_ #[t, t] ty #[v, .slice ao m c]).run P w = .ok (.slice ao' (xs.length + m) c') w' ∧ Owns B (Asrt.row e (.slice ao' (xs.length + m) c') (xs ++ ys) :: l) w' ∧ Below B w w' := by
  obtain ⟨i, hi1, hi2, hi3, hi4⟩ := info_parts hi
  have key : ∃ v' w', (Builtin.append_ #[t, t] ty #[v, .slice ao m c]).run P w = .ok v' w' ∧ Owns B (Asrt.row e v' (xs ++ ys) :: l) w' ∧ Below B w w' := by
    cases ys with
    | nil =>
      obtain rfl : m = 0 := by simpa using hm.symm
      obtain ⟨ao', cap, rfl, hle, _⟩ := h.rowE
      refine ⟨_, w, ?_, by rw [List.append_nil]; exact h, Below.refl _ _⟩
      refine run_append_nothing w t t ty e i ht hi1 ao' xs.length cap hle _ ?_
      cases ao with
      | none => exact Src.ofNil w ht c
      | some a => exact Src.ofSlice w ht a 0 c [] (by simp) (by simp) (by simp)
    | cons y ys =>
      obtain ⟨b, o, rfl, hb, _⟩ := hy 0 y rfl
      obtain ⟨S, ⟨hown, _⟩, _⟩ := h.head
      obtain ⟨v', w', hr, h2, h3, _, h5⟩ := run_append_own_at (P := P) w 0 t ty e i z 1 bytes ht hi1 hi2 hi3 hi4 hz (by omega) v xs.length xs hown ⟨b, o, none⟩ m c (y :: ys) (by rw [hm]; omega) (fun j u hj => by
        obtain ⟨b', o', e1, _, e3⟩ := hy j u hj
        simp only [Option.some.injEq, Addr.mk.injEq] at e1
        obtain ⟨rfl, rfl, _⟩ := e1
        rw [add_one']; exact e3) h1 h63 hby (Nat.zero_le _)
      have hlen : (xs ++ y :: ys).length = xs.length + m := by rw [List.length_append, hm]
      rw [← hlen] at h2
      exact ⟨v', w', hr, h.step hB (step_grown h2 h3 h5)⟩
  obtain ⟨v', w', hr, h2, h3⟩ := key
  obtain ⟨ao', cap, rfl, _⟩ := h2.rowE
  have hlen : (xs ++ ys).length = xs.length + m := by rw [List.length_append, hm]
  rw [hlen] at hr h2
  exact ⟨ao', cap, w', hr, h2, h3⟩
theorem wpList_appendRow {P : Program} {ops : Array Oper} {rest : List Oper} {o : Oper} {a : Act} {Q : Exit → Act → World → Prop} (hgd : o.guard = none) (s x : Operand) (t : TypeId)
    (ho : o.op = .call { callee := .builtin .append, args := #[s, x], argTypes := #[t, t] }) {z : Value} {bytes : Nat} (ht : P.underlying t = some (.slice e)) (hi : (P.info? e).map (fun i => (i.zero, i.size, i.bytes)) = some (some z, 1, bytes)) (hz : z.cells.size = 1)
    (hs : a.eval s = v) {ao : Option Addr} {m c : Nat} (hx : a.eval x = .slice ao m c) {ys : List Value}
    (h : Owns B (Asrt.row e v xs :: l) w) (hB : B ≤ w.heap.size) (hy : Lies w ao ys) (hm : ys.length = m) (h1 : ∀ u ∈ ys, u.oneCell' = true) (h63 : xs.length + m ≤ maxLen) (hby : (xs.length + m) * bytes ≤ 140737488355328) {N : Nat} (hN : xs.length + m = N)
    (hK : ∀ ao' c' w', Owns B (Asrt.row e (.slice ao' N c') (xs ++ ys) :: l) w' → Below B w w' → wpList P ops Q rest (a.put o.dst (.slice ao' N c')) w') : wpList P ops Q (o :: rest) a w := by
  subst hN
  refine wpList_plain hgd fun K hK' => ?_
  obtain ⟨ao', c', w', hr, h2, h3⟩ := Owns.append ht hi hz o.type h hB (c := c) hy hm h1 h63 hby
  unfold Oper.wp execOp
  simp only [ho, resolve, invoke, builtin, Sem.run_bind, Sem.run_pure, Result.andThen_ok, List.map_toArray, List.map_cons, List.map_nil, hs, hx, hr]
  exact hK' _ _ (hK ao' c' w' h2 h3)
theorem wpList_makeRow {P : Program} {ops : Array Oper} {rest : List Oper} {o : Oper} {a : Act} {Q : Exit → Act → World → Prop} (hg : o.guard = none) (lo co : Operand) (t : TypeId) (hop : o.op = Op.makeSlice t lo co)
    {z : Value} {bytes : Nat} (ht : P.underlying t = some (.slice e)) (hi : (P.info? e).map (fun i => (i.zero, i.size, i.bytes)) = some (some z, 1, bytes))
    {kl kc : IntKind} {C : Int} {n : Nat} (hl : a.eval lo = .int kl 0) (hc : a.eval co = .int kc C) (hC : C = (n : Int)) (b2 : bytes * n ≤ 281474976710656) (b3 : n ≤ maxLen) (h : Owns B l w) (hB : B ≤ w.heap.size)
    (hK : ∀ ao w', Owns B (Asrt.row e (.slice ao 0 n) [] :: l) w' → Below B w w' → wpList P ops Q rest (a.put o.dst (.slice ao 0 n)) w') : wpList P ops Q (o :: rest) a w := by
  obtain ⟨i, hi1, hi2, hi3, hi4⟩ := info_parts hi
  refine wpList_make_own w hg lo co t hop 0 e i z 1 ht hi1 hi2 hi3 kl kc C n hl hc hC (by rw [hi4]; exact b2) b3 (Nat.zero_le _) ?_
  intro w' hown hgrow
  have hb : Below w.heap.size w w' := ⟨hgrow.os, hgrow.tape, hgrow.output, hgrow.size, fun k hk => hgrow.block k hk (by simp)⟩
  refine hK _ w' (h.new hB (S := (· = w.heap.size)) ⟨hown, fun b => by simp [Value.ownBlock, eq_comm]⟩ (fun b hb => Nat.le_of_eq hb.symm) hb) (hb.mono hB)
end
end Go.Cic

/- A map's string keys for the shelf's contracts; rising rows of texts. Own library text. -/
namespace Go.Cic
set_option linter.unusedVariables false
open Go.RowKit Go.ChangeMaps
open Go.Proofs (encStr)
/-- How a map whose keys are texts is handed to the shelf. -/
theorem MapT.keysOwn {P : Program} {k : TypeId} (hk : P.underlying k = some .string) {β : Type} {V : β → Value} {w : World} {b : Nat} {T : List (ByteArray × β)} (h : MapT (strEnc hk) V w b T) (hlen : T.length ≤ maxLen) :
    ∃ (D0 : DataW Unit) (R : Value → Option (DataW Unit × List MemPlace)) (nn : Nat), w.ownsMap P k R b nn D0 ∧ (strKeys D0).Perm (T.map fun p => p.1.data.toList) ∧ Maps.size D0 = T.length := by
  obtain ⟨es, clk, hb, he, hs, hok⟩ := h
  have hel : es.toList.length = T.length := by have := congrArg List.length he; simpa using this
  have hrd : ∀ x ∈ es.toList, ∃ p ∈ T, WideElems.rd P k (fun _ => some ((.nil : DataW Unit), [])) x = some (.string p.1.data.toList, .nil) := by
    intro x hx
    have h1 : (x.key, x.val) ∈ es.toList.map (fun e => (e.key, e.val)) := List.mem_map.2 ⟨x, hx, rfl⟩
    rw [he] at h1
    obtain ⟨p, hp, hpe⟩ := List.mem_map.1 h1
    simp only [Prod.mk.injEq] at hpe
    refine ⟨p, hp, ?_⟩
    unfold WideElems.rd
    rw [← hpe.1]
    have : (strEnc hk).v p.1 = .string p.1 := rfl
    rw [this, WideMaps.keyOf_string_mk hk (hok p hp)]
    rfl
  have hperm := Go.WideShapes.sorted_perm (es.toList.map (WideElems.rg P k (fun _ => some ((.nil : DataW Unit), []))))
  refine ⟨.map ((es.toList.map (WideElems.rg P k (fun _ => some (.nil, [])))).foldr DataW.insert []), fun _ => some (.nil, []), es.size, ⟨es, clk, hb, ⟨?_, hs, fun x hx => ?_⟩, Nat.le_refl _, rfl⟩, ?_, ?_⟩
  · have : es.size = es.toList.length := by simp
    omega
  · obtain ⟨p, _, hp⟩ := hrd x hx
    exact ⟨_, hp⟩
  · show (List.map _ _).Perm _
    refine (hperm.map _).trans ?_
    rw [List.map_map]
    have key : ∀ (l : List MapEntry) (S : List (ByteArray × β)), l.map (fun e => (e.key, e.val)) = S.map (fun p => ((strEnc hk).v p.1, V p.2)) → (∀ p ∈ S, p.1.size ≤ maxLen) →
        l.map ((fun p : Lit × DataW Unit => strOf p.1) ∘ WideElems.rg P k (fun _ => some (.nil, []))) = S.map fun p => p.1.data.toList := by
      intro l
      induction l with
      | nil =>
        intro S hS _
        cases S with
        | nil => rfl
        | cons p S => simp at hS
      | cons x l ih =>
        intro S hS hok
        cases S with
        | nil => simp at hS
        | cons p S =>
          simp only [List.map_cons, List.cons.injEq, Prod.mk.injEq] at hS ⊢
          refine ⟨?_, ih S hS.2 (fun q hq => hok q (by simp [hq]))⟩
          show strOf (WideElems.rg P k _ x).1 = _
          have hx : WideElems.rd P k (fun _ => some ((.nil : DataW Unit), [])) x = some (.string p.1.data.toList, .nil) := by
            unfold WideElems.rd
            rw [hS.1.1]
            have : (strEnc hk).v p.1 = .string p.1 := rfl
            rw [this, WideMaps.keyOf_string_mk hk (hok p (by simp))]
            rfl
          unfold WideElems.rg
          rw [hx]; rfl
    rw [key es.toList T he hok]
  · show List.length _ = _
    rw [hperm.length_eq, List.length_map, hel]
/-- Rising, as Go orders texts. -/
def Rising (ks : List ByteArray) : Prop := ks.Pairwise fun a b => a.toList < b.toList
theorem Rising.ext : ∀ {a b : List ByteArray}, Rising a → Rising b → (∀ x, x ∈ a ↔ x ∈ b) → a = b
  | [], [], _, _, _ => rfl
  | [], y :: b, _, _, h => by have := (h y).2 (by simp); cases this
  | x :: a, [], _, _, h => by have := (h x).1 (by simp); cases this
  | x :: a, y :: b, ha, hb, h => by
    obtain ⟨ha1, ha2⟩ := List.pairwise_cons.1 ha
    obtain ⟨hb1, hb2⟩ := List.pairwise_cons.1 hb
    have hxy : x = y := by
      rcases List.mem_cons.1 ((h x).1 (by simp)) with h1 | h1
      · exact h1
      · rcases List.mem_cons.1 ((h y).2 (by simp)) with h2 | h2
        · exact h2.symm
        · exact absurd (List.lt_trans (ha1 y h2) (hb1 x h1)) (List.lt_irrefl _)
    subst hxy
    congr 1
    refine Rising.ext ha2 hb2 (fun z => ⟨fun hz => ?_, fun hz => ?_⟩)
    · rcases List.mem_cons.1 ((h z).1 (by simp [hz])) with h1 | h1
      · subst h1; exact absurd (ha1 z hz) (List.lt_irrefl _)
      · exact h1
    · rcases List.mem_cons.1 ((h z).2 (by simp [hz])) with h1 | h1
      · subst h1; exact absurd (hb1 z hz) (List.lt_irrefl _)
      · exact h1
theorem Rising.nodup {ks : List ByteArray} (h : Rising ks) : ks.Nodup := h.imp fun {a b} hab e => by subst e; exact absurd hab (List.lt_irrefl _)
theorem ba_toList (l : List UInt8) : (⟨l.toArray⟩ : ByteArray).toList = l := by rw [ByteArray.toList_eq]
/-- What the sort leaves, as texts. -/
theorem sorted_texts {ss : List (List UInt8)} {T : List ByteArray} (hp : ss.Perm (T.map fun s => s.data.toList)) (hn : T.Nodup) :
    ∃ ks : List ByteArray, (ss.mergeSort fun x y => decide (x ≤ y)).map encStr = ks.map Value.string ∧ Rising ks ∧ (∀ x, x ∈ ks ↔ x ∈ T) ∧ ks.length = T.length := by
  have hmp := List.mergeSort_perm ss (fun x y => decide (x ≤ y))
  have hinj : ∀ a b : ByteArray, a.data.toList = b.data.toList → a = b := fun a b h => str_inj (by rw [ByteArray.toList_eq, ByteArray.toList_eq]; exact h)
  have hnd : ss.Nodup := hp.nodup_iff.2 (List.Pairwise.map _ (fun a b hab e => hab (hinj a b e)) hn)
  have hsd := List.pairwise_mergeSort (le := fun x y : List UInt8 => decide (x ≤ y)) (fun a b c h1 h2 => by simp only [decide_eq_true_eq] at *; exact List.le_trans h1 h2) (fun a b => by simp only [Bool.or_eq_true, decide_eq_true_eq]; exact List.le_total a b) ss
  refine ⟨(ss.mergeSort fun x y => decide (x ≤ y)).map fun l => ⟨l.toArray⟩, ?_, ?_, fun x => ?_, ?_⟩
  · rw [List.map_map]; rfl
  · refine List.Pairwise.map (R := fun a b : List UInt8 => a < b) _ (fun a b hab => by rw [ba_toList, ba_toList]; exact hab) ?_
    have hnd2 : (ss.mergeSort fun x y => decide (x ≤ y)).Nodup := hmp.nodup_iff.2 hnd
    refine (hsd.and hnd2).imp fun {a b} h => ?_
    have h1 : a ≤ b := by simpa using h.1
    rcases List.le_iff_lt_or_eq.1 h1 with h2 | h2
    · exact h2
    · exact absurd h2 h.2
  · rw [List.mem_map]
    constructor
    · rintro ⟨l, hl, rfl⟩
      have := (hp.mem_iff).1 (hmp.mem_iff.1 hl)
      obtain ⟨s, hs, rfl⟩ := List.mem_map.1 this
      exact hs
    · intro hx
      exact ⟨x.data.toList, hmp.mem_iff.2 (hp.mem_iff.2 (List.mem_map.2 ⟨x, hx, rfl⟩)), rfl⟩
  · rw [List.length_map, hmp.length_eq, hp.length_eq, List.length_map]
end Go.Cic
namespace Go.Cic
open Go.RowKit
/-- A new row of this call's. -/
theorem Owns.newRow {B : Nat} {l : List Asrt} {w w' : World} (h : Owns B l w) (hB : B ≤ w.heap.size) {base e : Nat} {v : Value} {xs : List Value} (ho : w'.ownsRow base e 1 v xs.length xs) (hbase : w.heap.size ≤ base) (hk : Below w.heap.size w w') : Owns B (Asrt.row e v xs :: l) w' := by
  refine h.new hB (S := fun b => v.ownBlock = some b) ⟨⟨ho.1, ?_⟩, fun _ => Iff.rfl⟩ (fun b hb => ?_) hk
  · rcases ho.2 with hn | ⟨g, cap, cur, rfl, hg, r⟩
    · exact .inl hn
    · exact .inr ⟨g, cap, cur, rfl, Nat.zero_le _, r⟩
  · rcases ho.2 with ⟨rfl, _⟩ | ⟨g, cap, cur, rfl, hg, r⟩
    · simp [Value.ownBlock] at hb
    · have : g = b := by simpa [Value.ownBlock] using hb
      omega
end Go.Cic
