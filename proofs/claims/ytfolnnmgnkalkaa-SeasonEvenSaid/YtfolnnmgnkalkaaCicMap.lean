/- Maps in memory as lists of pairs: what a lookup, a store, 'm[k] op= v', a delete, len and a range do to them. Own library text. -/
import Derived.Maps.RangeRun
import Derived.Maps.Keyed
import Derived.Maps.OwnSet
import Derived.WalkKit
namespace Go.Cic
set_option linter.unusedSectionVars false
set_option linter.unusedVariables false
set_option linter.unusedSimpArgs false
open Go.MapKept Go.ChangeMaps
open Go.Maps (Keyed)

/-! ### which blocks have turned -/

/-- Nothing but the blocks of S has turned; new blocks may have come. -/
structure Keeps (S : Nat → Prop) (w w' : World) : Prop where
  os : w'.os = w.os
  tape : w'.tape = w.tape
  output : w'.output = w.output
  size : w.heap.size ≤ w'.heap.size
  block : ∀ b, b < w.heap.size → ¬ S b → w'.heap[b]? = w.heap[b]?

theorem Keeps.refl (S : Nat → Prop) (w : World) : Keeps S w w := ⟨rfl, rfl, rfl, Nat.le_refl _, fun _ _ _ => rfl⟩
theorem Keeps.mono {S T : Nat → Prop} {w w' : World} (h : Keeps S w w') (hs : ∀ b, b < w.heap.size → S b → T b) : Keeps T w w' :=
  ⟨h.os, h.tape, h.output, h.size, fun b hb ht => h.block b hb (fun hS => ht (hs b hb hS))⟩
/-- Two steps; what the second one turns was of S, or was new. -/
theorem Keeps.trans {S T : Nat → Prop} {a b c : World} (h : Keeps S a b) (k : Keeps T b c) (hT : ∀ x, x < a.heap.size → T x → S x) : Keeps S a c :=
  ⟨k.os.trans h.os, k.tape.trans h.tape, k.output.trans h.output, Nat.le_trans h.size k.size, fun x hx hs =>
    (k.block x (Nat.lt_of_lt_of_le hx h.size) (fun ht => hs (hT x hx ht))).trans (h.block x hx hs)⟩
theorem Keeps.trans0 {S : Nat → Prop} {a b c : World} (h : Keeps S a b) (k : Keeps S b c) : Keeps S a c := h.trans k (fun _ _ h => h)
theorem Keeps.drew {S : Nat → Prop} {a w : World} (h : Keeps S a w) : Keeps S a w.drew := ⟨h.os, h.tape, h.output, h.size, h.block⟩
theorem Keeps.alloc {S : Nat → Prop} {a w : World} (h : Keeps S a w) (o : Obj) : Keeps S a (w.alloc o) :=
  ⟨h.os, h.tape, h.output, by have := h.size; simp; omega, fun b hb hs => by
    rw [Go.RowKit.Below.heap_alloc w o b (Nat.lt_of_lt_of_le hb h.size)]; exact h.block b hb hs⟩
theorem Keeps.setCell {S : Nat → Prop} {a w : World} (h : Keeps S a w) {p : Addr} (hp : p.block < a.heap.size → S p.block) (v : Value) : Keeps S a (w.setCell p v) :=
  ⟨h.os, h.tape, h.output, by have := h.size; simp [World.setCell]; omega, fun b hb hs => by
    rw [Go.RowKit.Below.heap_setCell w p v b (fun e => hs (e ▸ hp (e ▸ hb)))]; exact h.block b hb hs⟩
theorem setBlock_size (w : World) (b : Nat) (o : Obj) : (setBlock w b o).heap.size = w.heap.size := by simp [setBlock]
theorem setBlock_other (w : World) (b : Nat) (o : Obj) {i : Nat} (h : i ≠ b) : (setBlock w b o).heap[i]? = w.heap[i]? := by
  simp only [setBlock, Array.getElem?_setIfInBounds]
  rw [if_neg (fun e => h e.symm)]
theorem setBlock_same (w : World) (b : Nat) (o : Obj) (h : b < w.heap.size) : (setBlock w b o).heap[b]? = some o := by
  simp [setBlock, h]
theorem Keeps.setBlock {S : Nat → Prop} {a w : World} (h : Keeps S a w) {b : Nat} (hp : b < a.heap.size → S b) (o : Obj) : Keeps S a (setBlock w b o) :=
  ⟨h.os, h.tape, h.output, by have := h.size; simp [ChangeMaps.setBlock]; omega, fun i hi hs => by
    rw [setBlock_other w b o (fun e => by subst e; exact hs (hp hi))]; exact h.block i hi hs⟩
theorem Keeps.below {B : Nat} {S : Nat → Prop} {w w' : World} (h : Keeps S w w') (hB : B ≤ w.heap.size) (hS : ∀ b, S b → B ≤ b) : Go.RowKit.Below B w w' :=
  ⟨h.os, h.tape, h.output, h.size, fun b hb => h.block b (Nat.lt_of_lt_of_le hb hB) (fun hs => by have := hS b hs; omega)⟩
theorem Keeps.of_below {w w' : World} (h : Go.RowKit.Below w.heap.size w w') (S : Nat → Prop) : Keeps S w w' := ⟨h.os, h.tape, h.output, h.size, fun b hb _ => h.block b hb⟩
theorem Keeps.of_grownBy {w w' : World} {b : Nat} (h : w.grownBy w' (some b)) : Keeps (· = b) w w' :=
  ⟨h.os, h.tape, h.output, h.size, fun i hi hs => h.block i hi (fun e => hs (by injection e))⟩
theorem Keeps.of_grownBy0 {w w' : World} (h : w.grownBy w' none) (S : Nat → Prop) : Keeps S w w' :=
  ⟨h.os, h.tape, h.output, h.size, fun i hi _ => h.block i hi (by simp)⟩
theorem Keeps.cell {S : Nat → Prop} {w w' : World} (h : Keeps S w w') {p : Addr} (hp : p.block < w.heap.size) (hs : ¬ S p.block) : w'.cell? p = w.cell? p :=
  World.cell?_of_block (w := w) (h.block p.block hp hs)
theorem Keeps.frozen {S : Nat → Prop} {w w' : World} (h : Keeps S w w') {p : Addr} (hp : p.block < w.heap.size) (hs : ¬ S p.block) : w'.frozen? p = w.frozen? p :=
  World.frozen?_of_block (w := w) (h.block p.block hp hs)

/-! ### lists of pairs -/
section
variable {α β : Type} [DecidableEq α]
def AL.get : List (α × β) → α → Option β
  | [], _ => none
  | p :: r, a => if p.1 = a then some p.2 else AL.get r a
def AL.put : List (α × β) → α → β → List (α × β)
  | [], a, v => [(a, v)]
  | p :: r, a, v => if p.1 = a then (a, v) :: r else p :: AL.put r a v
def AL.del (T : List (α × β)) (a : α) : List (α × β) := T.filter (fun p => p.1 ≠ a)

theorem AL.get_none {T : List (α × β)} {a : α} (h : ∀ p ∈ T, p.1 ≠ a) : AL.get T a = none := by
  induction T with
  | nil => rfl
  | cons q r ih => simp only [AL.get]; rw [if_neg (h q (by simp))]; exact ih (fun p hp => h p (by simp [hp]))
theorem AL.get_some {T : List (α × β)} (hn : (T.map (·.1)).Nodup) {p : α × β} (hp : p ∈ T) : AL.get T p.1 = some p.2 := by
  induction T with
  | nil => cases hp
  | cons q r ih =>
    simp only [List.map_cons, List.nodup_cons] at hn
    rcases List.mem_cons.1 hp with rfl | hp'
    · simp [AL.get]
    · have : q.1 ≠ p.1 := fun e => hn.1 (e ▸ List.mem_map.2 ⟨p, hp', rfl⟩)
      simp only [AL.get]; rw [if_neg this]
      exact ih hn.2 hp'
theorem AL.get_mem {T : List (α × β)} {a : α} {v : β} (h : AL.get T a = some v) : (a, v) ∈ T := by
  induction T with
  | nil => cases h
  | cons q r ih =>
    simp only [AL.get] at h
    split at h
    · rename_i e; cases h; subst e; simp
    · exact List.mem_cons_of_mem _ (ih h)
theorem AL.get_none_iff {T : List (α × β)} {a : α} : AL.get T a = none ↔ ∀ p ∈ T, p.1 ≠ a := by
  refine ⟨fun h p hp e => ?_, AL.get_none⟩
  induction T with
  | nil => cases hp
  | cons q r ih =>
    simp only [AL.get] at h
    split at h
    · cases h
    · rename_i hq
      rcases List.mem_cons.1 hp with rfl | hp'
      · exact hq e
      · exact ih h hp'
theorem AL.put_new {T : List (α × β)} {a : α} (h : ∀ p ∈ T, p.1 ≠ a) (v : β) : AL.put T a v = T ++ [(a, v)] := by
  induction T with
  | nil => rfl
  | cons q r ih => simp only [AL.put, List.cons_append]; rw [if_neg (h q (by simp)), ih (fun p hp => h p (by simp [hp]))]
theorem AL.put_set {T : List (α × β)} (hn : (T.map (·.1)).Nodup) {j : Nat} {p : α × β} (hj : T[j]? = some p) (v : β) : AL.put T p.1 v = T.set j (p.1, v) := by
  induction T generalizing j with
  | nil => simp at hj
  | cons q r ih =>
    simp only [List.map_cons, List.nodup_cons] at hn
    cases j with
    | zero => simp at hj; subst hj; simp [AL.put]
    | succ j =>
      simp only [List.getElem?_cons_succ] at hj
      have : q.1 ≠ p.1 := fun e => hn.1 (e ▸ List.mem_map.2 ⟨p, List.mem_of_getElem? hj, rfl⟩)
      simp only [AL.put, List.set_cons_succ]; rw [if_neg this, ih hn.2 hj]
theorem AL.del_keep {T : List (α × β)} {a : α} (h : ∀ p ∈ T, p.1 ≠ a) : AL.del T a = T := by
  unfold AL.del
  exact List.filter_eq_self.2 (fun p hp => by simpa using h p hp)
theorem AL.del_erase {T : List (α × β)} (hn : (T.map (·.1)).Nodup) {j : Nat} {p : α × β} (hj : T[j]? = some p) : AL.del T p.1 = T.eraseIdx j := by
  induction T generalizing j with
  | nil => simp at hj
  | cons q r ih =>
    simp only [List.map_cons, List.nodup_cons] at hn
    cases j with
    | zero =>
      simp only [List.getElem?_cons_zero, Option.some.injEq] at hj
      subst hj
      rw [List.eraseIdx_cons_zero]
      unfold AL.del
      rw [List.filter_cons_of_neg (by simp)]
      exact AL.del_keep (fun x hx e => hn.1 (e ▸ List.mem_map.2 ⟨x, hx, rfl⟩))
    | succ j =>
      simp only [List.getElem?_cons_succ] at hj
      rw [List.eraseIdx_cons_succ, ← ih hn.2 hj]
      unfold AL.del
      rw [List.filter_cons_of_pos]
      have : q.1 ≠ p.1 := fun e => hn.1 (e ▸ List.mem_map.2 ⟨p, List.mem_of_getElem? hj, rfl⟩)
      simpa using this
theorem AL.mem_put {T : List (α × β)} {a : α} {v : β} {p : α × β} (h : p ∈ AL.put T a v) : p = (a, v) ∨ p ∈ T := by
  induction T with
  | nil => simp [AL.put] at h; exact .inl h
  | cons q r ih =>
    simp only [AL.put] at h
    split at h
    · rcases List.mem_cons.1 h with rfl | h
      · exact .inl rfl
      · exact .inr (by simp [h])
    · rcases List.mem_cons.1 h with rfl | h
      · exact .inr (by simp)
      · rcases ih h with h | h
        · exact .inl h
        · exact .inr (by simp [h])
theorem AL.get_put_same (T : List (α × β)) (a : α) (v : β) : AL.get (AL.put T a v) a = some v := by
  induction T with
  | nil => simp [AL.put, AL.get]
  | cons q r ih =>
    simp only [AL.put]
    split
    · simp [AL.get]
    · rename_i h; simp [AL.get, h, ih]
theorem AL.get_put_other (T : List (α × β)) {a b : α} (v : β) (hne : b ≠ a) : AL.get (AL.put T a v) b = AL.get T b := by
  induction T with
  | nil => simp [AL.put, AL.get, Ne.symm hne]
  | cons q r ih =>
    simp only [AL.put]
    split
    · rename_i h; subst h; simp [AL.get, Ne.symm hne]
    · simp [AL.get, ih]
theorem AL.get_del_same (T : List (α × β)) (a : α) : AL.get (AL.del T a) a = none :=
  AL.get_none (fun p hp => by simpa using (List.mem_filter.1 hp).2)
theorem AL.get_del_other (T : List (α × β)) {a b : α} (hne : b ≠ a) : AL.get (AL.del T a) b = AL.get T b := by
  induction T with
  | nil => rfl
  | cons q r ih =>
    unfold AL.del at ih ⊢
    by_cases h : q.1 = a
    · rw [List.filter_cons_of_neg (by simp [h]), ih]; simp [AL.get, h, Ne.symm hne]
    · rw [List.filter_cons_of_pos (by simpa using h)]; simp only [AL.get]; rw [ih]
theorem AL.put_map {γ : Type} (f : β → γ) (T : List (α × β)) (a : α) (v : β) : (AL.put T a v).map (fun p => (p.1, f p.2)) = AL.put (T.map (fun p => (p.1, f p.2))) a (f v) := by
  induction T with
  | nil => rfl
  | cons q r ih => simp only [AL.put, List.map_cons]; split <;> simp [ih]
theorem AL.put_keys (T : List (α × β)) (a : α) (v : β) : (AL.put T a v).map (·.1) = if a ∈ T.map (·.1) then T.map (·.1) else T.map (·.1) ++ [a] := by
  induction T with
  | nil => simp [AL.put]
  | cons q r ih =>
    simp only [AL.put]
    split
    · rename_i h; simp [h]
    · rename_i h
      simp only [List.map_cons, ih, List.mem_cons, Ne.symm h, false_or]
      split <;> simp
theorem AL.put_nodup {T : List (α × β)} (h : (T.map (·.1)).Nodup) (a : α) (v : β) : ((AL.put T a v).map (·.1)).Nodup := by
  rw [AL.put_keys]
  split
  · exact h
  · rename_i hn
    refine List.nodup_append.2 ⟨h, by simp, fun x hx y hy => ?_⟩
    simp at hy; subst hy; exact fun e => hn (e ▸ hx)
theorem AL.del_nodup {T : List (α × β)} (h : (T.map (·.1)).Nodup) (a : α) : ((AL.del T a).map (·.1)).Nodup :=
  (List.Sublist.map _ (List.filter_sublist)).nodup h
theorem AL.put_put (T : List (α × β)) (a : α) (u v : β) : AL.put (AL.put T a u) a v = AL.put T a v := by
  induction T with
  | nil => simp [AL.put]
  | cons q r ih =>
    simp only [AL.put]
    split
    · simp [AL.put]
    · rename_i h; simp [AL.put, h, ih]
theorem AL.get_map {γ : Type} (f : β → γ) (T : List (α × β)) (a : α) : AL.get (T.map (fun p => (p.1, f p.2))) a = (AL.get T a).map f := by
  induction T with
  | nil => rfl
  | cons q r ih => simp only [AL.get, List.map_cons]; split <;> simp [ih]
theorem AL.mem_put_iff {T : List (α × β)} (hn : (T.map (·.1)).Nodup) {a : α} {v : β} {p : α × β} : p ∈ AL.put T a v ↔ p = (a, v) ∨ (p ∈ T ∧ p.1 ≠ a) := by
  induction T with
  | nil => simp [AL.put]
  | cons q r ih =>
    simp only [List.map_cons, List.nodup_cons] at hn
    simp only [AL.put]
    split
    · rename_i h
      subst h
      constructor
      · intro hp
        rcases List.mem_cons.1 hp with rfl | hp
        · exact .inl rfl
        · exact .inr ⟨by simp [hp], fun e => hn.1 (e ▸ List.mem_map.2 ⟨p, hp, rfl⟩)⟩
      · rintro (rfl | ⟨hp, hne⟩)
        · simp
        · rcases List.mem_cons.1 hp with rfl | hp
          · exact absurd rfl hne
          · simp [hp]
    · rename_i h
      constructor
      · intro hp
        rcases List.mem_cons.1 hp with rfl | hp
        · exact .inr ⟨by simp, h⟩
        · rcases (ih hn.2).1 hp with rfl | ⟨h1, h2⟩
          · exact .inl rfl
          · exact .inr ⟨by simp [h1], h2⟩
      · rintro (rfl | ⟨hp, hne⟩)
        · exact List.mem_cons_of_mem _ ((ih hn.2).2 (.inl rfl))
        · rcases List.mem_cons.1 hp with rfl | hp
          · simp
          · exact List.mem_cons_of_mem _ ((ih hn.2).2 (.inr ⟨hp, hne⟩))
theorem AL.put_length_le (T : List (α × β)) (a : α) (v : β) : (AL.put T a v).length ≤ T.length + 1 := by
  induction T with
  | nil => simp [AL.put]
  | cons q r ih => simp only [AL.put]; split <;> simp; omega
end

/-! ### a map's block -/
/-- How the keys of a map are typed. -/
structure Enc (P : Program) (k : TypeId) (α : Type) where
  v : α → Value
  ok : α → Prop
  inj : ∀ a b, v a = v b → a = b
  key : ∀ a, ok a → ∃ l, keyOf P k (v a) = some l

def strEnc {P : Program} {k : TypeId} (hk : P.underlying k = some .string) : Enc P k ByteArray :=
  ⟨.string, fun s => s.size ≤ maxLen, fun a b h => by injection h, fun a h => ⟨_, WideMaps.keyOf_string_mk hk h⟩⟩
def intEnc {P : Program} {k : TypeId} {q : IntKind} (hk : P.underlying k = some (.int q)) : Enc P k Int :=
  ⟨.int q, fun a => (Lit.int q a).wf = true, fun a b h => by injection h, fun a h => ⟨_, Go.Maps.keyOf_int_mk hk h⟩⟩

variable {α β : Type} [DecidableEq α]

/-- Block b is a map that holds just these pairs, in the order in which their keys came. -/
def MapT {P : Program} {k : TypeId} (E : Enc P k α) (V : β → Value) (w : World) (b : Nat) (T : List (α × β)) : Prop :=
  ∃ es clk, w.heap[b]? = some (.map es clk) ∧ es.toList.map (fun e => (e.key, e.val)) = T.map (fun p => (E.v p.1, V p.2)) ∧ Stamped es clk ∧ ∀ p ∈ T, E.ok p.1

section
variable {P : Program} {k : TypeId} {E : Enc P k α} {V : β → Value} {w : World} {b : Nat} {T : List (α × β)}

theorem MapT.lt (h : MapT E V w b T) : b < w.heap.size := by
  obtain ⟨es, clk, hb, _⟩ := h
  exact (Array.getElem?_eq_some_iff.1 hb).1
theorem MapT.of_block {w' : World} (h : MapT E V w b T) (hb : w'.heap[b]? = w.heap[b]?) : MapT E V w' b T := by
  obtain ⟨es, clk, h1, r⟩ := h
  exact ⟨es, clk, hb.trans h1, r⟩
theorem MapT.keeps {w' : World} {S : Nat → Prop} (h : MapT E V w b T) (hk : Keeps S w w') (hs : ¬ S b) : MapT E V w' b T :=
  h.of_block (hk.block b h.lt hs)
theorem MapT.made (E : Enc P k α) (V : β → Value) (w : World) : MapT E V (w.alloc (.map #[] 0)) w.heap.size ([] : List (α × β)) :=
  ⟨#[], 0, (MapKept.heap_alloc w _).1, by simp, stamped_empty 0, by simp⟩
theorem MapT.len (h : MapT E V w b T) : ∃ es clk, w.heap[b]? = some (.map es clk) ∧ es.size = T.length := by
  obtain ⟨es, clk, hb, he, _⟩ := h
  refine ⟨es, clk, hb, ?_⟩
  have := congrArg List.length he
  simpa using this
theorem keys_of_map {es : Array MapEntry} (he : es.toList.map (fun e => (e.key, e.val)) = T.map (fun p => (E.v p.1, V p.2))) : es.toList.map (·.key) = T.map (fun p => E.v p.1) := by
  have := congrArg (List.map Prod.fst) he
  simpa [List.map_map, Function.comp_def] using this
theorem MapT.nodup (h : MapT E V w b T) : (T.map (·.1)).Nodup := by
  obtain ⟨es, clk, _, he, hs, _⟩ := h
  have h3 := hs.2.2
  rw [keys_of_map he] at h3
  have e2 : T.map (fun p => E.v p.1) = (T.map (·.1)).map E.v := by simp [List.map_map, Function.comp_def]
  rw [e2] at h3
  exact List.Pairwise.of_map E.v (fun _ _ h e => h (congrArg E.v e)) h3
theorem MapT.ok (h : MapT E V w b T) : ∀ p ∈ T, E.ok p.1 := by obtain ⟨_, _, _, _, _, h⟩ := h; exact h

/-- What looking for a key comes to. -/
theorem find_spec (K : Keyed P k) {es : Array MapEntry} (he : es.toList.map (fun e => (e.key, e.val)) = T.map (fun p => (E.v p.1, V p.2))) (hok : ∀ p ∈ T, E.ok p.1) (w : World) {a : α} (ha : E.ok a) :
    ((Instr.findKey k (E.v a) es.toList).run P w = .ok none w ∧ (∀ p ∈ T, p.1 ≠ a) ∧ ∀ e ∈ es.toList, e.key ≠ E.v a) ∨
    ∃ j e p, (Instr.findKey k (E.v a) es.toList).run P w = .ok (some (j, e.val)) w ∧ es.toList[j]? = some e ∧ e.key = E.v a ∧ T[j]? = some p ∧ p.1 = a ∧ e.val = V p.2 := by
  obtain ⟨l, hl⟩ := E.key a ha
  have hkeys : ∀ e ∈ es.toList, ∃ l, keyOf P k e.key = some l := by
    intro e hem
    have : e.key ∈ es.toList.map (·.key) := List.mem_map.2 ⟨e, hem, rfl⟩
    rw [keys_of_map he] at this
    obtain ⟨p, hp, hpe⟩ := List.mem_map.1 this
    rw [← hpe]
    exact E.key _ (hok p hp)
  rcases K.find w hl es.toList hkeys with ⟨h1, h2⟩ | ⟨j, e, h1, h2, h3⟩
  · refine .inl ⟨h1, fun p hp e => ?_, h2⟩
    have : E.v p.1 ∈ es.toList.map (·.key) := by rw [keys_of_map he]; exact List.mem_map.2 ⟨p, hp, rfl⟩
    obtain ⟨x, hx, hxe⟩ := List.mem_map.1 this
    exact h2 x hx (by rw [hxe, e])
  · have hj : (es.toList.map (fun e => (e.key, e.val)))[j]? = some (e.key, e.val) := by rw [List.getElem?_map, h2]; rfl
    rw [he, List.getElem?_map] at hj
    cases hT : T[j]? with
    | none => rw [hT] at hj; cases hj
    | some p =>
      rw [hT] at hj
      simp only [Option.map_some, Option.some.injEq, Prod.mk.injEq] at hj
      exact .inr ⟨j, e, p, h1, h2, h3, hT, E.inj _ _ (hj.1.trans h3), hj.2.symm⟩

/-- 'm[k]', 'v, ok := m[k]'. -/
theorem MapT.lookup {t e : TypeId} (K : Keyed P k) (ht : P.underlying t = some (.map k e)) (h : MapT E V w b T) {z : Value} (hz : (zeroValue e).run P w = .ok z w) {a : α} (ha : E.ok a) (c : Bool) :
    (Instr.lookup t (.map (some b)) (E.v a) c).run P w = .ok (if c then .tuple #[((AL.get T a).map V).getD z, .bool (AL.get T a).isSome] else ((AL.get T a).map V).getD z) w := by
  have hnd := h.nodup
  obtain ⟨es, clk, hb, he, hs, hok⟩ := h
  obtain ⟨l, hl⟩ := E.key a ha
  rcases find_spec K he hok w ha with ⟨h1, h2, _⟩ | ⟨j, e0, p, h1, h2, h3, h4, rfl, h6⟩
  · rw [AL.get_none h2]
    simp [Instr.lookup, run_underlying ht, MapKept.run_getObj_map hb, K.check w _ hl, h1, hz, Result.andThen]
  · rw [AL.get_some hnd (List.mem_of_getElem? h4)]
    simp [Instr.lookup, run_underlying ht, MapKept.run_getObj_map hb, K.check w _ hl, h1, h6, Result.andThen]
/-- .. of a nil map. -/
theorem lookup_nil {t e : TypeId} (K : Keyed P k) (ht : P.underlying t = some (.map k e)) {z : Value} (hz : (zeroValue e).run P w = .ok z w) {a : α} (ha : E.ok a) (c : Bool) :
    (Instr.lookup t (.map none) (E.v a) c).run P w = .ok (if c then .tuple #[z, .bool false] else z) w := by
  obtain ⟨l, hl⟩ := E.key a ha
  have hf : (Instr.findKey k (E.v a) []).run P w = .ok none w := by
    rcases K.find w hl [] (by simp) with ⟨h1, _⟩ | ⟨j, e0, _, h2, _⟩
    · exact h1
    · simp at h2
  simp [Instr.lookup, run_underlying ht, K.check w _ hl, hf, hz, Result.andThen]

theorem set_same {γ : Type} {l : List γ} {j : Nat} {x : γ} (h : l[j]? = some x) : l.set j x = l := by
  obtain ⟨hl, rfl⟩ := List.getElem?_eq_some_iff.1 h
  exact List.set_getElem_self hl
theorem toList_set (es : Array MapEntry) (j : Nat) (f : MapEntry → MapEntry) {e : MapEntry} (h : es.toList[j]? = some e) : (es.modify j f).toList = es.toList.set j (f e) := by
  apply List.ext_getElem?
  intro i
  rw [Array.getElem?_toList, Array.getElem?_modify, List.getElem?_set, ← Array.getElem?_toList]
  by_cases hij : j = i
  · subst hij
    obtain ⟨hl, rfl⟩ := List.getElem?_eq_some_iff.1 h
    have hl' : j < es.size := by simpa using hl
    simp [hl']
  · simp [hij]

/-- 'm[k] = v'. -/
theorem MapT.update {t e : TypeId} (K : Keyed P k) (ht : P.underlying t = some (.map k e)) (h : MapT E V w b T) {a : α} (ha : E.ok a) (v : β) :
    ∃ o, (Instr.mapUpdate t (.map (some b)) (E.v a) (V v)).run P w = .ok () (setBlock w b o) ∧ MapT E V (setBlock w b o) b (AL.put T a v) := by
  have hnd := h.nodup
  have hlt := h.lt
  obtain ⟨es, clk, hb, he, hs, hok⟩ := h
  obtain ⟨l, hl⟩ := E.key a ha
  rcases find_spec K he hok w ha with ⟨h1, h2, h3⟩ | ⟨j, e0, p, h1, h2, h3, h4, rfl, h6⟩
  · refine ⟨.map (es.push ⟨E.v a, V v, clk⟩) (clk + 1), ?_, ⟨_, _, setBlock_same w b _ hlt, ?_, stamped_push hs h3, ?_⟩⟩
    · simp [Instr.mapUpdate, run_underlying ht, MapKept.run_getObj_map hb, K.check w _ hl, h1, MapKept.run_setObj_map _ hb, Result.andThen, setBlock]
    · rw [AL.put_new h2]; simp [he]
    · intro p hp
      rw [AL.put_new h2] at hp
      rcases List.mem_append.1 hp with hp | hp
      · exact hok p hp
      · simp at hp; subst hp; exact ha
  · have hj : es[j]? = some e0 := by simpa using h2
    have hkey : ∀ e', es[j]? = some e' → ({ e' with key := E.v p.1, val := V v } : MapEntry).key = e'.key := fun e' he' => by rw [hj] at he'; cases he'; exact h3.symm
    refine ⟨.map (es.modify j fun e => { e with key := E.v p.1, val := V v }) clk, ?_, ⟨_, _, setBlock_same w b _ hlt, ?_, stamped_modify hs _ _ (fun _ _ => rfl) (fun e' _ he' => hkey e' he'), ?_⟩⟩
    · simp [Instr.mapUpdate, run_underlying ht, MapKept.run_getObj_map hb, K.check w _ hl, h1, hj, h3, K.stays w hl, MapKept.run_setObj_map _ hb, Result.andThen, setBlock]
    · rw [toList_set es j _ h2, List.map_set, he, AL.put_set hnd h4, List.map_set]
    · intro q hq
      rcases AL.mem_put hq with rfl | hq
      · exact ha
      · exact hok q hq

/-- The stamp of a key's entry. -/
def StampAt (E : Enc P k α) (w : World) (b : Nat) (a : α) (st : Nat) : Prop :=
  ∃ es clk e, w.heap[b]? = some (.map es clk) ∧ e ∈ es.toList ∧ e.key = E.v a ∧ e.born = st
theorem StampAt.of_block {w' : World} {a : α} {st : Nat} (h : StampAt E w b a st) (hb : w'.heap[b]? = w.heap[b]?) : StampAt E w' b a st := by
  obtain ⟨es, clk, e, h1, r⟩ := h
  exact ⟨es, clk, e, hb.trans h1, r⟩

/-- 'm[k] op= v', the first half. -/
theorem MapT.entry {t e : TypeId} (K : Keyed P k) (ht : P.underlying t = some (.map k e)) (h : MapT E V w b T) {z : β} (hz : (zeroValue e).run P w = .ok (V z) w) {a : α} (ha : E.ok a) :
    ∃ o, ∃ st : Nat, (Instr.mapEntry t (.map (some b)) (E.v a)).run P w = .ok (.tuple #[V ((AL.get T a).getD z), goInt st]) (setBlock w b o) ∧ MapT E V (setBlock w b o) b (AL.put T a ((AL.get T a).getD z)) ∧ StampAt E (setBlock w b o) b a st := by
  have hnd := h.nodup
  have hlt := h.lt
  obtain ⟨es, clk, hb, he, hs, hok⟩ := h
  obtain ⟨l, hl⟩ := E.key a ha
  rcases find_spec K he hok w ha with ⟨h1, h2, h3⟩ | ⟨j, e0, p, h1, h2, h3, h4, rfl, h6⟩
  · rw [AL.get_none h2]
    refine ⟨.map (es.push ⟨E.v a, V z, clk⟩) (clk + 1), clk, ?_, ⟨_, _, setBlock_same w b _ hlt, ?_, stamped_push hs h3, ?_⟩, ⟨_, _, ⟨E.v a, V z, clk⟩, setBlock_same w b _ hlt, by simp, rfl, rfl⟩⟩
    · simp [Instr.mapEntry, run_underlying ht, MapKept.run_getObj_map hb, K.check w _ hl, h1, hz, MapKept.run_setObj_map _ hb, Result.andThen, setBlock]
    · rw [AL.put_new h2]; simp [he]
    · intro p hp
      rw [AL.put_new h2] at hp
      rcases List.mem_append.1 hp with hp | hp
      · exact hok p hp
      · simp at hp; subst hp; exact ha
  · have hj : es[j]? = some e0 := by simpa using h2
    rw [AL.get_some hnd (List.mem_of_getElem? h4)]
    have hkey : ∀ e', es[j]? = some e' → ({ e' with key := E.v p.1 } : MapEntry).key = e'.key := fun e' he' => by rw [hj] at he'; cases he'; exact h3.symm
    have hT : AL.put T p.1 p.2 = T := by
      rw [AL.put_set hnd h4]
      exact set_same h4
    refine ⟨.map (es.modify j fun e => { e with key := E.v p.1 }) clk, e0.born, ?_, ⟨_, _, setBlock_same w b _ hlt, ?_, stamped_modify hs _ _ (fun _ _ => rfl) (fun e' _ he' => hkey e' he'), ?_⟩, ⟨_, _, { e0 with key := E.v p.1 }, setBlock_same w b _ hlt, ?_, rfl, rfl⟩⟩
    · simp [Instr.mapEntry, run_underlying ht, MapKept.run_getObj_map hb, K.check w _ hl, h1, hj, h3, h6, K.stays w hl, MapKept.run_setObj_map _ hb, Result.andThen, setBlock]
    · rw [toList_set es j _ h2, List.map_set, he]
      simp only [Option.getD_some]
      rw [hT]
      refine set_same ?_
      rw [List.getElem?_map, h4, h6]
      rfl
    · simp only [Option.getD_some]
      rw [hT]; exact hok
    · rw [toList_set es j _ h2]
      obtain ⟨hl, _⟩ := List.getElem?_eq_some_iff.1 h2
      exact List.mem_iff_getElem?.2 ⟨j, by rw [List.getElem?_set]; simp; simpa using hl⟩

/-- .. the second half. -/
theorem MapT.entryStore {t : TypeId} (h : MapT E V w b T) {a : α} {st : Nat} (hst : StampAt E w b a st) (v : β) :
    ∃ o, (Instr.entryStore t (.map (some b)) (goInt st) (V v)).run P w = .ok () (setBlock w b o) ∧ MapT E V (setBlock w b o) b (AL.put T a v) := by
  have hnd := h.nodup
  have hlt := h.lt
  obtain ⟨es, clk, hb, he, hs, hok⟩ := h
  obtain ⟨es', clk', e0, hb', hem, hk0, rfl⟩ := hst
  rw [hb] at hb'
  cases hb'
  obtain ⟨j, hj⟩ := List.getElem?_of_mem hem
  obtain ⟨hjl, hje⟩ := List.getElem?_eq_some_iff.1 hj
  have hT : ∃ p, T[j]? = some p ∧ p.1 = a := by
    have hh : (es.toList.map (fun e => (e.key, e.val)))[j]? = some (e0.key, e0.val) := by rw [List.getElem?_map, hj]; rfl
    rw [he, List.getElem?_map] at hh
    cases hT : T[j]? with
    | none => rw [hT] at hh; cases hh
    | some p =>
      rw [hT] at hh
      simp only [Option.map_some, Option.some.injEq, Prod.mk.injEq] at hh
      exact ⟨p, rfl, E.inj _ _ (hh.1.trans hk0)⟩
  obtain ⟨p, hp, rfl⟩ := hT
  have hfi : es.findIdx? (fun e => (e.born : Int) == (e0.born : Int)) = some j := by
    have hjs : j < es.size := by simpa using hjl
    rw [Array.findIdx?_eq_some_iff_getElem]
    refine ⟨hjs, ?_, fun i hij => ?_⟩
    · have : es[j] = e0 := by simpa using hje
      simp [this]
    · intro e
      have hi : i < es.size := Nat.lt_trans hij hjs
      have e1 : es[i].born = e0.born := by have := beq_iff_eq.1 e; omega
      have h1 : (es.toList.map (·.born))[i]? = some e0.born := by simp [List.getElem?_map, Array.getElem?_eq_getElem hi, e1]
      have h2 : (es.toList.map (·.born))[j]? = some e0.born := by rw [List.getElem?_map, hj]; rfl
      have := (List.getElem?_inj (by simpa using hi) hs.2.1).1 (h1.trans h2.symm)
      omega
  refine ⟨.map (es.modify j fun e => { e with val := V v }) clk, ?_, ⟨_, _, setBlock_same w b _ hlt, ?_, stamped_modify hs _ _ (fun _ _ => rfl) (fun _ _ _ => rfl), ?_⟩⟩
  · simp [Instr.entryStore, MapKept.run_getObj_map hb, goInt, asInt, asIntOf, hfi, MapKept.run_setObj_map _ hb, Result.andThen, setBlock]
  · rw [toList_set es j _ hj, List.map_set, he, AL.put_set hnd hp, List.map_set, hk0]
  · intro q hq
    rcases AL.mem_put hq with rfl | hq
    · exact hok p (List.mem_of_getElem? hp)
    · exact hok q hq

/-- 'delete(m, k)'. -/
theorem MapT.delete {t e : TypeId} (K : Keyed P k) (ht : P.underlying t = some (.map k e)) (h : MapT E V w b T) {a : α} (ha : E.ok a) :
    ∃ o, (∀ ty, (Builtin.delete_ #[t, k] ty #[.map (some b), E.v a]).run P w = .ok (.tuple #[]) (setBlock w b o)) ∧ MapT E V (setBlock w b o) b (AL.del T a) := by
  have hnd := h.nodup
  have hlt := h.lt
  obtain ⟨es, clk, hb, he, hs, hok⟩ := h
  obtain ⟨l, hl⟩ := E.key a ha
  rcases find_spec K he hok w ha with ⟨h1, h2, h3⟩ | ⟨j, e0, p, h1, h2, h3, h4, rfl, h6⟩
  · refine ⟨.map es clk, ?_, ⟨_, _, setBlock_same w b _ hlt, ?_, hs, ?_⟩⟩
    · intro ty; simp [Builtin.delete_, run_underlying ht, MapKept.run_getObj_map hb, K.check w _ hl, h1, MapKept.run_setObj_map _ hb, Result.andThen, setBlock]
    · rw [AL.del_keep h2]; exact he
    · rw [AL.del_keep h2]; exact hok
  · obtain ⟨hjl, _⟩ := List.getElem?_eq_some_iff.1 h2
    have hjs : j < es.size := by simpa using hjl
    have hsub : (es.eraseIdxIfInBounds j).toList = es.toList.eraseIdx j := by
      unfold Array.eraseIdxIfInBounds
      rw [dif_pos hjs]
      simp
    refine ⟨.map (es.eraseIdxIfInBounds j) clk, ?_, ⟨_, _, setBlock_same w b _ hlt, ?_, stamped_erase hs j, ?_⟩⟩
    · intro ty; simp [Builtin.delete_, run_underlying ht, MapKept.run_getObj_map hb, K.check w _ hl, h1, MapKept.run_setObj_map _ hb, Result.andThen, setBlock]
    · rw [hsub, map_eraseIdx, he, AL.del_erase hnd h4, map_eraseIdx]
    · intro q hq
      exact hok q (List.mem_filter.1 hq).1
end
theorem setBlock_cell (w : World) (b : Nat) (ob : Obj) {p : Addr} (h : p.block ≠ b) : (setBlock w b ob).cell? p = w.cell? p :=
  World.cell?_of_block (w := w) (setBlock_other w b ob h)
theorem setBlock_frozen (w : World) (b : Nat) (ob : Obj) {p : Addr} (h : p.block ≠ b) : (setBlock w b ob).frozen? p = w.frozen? p :=
  World.frozen?_of_block (w := w) (setBlock_other w b ob h)
theorem alloc_cell (w : World) (o : Obj) {p : Addr} (h : p.block < w.heap.size) : (w.alloc o).cell? p = w.cell? p :=
  World.cell?_of_block (w := w) (Go.RowKit.Below.heap_alloc w o p.block h)
theorem _root_.Go.RowKit.Hid.mk' {p : Prop} (h : p) : Go.RowKit.Hid p := h
end Go.Cic
