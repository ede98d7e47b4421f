/- What a call owns: assertions on blocks, side by side. Own library text. -/
import Derived.Test.YtfolnnmgnkalkaaCicMap
import Derived.WideShapes
namespace Go.Cic
set_option linter.unusedVariables false
open Go.RowKit Go.ChangeMaps

/-- An assertion on the blocks of a set. -/
structure Asrt where
  holds : World → (Nat → Prop) → Prop
  lt : ∀ {w S}, holds w S → ∀ b, S b → b < w.heap.size
  loc : ∀ {w w' S}, holds w S → (∀ b, S b → w'.heap[b]? = w.heap[b]?) → holds w' S

def Asrt.emp : Asrt := ⟨fun _ S => ∀ b, ¬ S b, fun h b hb => (h b hb).elim, fun h _ => h⟩
def Asrt.star (A C : Asrt) : Asrt where
  holds w S := ∃ S1 S2, A.holds w S1 ∧ C.holds w S2 ∧ (∀ b, S1 b → ¬ S2 b) ∧ ∀ b, S b ↔ S1 b ∨ S2 b
  lt := by
    rintro w S ⟨S1, S2, h1, h2, _, h4⟩ b hb
    rcases (h4 b).1 hb with h | h
    · exact A.lt h1 b h
    · exact C.lt h2 b h
  loc := by
    rintro w w' S ⟨S1, S2, h1, h2, h3, h4⟩ h
    exact ⟨S1, S2, A.loc h1 (fun b hb => h b ((h4 b).2 (.inl hb))), C.loc h2 (fun b hb => h b ((h4 b).2 (.inr hb))), h3, h4⟩
def stars (l : List Asrt) : Asrt := l.foldr Asrt.star Asrt.emp

/-- From block B on all these lie side by side. -/
def Owns (B : Nat) (l : List Asrt) (w : World) : Prop := ∃ S, (stars l).holds w S ∧ ∀ b, S b → B ≤ b

theorem Owns.nil (B : Nat) (w : World) : Owns B [] w := ⟨fun _ => False, fun _ h => h, fun _ h => h.elim⟩
theorem Owns.cons_iff {B : Nat} {A : Asrt} {l : List Asrt} {w : World} : Owns B (A :: l) w ↔ ∃ S S2, A.holds w S ∧ (stars l).holds w S2 ∧ (∀ b, S b → ¬ S2 b) ∧ (∀ b, S b → B ≤ b) ∧ (∀ b, S2 b → B ≤ b) := by
  constructor
  · rintro ⟨S, ⟨S1, S2, h1, h2, h3, h4⟩, hB⟩
    exact ⟨S1, S2, h1, h2, h3, fun b hb => hB b ((h4 b).2 (.inl hb)), fun b hb => hB b ((h4 b).2 (.inr hb))⟩
  · rintro ⟨S1, S2, h1, h2, h3, h4, h5⟩
    exact ⟨fun b => S1 b ∨ S2 b, ⟨S1, S2, h1, h2, h3, fun _ => Iff.rfl⟩, fun b hb => hb.elim (h4 b) (h5 b)⟩
theorem Owns.tail {B : Nat} {A : Asrt} {l : List Asrt} {w : World} (h : Owns B (A :: l) w) : Owns B l w := by
  obtain ⟨S, S2, _, h2, _, _, h5⟩ := Owns.cons_iff.1 h
  exact ⟨S2, h2, h5⟩
theorem Owns.swap {B : Nat} {A C : Asrt} {l : List Asrt} {w : World} (h : Owns B (A :: C :: l) w) : Owns B (C :: A :: l) w := by
  obtain ⟨S, ⟨S1, S2, h1, ⟨S3, S4, h5, h6, h7, h8⟩, h3, h4⟩, hB⟩ := h
  refine ⟨S, ⟨S3, fun b => S1 b ∨ S4 b, h5, ⟨S1, S4, h1, h6, fun b hb h => h3 b hb ((h8 b).2 (.inr h)), fun _ => Iff.rfl⟩, ?_, ?_⟩, hB⟩
  · intro b hb h
    rcases h with h | h
    · exact h3 b h ((h8 b).2 (.inl hb))
    · exact h7 b hb h
  · intro b
    rw [h4 b, h8 b]
    constructor
    · rintro (h | h | h)
      · exact .inr (.inl h)
      · exact .inl h
      · exact .inr (.inr h)
    · rintro (h | h | h)
      · exact .inr (.inl h)
      · exact .inl h
      · exact .inr (.inr h)
theorem Owns.cons_mono {B : Nat} {A : Asrt} {l l' : List Asrt} {w : World} (h : Owns B (A :: l) w) (hl : ∀ B, Owns B l w → Owns B l' w) (hf : ∀ S, (stars l).holds w S → (stars l').holds w S) : Owns B (A :: l') w := by
  obtain ⟨S, S2, h1, h2, h3, h4, h5⟩ := Owns.cons_iff.1 h
  exact Owns.cons_iff.2 ⟨S, S2, h1, hf S2 h2, h3, h4, h5⟩
theorem stars_perm {l l' : List Asrt} (hp : l.Perm l') {w : World} {S : Nat → Prop} (h : (stars l).holds w S) : (stars l').holds w S := by
  induction hp generalizing S with
  | nil => exact h
  | cons A _ ih =>
    obtain ⟨S1, S2, h1, h2, h3, h4⟩ := h
    exact ⟨S1, S2, h1, ih h2, h3, h4⟩
  | swap A C l =>
    obtain ⟨S1, S2, h1, ⟨S3, S4, h5, h6, h7, h8⟩, h3, h4⟩ := h
    refine ⟨S3, fun b => S1 b ∨ S4 b, h5, ⟨S1, S4, h1, h6, fun b hb h => h3 b hb ((h8 b).2 (.inr h)), fun _ => Iff.rfl⟩, ?_, ?_⟩
    · intro b hb h
      rcases h with h | h
      · exact h3 b h ((h8 b).2 (.inl hb))
      · exact h7 b hb h
    · intro b
      rw [h4 b, h8 b]
      constructor
      · rintro (h | h | h)
        · exact .inr (.inl h)
        · exact .inl h
        · exact .inr (.inr h)
      · rintro (h | h | h)
        · exact .inr (.inl h)
        · exact .inl h
        · exact .inr (.inr h)
  | trans _ _ ih1 ih2 => exact ih2 (ih1 h)
theorem Owns.perm {B : Nat} {l l' : List Asrt} {w : World} (h : Owns B l w) (hp : l.Perm l') : Owns B l' w := by
  obtain ⟨S, h1, h2⟩ := h
  exact ⟨S, stars_perm hp h1, h2⟩
theorem erase_perm {γ : Type} : ∀ (l : List γ) (n : Nat) (x : γ), l[n]? = some x → l.Perm (x :: l.eraseIdx n)
  | [], _, _, h => by simp at h
  | y :: r, 0, x, h => by simp at h; subst h; exact List.Perm.refl _
  | y :: r, n + 1, x, h => by
    simp only [List.getElem?_cons_succ] at h
    rw [List.eraseIdx_cons_succ]
    exact ((erase_perm r n x h).cons y).trans (List.Perm.swap x y _)
/-- The assertion at place n comes to the front. -/
theorem Owns.front {B : Nat} {l : List Asrt} {w : World} (h : Owns B l w) (n : Nat) (A : Asrt) (hn : l[n]? = some A) : Owns B (A :: l.eraseIdx n) w := by
  exact h.perm (erase_perm l n A hn)

theorem Owns.app_left {B : Nat} : ∀ {l l' : List Asrt} {w : World}, Owns B (l ++ l') w → Owns B l w
  | [], _, w, _ => Owns.nil B w
  | A :: l, l', w, h => by
    rw [List.cons_append] at h
    obtain ⟨S, S2, h1, h2, h3, h4, h5⟩ := Owns.cons_iff.1 h
    have key : ∀ (l l' : List Asrt) (S : Nat → Prop), (stars (l ++ l')).holds w S → ∃ S', (stars l).holds w S' ∧ ∀ b, S' b → S b := by
      intro l
      induction l with
      | nil => intro l' S _; exact ⟨fun _ => False, fun _ h => h, fun _ h => h.elim⟩
      | cons A l ih =>
        intro l' S h
        obtain ⟨S1, S2, e1, e2, e3, e4⟩ := h
        obtain ⟨S3, e5, e6⟩ := ih l' S2 e2
        exact ⟨fun b => S1 b ∨ S3 b, ⟨S1, S3, e1, e5, fun b hb h => e3 b hb (e6 b h), fun _ => Iff.rfl⟩, fun b hb => (e4 b).2 (hb.imp id (e6 b))⟩
    obtain ⟨S3, h6, h7⟩ := key l l' S2 h2
    exact Owns.cons_iff.2 ⟨S, S3, h1, h6, fun b hb h => h3 b hb (h7 b h), h4, fun b hb => h5 b (h7 b hb)⟩
theorem range_all {γ : Type} : ∀ (l : List γ), (List.range l.length).filterMap (fun i => l[i]?) = l := by
  intro l
  induction l with
  | nil => rfl
  | cons a l ih =>
    rw [List.length_cons, List.range_succ_eq_map, List.filterMap_cons]
    simp only [List.getElem?_cons_zero, List.filterMap_map]
    congr 1
/-- Some of these, in an order of one's own. -/
theorem Owns.sel {B : Nat} {l : List Asrt} {w : World} (h : Owns B l w) (n : Nat) (is : List Nat) (hln : l.length = n) (hn : is.Nodup ∧ ∀ i ∈ is, i < n) : Owns B (is.filterMap (fun i => l[i]?)) w := by
  subst hln
  have h1 : (List.range l.length).Perm (is ++ (List.range l.length).filter (fun i => !is.contains i)) := by
    refine (List.perm_ext_iff_of_nodup List.nodup_range ?_).2 ?_
    · refine List.nodup_append.2 ⟨hn.1, List.nodup_range.sublist List.filter_sublist, ?_⟩
      intro a ha b hb e
      subst e
      have := (List.mem_filter.1 hb).2
      simp [ha] at this
    · intro a
      simp only [List.mem_range, List.mem_append, List.mem_filter, Bool.not_eq_true', List.contains_eq_mem, decide_eq_false_iff_not]
      constructor
      · intro ha
        by_cases hm : a ∈ is
        · exact .inl hm
        · exact .inr ⟨ha, hm⟩
      · rintro (ha | ha)
        · exact hn.2 a ha
        · exact ha.1
  have h2 := range_all l
  have h3 := h1.filterMap (fun i => l[i]?)
  rw [h2, List.filterMap_append] at h3
  exact Owns.app_left (h.perm h3)

/-- What a step from w does to what stood on S: it stands as A now, on blocks of S and new ones. -/
def Step (S : Nat → Prop) (A : Asrt) (w w' : World) : Prop := ∃ S', A.holds w' S' ∧ (∀ b, S' b → S b ∨ w.heap.size ≤ b) ∧ Keeps S w w'
theorem Owns.step {B : Nat} {A A' : Asrt} {l : List Asrt} {w w' : World} (h : Owns B (A :: l) w) (hB : B ≤ w.heap.size) (hs : ∀ S, A.holds w S → Step S A' w w') : Owns B (A' :: l) w' ∧ Below B w w' := by
  obtain ⟨S, S2, h1, h2, h3, h4, h5⟩ := Owns.cons_iff.1 h
  obtain ⟨S', h6, h7, h8⟩ := hs S h1
  refine ⟨Owns.cons_iff.2 ⟨S', S2, h6, (stars l).loc h2 (fun b hb => h8.block b ((stars l).lt h2 b hb) (fun hS => h3 b hS hb)), ?_, ?_, h5⟩, h8.below hB h4⟩
  · intro b hb h2b
    rcases h7 b hb with h | h
    · exact h3 b h h2b
    · exact absurd ((stars l).lt h2 b h2b) (by omega)
  · intro b hb
    rcases h7 b hb with h | h
    · exact h4 b h
    · omega
/-- A call that turns what is owned. -/
theorem Owns.call {P : Program} {f : FuncId} {args : Array Value} {B : Nat} {A A' : Asrt} {l : List Asrt} {w : World} {R : Ending → Prop} (h : Owns B (A :: l) w) (hB : B ≤ w.heap.size)
    (hc : ∀ S, A.holds w S → Calls P f args w fun e w' => R e ∧ Step S A' w w') : Calls P f args w fun e w' => R e ∧ Owns B (A' :: l) w' ∧ Below B w w' := by
  obtain ⟨S, S2, h1, h2, h3, h4, h5⟩ := Owns.cons_iff.1 h
  refine (hc S h1).mono ?_
  rintro e w' ⟨hR, S', h6, h7, h8⟩
  refine ⟨hR, Owns.cons_iff.2 ⟨S', S2, h6, (stars l).loc h2 (fun b hb => h8.block b ((stars l).lt h2 b hb) (fun hS => h3 b hS hb)), ?_, ?_, h5⟩, h8.below hB h4⟩
  · intro b hb h2b
    rcases h7 b hb with h | h
    · exact h3 b h h2b
    · exact absurd ((stars l).lt h2 b h2b) (by omega)
  · intro b hb
    rcases h7 b hb with h | h
    · exact h4 b h
    · omega
/-- A call that turns none of what is owned. -/
theorem Owns.keep {B : Nat} {l : List Asrt} {w w' : World} (h : Owns B l w) (hk : Below w.heap.size w w') : Owns B l w' := by
  obtain ⟨S, h1, h2⟩ := h
  exact ⟨S, (stars l).loc h1 (fun b hb => hk.block b ((stars l).lt h1 b hb)), h2⟩
theorem Owns.look {P : Program} {f : FuncId} {args : Array Value} {B : Nat} {A : Asrt} {l : List Asrt} {w : World} {R : Ending → Prop} (h : Owns B (A :: l) w) (hB : B ≤ w.heap.size)
    (hc : ∀ S, A.holds w S → Calls P f args w fun e w' => R e ∧ Below w.heap.size w w') : Calls P f args w fun e w' => R e ∧ Owns B (A :: l) w' ∧ Below B w w' := by
  obtain ⟨S, S2, h1, h2, h3, h4, h5⟩ := Owns.cons_iff.1 h
  refine (hc S h1).mono ?_
  rintro e w' ⟨hR, hk⟩
  exact ⟨hR, h.keep hk, hk.mono hB⟩
/-- Something new. -/
theorem Owns.new {B : Nat} {A : Asrt} {l : List Asrt} {w w' : World} (h : Owns B l w) (hB : B ≤ w.heap.size) {S : Nat → Prop} (hA : A.holds w' S) (hS : ∀ b, S b → w.heap.size ≤ b) (hk : Below w.heap.size w w') : Owns B (A :: l) w' := by
  obtain ⟨S2, h1, h2⟩ := h.keep hk
  obtain ⟨S3, h3, h4⟩ := h
  have hlt := (stars l).lt h3
  exact Owns.cons_iff.2 ⟨S, S3, hA, (stars l).loc h3 (fun b hb => hk.block b (hlt b hb)), fun b hb h => absurd (hlt b h) (by have := hS b hb; omega), fun b hb => Nat.le_trans hB (hS b hb), h4⟩
/-- Two that can be read alike. -/
theorem Owns.imp {B : Nat} {A A' : Asrt} {l : List Asrt} {w : World} (h : Owns B (A :: l) w) (hi : ∀ S, A.holds w S → A'.holds w S) : Owns B (A' :: l) w := by
  obtain ⟨S, S2, h1, r⟩ := Owns.cons_iff.1 h
  exact Owns.cons_iff.2 ⟨S, S2, hi S h1, r⟩
theorem Owns.head {B : Nat} {A : Asrt} {l : List Asrt} {w : World} (h : Owns B (A :: l) w) : ∃ S, A.holds w S ∧ ∀ b, S b → B ≤ b := by
  obtain ⟨S, S2, h1, _, _, h4, _⟩ := Owns.cons_iff.1 h
  exact ⟨S, h1, h4⟩
/-- A fact alone. -/
def Asrt.fact (p : Prop) : Asrt := ⟨fun _ S => p ∧ ∀ b, ¬ S b, fun h b hb => (h.2 b hb).elim, fun h _ => h⟩
/-- There is some x. -/
def Asrt.some' {γ : Type} (A : γ → Asrt) : Asrt := ⟨fun w S => ∃ x, (A x).holds w S, fun ⟨x, h⟩ => (A x).lt h, fun ⟨x, h⟩ hb => ⟨x, (A x).loc h hb⟩⟩
/-- A row of cells. -/
def Asrt.cells (b : Nat) (cs : Array Value) (T : TypeId) : Asrt where
  holds w S := w.heap[b]? = some (.cells cs T (0, 0)) ∧ ∀ x, S x ↔ x = b
  lt := by
    rintro w S ⟨h1, h2⟩ x hx
    rw [(h2 x).1 hx]
    exact (Array.getElem?_eq_some_iff.1 h1).1
  loc := by
    rintro w w' S ⟨h1, h2⟩ h
    exact ⟨(h b ((h2 b).2 rfl)).trans h1, h2⟩
/-- A map. -/
def Asrt.map {P : Program} {k : TypeId} {α β : Type} [DecidableEq α] (E : Enc P k α) (V : β → Value) (b : Nat) (T : List (α × β)) : Asrt where
  holds w S := MapT E V w b T ∧ ∀ x, S x ↔ x = b
  lt := by
    rintro w S ⟨h1, h2⟩ x hx
    rw [(h2 x).1 hx]
    exact h1.lt
  loc := by
    rintro w w' S ⟨h1, h2⟩ h
    exact ⟨h1.of_block (h b ((h2 b).2 rfl)), h2⟩
/-! ### opening and shutting -/
theorem Owns.alloc_cells {B : Nat} {l : List Asrt} {w : World} (h : Owns B l w) (hB : B ≤ w.heap.size) (cs : Array Value) (T : TypeId) : Owns B (Asrt.cells w.heap.size cs T :: l) (w.alloc (.cells cs T)) :=
  h.new hB (S := (· = w.heap.size)) ⟨(MapKept.heap_alloc w _).1, fun _ => Iff.rfl⟩ (fun b hb => Nat.le_of_eq hb.symm) ((Below.refl _ _).alloc (Nat.le_refl _) _)
theorem Owns.alloc_map {P : Program} {k : TypeId} {α β : Type} [DecidableEq α] (E : Enc P k α) (V : β → Value) {B : Nat} {l : List Asrt} {w : World} (h : Owns B l w) (hB : B ≤ w.heap.size) : Owns B (Asrt.map E V w.heap.size [] :: l) (w.alloc (.map #[] 0)) :=
  h.new hB (S := (· = w.heap.size)) ⟨MapT.made E V w, fun _ => Iff.rfl⟩ (fun b hb => Nat.le_of_eq hb.symm) ((Below.refl _ _).alloc (Nat.le_refl _) _)
theorem Owns.drew {B : Nat} {l : List Asrt} {w : World} (h : Owns B l w) : Owns B l w.drew := h.keep ((Below.refl _ _).drew)
section
variable {B : Nat} {A C : Asrt} {l : List Asrt} {w : World}
theorem Owns.star_iff : Owns B (Asrt.star A C :: l) w ↔ Owns B (A :: C :: l) w := by
  constructor
  · rintro ⟨S, ⟨S1, S2, ⟨S3, S4, h1, h2, h3, h4⟩, h5, h6, h7⟩, hB⟩
    refine ⟨S, ⟨S3, fun b => S4 b ∨ S2 b, h1, ⟨S4, S2, h2, h5, fun b hb => h6 b ((h4 b).2 (.inr hb)), fun _ => Iff.rfl⟩, ?_, ?_⟩, hB⟩
    · intro b hb h
      rcases h with h | h
      · exact h3 b hb h
      · exact h6 b ((h4 b).2 (.inl hb)) h
    · intro b; rw [h7 b, h4 b, or_assoc]
  · rintro ⟨S, ⟨S3, S5, h1, ⟨S4, S2, h2, h5, h6, h7⟩, h3, h4⟩, hB⟩
    refine ⟨S, ⟨fun b => S3 b ∨ S4 b, S2, ⟨S3, S4, h1, h2, fun b hb h => h3 b hb ((h7 b).2 (.inl h)), fun _ => Iff.rfl⟩, h5, ?_, ?_⟩, hB⟩
    · intro b hb h
      rcases hb with hb | hb
      · exact h3 b hb ((h7 b).2 (.inr h))
      · exact h6 b hb h
    · intro b; rw [h4 b, h7 b, or_assoc]
theorem Owns.emp_iff : Owns B (Asrt.emp :: l) w ↔ Owns B l w := by
  constructor
  · exact Owns.tail
  · rintro ⟨S, h, hB⟩
    exact Owns.cons_iff.2 ⟨fun _ => False, S, fun _ h => h, h, fun _ h => h.elim, fun _ h => h.elim, hB⟩
theorem Owns.flat_iff : ∀ {As : List Asrt} {l : List Asrt}, Owns B (stars As :: l) w ↔ Owns B (As ++ l) w
  | [], l => Owns.emp_iff
  | A :: As, l => by
    show Owns B (Asrt.star A (stars As) :: l) w ↔ _
    rw [Owns.star_iff, List.cons_append]
    constructor
    · intro h
      have h1 := Owns.flat_iff.1 h.swap
      exact h1.perm List.perm_middle
    · intro h
      have h1 : Owns B (As ++ A :: l) w := h.perm List.perm_middle.symm
      exact (Owns.flat_iff.2 h1).swap
theorem Owns.ex_iff {γ : Type} {A : γ → Asrt} : Owns B (Asrt.some' A :: l) w ↔ ∃ x, Owns B (A x :: l) w := by
  constructor
  · intro h
    obtain ⟨S, S2, ⟨x, h1⟩, r⟩ := Owns.cons_iff.1 h
    exact ⟨x, Owns.cons_iff.2 ⟨S, S2, h1, r⟩⟩
  · rintro ⟨x, h⟩
    obtain ⟨S, S2, h1, r⟩ := Owns.cons_iff.1 h
    exact Owns.cons_iff.2 ⟨S, S2, ⟨x, h1⟩, r⟩
theorem Owns.fact_iff {p : Prop} : Owns B (Asrt.fact p :: l) w ↔ p ∧ Owns B l w := by
  constructor
  · intro h
    obtain ⟨S, S2, ⟨h1, _⟩, _⟩ := Owns.cons_iff.1 h
    exact ⟨h1, h.tail⟩
  · rintro ⟨hp, S, h, hB⟩
    exact Owns.cons_iff.2 ⟨fun _ => False, S, ⟨hp, fun _ h => h⟩, h, fun _ h => h.elim, fun _ h => h.elim, hB⟩
theorem Owns.cellsE {b : Nat} {cs : Array Value} {T : TypeId} (h : Owns B (Asrt.cells b cs T :: l) w) : w.heap[b]? = some (.cells cs T (0, 0)) ∧ B ≤ b ∧ b < w.heap.size := by
  obtain ⟨S, ⟨h1, h2⟩, h3⟩ := h.head
  exact ⟨h1, h3 b ((h2 b).2 rfl), (Array.getElem?_eq_some_iff.1 h1).1⟩
theorem Owns.mapE {P : Program} {k : TypeId} {α β : Type} [DecidableEq α] {E : Enc P k α} {V : β → Value} {b : Nat} {T : List (α × β)} (h : Owns B (Asrt.map E V b T :: l) w) : MapT E V w b T ∧ B ≤ b := by
  obtain ⟨S, ⟨h1, h2⟩, h3⟩ := h.head
  exact ⟨h1, h3 b ((h2 b).2 rfl)⟩
/-- Two that lie side by side share no block. -/
theorem Owns.apart (h : Owns B (A :: C :: l) w) : ∃ S1 S2, A.holds w S1 ∧ C.holds w S2 ∧ ∀ b, S1 b → ¬ S2 b := by
  obtain ⟨S, S2, h1, ⟨S3, S4, h5, h6, h7, h8⟩, h3, _⟩ := Owns.cons_iff.1 h
  exact ⟨S, S3, h1, h5, fun b hb h => h3 b hb ((h8 b).2 (.inl h))⟩
/-- What stood as A stands as these now. -/
theorem Owns.turn {As : List Asrt} {w' : World} (h : Owns B (A :: l) w) (hB : B ≤ w.heap.size) (hs : ∀ S, A.holds w S → Step S (stars As) w w') : Owns B (As ++ l) w' ∧ Below B w w' := by
  obtain ⟨h1, h2⟩ := h.step hB hs
  exact ⟨Owns.flat_iff.1 h1, h2⟩
end
theorem step_cells {b : Nat} {cs cs' : Array Value} {T T' : TypeId} {w w' : World} (h : w'.heap[b]? = some (.cells cs' T' (0, 0))) (hk : Keeps (· = b) w w') : ∀ S, (Asrt.cells b cs T).holds w S → Step S (Asrt.cells b cs' T') w w' := by
  rintro S ⟨h1, h2⟩
  exact ⟨S, ⟨h, h2⟩, fun x hx => .inl hx, hk.mono (fun x _ hx => (h2 x).2 hx)⟩
theorem step_map {P : Program} {k : TypeId} {α β : Type} [DecidableEq α] {E : Enc P k α} {V : β → Value} {b : Nat} {T T' : List (α × β)} {w w' : World} (h : MapT E V w' b T') (hk : Keeps (· = b) w w') : ∀ S, (Asrt.map E V b T).holds w S → Step S (Asrt.map E V b T') w w' := by
  rintro S ⟨h1, h2⟩
  exact ⟨S, ⟨h, h2⟩, fun x hx => .inl hx, hk.mono (fun x _ hx => (h2 x).2 hx)⟩
theorem keeps_setBlock (w : World) (b : Nat) (o : Obj) : Keeps (· = b) w (setBlock w b o) := (Keeps.refl (· = b) w).setBlock (fun _ => rfl) o
theorem keeps_setCell (w : World) (b o : Nat) (v : Value) : Keeps (· = b) w (w.setCell ⟨b, o, none⟩ v) := (Keeps.refl (· = b) w).setCell (p := ⟨b, o, none⟩) (fun _ => rfl) v

/-! ### a map whose elements lead to blocks -/
section
variable {P : Program} {k : TypeId} {α β : Type} [DecidableEq α] {E : Enc P k α} {ζ : Type} {V : ζ → Value} {I : ζ → β → Asrt} {b : Nat} {C : List (α × β)} {B : Nat} {l : List Asrt} {w : World}
/-- A map of block b that holds C, each element by a block of its own (and what that leads to). -/
def Asrt.mapOf {ζ : Type} (E : Enc P k α) (V : ζ → Value) (I : ζ → β → Asrt) (b : Nat) (C : List (α × β)) : Asrt :=
  Asrt.some' fun M : List (α × ζ × β) => Asrt.star (Asrt.fact (M.map (fun m => (m.1, m.2.2)) = C)) (Asrt.star (Asrt.map E V b (M.map fun m => (m.1, m.2.1))) (stars (M.map fun m => I m.2.1 m.2.2)))
theorem Owns.mapOf_iff : Owns B (Asrt.mapOf E V I b C :: l) w ↔ ∃ M : List (α × ζ × β), M.map (fun m => (m.1, m.2.2)) = C ∧ Owns B (Asrt.map E V b (M.map fun m => (m.1, m.2.1)) :: stars (M.map fun m => I m.2.1 m.2.2) :: l) w := by
  unfold Asrt.mapOf
  rw [Owns.ex_iff]
  refine exists_congr fun M => ?_
  rw [Owns.star_iff, Owns.fact_iff, Owns.star_iff]
theorem Owns.mapOf_keys (h : Owns B (Asrt.mapOf E V I b C :: l) w) : (C.map (·.1)).Nodup ∧ ∀ c ∈ C, E.ok c.1 := by
  obtain ⟨M, rfl, h1⟩ := Owns.mapOf_iff.1 h
  have hm := h1.mapE.1
  have h2 := hm.nodup
  have h3 := hm.ok
  simp only [List.map_map, Function.comp_def, List.mem_map] at h2 h3 ⊢
  refine ⟨h2, ?_⟩
  rintro c ⟨m, hm, rfl⟩
  exact h3 (m.1, m.2.1) ⟨m, hm, rfl⟩
theorem Owns.mapOf_nil : Owns B (Asrt.map E V b [] :: l) w → Owns B (Asrt.mapOf E V I b [] :: l) w := fun h =>
  Owns.mapOf_iff.2 ⟨[], rfl, (Owns.emp_iff.2 h.tail |> fun _ => (Owns.emp_iff (l := Asrt.map E V b [] :: l)).2 h |> Owns.swap)⟩
theorem put_at {M : List (α × ζ × β)} (hn : (M.map (·.1)).Nodup) {j : Nat} {m : α × ζ × β} (hj : M[j]? = some m) (c' : β) :
    AL.put (M.map fun m => (m.1, m.2.2)) m.1 c' = (M.set j (m.1, m.2.1, c')).map (fun m => (m.1, m.2.2)) ∧ (M.set j (m.1, m.2.1, c')).map (fun m => (m.1, m.2.1)) = M.map (fun m => (m.1, m.2.1)) := by
  have hj2 : (M.map fun m => (m.1, m.2.2))[j]? = some (m.1, m.2.2) := by rw [List.getElem?_map, hj]; rfl
  have hn2 : ((M.map fun m => (m.1, m.2.2)).map (·.1)).Nodup := by simpa [List.map_map, Function.comp_def] using hn
  refine ⟨?_, ?_⟩
  · have := AL.put_set hn2 hj2 c'
    simp only at this
    rw [this, List.map_set]
  · rw [List.map_set]
    exact set_same (by rw [List.getElem?_map, hj]; rfl)
theorem get_at {γ δ : Type} {M : List (α × γ)} {f : γ → δ} (hn : (M.map (·.1)).Nodup) {a : α} {c : δ} (hg : AL.get (M.map fun m : α × γ => (m.1, f m.2)) a = some c) : ∃ (j : Nat) (m : α × γ), M[j]? = some m ∧ m.1 = a ∧ f m.2 = c := by
  have := AL.get_mem hg
  obtain ⟨m, hm, he⟩ := List.mem_map.1 this
  obtain ⟨j, hj⟩ := List.getElem?_of_mem hm
  simp only [Prod.mk.injEq] at he
  exact ⟨j, m, hj, he.1, he.2⟩
/-- ONE ELEMENT, and the way back. -/
theorem Owns.focus (h : Owns B (Asrt.mapOf E V I b C :: l) w) {a : α} {c : β} (hg : AL.get C a = some c) :
    ∃ (x : ζ) (T : List (α × ζ)) (R : Asrt), Owns B (Asrt.map E V b T :: I x c :: R :: l) w ∧ AL.get T a = some x ∧ T.map (·.1) = C.map (·.1) ∧
      ∀ (w' : World) (l' : List Asrt) (c' : β), Owns B (Asrt.map E V b T :: I x c' :: R :: l') w' → Owns B (Asrt.mapOf E V I b (AL.put C a c') :: l') w' := by
  obtain ⟨M, rfl, h1⟩ := Owns.mapOf_iff.1 h
  have hnd := h1.mapE.1.nodup
  have hn : (M.map (·.1)).Nodup := by simpa [List.map_map, Function.comp_def] using hnd
  obtain ⟨j, m, hj, rfl, rfl⟩ := get_at (f := fun y : ζ × β => y.2) hn hg
  have hjI : (M.map fun m => I m.2.1 m.2.2)[j]? = some (I m.2.1 m.2.2) := by rw [List.getElem?_map, hj]; rfl
  refine ⟨m.2.1, M.map (fun m => (m.1, m.2.1)), stars ((M.map fun m => I m.2.1 m.2.2).eraseIdx j), ?_, ?_, ?_, ?_⟩
  · have h2 : Owns B (stars (M.map fun m => I m.2.1 m.2.2) :: Asrt.map E V b (M.map fun m => (m.1, m.2.1)) :: l) w := h1.swap
    have h3 := Owns.flat_iff.1 h2
    have h4 : Owns B ((I m.2.1 m.2.2 :: (M.map fun m => I m.2.1 m.2.2).eraseIdx j) ++ (Asrt.map E V b (M.map fun m => (m.1, m.2.1)) :: l)) w := h3.perm ((erase_perm _ j _ hjI).append_right _)
    rw [List.cons_append] at h4
    have h5 : Owns B ((M.map fun m => I m.2.1 m.2.2).eraseIdx j ++ (Asrt.map E V b (M.map fun m => (m.1, m.2.1)) :: I m.2.1 m.2.2 :: l)) w := h4.perm (by
      refine (List.perm_middle.symm).trans (List.Perm.append_left _ (List.Perm.swap _ _ _)))
    have h6 := Owns.flat_iff.2 h5
    exact h6.perm ((List.Perm.swap _ _ _).trans (List.Perm.cons _ (List.Perm.swap _ _ _)))
  · have := AL.get_some (T := M.map fun m => (m.1, m.2.1)) hnd (p := (m.1, m.2.1)) (List.mem_map.2 ⟨m, List.mem_of_getElem? hj, rfl⟩)
    exact this
  · simp [List.map_map, Function.comp_def]
  · intro w' l' c' h7
    obtain ⟨e1, e2⟩ := put_at hn hj c'
    refine Owns.mapOf_iff.2 ⟨M.set j (m.1, m.2.1, c'), e1.symm, ?_⟩
    rw [e2]
    have h8 : Owns B (stars ((M.map fun m => I m.2.1 m.2.2).eraseIdx j) :: I m.2.1 c' :: Asrt.map E V b (M.map fun m => (m.1, m.2.1)) :: l') w' := h7.perm ((List.Perm.cons _ (List.Perm.swap _ _ _)).trans ((List.Perm.swap _ _ _).trans (List.Perm.cons _ (List.Perm.swap _ _ _))))
    have h9 := Owns.flat_iff.1 h8
    have hset : ((M.set j (m.1, m.2.1, c')).map fun m => I m.2.1 m.2.2).Perm (I m.2.1 c' :: (M.map fun m => I m.2.1 m.2.2).eraseIdx j) := by
      obtain ⟨hl, _⟩ := List.getElem?_eq_some_iff.1 hj
      have h10 := erase_perm ((M.set j (m.1, m.2.1, c')).map fun m => I m.2.1 m.2.2) j (I m.2.1 c') (by rw [List.getElem?_map, List.getElem?_set]; simp [hl])
      rw [List.map_set, List.eraseIdx_set_eq] at h10
      rw [List.map_set]
      exact h10
    have h11 : Owns B (((M.set j (m.1, m.2.1, c')).map fun m => I m.2.1 m.2.2) ++ (Asrt.map E V b (M.map fun m => (m.1, m.2.1)) :: l')) w' := by
      refine h9.perm (List.perm_middle.trans ?_)
      rw [← List.cons_append]
      exact hset.symm.append_right _
    exact (Owns.flat_iff.2 h11).swap
/-- ONE ELEMENT, and the way to another thing in its place. -/
theorem Owns.refocus (h : Owns B (Asrt.mapOf E V I b C :: l) w) {a : α} {c : β} (hg : AL.get C a = some c) :
    ∃ (x : ζ) (T : List (α × ζ)) (R : Asrt), Owns B (Asrt.map E V b T :: I x c :: R :: l) w ∧ AL.get T a = some x ∧ T.map (·.1) = C.map (·.1) ∧
      (∀ (w' : World) (l' : List Asrt) (x' : ζ) (c' : β), Owns B (Asrt.map E V b (AL.put T a x') :: I x' c' :: R :: l') w' → Owns B (Asrt.mapOf E V I b (AL.put C a c') :: l') w') ∧
      (∀ (w' : World) (l' : List Asrt), Owns B (Asrt.map E V b (AL.del T a) :: R :: l') w' → Owns B (Asrt.mapOf E V I b (AL.del C a) :: l') w') ∧
      (∀ (w' : World) (l' : List Asrt), Owns B (Asrt.map E V b T :: I x c :: R :: l') w' → Owns B (Asrt.mapOf E V I b C :: l') w') := by
  obtain ⟨M, rfl, h1⟩ := Owns.mapOf_iff.1 h
  have hnd := h1.mapE.1.nodup
  have hn : (M.map (·.1)).Nodup := by simpa [List.map_map, Function.comp_def] using hnd
  obtain ⟨j, m, hj, rfl, rfl⟩ := get_at (f := fun y : ζ × β => y.2) hn hg
  have hjI : (M.map fun m => I m.2.1 m.2.2)[j]? = some (I m.2.1 m.2.2) := by rw [List.getElem?_map, hj]; rfl
  have hnC : ((M.map fun m => (m.1, m.2.2)).map (·.1)).Nodup := by simpa [List.map_map, Function.comp_def] using hn
  have hjC : (M.map fun m => (m.1, m.2.2))[j]? = some (m.1, m.2.2) := by rw [List.getElem?_map, hj]; rfl
  have hjT : (M.map fun m => (m.1, m.2.1))[j]? = some (m.1, m.2.1) := by rw [List.getElem?_map, hj]; rfl
  have back : ∀ (w' : World) (l' : List Asrt) (x' : ζ) (c' : β), Owns B (Asrt.map E V b (AL.put (M.map fun m => (m.1, m.2.1)) m.1 x') :: I x' c' :: stars ((M.map fun m => I m.2.1 m.2.2).eraseIdx j) :: l') w' → Owns B (Asrt.mapOf E V I b (AL.put (M.map fun m => (m.1, m.2.2)) m.1 c') :: l') w' := by
    intro w' l' x' c' h7
    have e1 := AL.put_set hnC hjC c'
    have e2 := AL.put_set hnd hjT x'
    simp only at e1 e2
    refine Owns.mapOf_iff.2 ⟨M.set j (m.1, x', c'), by rw [e1, List.map_set], ?_⟩
    rw [e2] at h7
    rw [List.map_set (f := fun m : α × ζ × β => (m.1, m.2.1))]
    have h8 : Owns B (stars ((M.map fun m => I m.2.1 m.2.2).eraseIdx j) :: I x' c' :: Asrt.map E V b ((M.map fun m => (m.1, m.2.1)).set j (m.1, x')) :: l') w' := h7.perm ((List.Perm.cons _ (List.Perm.swap _ _ _)).trans ((List.Perm.swap _ _ _).trans (List.Perm.cons _ (List.Perm.swap _ _ _))))
    have h9 := Owns.flat_iff.1 h8
    have hset : ((M.set j (m.1, x', c')).map fun m => I m.2.1 m.2.2).Perm (I x' c' :: (M.map fun m => I m.2.1 m.2.2).eraseIdx j) := by
      obtain ⟨hl, _⟩ := List.getElem?_eq_some_iff.1 hj
      have h10 := erase_perm ((M.set j (m.1, x', c')).map fun m => I m.2.1 m.2.2) j (I x' c') (by rw [List.getElem?_map, List.getElem?_set]; simp [hl])
      rw [List.map_set, List.eraseIdx_set_eq] at h10
      rw [List.map_set]
      exact h10
    have h11 : Owns B (((M.set j (m.1, x', c')).map fun m => I m.2.1 m.2.2) ++ (Asrt.map E V b ((M.map fun m => (m.1, m.2.1)).set j (m.1, x')) :: l')) w' := by
      refine h9.perm (List.perm_middle.trans ?_)
      rw [← List.cons_append]
      exact hset.symm.append_right _
    exact (Owns.flat_iff.2 h11).swap
  refine ⟨m.2.1, M.map (fun m => (m.1, m.2.1)), stars ((M.map fun m => I m.2.1 m.2.2).eraseIdx j), ?_, ?_, ?_, back, ?_, ?_⟩
  · have h2 : Owns B (stars (M.map fun m => I m.2.1 m.2.2) :: Asrt.map E V b (M.map fun m => (m.1, m.2.1)) :: l) w := h1.swap
    have h3 := Owns.flat_iff.1 h2
    have h4 : Owns B ((I m.2.1 m.2.2 :: (M.map fun m => I m.2.1 m.2.2).eraseIdx j) ++ (Asrt.map E V b (M.map fun m => (m.1, m.2.1)) :: l)) w := h3.perm ((erase_perm _ j _ hjI).append_right _)
    rw [List.cons_append] at h4
    have h5 : Owns B ((M.map fun m => I m.2.1 m.2.2).eraseIdx j ++ (Asrt.map E V b (M.map fun m => (m.1, m.2.1)) :: I m.2.1 m.2.2 :: l)) w := h4.perm (by
      refine (List.perm_middle.symm).trans (List.Perm.append_left _ (List.Perm.swap _ _ _)))
    have h6 := Owns.flat_iff.2 h5
    exact h6.perm ((List.Perm.swap _ _ _).trans (List.Perm.cons _ (List.Perm.swap _ _ _)))
  · exact AL.get_some (T := M.map fun m => (m.1, m.2.1)) hnd (p := (m.1, m.2.1)) (List.mem_map.2 ⟨m, List.mem_of_getElem? hj, rfl⟩)
  · simp [List.map_map, Function.comp_def]
  · intro w' l' h7
    have e1 := AL.del_erase hnC hjC
    have e2 := AL.del_erase hnd hjT
    simp only at e1 e2
    refine Owns.mapOf_iff.2 ⟨M.eraseIdx j, by rw [e1, Go.ChangeMaps.map_eraseIdx], ?_⟩
    rw [e2] at h7
    rw [Go.ChangeMaps.map_eraseIdx (fun m : α × ζ × β => (m.1, m.2.1)), Go.ChangeMaps.map_eraseIdx (fun m : α × ζ × β => I m.2.1 m.2.2)]
    exact h7
  · intro w' l' h7
    have e1 := AL.put_set hnC hjC m.2.2
    have e2 := AL.put_set hnd hjT m.2.1
    simp only at e1 e2
    have h8 := back w' l' m.2.1 m.2.2 (by rw [e2, set_same hjT]; exact h7)
    rw [e1, set_same hjC] at h8
    exact h8
/-- A NEW ELEMENT, by the way back. -/
theorem Owns.fresh (h : Owns B (Asrt.mapOf E V I b C :: l) w) {a : α} (hg : AL.get C a = none) :
    ∃ (T : List (α × ζ)) (R : Asrt), Owns B (Asrt.map E V b T :: R :: l) w ∧ AL.get T a = none ∧ T.map (·.1) = C.map (·.1) ∧
      ∀ (w' : World) (l' : List Asrt) (x : ζ) (c' : β), Owns B (Asrt.map E V b (AL.put T a x) :: I x c' :: R :: l') w' → Owns B (Asrt.mapOf E V I b (AL.put C a c') :: l') w' := by
  obtain ⟨M, rfl, h1⟩ := Owns.mapOf_iff.1 h
  have hne : ∀ m ∈ M, m.1 ≠ a := fun m hm => AL.get_none_iff.1 hg (m.1, m.2.2) (List.mem_map.2 ⟨m, hm, rfl⟩)
  have hn1 : ∀ p ∈ M.map (fun m => (m.1, m.2.1)), p.1 ≠ a := by
    intro p hp; obtain ⟨m, hm, rfl⟩ := List.mem_map.1 hp; exact hne m hm
  have hn2 : ∀ p ∈ M.map (fun m => (m.1, m.2.2)), p.1 ≠ a := by
    intro p hp; obtain ⟨m, hm, rfl⟩ := List.mem_map.1 hp; exact hne m hm
  refine ⟨M.map (fun m => (m.1, m.2.1)), stars (M.map fun m => I m.2.1 m.2.2), h1, AL.get_none hn1, by simp [List.map_map, Function.comp_def], ?_⟩
  intro w' l' x c' h7
  rw [AL.put_new hn1] at h7
  refine Owns.mapOf_iff.2 ⟨M ++ [(a, x, c')], by rw [AL.put_new hn2]; simp, ?_⟩
  rw [List.map_append, List.map_append]
  have h8 : Owns B (stars (M.map fun m => I m.2.1 m.2.2) :: I x c' :: Asrt.map E V b (M.map (fun m => (m.1, m.2.1)) ++ [(a, x)]) :: l') w' := h7.perm ((List.Perm.cons _ (List.Perm.swap _ _ _)).trans ((List.Perm.swap _ _ _).trans (List.Perm.cons _ (List.Perm.swap _ _ _))))
  have h9 := Owns.flat_iff.1 h8
  have h10 : Owns B ((M.map (fun m => I m.2.1 m.2.2) ++ [I x c']) ++ (Asrt.map E V b (M.map (fun m => (m.1, m.2.1)) ++ [(a, x)]) :: l')) w' := by simpa using h9
  exact (Owns.flat_iff.2 h10).swap
/-- The map alone, for what only looks at it or ranges over it; each element by the way there. -/
theorem Owns.over (h : Owns B (Asrt.mapOf E V I b C :: l) w) :
    ∃ (T : List (α × ζ)) (R : Asrt), Owns B (Asrt.map E V b T :: R :: l) w ∧ T.map (·.1) = C.map (·.1) ∧ (∀ a, AL.get T a = none ↔ AL.get C a = none) ∧
      ∀ (w' : World) (l' : List Asrt), Owns B (Asrt.map E V b T :: R :: l') w' → Owns B (Asrt.mapOf E V I b C :: l') w' := by
  obtain ⟨M, rfl, h1⟩ := Owns.mapOf_iff.1 h
  refine ⟨M.map (fun m => (m.1, m.2.1)), stars (M.map fun m => I m.2.1 m.2.2), h1, by simp [List.map_map, Function.comp_def], ?_, fun w' l' h7 => Owns.mapOf_iff.2 ⟨M, rfl, h7⟩⟩
  intro a
  have e1 := AL.get_map (fun y : ζ × β => y.1) M a
  have e2 := AL.get_map (fun y : ζ × β => y.2) M a
  rw [e1, e2]
  cases AL.get M a <;> simp
end
section
variable {P : Program} {k : TypeId} {α β : Type} [DecidableEq α] {E : Enc P k α} {ζ : Type} {V : ζ → Value} {I : ζ → β → Asrt} {b : Nat} {C : List (α × β)} {B : Nat} {l : List Asrt} {w : World}
/-- 'delete(m, k)' of a map whose elements lead to blocks. -/
theorem Owns.mapOf_delete (h : Owns B (Asrt.mapOf E V I b C :: l) w) (a : α) : ∃ (T : List (α × ζ)) (R : Asrt), Owns B (Asrt.map E V b T :: R :: l) w ∧
    ∀ (w' : World) (l' : List Asrt), Owns B (Asrt.map E V b (AL.del T a) :: R :: l') w' → Owns B (Asrt.mapOf E V I b (AL.del C a) :: l') w' := by
  cases hg : AL.get C a with
  | none =>
    obtain ⟨T, R, h1, _, h2, h3⟩ := h.over
    refine ⟨T, R, h1, fun w' l' h4 => ?_⟩
    rw [AL.del_keep (AL.get_none_iff.1 ((h2 a).2 hg))] at h4
    rw [AL.del_keep (AL.get_none_iff.1 hg)]
    exact h3 w' l' h4
  | some c =>
    obtain ⟨x, T, R, h1, _, _, _, h2, _⟩ := h.refocus hg
    exact ⟨T, R, h1.perm (List.Perm.refl _) |> fun h => (h.front 1 _ rfl).tail, h2⟩
/-- 'm[k] = v' of such a map. -/
theorem Owns.mapOf_put (h : Owns B (Asrt.mapOf E V I b C :: l) w) (a : α) : ∃ (T : List (α × ζ)) (R : Asrt), Owns B (Asrt.map E V b T :: R :: l) w ∧ T.map (·.1) = C.map (·.1) ∧
    ∀ (w' : World) (l' : List Asrt) (x' : ζ) (c' : β), Owns B (Asrt.map E V b (AL.put T a x') :: I x' c' :: R :: l') w' → Owns B (Asrt.mapOf E V I b (AL.put C a c') :: l') w' := by
  cases hg : AL.get C a with
  | none =>
    obtain ⟨T, R, h1, _, h0, h2⟩ := h.fresh hg
    exact ⟨T, R, h1, h0, h2⟩
  | some c =>
    obtain ⟨x, T, R, h1, _, h0, h2, _⟩ := h.refocus hg
    exact ⟨T, R, (h1.front 1 _ rfl).tail, h0, h2⟩
end
theorem str_inj {a b : ByteArray} (h : a.toList = b.toList) : a = b := by
  rw [ByteArray.toList_eq, ByteArray.toList_eq] at h
  exact Go.WideShapes.bytes_inj h
theorem cell_of {w : World} {p T : Nat} {cs : Array Value} {fz : Nat × Nat} (h : w.heap[p]? = some (.cells cs T fz)) (o : Nat) : w.cell? ⟨p, o, none⟩ = cs[o]? := by
  simp [World.cell?, h]
theorem free_of {w : World} {p T : Nat} {cs : Array Value} (h : w.heap[p]? = some (.cells cs T (0, 0))) (o : Nat) : w.frozen? ⟨p, o, none⟩ = false := by
  simp [World.frozen?, h]
theorem setCell_of {w : World} {p T o : Nat} {cs : Array Value} {fz : Nat × Nat} (h : w.heap[p]? = some (.cells cs T fz)) (v : Value) : (w.setCell ⟨p, o, none⟩ v).heap[p]? = some (.cells (cs.setIfInBounds o v) T fz) := by
  simp [World.setCell, Array.getElem?_modify, h]
end Go.Cic
