/- cache: nothing stale, the plain side. -/
import Derived.Test.YtbdikfadnfjmoaaCacSim
namespace Go.Proofs.Cac
open Go.RowKit Go.Cic
set_option linter.unusedVariables false
/-- All that stand behind a key are among these. -/
def Beh (ks : List ByteArray) (key : ByteArray) (os : List ByteArray) : Prop := ∀ pre post, ks = pre ++ key :: post → ∀ x ∈ post, x ∈ os
theorem Beh.mono {ks os os' : List ByteArray} {key : ByteArray} (h : Beh ks key os) (hs : ∀ x ∈ os, x ∈ os') : Beh ks key os' := fun pre post he x hx => hs x (h pre post he x hx)
theorem Beh.filter {ks os : List ByteArray} {key : ByteArray} (h : Beh ks key os) (p : ByteArray → Bool) : Beh (ks.filter p) key os := by
  intro pre post he x hx
  obtain ⟨l1, l2, rfl, h1, h2⟩ := List.filter_eq_append_iff.1 he
  obtain ⟨a, b, rfl, _, _, h3⟩ := List.filter_eq_cons_iff.1 h2
  rw [← h3] at hx
  exact h (l1 ++ a) b (by simp) x (List.mem_filter.1 hx).1
theorem snoc_split {ks pre post : List ByteArray} {y key : ByteArray} (he : ks ++ [y] = pre ++ key :: post) : (post = [] ∧ y = key ∧ ks = pre) ∨ ∃ q, post = q ++ [y] ∧ ks = pre ++ key :: q := by
  rcases List.eq_nil_or_concat post with hp | ⟨q, z, hp⟩
  · subst hp
    have := List.append_inj' he rfl
    exact .inl ⟨rfl, by simpa using this.2, this.1⟩
  · subst hp
    have he' : ks ++ [y] = (pre ++ key :: q) ++ [z] := by rw [he]; simp
    have := List.append_inj' he' rfl
    have hz : y = z := by simpa using this.2
    subst hz
    exact .inr ⟨q, by simp, this.1⟩
theorem Beh.snoc {ks os : List ByteArray} {key y : ByteArray} (h : Beh ks key os) (hy : y ∈ os) (hne : y ≠ key) : Beh (ks ++ [y]) key os := by
  intro pre post he x hx
  rcases snoc_split he with ⟨_, h1, _⟩ | ⟨q, rfl, h1⟩
  · exact absurd h1 hne
  · rcases List.mem_append.1 hx with hx | hx
    · exact h pre q h1 x hx
    · rw [List.mem_singleton.1 hx]; exact hy
theorem Beh.last {ks : List ByteArray} {key : ByteArray} (hn : key ∉ ks) (os : List ByteArray) : Beh (ks ++ [key]) key os := by
  intro pre post he x hx
  rcases snoc_split he with ⟨rfl, _, _⟩ | ⟨q, rfl, h1⟩
  · cases hx
  · exact absurd (by rw [h1]; simp) hn
theorem nodup_len : ∀ (l m : List ByteArray), l.Nodup → (∀ x ∈ l, x ∈ m) → l.length ≤ m.length
  | [], m, _, _ => Nat.zero_le _
  | x :: l, m, hn, hs => by
    obtain ⟨h1, h2⟩ := List.nodup_cons.1 hn
    obtain ⟨a, b, rfl⟩ := List.append_of_mem (hs x (by simp))
    have := nodup_len l (a ++ b) h2 (fun y hy => by
      have h3 := hs y (by simp [hy])
      have hne : y ≠ x := fun e => h1 (e ▸ hy)
      simp only [List.mem_append, List.mem_cons] at h3 ⊢
      rcases h3 with h3 | h3 | h3
      · exact .inl h3
      · exact absurd h3 hne
      · exact .inr h3)
    simp only [List.length_append, List.length_cons] at this ⊢
    omega
/-- What is known of a key. -/
structure Fr (size : Int) (key : ByteArray) (ks : List ByteArray) (C : Tab) (value : ByteArray) (put touched : Bool) (dl os : List ByteArray) : Prop where
  nd : ks.Nodup
  has : ∀ y, (AL.get C y).isSome = true ↔ y ∈ ks
  len : (ks.length : Int) ≤ size
  some : ∀ c, AL.get C key = some c → put = true ∧ touched = false ∧ c = (value, dl) ∧ Beh ks key os
  none : AL.get C key = Option.none → put = true → touched = false → size ≤ (os.length : Int)
theorem Fr.start {size : Int} (h : 0 ≤ size) (key value : ByteArray) (dl : List ByteArray) : Fr size key [] [] value false false dl [] :=
  ⟨by simp, fun y => by simp [AL.get], by simpa using h, fun c h => by simp [AL.get] at h, fun _ h => by cases h⟩
section
variable {size : Int} {key : ByteArray} {ks : List ByteArray} {C : Tab} {value : ByteArray} {put touched : Bool} {dl os : List ByteArray}
theorem out_nodup (hn : ks.Nodup) (k : ByteArray) : (ks.filter (nk k) ++ [k]).Nodup := by
  refine List.nodup_append.2 ⟨hn.filter _, by simp, fun a ha b hb => ?_⟩
  simp at hb
  subst hb
  exact nk_iff.1 (List.mem_filter.1 ha).2
theorem out_mem (k y : ByteArray) : y ∈ ks.filter (nk k) ++ [k] ↔ y = k ∨ y ∈ ks := by
  rw [List.mem_append, List.mem_filter, List.mem_singleton]
  by_cases h : y = k
  · simp [h]
  · have := nk_iff.2 h; simp [this, h]
/-- Got. -/
theorem Fr.get_other (h : Fr size key ks C value put touched dl os) {k : ByteArray} (hk : k ≠ key) {c : Ent} (hg : AL.get C k = Option.some c) {os' : List ByteArray} (hs : ∀ x ∈ os, x ∈ os') (hk2 : k ∈ os') (hl : os.length ≤ os'.length) : Fr size key (ks.filter (nk k) ++ [k]) C value put touched dl os' := by
  have hin : k ∈ ks := (h.has k).1 (by rw [hg]; rfl)
  refine ⟨out_nodup h.nd k, fun y => ?_, ?_, fun c hc => ?_, fun hc hp ht => ?_⟩
  · rw [out_mem, h.has]; exact ⟨.inr, fun e => e.elim (fun e => e ▸ hin) id⟩
  · have := nodup_len _ ks (out_nodup h.nd k) (fun y hy => ((out_mem k y).1 hy).elim (fun e => e ▸ hin) id)
    have := h.len; omega
  · obtain ⟨h1, h2, h3, h4⟩ := h.some c hc
    exact ⟨h1, h2, h3, ((h4.filter _).mono hs).snoc hk2 hk⟩
  · have := h.none hc hp ht; omega
theorem Fr.get_key (h : Fr size key ks C value put touched dl os) {c : Ent} (hg : AL.get C key = Option.some c) : Fr size key (ks.filter (nk key) ++ [key]) C value put touched dl os := by
  have hin : key ∈ ks := (h.has key).1 (by rw [hg]; rfl)
  refine ⟨out_nodup h.nd key, fun y => ?_, ?_, fun c hc => ?_, fun hc hp ht => ?_⟩
  · rw [out_mem, h.has]; exact ⟨.inr, fun e => e.elim (fun e => e ▸ hin) id⟩
  · have := nodup_len _ ks (out_nodup h.nd key) (fun y hy => ((out_mem key y).1 hy).elim (fun e => e ▸ hin) id)
    have := h.len; omega
  · obtain ⟨h1, h2, h3, h4⟩ := h.some c hc
    exact ⟨h1, h2, h3, Beh.last (fun hm => nk_iff.1 (List.mem_filter.1 hm).2 rfl) os⟩
  · rw [hg] at hc; cases hc
theorem Fr.more (h : Fr size key ks C value put touched dl os) {os' : List ByteArray} (hs : ∀ x ∈ os, x ∈ os') (hl : os.length ≤ os'.length) : Fr size key ks C value put touched dl os' :=
  ⟨h.nd, h.has, h.len, fun c hc => by obtain ⟨h1, h2, h3, h4⟩ := h.some c hc; exact ⟨h1, h2, h3, h4.mono hs⟩, fun hc hp ht => by have := h.none hc hp ht; omega⟩
theorem get_put_some (C : Tab) (k : ByteArray) (v : Ent) (y : ByteArray) : (AL.get (AL.put C k v) y).isSome = true ↔ y = k ∨ (AL.get C y).isSome = true := by
  by_cases h : y = k
  · subst h; simp [AL.get_put_same]
  · rw [AL.get_put_other _ _ h]; simp [h]
theorem get_del_some (C : Tab) (k y : ByteArray) : (AL.get (AL.del C k) y).isSome = true ↔ y ≠ k ∧ (AL.get C y).isSome = true := by
  by_cases h : y = k
  · subst h; simp [AL.get_del_same]
  · rw [AL.get_del_other _ h]; simp [h]
/-- Put. -/
theorem Fr.put' (h : Fr size key ks C value put touched dl os) (hs1 : 1 ≤ size) (k v : ByteArray) (deps : List ByteArray) :
    (putK size ks k).Nodup ∧ (∀ y, (AL.get (putC size ks C k v deps) y).isSome = true ↔ y ∈ putK size ks k) ∧ ((putK size ks k).length : Int) ≤ size ∧
      (size < ((ks.filter (nk k) ++ [k]).length : Int) → ∃ a r, ks.filter (nk k) ++ [k] = a :: r ∧ putK size ks k = r ∧ putC size ks C k v deps = AL.del (AL.put C k (v, deps)) a ∧ size ≤ (r.length : Int) ∧ a ≠ k) ∧
      (¬ size < ((ks.filter (nk k) ++ [k]).length : Int) → putK size ks k = ks.filter (nk k) ++ [k] ∧ putC size ks C k v deps = AL.put C k (v, deps)) := by
  have hnd := out_nodup h.nd k
  have hlen : ((ks.filter (nk k) ++ [k]).length : Int) ≤ size + 1 := by
    have := List.length_filter_le (nk k) ks
    have := h.len
    simp only [List.length_append, List.length_cons, List.length_nil]; omega
  have hmem := out_mem (ks := ks) k
  have hlast : ∀ a r, ks.filter (nk k) ++ [k] = a :: r → r ≠ [] → a ≠ k := by
    intro a r he hr e
    subst e
    cases hf : ks.filter (nk a) with
    | nil => rw [hf] at he; simp only [List.nil_append, List.cons.injEq] at he; exact hr he.2.symm
    | cons z zs =>
      rw [hf] at he
      simp only [List.cons_append, List.cons.injEq] at he
      have : z ∈ ks.filter (nk a) := by rw [hf]; simp
      exact nk_iff.1 (List.mem_filter.1 this).2 he.1
  unfold putK putC
  generalize hb : ks.filter (nk k) ++ [k] = base at *
  by_cases hlt : size < (base.length : Int)
  · rw [if_pos hlt, if_pos hlt]
    cases base with
    | nil => simp at hb
    | cons a r =>
      obtain ⟨hn1, hn2⟩ := List.nodup_cons.1 hnd
      have ha : nk a a = false := by
        have : ¬ nk a a = true := fun h => nk_iff.1 h rfl
        simpa using this
      have hr : r.filter (nk a) = r := List.filter_eq_self.2 fun z hz => nk_iff.2 (fun e => hn1 (e ▸ hz))
      have hd : (a :: r).headD k = a := rfl
      have e : (a :: r).filter (nk a) = r := by rw [List.filter_cons, ha]; simp only [Bool.false_eq_true, if_false]; exact hr
      simp only [List.length_cons] at hlt hlen
      rw [hd, e]
      refine ⟨hn2, fun y => ?_, by omega, fun _ => ⟨a, r, rfl, rfl, rfl, by omega, hlast a r rfl (by intro e; subst e; simp at hlt; omega)⟩, fun hc => absurd hlt (by simpa using hc)⟩
      rw [get_del_some, get_put_some, h.has, ← hmem y, List.mem_cons]
      exact ⟨fun ⟨h1, h2⟩ => h2.resolve_left h1, fun h1 => ⟨fun e => hn1 (e ▸ h1), .inr h1⟩⟩
  · rw [if_neg hlt, if_neg hlt]
    refine ⟨hnd, fun y => ?_, by omega, fun hc => absurd hc hlt, fun _ => ⟨rfl, rfl⟩⟩
    rw [get_put_some, h.has, ← hmem y]
theorem Fr.put_key (h : Fr size key ks C value put touched dl os) (hs1 : 1 ≤ size) (v : ByteArray) (deps : List ByteArray) : Fr size key (putK size ks key) (putC size ks C key v deps) v true false deps [] := by
  obtain ⟨h1, h2, h3, h4, h5⟩ := h.put' hs1 key v deps
  have hout : key ∉ ks.filter (nk key) := fun hm => nk_iff.1 (List.mem_filter.1 hm).2 rfl
  by_cases hlt : size < ((ks.filter (nk key) ++ [key]).length : Int)
  · obtain ⟨a, r, e1, e2, e3, e4, e5⟩ := h4 hlt
    refine ⟨h1, h2, h3, fun c hc => ?_, fun hc => ?_⟩
    · rw [e3, AL.get_del_other _ (Ne.symm e5), AL.get_put_same] at hc
      injection hc with hc
      refine ⟨rfl, rfl, hc.symm, ?_⟩
      rw [e2]
      intro pre post he
      exact Beh.last hout [] (a :: pre) post (by rw [e1, he]; rfl)
    · rw [e3, AL.get_del_other _ (Ne.symm e5), AL.get_put_same] at hc; cases hc
  · obtain ⟨e2, e3⟩ := h5 hlt
    refine ⟨h1, h2, h3, fun c hc => ?_, fun hc => ?_⟩
    · rw [e3, AL.get_put_same] at hc
      injection hc with hc
      refine ⟨rfl, rfl, hc.symm, ?_⟩
      rw [e2]; exact Beh.last hout []
    · rw [e3, AL.get_put_same] at hc; cases hc
theorem Fr.put_other (h : Fr size key ks C value put touched dl os) (hs1 : 1 ≤ size) {k : ByteArray} (hk : k ≠ key) (v : ByteArray) (deps : List ByteArray) {os' : List ByteArray} (hs : ∀ x ∈ os, x ∈ os') (hk2 : k ∈ os') (hl : os.length ≤ os'.length) :
    Fr size key (putK size ks k) (putC size ks C k v deps) value put touched dl os' := by
  obtain ⟨h1, h2, h3, h4, h5⟩ := h.put' hs1 k v deps
  have hb : ∀ c, AL.get C key = Option.some c → Beh (ks.filter (nk k) ++ [k]) key os' := fun c hc => (((h.some c hc).2.2.2.filter _).mono hs).snoc hk2 hk
  by_cases hlt : size < ((ks.filter (nk k) ++ [k]).length : Int)
  · obtain ⟨a, r, e1, e2, e3, e4, e5⟩ := h4 hlt
    by_cases ha : a = key
    · subst ha
      refine ⟨h1, h2, h3, fun c hc => ?_, fun _ hp ht => ?_⟩
      · rw [e3, AL.get_del_same] at hc; cases hc
      · cases hg : AL.get C a with
        | none => have := h.none hg hp ht; omega
        | some c =>
          have hbb := hb c hg
          have hsub := hbb [] r (by rw [e1]; rfl)
          have hn := out_nodup h.nd k
          rw [e1] at hn
          have := nodup_len r os' (List.nodup_cons.1 hn).2 hsub
          omega
    · have e6 : AL.get (putC size ks C k v deps) key = AL.get C key := by rw [e3, AL.get_del_other _ (fun e => ha e.symm), AL.get_put_other _ _ (fun e => hk e.symm)]
      refine ⟨h1, h2, h3, fun c hc => ?_, fun hc hp ht => ?_⟩
      · rw [e6] at hc
        obtain ⟨g1, g2, g3, _⟩ := h.some c hc
        refine ⟨g1, g2, g3, ?_⟩
        rw [e2]
        intro pre post he
        exact hb c hc (a :: pre) post (by rw [e1, he]; rfl)
      · rw [e6] at hc; have := h.none hc hp ht; omega
  · obtain ⟨e2, e3⟩ := h5 hlt
    have e6 : AL.get (putC size ks C k v deps) key = AL.get C key := by rw [e3, AL.get_put_other _ _ (fun e => hk e.symm)]
    refine ⟨h1, h2, h3, fun c hc => ?_, fun hc hp ht => ?_⟩
    · rw [e6] at hc
      obtain ⟨g1, g2, g3, _⟩ := h.some c hc
      exact ⟨g1, g2, g3, by rw [e2]; exact hb c hc⟩
    · rw [e6] at hc; have := h.none hc hp ht; omega
/-- Touch. -/
theorem Fr.touch (h : Fr size key ks C value put touched dl os) (deps : List ByteArray) : Fr size key (tAll deps ks C).1 (tAll deps ks C).2.1 value put (touched || deps.any fun x => dl.any (isB x)) dl os := by
  obtain ⟨i1, i2, _⟩ := tAll_spec deps ks ks C 0 h.nd
  have e1 : (tAll deps ks C).1 = ks.filter (fun y => !(ks.any (isB y) && hitK C deps y)) := i1
  have e2 : ∀ y, AL.get (tAll deps ks C).2.1 y = if (ks.any (isB y) && hitK C deps y) = true then Option.none else AL.get C y := i2
  refine ⟨by rw [e1]; exact h.nd.filter _, fun y => ?_, ?_, fun c hc => ?_, fun hc hp ht => ?_⟩
  · rw [e1, e2, List.mem_filter]
    by_cases hy : y ∈ ks
    · have hh := (h.has y).2 hy
      rw [any_mem.2 hy, Bool.true_and]
      cases hk : hitK C deps y <;> simp [hy, hh]
    · have hh : ¬ (AL.get C y).isSome = true := fun e => hy ((h.has y).1 e)
      split <;> simp [hy, hh] <;> simpa using hh
  · rw [e1]
    have := List.length_filter_le (fun y => !(ks.any (isB y) && hitK C deps y)) ks
    have := h.len; omega
  · rw [e2] at hc
    split at hc
    · cases hc
    · rename_i hn
      obtain ⟨g1, g2, g3, g4⟩ := h.some c hc
      have hin : key ∈ ks := (h.has key).1 (by rw [hc]; rfl)
      rw [any_mem.2 hin, Bool.true_and] at hn
      have hh : hitK C deps key = false := by simpa using hn
      have : (deps.any fun x => dl.any (isB x)) = false := by
        unfold hitK at hh
        rw [hc] at hh
        simp only [Option.map_some, Option.getD_some] at hh
        rw [hit_swap, g3] at hh
        exact hh
      refine ⟨g1, by rw [g2, this]; rfl, g3, ?_⟩
      rw [e1]; exact g4.filter _
  · have ht' : touched = false ∧ (deps.any fun x => dl.any (isB x)) = false := by simpa using ht
    rw [e2] at hc
    split at hc
    · rename_i hn
      have hh : hitK C deps key = true := by simp at hn; exact hn.2
      cases hg : AL.get C key with
      | none => exact h.none hg hp ht'.1
      | some c =>
        exfalso
        obtain ⟨g1, g2, g3, g4⟩ := h.some c hg
        unfold hitK at hh
        rw [hg] at hh
        simp only [Option.map_some, Option.getD_some] at hh
        rw [hit_swap, g3] at hh
        rw [ht'.2] at hh; cases hh
    · exact h.none hc hp ht'.1
end
end Go.Proofs.Cac
