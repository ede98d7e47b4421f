/- A map's string keys for the shelf's contracts; rising rows of texts. Own library text. -/
import Derived.Test.YtfolnnmgnkalkaaCicRow
import Derived.Maps.OwnSet
import Derived.Sort.KeysCollected
import Derived.Sort.Walk0
namespace Go.Cic
set_option linter.unusedVariables false
open Go.RowKit Go.ChangeMaps
open Go.Proofs (encStr)
/-- How a map whose keys are texts is handed to the shelf. -/
theorem MapT.keysOwn {P : Program} {k : TypeId} (hk : P.underlying k = some .string) {β : Type} {V : β → Value} {w : World} {b : Nat} {T : List (ByteArray × β)} (h : MapT (strEnc hk) V w b T) (hlen : T.length ≤ maxLen) :
    ∃ (D0 : DataW Unit) (R : Value → Option (DataW Unit × List MemPlace)) (nn : Nat), w.ownsMap P k R b nn D0 ∧ (strKeys D0).Perm (T.map fun p => p.1.data.toList) ∧ Maps.size D0 = T.length := by
  obtain ⟨es, clk, hb, he, hs, hok⟩ := h
  have hel : es.toList.length = T.length := by have := congrArg List.length he; simpa using this
  have hrd : ∀ x ∈ es.toList, ∃ p ∈ T, WideElems.rd P k (fun _ => some ((.nil : DataW Unit), [])) x = some (.string p.1.data.toList, .nil) := by
    intro x hx
    have h1 : (x.key, x.val) ∈ es.toList.map (fun e => (e.key, e.val)) := List.mem_map.2 ⟨x, hx, rfl⟩
    rw [he] at h1
    obtain ⟨p, hp, hpe⟩ := List.mem_map.1 h1
    simp only [Prod.mk.injEq] at hpe
    refine ⟨p, hp, ?_⟩
    unfold WideElems.rd
    rw [← hpe.1]
    have : (strEnc hk).v p.1 = .string p.1 := rfl
    rw [this, WideMaps.keyOf_string_mk hk (hok p hp)]
    rfl
  have hperm := Go.WideShapes.sorted_perm (es.toList.map (WideElems.rg P k (fun _ => some ((.nil : DataW Unit), []))))
  refine ⟨.map ((es.toList.map (WideElems.rg P k (fun _ => some (.nil, [])))).foldr DataW.insert []), fun _ => some (.nil, []), es.size, ⟨es, clk, hb, ⟨?_, hs, fun x hx => ?_⟩, Nat.le_refl _, rfl⟩, ?_, ?_⟩
  · have : es.size = es.toList.length := by simp
    omega
  · obtain ⟨p, _, hp⟩ := hrd x hx
    exact ⟨_, hp⟩
  · show (List.map _ _).Perm _
    refine (hperm.map _).trans ?_
    rw [List.map_map]
    have key : ∀ (l : List MapEntry) (S : List (ByteArray × β)), l.map (fun e => (e.key, e.val)) = S.map (fun p => ((strEnc hk).v p.1, V p.2)) → (∀ p ∈ S, p.1.size ≤ maxLen) →
        l.map ((fun p : Lit × DataW Unit => strOf p.1) ∘ WideElems.rg P k (fun _ => some (.nil, []))) = S.map fun p => p.1.data.toList := by
      intro l
      induction l with
      | nil =>
        intro S hS _
        cases S with
        | nil => rfl
        | cons p S => simp at hS
      | cons x l ih =>
        intro S hS hok
        cases S with
        | nil => simp at hS
        | cons p S =>
          simp only [List.map_cons, List.cons.injEq, Prod.mk.injEq] at hS ⊢
          refine ⟨?_, ih S hS.2 (fun q hq => hok q (by simp [hq]))⟩
          show strOf (WideElems.rg P k _ x).1 = _
          have hx : WideElems.rd P k (fun _ => some ((.nil : DataW Unit), [])) x = some (.string p.1.data.toList, .nil) := by
            unfold WideElems.rd
            rw [hS.1.1]
            have : (strEnc hk).v p.1 = .string p.1 := rfl
            rw [this, WideMaps.keyOf_string_mk hk (hok p (by simp))]
            rfl
          unfold WideElems.rg
          rw [hx]; rfl
    rw [key es.toList T he hok]
  · show List.length _ = _
    rw [hperm.length_eq, List.length_map, hel]
/-- Rising, as Go orders texts. -/
def Rising (ks : List ByteArray) : Prop := ks.Pairwise fun a b => a.toList < b.toList
theorem Rising.ext : ∀ {a b : List ByteArray}, Rising a → Rising b → (∀ x, x ∈ a ↔ x ∈ b) → a = b
  | [], [], _, _, _ => rfl
  | [], y :: b, _, _, h => by have := (h y).2 (by simp); cases this
  | x :: a, [], _, _, h => by have := (h x).1 (by simp); cases this
  | x :: a, y :: b, ha, hb, h => by
    obtain ⟨ha1, ha2⟩ := List.pairwise_cons.1 ha
    obtain ⟨hb1, hb2⟩ := List.pairwise_cons.1 hb
    have hxy : x = y := by
      rcases List.mem_cons.1 ((h x).1 (by simp)) with h1 | h1
      · exact h1
      · rcases List.mem_cons.1 ((h y).2 (by simp)) with h2 | h2
        · exact h2.symm
        · exact absurd (List.lt_trans (ha1 y h2) (hb1 x h1)) (List.lt_irrefl _)
    subst hxy
    congr 1
    refine Rising.ext ha2 hb2 (fun z => ⟨fun hz => ?_, fun hz => ?_⟩)
    · rcases List.mem_cons.1 ((h z).1 (by simp [hz])) with h1 | h1
      · subst h1; exact absurd (ha1 z hz) (List.lt_irrefl _)
      · exact h1
    · rcases List.mem_cons.1 ((h z).2 (by simp [hz])) with h1 | h1
      · subst h1; exact absurd (hb1 z hz) (List.lt_irrefl _)
      · exact h1
theorem Rising.nodup {ks : List ByteArray} (h : Rising ks) : ks.Nodup := h.imp fun {a b} hab e => by subst e; exact absurd hab (List.lt_irrefl _)
theorem ba_toList (l : List UInt8) : (⟨l.toArray⟩ : ByteArray).toList = l := by rw [ByteArray.toList_eq]
/-- What the sort leaves, as texts. -/
theorem sorted_texts {ss : List (List UInt8)} {T : List ByteArray} (hp : ss.Perm (T.map fun s => s.data.toList)) (hn : T.Nodup) :
    ∃ ks : List ByteArray, (ss.mergeSort fun x y => decide (x ≤ y)).map encStr = ks.map Value.string ∧ Rising ks ∧ (∀ x, x ∈ ks ↔ x ∈ T) ∧ ks.length = T.length := by
  have hmp := List.mergeSort_perm ss (fun x y => decide (x ≤ y))
  have hinj : ∀ a b : ByteArray, a.data.toList = b.data.toList → a = b := fun a b h => str_inj (by rw [ByteArray.toList_eq, ByteArray.toList_eq]; exact h)
  have hnd : ss.Nodup := hp.nodup_iff.2 (List.Pairwise.map _ (fun a b hab e => hab (hinj a b e)) hn)
  have hsd := List.pairwise_mergeSort (le := fun x y : List UInt8 => decide (x ≤ y)) (fun a b c h1 h2 => by simp only [decide_eq_true_eq] at *; exact List.le_trans h1 h2) (fun a b => by simp only [Bool.or_eq_true, decide_eq_true_eq]; exact List.le_total a b) ss
  refine ⟨(ss.mergeSort fun x y => decide (x ≤ y)).map fun l => ⟨l.toArray⟩, ?_, ?_, fun x => ?_, ?_⟩
  · rw [List.map_map]; rfl
  · refine List.Pairwise.map (R := fun a b : List UInt8 => a < b) _ (fun a b hab => by rw [ba_toList, ba_toList]; exact hab) ?_
    have hnd2 : (ss.mergeSort fun x y => decide (x ≤ y)).Nodup := hmp.nodup_iff.2 hnd
    refine (hsd.and hnd2).imp fun {a b} h => ?_
    have h1 : a ≤ b := by simpa using h.1
    rcases List.le_iff_lt_or_eq.1 h1 with h2 | h2
    · exact h2
    · exact absurd h2 h.2
  · rw [List.mem_map]
    constructor
    · rintro ⟨l, hl, rfl⟩
      have := (hp.mem_iff).1 (hmp.mem_iff.1 hl)
      obtain ⟨s, hs, rfl⟩ := List.mem_map.1 this
      exact hs
    · intro hx
      exact ⟨x.data.toList, hmp.mem_iff.2 (hp.mem_iff.2 (List.mem_map.2 ⟨x, hx, rfl⟩)), rfl⟩
  · rw [List.length_map, hmp.length_eq, hp.length_eq, List.length_map]
end Go.Cic
namespace Go.Cic
open Go.RowKit
/-- A new row of this call's. -/
theorem Owns.newRow {B : Nat} {l : List Asrt} {w w' : World} (h : Owns B l w) (hB : B ≤ w.heap.size) {base e : Nat} {v : Value} {xs : List Value} (ho : w'.ownsRow base e 1 v xs.length xs) (hbase : w.heap.size ≤ base) (hk : Below w.heap.size w w') : Owns B (Asrt.row e v xs :: l) w' := by
  refine h.new hB (S := fun b => v.ownBlock = some b) ⟨⟨ho.1, ?_⟩, fun _ => Iff.rfl⟩ (fun b hb => ?_) hk
  · rcases ho.2 with hn | ⟨g, cap, cur, rfl, hg, r⟩
    · exact .inl hn
    · exact .inr ⟨g, cap, cur, rfl, Nat.zero_le _, r⟩
  · rcases ho.2 with ⟨rfl, _⟩ | ⟨g, cap, cur, rfl, hg, r⟩
    · simp [Value.ownBlock] at hb
    · have : g = b := by simpa [Value.ownBlock] using hb
      omega
end Go.Cic
