/- cache: a text into a rising list, once. -/
import Derived.Test.YtbdikfadnfjmoaaCacKd
import Derived.Test.YtbdikfadnfjmoaaCacFreshPlain
import Derived.Test.YtbdikfadnfjmoaaPCacheFreshx1
namespace Go.Proofs.Cac
open Go.RowKit Go.Cic Go.Proofs.YtbdikfadnfjmoaaW.PrintWords
set_option linter.unusedVariables false
open Go.Proofs.Ytbdikfadnfjmoaa in
theorem inF_l0 (l : List ByteArray) (key : ByteArray) (hl : l.length ≤ 4294967296) : ∀ (d i k : Nat), l.length - i = d → i ≤ l.length → d < k → (l.take i).any (isB key) = false → PCacheFresh.ciceroneref08_In.l0 k l key i = some (l.any (isB key))
  | 0, i, k, hd, hi, hk, hn => by
    obtain ⟨k, rfl⟩ : ∃ m, k = m + 1 := ⟨k - 1, by omega⟩
    simp only [PCacheFresh.ciceroneref08_In.l0]
    rw [if_neg (by omega)]
    rw [List.take_of_length_le (by omega)] at hn
    rw [hn]
  | d + 1, i, k, hd, hi, hk, hn => by
    obtain ⟨k, rfl⟩ : ∃ m, k = m + 1 := ⟨k - 1, by omega⟩
    have hlt : i < l.length := by omega
    have hy : l[i]? = some l[i] := List.getElem?_eq_getElem hlt
    simp only [PCacheFresh.ciceroneref08_In.l0]
    rw [if_pos (by omega), if_pos (by omega), rdS hy]
    by_cases he : l[i].toList = key.toList
    · rw [if_pos he]
      congr 1
      exact (List.any_eq_true.2 ⟨l[i], List.getElem_mem _, by unfold isB; rw [beq_iff_eq]; exact he⟩).symm
    · rw [if_neg he, wrap_next hlt hl]
      refine inF_l0 l key hl d (i + 1) k (by omega) (by omega) (by omega) ?_
      rw [List.take_add_one, hy, List.any_append, hn]
      have : isB key l[i] = false := by unfold isB; simpa using he
      simp [this]
/-- What comes of it: all that was, and the text; nothing twice. -/
def Ins (l : List ByteArray) (key : ByteArray) (r : List ByteArray) : Prop := (∀ x, x ∈ r ↔ x = key ∨ x ∈ l) ∧ l.length ≤ r.length ∧ r.length ≤ l.length + 1
theorem ins_mid (l : List ByteArray) (key : ByteArray) (i : Nat) : Ins l key (([] ++ l.take i ++ [key]) ++ l.drop i) := by
  refine ⟨fun x => ?_, ?_, ?_⟩
  · have : x ∈ l ↔ x ∈ l.take i ∨ x ∈ l.drop i := by
      rw [← List.mem_append, List.take_append_drop]
    rw [this]
    simp only [List.nil_append, List.mem_append, List.mem_singleton]
    constructor
    · rintro ((h | h) | h)
      · exact .inr (.inl h)
      · exact .inl h
      · exact .inr (.inr h)
    · rintro (h | h | h)
      · exact .inl (.inr h)
      · exact .inl (.inl h)
      · exact .inr h
  · have := congrArg List.length (List.take_append_drop i l)
    simp only [List.length_append, List.nil_append, List.length_cons, List.length_nil] at this ⊢; omega
  · have := congrArg List.length (List.take_append_drop i l)
    simp only [List.length_append, List.nil_append, List.length_cons, List.length_nil] at this ⊢; omega
open Go.Proofs.Ytbdikfadnfjmoaa in
theorem put08_l0 (l : List ByteArray) (key : ByteArray) (hl : l.length ≤ 4294967296) : ∀ (d i k : Nat), l.length - i = d → i ≤ l.length → d < k → ∃ r, PCacheFresh.ciceroneref08_Put.l0 k l key i = some r ∧ Ins l key r
  | 0, i, k, hd, hi, hk => by
    obtain ⟨k, rfl⟩ : ∃ m, k = m + 1 := ⟨k - 1, by omega⟩
    refine ⟨_, ?_, ins_mid l key i⟩
    simp only [PCacheFresh.ciceroneref08_Put.l0]
    rw [if_neg (by omega), Option.bind_some, if_pos (by omega), if_pos (by omega), Option.bind_some, if_pos (by simp; omega), Option.bind_some, if_pos (by simp; omega), Option.bind_some, Option.bind_some, if_pos (by simp; omega)]
    simp only [Int.toNat_natCast]
  | d + 1, i, k, hd, hi, hk => by
    obtain ⟨k, rfl⟩ : ∃ m, k = m + 1 := ⟨k - 1, by omega⟩
    have hlt : i < l.length := by omega
    simp only [PCacheFresh.ciceroneref08_Put.l0]
    rw [if_pos (by omega), if_pos (by omega)]
    by_cases hb : Op.bytesLess ((rdOf ByteArray.empty l (i : Int)).toList) key.toList = true
    · rw [if_pos hb, wrap_next hlt hl]
      exact put08_l0 l key hl d (i + 1) k (by omega) (by omega) (by omega)
    · rw [if_neg hb]
      refine ⟨_, ?_, ins_mid l key i⟩
      rw [Option.bind_some, if_pos (by omega), Option.bind_some, if_pos (by simp; omega), Option.bind_some, if_pos (by simp; omega), Option.bind_some, Option.bind_some, if_pos (by simp; omega)]
      simp only [Int.toNat_natCast]
open Go.Proofs.Ytbdikfadnfjmoaa in
theorem put08_f (l : List ByteArray) (key : ByteArray) (hl : l.length ≤ 4294967296) : ∃ k r, PCacheFresh.ciceroneref08_Put.f k l key = some r ∧ Ins l key r := by
  have hin := inF_l0 l key hl l.length 0 (l.length + 1) rfl (Nat.zero_le _) (by omega) rfl
  by_cases h : l.any (isB key) = true
  · refine ⟨l.length + 1, l, ?_, ⟨fun x => ⟨.inr, fun e => e.elim (fun e => e ▸ any_mem.1 h) id⟩, Nat.le_refl _, by omega⟩⟩
    unfold PCacheFresh.ciceroneref08_Put.f PCacheFresh.ciceroneref08_In.f
    have e0 : ((0 : Nat) : Int) = 0 := rfl
    rw [e0] at hin
    rw [hin, h]; rfl
  · obtain ⟨r, h1, h2⟩ := put08_l0 l key hl l.length 0 (l.length + 1) rfl (Nat.zero_le _) (by omega)
    refine ⟨l.length + 1, r, ?_, h2⟩
    have e0 : ((0 : Nat) : Int) = 0 := rfl
    rw [e0] at hin h1
    have hf : l.any (isB key) = false := by simpa using h
    unfold PCacheFresh.ciceroneref08_Put.f PCacheFresh.ciceroneref08_In.f
    rw [hin, hf, Option.bind_some]
    simp only [Bool.false_eq_true, if_false]; exact h1
open Go.Proofs.Ytbdikfadnfjmoaa in
theorem put08_own {w0 w : World} {v : Value} {os : List ByteArray} {l : List Asrt} (key : ByteArray) (hO : Owns w0.heap.size (Asrt.row 9 v (sv os) :: l) w) (hb : Below w0.heap.size w0 w) (hl : os.length ≤ 4294967296) :
    Calls Try.prog 11 #[v, .string key] w fun e w' => ∃ v' r, e = .returned v' ∧ Ins os key r ∧ Owns w0.heap.size (Asrt.row 9 v' (sv r) :: l) w' ∧ Below w0.heap.size w w' := by
  obtain ⟨k, r, hf, hr⟩ := put08_f os key hl
  obtain ⟨S, hS, hSB⟩ := hO.head
  refine (PCacheFresh.ciceroneref08_Put.calls k _ v os key r w0 w hb (R_of_row hS hSB) hf).mono ?_
  rintro e w' ⟨v', rfl, hR, hb2, hk⟩
  obtain ⟨h1, h2⟩ := row_of_R hR
  refine ⟨v', r, rfl, hr, hO.step hb.size ?_⟩
  rintro S' ⟨g1, g2⟩
  refine ⟨_, h1, fun b hb => ?_, ⟨hb2.os.trans hb.os.symm, hb2.tape.trans hb.tape.symm, hb2.output.trans hb.output.symm, hk.1, fun b hb hns => hk.2 b hb (fun h3 => hns ((g2 b).2 h3))⟩⟩
  rcases (h2 b hb).1 with h3 | h3
  · exact .inl ((g2 b).2 h3)
  · exact .inr h3
end Go.Proofs.Cac
