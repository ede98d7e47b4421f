/- cache: rows of texts: Clone, Index, In. -/
import Derived.Test.YtbdikfadnfjmoaaCicLib
import Derived.Test.YtbdikfadnfjmoaaProg
import Derived.WalkKit
import Derived.Deep.RegionHeld3
namespace Go.Proofs.Cac
open Go.RowKit Go.Cic Go.ChangeMaps
set_option linter.unusedVariables false
set_option maxRecDepth 100000
theorem size9 (w : World) : (sizeOf 9).run Try.prog w = .ok 1 w := by kernel_rfl
theorem info9 : (Try.prog.info? 9).map (fun i => (i.zero, i.size, i.bytes)) = some (some (.string ByteArray.empty), 1, 16) := by kernel_rfl
/-- Texts, as cells. -/
abbrev sv (l : List ByteArray) : List Value := l.map Value.string
theorem sv_at {l : List ByteArray} {k : Nat} {y : ByteArray} (h : l[k]? = some y) : (sv l)[k]? = some (.string y) := by rw [List.getElem?_map, h]; rfl
theorem sv_one (l : List ByteArray) : ∀ u ∈ sv l, u.oneCell' = true := by
  intro u hu
  obtain ⟨_, _, rfl⟩ := List.mem_map.1 hu
  rfl
theorem sv_len (l : List ByteArray) : (sv l).length = l.length := by simp
theorem ret_bool {a b : Bool} (h : a = b) : Ending.returned (.bool a) = .returned (.bool b) := by rw [h]
theorem clone_own {B : Nat} {l : List Asrt} {w : World} (hO : Owns B l w) (hB : B ≤ w.heap.size) (ao : Option Addr) (n c : Nat) (xs : List ByteArray) (hs : Lies w ao (sv xs)) (hn : xs.length = n) (hl : n ≤ 4294967296) :
    Calls Try.prog 25 #[.slice ao n c] w fun e w' => ∃ ao' c', e = .returned (.slice ao' n c') ∧ Owns B (Asrt.row 9 (.slice ao' n c') (sv xs) :: l) w' ∧ Below B w w' := by
  have heq : ∀ (w : World) (a : Option Addr) (n c : Nat), (binOp .eql 27 (.slice a n c) (.slice none 0 0)).run Try.prog w = .ok (.bool a.isNone) w := fun w a n c => Lib.run_eql_slice_nil w 27 9 a n c 0 0 Try.underlying27
  cases ao with
  | none =>
    have hx : xs = [] := by
      cases xs with
      | nil => rfl
      | cons y ys => obtain ⟨_, _, h1, _⟩ := hs 0 _ rfl; cases h1
    subst hx
    subst hn
    go_enter Try.func25, Try.ntmps25
    go_wp2
    go_ret
    exact ⟨none, 0, rfl, hO.rowNil, Below.refl _ _⟩
  | some a =>
    go_enter Try.func25, Try.ntmps25
    have h2 := (hO.alloc_cells hB #[] 9).rowOfCells (xs := []) rfl (Nat.zero_le _)
    have hb2 := (Below.refl B w).alloc hB (.cells #[] 9)
    have hs2 : Lies (w.alloc (.cells #[] 9)) (some a) (sv xs) := hs.below ((Below.refl _ _).alloc (Nat.le_refl _) _)
    have hz2 := Nat.le_trans hB hb2.size
    have k1 : ([] : List Value).length + n ≤ maxLen := by simp [maxLen]; omega
    have k2 : (([] : List Value).length + n) * 16 ≤ 140737488355328 := by simp; omega
    have k3 : ([] : List Value).length + n = n := Nat.zero_add _
    have k4 := (sv_len xs).trans hn
    go_wp2_with (refine wpList_appendRow rfl _ _ 27 rfl Try.underlying27 info9 rfl rfl rfl h2 hz2 hs2 k4 (sv_one _) k1 k2 k3 ?_; intro ao1 c1 w1 hO1 hb1)
    go_ret
    exact ⟨_, _, rfl, hO1, hb2.trans hb1⟩
/-- Is a text among these? -/
def inB (l : List ByteArray) (key : ByteArray) : Bool := l.any fun y => y.toList == key.toList
theorem in_any (ao : Option Addr) (n c : Nat) (l : List ByteArray) (key : ByteArray) (w : World) (hs : Lies w ao (sv l)) (hn : l.length = n) (hl : n ≤ 4294967296) :
    Calls Try.prog 14 #[.slice ao n c, .string key] w fun e w' => e = .returned (.bool (inB l key)) ∧ w = w' := by
  go_enter Try.func14, Try.ntmps14
  go_wp2
  go_loop [5] (fun i => ∃ k : Nat, k ≤ n ∧ i = .int .i64 k ∧ inB (l.take k) key = false) (fun i => n - (intOf i).toNat)
  case atStart => exact ⟨0, Nat.zero_le _, rfl, rfl⟩
  case round =>
    obtain ⟨k, hk, rfl, hne⟩ := hrel
    have hne := Hid.mk' hne
    by_cases hlt : k < n
    · have hy : l[k]? = some l[k] := List.getElem?_eq_getElem (by omega)
      generalize l[k] = y at hy
      by_cases he : (y.toList == key.toList) = true
      · have H := Hid.mk' (show inB l key = true from List.any_eq_true.2 ⟨y, List.mem_of_getElem? hy, he⟩)
        go_wp2_with (refine wpList_idx rfl _ _ 27 rfl Try.underlying27 size9 rfl (k := k) rfl hs ((sv_len l).trans hn) (sv_at hy) ?_; intro b p hc hb)
        go_ret
        exact ⟨ret_bool H.out.symm, rfl⟩
      · have heb : (y.toList == key.toList) = false := by simpa using he
        have H := Hid.mk' (show inB (l.take (k + 1)) key = false by
          unfold inB
          rw [List.take_add_one, hy, List.any_append]
          have := hne.out
          unfold inB at this
          rw [this]
          simp [heb])
        go_wp2_with (refine wpList_idx rfl _ _ 27 rfl Try.underlying27 size9 rfl (k := k) rfl hs ((sv_len l).trans hn) (sv_at hy) ?_; intro b p hc hb)
        go_round
        case rel => exact ⟨k + 1, by omega, by go_num, H.out⟩
        case measure => simp [intOf]; omega
    · have hk3 : l.take k = l := List.take_of_length_le (by omega)
      have H := Hid.mk' (show inB l key = false by rw [← hk3]; exact hne.out)
      go_wp2
      go_ret
      exact ⟨ret_bool H.out.symm, rfl⟩
end Go.Proofs.Cac
