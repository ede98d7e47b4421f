/- cache: IndexFunc, Index, Contains, ContainsFunc. -/
import Derived.Test.YtbdikfadnfjmoaaCacBase
namespace Go.Proofs.Cac
open Go.RowKit Go.Cic Go.ChangeMaps
set_option linter.unusedVariables false
set_option maxRecDepth 100000
/-- The first place of which f holds, or -1. -/
def findI (f : ByteArray → Bool) (l : List ByteArray) : Int := if l.any f then (l.findIdx f : Int) else -1
theorem findI_hit {f : ByteArray → Bool} {l : List ByteArray} {k : Nat} {y : ByteArray} (hy : l[k]? = some y) (hf : f y = true) (hn : (l.take k).any f = false) : findI f l = k := by
  unfold findI
  rw [if_pos (List.any_eq_true.2 ⟨y, List.mem_of_getElem? hy, hf⟩)]
  have hk : k < l.length := (List.getElem?_eq_some_iff.1 hy).1
  have : l.findIdx f = k := by
    rw [List.findIdx_eq hk]
    refine ⟨?_, fun j hj => ?_⟩
    · have := (List.getElem?_eq_some_iff.1 hy).2
      rw [this]; exact hf
    · have h1 := List.any_eq_false.1 hn l[j] (List.mem_iff_getElem?.2 ⟨j, by rw [List.getElem?_take, if_pos hj]; exact List.getElem?_eq_getElem (by omega)⟩)
      simpa using h1
  rw [this]
theorem findI_none {f : ByteArray → Bool} {l : List ByteArray} (hn : l.any f = false) : findI f l = -1 := by unfold findI; rw [hn]; rfl
theorem indexFunc_50 (b : Nat) (f : ByteArray → Bool) (ao : Option Addr) (n c : Nat) (l : List ByteArray) (w : World) (hs : Lies w ao (sv l)) (hn : l.length = n) (hl : n ≤ 4294967296)
    (hp : ∀ (W : World) (y : ByteArray), Below w.heap.size w W → Calls Try.prog 50 #[.string y, .pointer (some ⟨b, 0, none⟩)] W fun e w' => e = .returned (.bool (f y)) ∧ Below W.heap.size W w') :
    Calls Try.prog 42 #[.slice ao n c, .func (.func 50) #[] #[.pointer (some ⟨b, 0, none⟩)]] w fun e w' => e = .returned (.int .i64 (findI f l)) ∧ Below w.heap.size w w' := by
  go_enter Try.func42, Try.ntmps42
  go_wp2_with fail
  go_loopw [5, 8] (fun _ i wr => ∃ k : Nat, k ≤ n ∧ i = .int .i64 k ∧ (l.take k).any f = false ∧ Below w.heap.size w wr) (fun _ i _ => n - (intOf i).toNat)
  case atStart => exact ⟨0, Nat.zero_le _, rfl, rfl, Below.refl _ w⟩
  case round =>
    obtain ⟨k, hk, rfl, hne, hb⟩ := hrel
    have hne := Hid.mk' hne
    by_cases hlt : k < n
    · have hy : l[k]? = some l[k] := List.getElem?_eq_getElem (by omega)
      generalize l[k] = y at hy
      have hcall := hp _ y hb
      have hsb := hs.below hb
      have hz := hb.size
      by_cases hf : f y = true
      · have H := Hid.mk' (findI_hit hy hf hne.out)
        rw [hf] at hcall
        go_wp2_with (first | (refine wpList_idx rfl _ _ 27 rfl Try.underlying27 size9 rfl (k := k) rfl hsb ((sv_len l).trans hn) (sv_at hy) ?_; intro b p hc hbb) | (go_at_call 50; refine hcall.mono ?_; rintro e w2 ⟨rfl, q2⟩))
        go_ret
        exact ⟨by rw [H.out]; rfl, hb.trans (q2.mono hz)⟩
      · have hf' : f y = false := by simpa using hf
        have H := Hid.mk' (show (l.take (k + 1)).any f = false by
          rw [List.take_add_one, hy, List.any_append, hne.out]
          simp [hf'])
        rw [hf'] at hcall
        go_wp2_with (first | (refine wpList_idx rfl _ _ 27 rfl Try.underlying27 size9 rfl (k := k) rfl hsb ((sv_len l).trans hn) (sv_at hy) ?_; intro b p hc hbb) | (go_at_call 50; refine hcall.mono ?_; rintro e w2 ⟨rfl, q2⟩))
        go_roundw
        case rel => exact ⟨k + 1, by omega, by go_num, H.out, hb.trans (q2.mono hz)⟩
        case measure => simp [intOf]; omega
    · have hk3 : l.take k = l := List.take_of_length_le (by omega)
      have H := Hid.mk' (findI_none (f := f) (l := l) (by rw [← hk3]; exact hne.out))
      go_wp2_with fail
      go_ret
      exact ⟨by rw [H.out]; rfl, hb⟩
theorem indexFunc_28 (b : Nat) (f : ByteArray → Bool) (ao : Option Addr) (n c : Nat) (l : List ByteArray) (w : World) (hs : Lies w ao (sv l)) (hn : l.length = n) (hl : n ≤ 4294967296)
    (hp : ∀ (W : World) (y : ByteArray), Below w.heap.size w W → Calls Try.prog 28 #[.string y, .pointer (some ⟨b, 0, none⟩)] W fun e w' => e = .returned (.bool (f y)) ∧ Below W.heap.size W w') :
    Calls Try.prog 42 #[.slice ao n c, .func (.func 28) #[] #[.pointer (some ⟨b, 0, none⟩)]] w fun e w' => e = .returned (.int .i64 (findI f l)) ∧ Below w.heap.size w w' := by
  go_enter Try.func42, Try.ntmps42
  go_wp2_with fail
  go_loopw [5, 8] (fun _ i wr => ∃ k : Nat, k ≤ n ∧ i = .int .i64 k ∧ (l.take k).any f = false ∧ Below w.heap.size w wr) (fun _ i _ => n - (intOf i).toNat)
  case atStart => exact ⟨0, Nat.zero_le _, rfl, rfl, Below.refl _ w⟩
  case round =>
    obtain ⟨k, hk, rfl, hne, hb⟩ := hrel
    have hne := Hid.mk' hne
    by_cases hlt : k < n
    · have hy : l[k]? = some l[k] := List.getElem?_eq_getElem (by omega)
      generalize l[k] = y at hy
      have hcall := hp _ y hb
      have hsb := hs.below hb
      have hz := hb.size
      by_cases hf : f y = true
      · have H := Hid.mk' (findI_hit hy hf hne.out)
        rw [hf] at hcall
        go_wp2_with (first | (refine wpList_idx rfl _ _ 27 rfl Try.underlying27 size9 rfl (k := k) rfl hsb ((sv_len l).trans hn) (sv_at hy) ?_; intro b p hc hbb) | (go_at_call 28; refine hcall.mono ?_; rintro e w2 ⟨rfl, q2⟩))
        go_ret
        exact ⟨by rw [H.out]; rfl, hb.trans (q2.mono hz)⟩
      · have hf' : f y = false := by simpa using hf
        have H := Hid.mk' (show (l.take (k + 1)).any f = false by
          rw [List.take_add_one, hy, List.any_append, hne.out]
          simp [hf'])
        rw [hf'] at hcall
        go_wp2_with (first | (refine wpList_idx rfl _ _ 27 rfl Try.underlying27 size9 rfl (k := k) rfl hsb ((sv_len l).trans hn) (sv_at hy) ?_; intro b p hc hbb) | (go_at_call 28; refine hcall.mono ?_; rintro e w2 ⟨rfl, q2⟩))
        go_roundw
        case rel => exact ⟨k + 1, by omega, by go_num, H.out, hb.trans (q2.mono hz)⟩
        case measure => simp [intOf]; omega
    · have hk3 : l.take k = l := List.take_of_length_le (by omega)
      have H := Hid.mk' (findI_none (f := f) (l := l) (by rw [← hk3]; exact hne.out))
      go_wp2_with fail
      go_ret
      exact ⟨by rw [H.out]; rfl, hb⟩
end Go.Proofs.Cac
