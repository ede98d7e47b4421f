/- cache: the plain side: the document's list, and the row with its entries. -/
import Derived.Test.YtbdikfadnfjmoaaCacTouch
import Derived.Test.YtbdikfadnfjmoaaPCachePlaysx1
import Derived.Test.YtbdikfadnfjmoaaPCachePlaysx2
import Derived.Test.YtbdikfadnfjmoaaPCachePlaysx3
import Derived.Test.YtbdikfadnfjmoaaPCachePlaysx4
namespace Go.Proofs.Cac
open Go.RowKit Go.Cic Go.Proofs.YtbdikfadnfjmoaaW.PrintWords Go.Proofs.Ytbdikfadnfjmoaa.PCachePlays
set_option linter.unusedVariables false
theorem bytes_eq {a b : ByteArray} : a.toList = b.toList ↔ a = b := ⟨str_inj, fun h => by rw [h]⟩
theorem isB_iff {key y : ByteArray} : isB key y = true ↔ y = key := by unfold isB; rw [beq_iff_eq, bytes_eq]
theorem nk_iff {key y : ByteArray} : nk key y = true ↔ y ≠ key := by unfold nk; rw [Bool.not_eq_true', ← Bool.not_eq_true, isB_iff]
abbrev keysM (ms : List S41) : List ByteArray := ms.map (·.f0)
theorem wrap_next {i : Nat} {n : Nat} (h : i < n) (hn : n ≤ 4294967296) : wrap64 ((i : Int) + 1) = ((i + 1 : Nat) : Int) := by unfold wrap64; omega
theorem rd41 {l : List S41} {i : Nat} {e : S41} (h : l[i]? = some e) : rd_T41 l (i : Int) = e := by
  unfold rd_T41; rw [List.getD_eq_getElem?_getD, Int.toNat_natCast, h]; rfl
theorem rdS {l : List ByteArray} {i : Nat} {e : ByteArray} (h : l[i]? = some e) : rdOf ByteArray.empty l (i : Int) = e := by
  unfold rdOf; rw [List.getD_eq_getElem?_getD, Int.toNat_natCast, h]; rfl
/-- At. -/
theorem at_l0 (l : List S41) (key : ByteArray) (hl : l.length ≤ 4294967296) : ∀ (d i k : Nat), l.length - i = d → i ≤ l.length → d < k → ((keysM l).take i).any (isB key) = false → ciceroneref29_At.l0 k l key i = some (findI (isB key) (keysM l))
  | 0, i, k, hd, hi, hk, hn => by
    obtain ⟨k, rfl⟩ : ∃ m, k = m + 1 := ⟨k - 1, by omega⟩
    simp only [ciceroneref29_At.l0]
    rw [if_neg (by omega)]
    rw [List.take_of_length_le (by simp; omega)] at hn
    rw [findI_none hn]
  | d + 1, i, k, hd, hi, hk, hn => by
    obtain ⟨k, rfl⟩ : ∃ m, k = m + 1 := ⟨k - 1, by omega⟩
    have hlt : i < l.length := by omega
    have hy : l[i]? = some l[i] := List.getElem?_eq_getElem hlt
    have hyk : (keysM l)[i]? = some l[i].f0 := by rw [List.getElem?_map, hy]; rfl
    simp only [ciceroneref29_At.l0]
    rw [if_pos (by omega), if_pos (by omega), rd41 hy]
    by_cases he : l[i].f0.toList = key.toList
    · rw [if_pos he]
      rw [findI_hit hyk (by unfold isB; rw [beq_iff_eq]; exact he) hn]
    · rw [if_neg he, wrap_next hlt hl]
      refine at_l0 l key hl d (i + 1) k (by omega) (by omega) (by omega) ?_
      rw [List.take_add_one, hyk, List.any_append, hn]
      have : isB key l[i].f0 = false := by unfold isB; simpa using he
      simp [this]
theorem at_f (l : List S41) (key : ByteArray) (hl : l.length ≤ 4294967296) (k : Nat) (hk : l.length < k) : ciceroneref29_At.f k l key = some (findI (isB key) (keysM l)) :=
  at_l0 l key hl l.length 0 k rfl (Nat.zero_le _) hk rfl
theorem erase_filter {α β : Type} (f : α → β) (p : α → Bool) : ∀ (l : List α), (l.map f).Nodup → (∀ x y, p x = true → p y = true → f x = f y) → l.any p = true → l.eraseIdx (l.findIdx p) = l.filter (fun x => !p x)
  | [], _, _, h => by simp at h
  | a :: r, hn, hp, h => by
    simp only [List.map_cons, List.nodup_cons] at hn
    by_cases ha : p a = true
    · rw [List.findIdx_cons, ha]
      simp only [cond_true, List.eraseIdx_cons_zero, List.filter_cons, ha, Bool.not_true, Bool.false_eq_true, if_false]
      refine (List.filter_eq_self.2 fun x hx => ?_).symm
      by_cases hx2 : p x = true
      · exact absurd (List.mem_map.2 ⟨x, hx, hp _ _ hx2 ha⟩) hn.1
      · simpa using hx2
    · have ha' : p a = false := by simpa using ha
      rw [List.findIdx_cons, ha']
      simp only [cond_false, List.eraseIdx_cons_succ, List.filter_cons, ha', Bool.not_false, if_true]
      rw [erase_filter f p r hn.2 hp (by simpa [ha'] using h)]
theorem findIdx_map {α β : Type} (f : α → β) (p : β → Bool) (l : List α) : (l.map f).findIdx p = l.findIdx (fun x => p (f x)) := by
  induction l with
  | nil => rfl
  | cons a r ih => simp only [List.map_cons, List.findIdx_cons, ih]
abbrev isM (key : ByteArray) (e : S41) : Bool := isB key e.f0
/-- Put, of the document. -/
def putM (size : Int) (ms : List S41) (e : S41) : List S41 :=
  if size < ((ms.filter (fun x => !isM e.f0 x) ++ [e]).length : Int) then (ms.filter (fun x => !isM e.f0 x) ++ [e]).drop 1 else ms.filter (fun x => !isM e.f0 x) ++ [e]
theorem put_f (l : List S41) (size : Int) (key value : ByteArray) (deps : List ByteArray) (hl : l.length ≤ 4294967296) (hn : (keysM l).Nodup) (k : Nat) (hk : l.length < k) : ciceroneref29_Put.f k l size key value deps = some (putM size l ⟨key, value, deps⟩) := by
  have hat := at_f l key hl k hk
  unfold ciceroneref29_Put.f
  rw [hat, Option.bind_some]
  have hany : (keysM l).any (isB key) = l.any (isM key) := by rw [List.any_map]; rfl
  by_cases h : (keysM l).any (isB key) = true
  · have hf : findI (isB key) (keysM l) = ((l.findIdx (isM key) : Nat) : Int) := by
      unfold findI; rw [if_pos h, findIdx_map]
    have hlt : l.findIdx (isM key) < l.length := List.findIdx_lt_length_of_exists (by rw [hany] at h; obtain ⟨x, h1, h2⟩ := List.any_eq_true.1 h; exact ⟨x, h1, h2⟩)
    have her := erase_filter (·.f0) (isM key) l hn (fun x y h1 h2 => (isB_iff.1 h1).trans (isB_iff.1 h2).symm) (by rw [← hany]; exact h)
    rw [hf, if_pos (by omega)]
    generalize l.findIdx (isM key) = i at *
    unfold ciceroneref29_Without.f
    rw [Option.bind_some, if_pos (by omega), if_pos (by omega), Option.bind_some, if_pos (by simp; omega), Option.bind_some, wrap_next hlt hl, if_pos (by omega), if_pos (by omega), Option.bind_some, if_pos (by simp; omega)]
    have e1 : ([] ++ l.take (i : Int).toNat) ++ l.drop ((i + 1 : Nat) : Int).toNat = l.filter (fun x => !isM key x) := by
      rw [← her, List.eraseIdx_eq_take_drop_succ]; simp
    have e2 : (l.filter (fun x => !isM key x)).length ≤ l.length := List.length_filter_le _ _
    rw [e1, Option.bind_some, Option.bind_some, List.nil_append, if_pos (by simp; omega), Option.bind_some, Option.bind_some, if_pos (by simp; omega), Option.bind_some]
    unfold putM
    by_cases hs : size < ((l.filter (fun x => !isM key x) ++ [(⟨key, value, deps⟩ : S41)]).length : Int)
    · rw [if_pos hs, if_pos hs, if_pos (by simp; omega)]
    · rw [if_neg hs, if_neg hs]
  · have h' : (keysM l).any (isB key) = false := by simpa using h
    have e1 : l.filter (fun x => !isM key x) = l := List.filter_eq_self.2 fun x hx => by
      rw [hany] at h'
      have := List.any_eq_false.1 h' x hx
      simpa using this
    rw [findI_none h', if_neg (by omega)]
    simp only [Option.bind_some, List.nil_append]
    rw [if_pos (by simp; omega), if_pos (by simp; omega)]
    unfold putM
    simp only [e1]
    by_cases hs : size < ((l ++ [(⟨key, value, deps⟩ : S41)]).length : Int)
    · rw [if_pos hs, if_pos hs, if_pos (by simp; omega)]
    · rw [if_neg hs, if_neg hs]
/-- In. -/
theorem in_l0 (l : List ByteArray) (key : ByteArray) (hl : l.length ≤ 4294967296) : ∀ (d i k : Nat), l.length - i = d → i ≤ l.length → d < k → (l.take i).any (isB key) = false → ciceroneref08_In.l0 k l key i = some (l.any (isB key))
  | 0, i, k, hd, hi, hk, hn => by
    obtain ⟨k, rfl⟩ : ∃ m, k = m + 1 := ⟨k - 1, by omega⟩
    simp only [ciceroneref08_In.l0]
    rw [if_neg (by omega)]
    rw [List.take_of_length_le (by omega)] at hn
    rw [hn]
  | d + 1, i, k, hd, hi, hk, hn => by
    obtain ⟨k, rfl⟩ : ∃ m, k = m + 1 := ⟨k - 1, by omega⟩
    have hlt : i < l.length := by omega
    have hy : l[i]? = some l[i] := List.getElem?_eq_getElem hlt
    simp only [ciceroneref08_In.l0]
    rw [if_pos (by omega), if_pos (by omega), rdS hy]
    by_cases he : l[i].toList = key.toList
    · rw [if_pos he]
      congr 1
      exact (List.any_eq_true.2 ⟨l[i], List.getElem_mem _, by unfold isB; rw [beq_iff_eq]; exact he⟩).symm
    · rw [if_neg he, wrap_next hlt hl]
      refine in_l0 l key hl d (i + 1) k (by omega) (by omega) (by omega) ?_
      rw [List.take_add_one, hy, List.any_append, hn]
      have : isB key l[i] = false := by unfold isB; simpa using he
      simp [this]
theorem in_f (l : List ByteArray) (key : ByteArray) (hl : l.length ≤ 4294967296) (k : Nat) (hk : l.length < k) : ciceroneref08_In.f k l key = some (l.any (isB key)) :=
  in_l0 l key hl l.length 0 k rfl (Nat.zero_le _) hk rfl
/-- Touch. -/
def hitM (deps : List ByteArray) (e : S41) : Bool := deps.any fun d => e.f2.any (isB d)
theorem touch_l1 (l : List S41) (deps : List ByteArray) (hl : l.length ≤ 4294967296) (hd : deps.length ≤ 4294967296) (N : Nat) (hN : ∀ e ∈ l, e.f2.length ≤ N) (hN2 : N ≤ 4294967296) (i : Nat) (e : S41) (he : l[i]? = some e) (out : List S41) (hout : out.length ≤ 4294967296) (r : Option (List S41)) :
    ∀ (d j k : Nat) (b : Bool), deps.length - j = d → j ≤ deps.length → d + N + 1 < k → b = (deps.take j).any (fun d => e.f2.any (isB d)) →
      (∀ k', k ≤ k' + d + 1 → ciceroneref29_Touch.l0 k' l deps (if hitM deps e then out else out ++ [e]) ((i + 1 : Nat) : Int) = r) → ciceroneref29_Touch.l1 k l deps out i b j = r
  | 0, j, k, b, hdj, hj, hk, hb, hr => by
    obtain ⟨k, rfl⟩ : ∃ m, k = m + 1 := ⟨k - 1, by omega⟩
    have hi := (List.getElem?_eq_some_iff.1 he).1
    simp only [ciceroneref29_Touch.l1]
    rw [if_neg (by omega)]
    have hb2 : b = hitM deps e := by rw [hb, List.take_of_length_le (by omega)]; rfl
    have h2 := hr k (by omega)
    rw [← hb2] at h2
    rw [wrap_next hi hl]
    by_cases hbt : b = true
    · rw [if_pos hbt]; rw [if_pos hbt] at h2; exact h2
    · rw [if_neg hbt]; rw [if_neg hbt] at h2
      rw [if_pos (by omega), if_pos (by omega), if_pos (by omega), rd41 he]; exact h2
  | d + 1, j, k, b, hdj, hj, hk, hb, hr => by
    obtain ⟨k, rfl⟩ : ∃ m, k = m + 1 := ⟨k - 1, by omega⟩
    have hi := (List.getElem?_eq_some_iff.1 he).1
    have hjl : j < deps.length := by omega
    have hy : deps[j]? = some deps[j] := List.getElem?_eq_getElem hjl
    simp only [ciceroneref29_Touch.l1]
    rw [if_pos (by omega), wrap_next hjl hd]
    by_cases hbt : b = true
    · rw [if_pos hbt]
      refine touch_l1 l deps hl hd N hN hN2 i e he out hout r d (j + 1) k true (by omega) (by omega) (by omega) ?_ (fun k' hk' => hr k' (by omega))
      rw [List.take_add_one, List.any_append, ← hb, hbt]; rfl
    · have hbf : b = false := by simpa using hbt
      have hel := hN e (List.mem_of_getElem? he)
      rw [if_neg hbt, if_pos (by omega), if_pos (by omega), if_pos (by omega), rd41 he, rdS hy, in_f _ _ (by omega) k (by omega), Option.bind_some]
      refine touch_l1 l deps hl hd N hN hN2 i e he out hout r d (j + 1) k _ (by omega) (by omega) (by omega) ?_ (fun k' hk' => hr k' (by omega))
      rw [List.take_add_one, List.any_append, ← hb, hbf, hy]; simp
theorem touch_l0 (l : List S41) (deps : List ByteArray) (hl : l.length ≤ 4294967296) (hd : deps.length ≤ 4294967296) (N : Nat) (hN : ∀ e ∈ l, e.f2.length ≤ N) (hN2 : N ≤ 4294967296) :
    ∀ (d i k : Nat) (out : List S41), l.length - i = d → i ≤ l.length → (d + 1) * (deps.length + N + 4) < k → out = (l.take i).filter (fun e => !hitM deps e) → ciceroneref29_Touch.l0 k l deps out i = some (l.filter fun e => !hitM deps e)
  | 0, i, k, out, hdi, hi, hk, ho => by
    obtain ⟨k, rfl⟩ : ∃ m, k = m + 1 := ⟨k - 1, by omega⟩
    simp only [ciceroneref29_Touch.l0]
    rw [if_neg (by omega), ho, List.take_of_length_le (by omega)]
  | d + 1, i, k, out, hdi, hi, hk, ho => by
    obtain ⟨k, rfl⟩ : ∃ m, k = m + 1 := ⟨k - 1, by omega⟩
    have hlt : i < l.length := by omega
    have hy : l[i]? = some l[i] := List.getElem?_eq_getElem hlt
    have hol : out.length ≤ 4294967296 := by
      rw [ho]
      have := List.length_filter_le (fun e => !hitM deps e) (l.take i)
      have := List.length_take_le i l
      omega
    have hmul : (d + 1 + 1) * (deps.length + N + 4) = (d + 1) * (deps.length + N + 4) + (deps.length + N + 4) := Nat.succ_mul _ _
    simp only [ciceroneref29_Touch.l0]
    rw [if_pos (by omega)]
    refine touch_l1 l deps hl hd N hN hN2 i l[i] hy out hol _ deps.length 0 k false (by omega) (by omega) (by omega) rfl (fun k' hk' => ?_)
    refine touch_l0 l deps hl hd N hN hN2 d (i + 1) k' _ (by omega) (by omega) (by omega) ?_
    rw [List.take_add_one, hy, List.filter_append, ← ho]
    by_cases hh : hitM deps l[i] = true
    · simp [hh]
    · simp [hh]
theorem touch_f (l : List S41) (deps : List ByteArray) (hl : l.length ≤ 4294967296) (hd : deps.length ≤ 4294967296) (N : Nat) (hN : ∀ e ∈ l, e.f2.length ≤ N) (hN2 : N ≤ 4294967296) : ∃ k, ciceroneref29_Touch.f k l deps = some (l.filter fun e => !hitM deps e) :=
  ⟨(l.length + 1) * (deps.length + N + 4) + 1, touch_l0 l deps hl hd N hN hN2 l.length 0 _ [] (by omega) (by omega) (by omega) rfl⟩
/-- Keys. -/
theorem keys_l0 (l : List S41) (hl : l.length ≤ 4294967296) : ∀ (d i k : Nat) (out : List ByteArray), l.length - i = d → i ≤ l.length → d < k → out = keysM (l.take i) → ciceroneref29_Keys.l0 k l out i = some (keysM l)
  | 0, i, k, out, hd, hi, hk, ho => by
    obtain ⟨k, rfl⟩ : ∃ m, k = m + 1 := ⟨k - 1, by omega⟩
    simp only [ciceroneref29_Keys.l0]
    rw [if_neg (by omega), ho, List.take_of_length_le (by omega)]
  | d + 1, i, k, out, hd, hi, hk, ho => by
    obtain ⟨k, rfl⟩ : ∃ m, k = m + 1 := ⟨k - 1, by omega⟩
    have hlt : i < l.length := by omega
    have hy : l[i]? = some l[i] := List.getElem?_eq_getElem hlt
    have hol : out.length ≤ i := by rw [ho, List.length_map]; exact List.length_take_le i l
    simp only [ciceroneref29_Keys.l0]
    rw [if_pos (by omega), if_pos (by omega), if_pos (by omega), rd41 hy, wrap_next hlt hl]
    refine keys_l0 l hl d (i + 1) k _ (by omega) (by omega) (by omega) ?_
    rw [ho, List.take_add_one, hy]; simp only [keysM, Option.toList_some, List.map_append, List.map_cons, List.map_nil]
theorem keys_f (l : List S41) (hl : l.length ≤ 4294967296) : ∃ k, ciceroneref29_Keys.f k l = some (keysM l) := ⟨l.length + 1, keys_l0 l hl l.length 0 _ [] rfl (Nat.zero_le _) (by omega) rfl⟩
/-- Texts, of the same. -/
theorem texts_l0 (l : List ByteArray) (hl : l.length ≤ 4294967296) : ∀ (d i k : Nat), l.length - i = d → i ≤ l.length → d < k → ciceroneref02_Texts.l0 k l l i = some true
  | 0, i, k, hd, hi, hk => by
    obtain ⟨k, rfl⟩ : ∃ m, k = m + 1 := ⟨k - 1, by omega⟩
    simp only [ciceroneref02_Texts.l0]
    rw [if_neg (by omega)]
  | d + 1, i, k, hd, hi, hk => by
    obtain ⟨k, rfl⟩ : ∃ m, k = m + 1 := ⟨k - 1, by omega⟩
    have hlt : i < l.length := by omega
    simp only [ciceroneref02_Texts.l0]
    rw [if_pos (by omega), if_pos (by omega), if_pos (by omega), if_pos trivial, wrap_next hlt hl]
    exact texts_l0 l hl d (i + 1) k (by omega) (by omega) (by omega)
theorem texts_f (l : List ByteArray) (hl : l.length ≤ 4294967296) : ∃ k, ciceroneref02_Texts.f k l l = some true := ⟨l.length + 1, by
  unfold ciceroneref02_Texts.f
  rw [if_pos rfl]
  exact texts_l0 l hl l.length 0 _ rfl (Nat.zero_le _) (by omega)⟩
theorem size_f (n : Int) : ciceroneref29_Size.f n = some (szf n) := by
  unfold ciceroneref29_Size.f szf
  split
  · congr 1; omega
  · split <;> congr 1 <;> omega
end Go.Proofs.Cac
