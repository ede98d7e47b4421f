/- FrameNew: the walk of the law. -/
import Derived.Test.YtnjakbkecimjcaaFraAllOwn
namespace Go.Proofs.Fra
open Go.RowKit Go.Cic Go.ChangeMaps
set_option linter.unusedVariables false
set_option maxRecDepth 100000
theorem Owns.join {B : Nat} {l l' : List Asrt} {w w' : World} (h : Owns B l w) (hB : B ≤ w.heap.size) (hk : Below w.heap.size w w') (h' : Owns w.heap.size l' w') : Owns B (l' ++ l) w' := by
  obtain ⟨S, h1, h2⟩ := h'
  exact Owns.flat_iff.1 (h.new hB h1 h2 hk)
/-- One element, one apart. -/
theorem seal_all {p : List UInt8} (hp : p.length ≤ 65536) : AllR (sealL p) 0 ([p], p.length + 10, 0) := by
  have h := AllR.ahead (p := p) (r := []) hp (AllR.done (l := []) (k := 0) (by simp))
  rw [List.append_nil] at h
  simpa using h
theorem u8_any (x : Int) (h0 : 0 ≤ x) (h1 : x ≤ 255) : ∃ z : UInt8, x = (z.toNat : Int) := ⟨u8 x.toNat, by rw [u8_nat (by omega)]; omega⟩
/-- The loop's state. -/
def NewS (B : Nat) (w : World) (p : List UInt8) (g4 c4 c5 c3 c2 : Nat) (a5 a3 a2 : Option Addr) (i : Value) (wr : World) : Prop :=
  ∃ (k : Nat) (x y : List UInt8), k ≤ p.length ∧ i = .int .i64 k ∧ x.length = p.length ∧ y.length = p.length ∧ Below B w wr ∧
    Owns B [Asrt.row 22 (.slice (some ⟨g4, 0, none⟩) 1 c4) [Value.slice a5 p.length c5], Asrt.row 5 (.slice a5 p.length c5) (bv x), Asrt.row 5 (.slice a3 p.length c3) (bv y), Asrt.row 5 (.slice a2 (p.length + 10) c2) (bv (sealL p))] wr
theorem bump (y : UInt8) : ∃ z : UInt8, IntKind.u8.wrap ((y.toNat : Int) + 1) = (z.toNat : Int) ∧ ((y.toNat : Int) + 1) % 256 = (z.toNat : Int) := by
  have hy := y.toNat_lt
  refine ⟨u8 ((y.toNat + 1) % 256), ?_, ?_⟩
  · rw [u8_nat (by omega), IntKind.wrap_u8]; omega
  · rw [u8_nat (by omega)]; omega
set_option maxHeartbeats 4000000 in
theorem law_new (ap : Option Addr) (cp : Nat) (p : List UInt8) (w : World) (hl : p.length ≤ maxLen) (hs : Lies w ap (bv p)) :
    Calls Try.prog 8 #[.slice ap p.length cp] w fun e w' => e = .returned (.bool true) ∧ Below w.heap.size w w' := by
  have hl1 : p.length ≤ 9223372036854775807 := by unfold maxLen at hl; omega
  clear hl
  by_cases hp : 3000 < p.length
  · have hi : (3000 : Int) < (p.length : Int) := by omega
    go_enter Try.func8, Try.ntmps8
    go_wp2_with (go_at_call 10; refine (awake_any w).mono ?_; rintro e w1 ⟨rfl, q1⟩)
    go_ret
    exact ⟨rfl, q1⟩
  have hi : (p.length : Int) ≤ 3000 := by omega
  have cv : ∀ (W : World) (a : Option Addr) (l : List UInt8) (n c : Nat), Lies W a (bv l) → l.length = n → (convert 22 9 (.slice a n c)).run Try.prog W = .ok (.string (tx' l)) W := fun W a l n c h hn => bytes_of_lies h hn 22 9 5 Try.underlying22 Try.underlying5 Try.underlying9
  have hcl : (sealL p).length = p.length + 10 := sealL_len p
  go_enter Try.func8, Try.ntmps8
  go_wp2_with (go_at_call 10; refine (awake_any w).mono ?_; rintro e w1 ⟨rfl, q1⟩; have S1 := seal_own (Owns.nil w.heap.size w1) q1.size ap p.length cp p (hs.below q1) (fun w' hb _ => hs.below (q1.trans hb)) rfl (by omega); have f1 := cv w1 ap p p.length cp (hs.below q1) rfl)
  refine S1.mono ?_
  rintro e w2 ⟨a2, c2, rfl, hO2, b2⟩
  have z2 := Nat.le_trans q1.size b2.size
  have Q2 := q1.trans b2
  obtain ⟨hL2, _, hle2⟩ := hO2.rowLies
  have f2 := cv w2 a2 (sealL p) (p.length + 10) c2 hL2 hcl
  have ho := open_seal (p := p) (r := []) (by omega)
  rw [List.append_nil] at ho
  go_wp2_with fail
  refine (open_own hO2 z2 a2 (p.length + 10) c2 _ hL2 hcl (by omega) hle2).mono ?_
  rintro e w3 ⟨a3, c3, rfl, hO3, b3⟩
  rw [ho] at hO3 ⊢
  have z3 := Nat.le_trans z2 b3.size
  have Q3 := Q2.trans b3
  go_wp2_with fail
  refine (all_own a2 (p.length + 10) c2 _ w3 hO3.tail.rowLies.1 hcl (by omega) hle2).mono ?_
  rintro e w4 ⟨a4, c4, vs, qs, en, st, hA, hen, rfl, hvl, hO4, b4, hq10⟩
  have hdet := AllR.det hA (seal_all (by omega))
  simp only [Prod.mk.injEq] at hdet
  obtain ⟨rfl, rfl, rfl⟩ := hdet
  have Q4 := Q3.trans (b4.mono z3)
  have hO5 := Owns.join hO3 z3 b4 hO4
  obtain ⟨v0, rfl⟩ : ∃ v0, vs = [v0] := by
    match vs, hvl with
    | [v0], _ => exact ⟨v0, rfl⟩
  have hO5 : Owns w.heap.size [Asrt.row 22 (.slice a4 1 c4) [v0], Asrt.row 5 v0 (bv p), Asrt.row 5 (.slice a3 p.length c3) (bv p), Asrt.row 5 (.slice a2 (p.length + 10) c2) (bv (sealL p))] w4 := hO5
  obtain ⟨a5, c5, rfl, _⟩ := hO5.tail.rowE
  rw [bv_len] at hO5
  obtain ⟨g4, rfl, hcell4, _, _, _⟩ := Owns.rowAt hO5 Q4.size (k := 0) rfl
  go_wp2_with fail
  clear S1 f1 f2 hA hO2 hO3 hO4 hL2 hcell4
  go_loopw [13] (fun i wr => NewS w.heap.size w p g4 c4 c5 c3 c2 a5 a3 a2 i wr) (fun i _ => p.length - (intOf i).toNat)
  case atStart => exact ⟨0, p, p, Nat.zero_le _, rfl, rfl, rfl, Q4, hO5⟩
  case round =>
    obtain ⟨k, x, y, hk, rfl, hxl, hyl, hb, hO⟩ := hrel
    have hz := hb.size
    by_cases hlt : k < p.length
    · have hlti : (k : Int) < (p.length : Int) := by omega
      have hyk : y[k]? = some y[k] := List.getElem?_eq_getElem (by omega)
      generalize y[k] = yk at hyk
      have hxk : x[k]? = some x[k] := List.getElem?_eq_getElem (by omega)
      generalize x[k] = xk at hxk
      obtain ⟨zy, ey1, ey2⟩ := bump yk
      obtain ⟨zx, ex1, ex2⟩ := bump xk
      have hOy := hO.front 2 (Asrt.row 5 (.slice a3 p.length c3) (bv y)) rfl
      obtain ⟨g3, rfl, hc3, hf3, _, hset3⟩ := Owns.rowAt hOy hz (bv_at hyk)
      obtain ⟨hO6, b6⟩ := hset3 (.int .u8 zy.toNat)
      rw [show (bv y).set k (.int .u8 zy.toNat) = bv (y.set k zy) by rw [bv, bv, List.map_set]] at hO6
      have z6 := Nat.le_trans hz b6.size
      have yk2 := yk.toNat_lt
      have xk2 := xk.toNat_lt
      go_wp2_with fail
      generalize wr.setCell ⟨g3, k, none⟩ (.int .u8 zy.toNat) = w6 at hO6 b6 z6
      obtain ⟨g4', eg4, hc4, _, _, _⟩ := Owns.rowAt (hO6.front 1 (Asrt.row 22 (.slice (some ⟨g4, 0, none⟩) 1 c4) [Value.slice a5 p.length c5]) rfl) z6 (k := 0) rfl
      have eg : g4' = g4 := by simpa using eg4.symm
      subst eg
      obtain ⟨g5, rfl, hc5, hf5, _, hset5⟩ := Owns.rowAt (hO6.drew.front 2 (Asrt.row 5 (.slice a5 p.length c5) (bv x)) rfl) z6 (bv_at hxk)
      obtain ⟨hO7, b7⟩ := hset5 (.int .u8 zx.toNat)
      rw [show (bv x).set k (.int .u8 zx.toNat) = bv (x.set k zx) by rw [bv, bv, List.map_set]] at hO7
      have hc5 : w6.cell? ⟨g5, k, none⟩ = some (.int .u8 xk.toNat) := hc5
      have hf5 : w6.frozen? ⟨g5, k, none⟩ = false := hf5
      clear hO hOy hset3 hset5 hO6 hc3 hf3
      go_region_with fail
      all_goals go_wp2
      all_goals go_roundw
      all_goals first
        | exact ⟨k + 1, x.set k zx, y.set k zy, by omega, by go_num, by simp [hxl], by simp [hyl], ((hb.trans b6).trans (((Below.refl _ w6).drew).trans b7)), hO7.sel 4 [2, 0, 1, 3] rfl (by decide)⟩
        | (simp [intOf]; omega)
    · have hlti : (p.length : Int) ≤ (k : Int) := by omega
      have hOb := hO.front 3 (Asrt.row 5 (.slice a2 (p.length + 10) c2) (bv (sealL p))) rfl
      have h1 := cv wr a2 (sealL p) (p.length + 10) c2 hOb.rowLies.1 hcl
      have h2 := cv wr ap p p.length cp (hs.below hb) rfl
      have hk0 : (sealL p)[0]? = some (sealL p)[0] := List.getElem?_eq_getElem (by omega)
      generalize (sealL p)[0] = s0 at hk0
      obtain ⟨zs, es1, es2⟩ := bump s0
      have hs02 := s0.toNat_lt
      obtain ⟨g2, rfl, hc2, hf2, _, hset2⟩ := Owns.rowAt hOb hz (bv_at hk0)
      obtain ⟨_, b6⟩ := hset2 (.int .u8 zs.toNat)
      have Q6 := hb.trans b6
      have hn0 : (0 : Int) < (p.length : Int) + 10 := by omega
      clear hset2 hO hOb
      go_wp2_with fail
      generalize wr.setCell ⟨g2, 0, none⟩ (.int .u8 zs.toNat) = w6 at b6 Q6
      refine (seal_own (Owns.nil w.heap.size w6) Q6.size ap p.length cp p (hs.below Q6) (fun w' hb _ => hs.below (Q6.trans hb)) rfl (by omega)).mono ?_
      rintro e w7 ⟨a7, c7, rfl, hO7, b7⟩
      have h3 := cv w7 ap p p.length cp (hs.below (Q6.trans b7)) rfl
      have h4 := cv w7 a7 (sealL p) (p.length + 10) c7 hO7.rowLies.1 hcl
      go_wp2_with fail
      go_ret
      exact ⟨rfl, Q6.trans b7⟩
theorem row_new {H : Type} {enc : TypeId × Value → H} (a : Option Addr) (len cap : Nat) (w : World) {d : DataW H} {ps : List MemPlace}
    (hs : DataW.Trod enc Try.prog w 0 (fun _ => true) true 22 (.slice a len cap) d ps) :
    Calls Try.prog 8 #[.slice a len cap] w fun e w' => e = .returned (.bool true) ∧ Below w.heap.size w w' := by
  obtain ⟨l, rfl, hl, hsl⟩ := SlAt.open (r := rdU8) (by decide) Try.underlying22 hs
  exact law_new a cap l w hl (lies_of hsl)
end Go.Proofs.Fra
