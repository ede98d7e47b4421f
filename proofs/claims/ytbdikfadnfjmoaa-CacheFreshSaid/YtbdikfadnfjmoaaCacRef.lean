/- cache: the document's functions, by what they leave. -/
import Derived.Test.YtbdikfadnfjmoaaCacHeavy
import Derived.Test.YtbdikfadnfjmoaaCacKd
import Derived.Test.YtbdikfadnfjmoaaWN
namespace Go.Proofs.Cac
open Go.RowKit Go.Cic Go.ChangeMaps Go.Proofs.YtbdikfadnfjmoaaW.PrintWords Go.Proofs.Ytbdikfadnfjmoaa.PCachePlays
set_option linter.unusedVariables false
set_option maxRecDepth 100000
theorem size_any (n : Int) (w : World) : Calls Try.prog 16 #[.int .i64 n] w fun e w' => e = .returned (.int .i64 (szf n)) ∧ w = w' := by
  by_cases h1 : n < 0
  · have H := Hid.mk' (show (0 : Int) = szf n by unfold szf; omega)
    go_enter Try.func16, Try.ntmps16
    go_wp2
    go_ret; exact ⟨by rw [← H.out]; rfl, rfl⟩
  · by_cases h2 : n > 4096
    · have H := Hid.mk' (show (4096 : Int) = szf n by unfold szf; omega)
      go_enter Try.func16, Try.ntmps16
      go_wp2
      go_ret; exact ⟨by rw [← H.out]; rfl, rfl⟩
    · have H := Hid.mk' (show n = szf n by unfold szf; omega)
      go_enter Try.func16, Try.ntmps16
      go_wp2
      go_ret; exact ⟨by rw [← H.out]; rfl, rfl⟩
theorem size29 (w : World) : (sizeOf 29).run Try.prog w = .ok k29.sz w := by kernel_rfl
theorem size41 (w : World) : (sizeOf 41).run Try.prog w = .ok k41.sz w := by kernel_rfl
/-- A deed of the arguments. -/
theorem deed_at {w : World} {A : Option Addr} {c k : Nat} {l : List S29} (hF : Kd.F k29 w (fun k => k < w.heap.size) A l.length l) {d : S29} (hk : l[k]? = some d) :
    ∃ b o A3 c3, (∀ W : World, (Instr.indexAt 22 (.slice A l.length c) (.int .i64 k)).run Try.prog W = .ok (.pointer (some ⟨b, o, none⟩)) W) ∧
      (∀ W, Below w.heap.size w W → W.cell? ⟨b, o, none⟩ = some (.int .u8 d.f0) ∧ W.cell? ⟨b, o + 1, none⟩ = some (.string d.f1) ∧ W.cell? ⟨b, o + 2, none⟩ = some (.string d.f2) ∧ W.cell? ⟨b, o + 3, none⟩ = some (.slice A3 d.f3.length c3) ∧ Lies W A3 (sv d.f3)) ∧
      d.f3.length ≤ c3 ∧ Kd.F Kd.string w (fun k => k < w.heap.size) A3 d.f3.length d.f3 ∧ (∀ bb oo, A3 = some ⟨bb, oo, none⟩ → 0 < d.f3.length → bb < w.heap.size) := by
  have hl := (List.getElem?_eq_some_iff.1 hk).1
  obtain ⟨b, o, cs, h1, h2, h3, hb⟩ := C_at (c := c) Try.underlying22 size29 (by decide) (Kd.F_now hF) hk
  obtain ⟨ad, cs', e1, hcl, hFK, hcc, _⟩ := Kd.F_get hF z29 (k : Int) (by omega) (by omega)
  rw [Int.toNat_natCast, List.getD_eq_getElem?_getD, hk] at hFK
  simp only [Option.getD_some] at hFK
  obtain ⟨A3, c3, rfl, h4, h5⟩ := k29_openF hFK
  obtain ⟨A3', c3', rfl, h4', h5'⟩ := k29_open h2
  have hsame : A3' = A3 ∧ c3' = c3 := by
    have q1 := h3 3 _ rfl
    have q2 := hcc 3 _ rfl
    have e2 := h1 w
    rw [e1] at e2
    simp [Instr.indexAt, asIntOf, run_underlying Try.underlying22, Result.andThen, hl] at e2
    have e3 : ad.add (k * k29.sz + 3) = ⟨b, o + 3, none⟩ := by
      have e4 : ad.add (k * k29.sz) = ⟨b, o, none⟩ := e2
      rw [← Addr.add_add, e4, add_one']
    rw [Int.toNat_natCast, e3, q1] at q2
    injection q2 with q2
    injection q2 with q3 _ q4
    exact ⟨q3, q4⟩
  obtain ⟨rfl, rfl⟩ := hsame
  refine ⟨b, o, A3', c3', h1, fun W hW => ?_, h4, h5, ?_⟩
  · refine ⟨(hW.cell (p := ⟨b, o, none⟩) hb).trans (h3 0 _ rfl), (hW.cell (p := ⟨b, o + 1, none⟩) hb).trans (h3 1 _ rfl), (hW.cell (p := ⟨b, o + 2, none⟩) hb).trans (h3 2 _ rfl), (hW.cell (p := ⟨b, o + 3, none⟩) hb).trans (h3 3 _ rfl), ?_⟩
    exact lies_of_C (h5 W (fun k hk _ => hW.block k hk))
  · intro bb oo he hp
    have h0 := lies_of_C (Kd.F_now h5)
    obtain ⟨b2, o2, q1, q2, _⟩ := h0 0 (.string d.f3[0]) (by rw [List.getElem?_map, List.getElem?_eq_getElem hp]; rfl)
    rw [he] at q1
    injection q1 with q1
    injection q1 with q1
    subst q1; exact q2
/-- An entry of the document's list. -/
theorem elem_at {W : World} {Am : Option Addr} {cm i : Nat} {ms : List S41} (hC : Kd.C k41 W Am ms.length ms) {e : S41} (hk : ms[i]? = some e) :
    ∃ b o A2 c2, (∀ W : World, (Instr.indexAt 37 (.slice Am ms.length cm) (.int .i64 i)).run Try.prog W = .ok (.pointer (some ⟨b, o, none⟩)) W) ∧
      W.cell? ⟨b, o, none⟩ = some (.string e.f0) ∧ W.cell? ⟨b, o + 1, none⟩ = some (.string e.f1) ∧ W.cell? ⟨b, o + 2, none⟩ = some (.slice A2 e.f2.length c2) ∧ e.f2.length ≤ c2 ∧ b < W.heap.size ∧
      ∀ ok : Nat → Prop, Kd.F k41 W ok Am ms.length ms → Kd.F Kd.string W ok A2 e.f2.length e.f2 := by
  have hl := (List.getElem?_eq_some_iff.1 hk).1
  obtain ⟨b, o, cs, h1, h2, h3, hb⟩ := C_at (c := cm) Try.underlying37 size41 (by decide) hC hk
  obtain ⟨A2, c2, rfl, h4, h5⟩ := k41_open h2
  refine ⟨b, o, A2, c2, h1, h3 0 _ rfl, h3 1 _ rfl, h3 2 _ rfl, h4, hb, fun ok hF => ?_⟩
  obtain ⟨ad, cs', e1, hcl, hFK, hcc, _⟩ := Kd.F_get hF z41 (i : Int) (by omega) (by omega)
  rw [Int.toNat_natCast, List.getD_eq_getElem?_getD, hk] at hFK
  simp only [Option.getD_some] at hFK
  obtain ⟨A2', c2', rfl, h4', h5'⟩ := k41_openF hFK
  have q1 := h3 2 _ rfl
  have q2 := hcc 2 _ rfl
  have e2 := h1 W
  rw [e1] at e2
  simp [Instr.indexAt, asIntOf, run_underlying Try.underlying37, Result.andThen, hl] at e2
  have e3 : ad.add (i * k41.sz + 2) = ⟨b, o + 2, none⟩ := by
    have e4 : ad.add (i * k41.sz) = ⟨b, o, none⟩ := e2
    rw [← Addr.add_add, e4, add_one']
  rw [Int.toNat_natCast, e3, q1] at q2
  injection q2 with q2
  injection q2 with q3 _ q4
  rw [q3]; exact h5'
/-- The document's list stays. -/
def PoolM (Am : Option Addr) (ms : List S41) (w : World) : Prop := Kd.C k41 w Am ms.length ms
section
variable {B : Nat} {w0 W : World} {l : List Asrt} {Am : Option Addr} {cm : Nat} {ms : List S41}
theorem pool_now_m (hO : Owns B (Asrt.pool w0 B (PoolM Am ms) :: l) W) (hb : Below B w0 W) (hB : B ≤ w0.heap.size) : Kd.C k41 W Am ms.length ms := hO.pool_now hb hB
/-- Put. -/
theorem refput_own (hO : Owns B (Asrt.pool w0 B (PoolM Am ms) :: l) W) (hb : Below B w0 W) (hB : B ≤ w0.heap.size) (hcm : ms.length ≤ cm) (size : Int) (key value : ByteArray) (A3 : Option Addr) (c3 : Nat) (deps : List ByteArray) (hc3 : deps.length ≤ c3)
    (h2 : ∀ ok : Nat → Prop, (∀ k, k < B → ok k) → Kd.F k41 W ok Am ms.length ms → Kd.F Kd.string W ok A3 deps.length deps) (hl : ms.length ≤ 4294967296) (hn : (keysM ms).Nodup) :
    Calls Try.prog 15 #[.slice Am ms.length cm, .int .i64 size, .agg #[.string key, .string value, .slice A3 deps.length c3]] W fun e w' => ∃ Am' cm' n', e = .returned (.slice Am' n' cm') ∧ n' = (putM size ms ⟨key, value, deps⟩).length ∧ n' ≤ cm' ∧ Owns B (Asrt.pool w0 B (PoolM Am' (putM size ms ⟨key, value, deps⟩)) :: l) w' ∧ Below W.heap.size W w' := by
  obtain ⟨ok, hokB, hP, hmk⟩ := hO.pool_open hb hB
  have hF : Kd.F k41 W ok Am ms.length ms := fun w' hw => hP w' hw
  have hd := h2 ok hokB hF
  have hp := put_f ms size key value deps hl hn (ms.length + 1) (by omega)
  have hz : B ≤ W.heap.size := Nat.le_trans hB hb.size
  refine (ciceroneref29_Put.calls (ms.length + 1) ok Am cm ms size key value ok A3 c3 deps _ W (Kd.V_mk hcm hF) (Kd.V_mk hc3 hd) hp).mono ?_
  rintro e w' ⟨v, rfl, hV, hb2⟩
  obtain ⟨Am', cm', rfl, hle, hf⟩ := hV
  exact ⟨Am', cm', _, rfl, rfl, hle, (hmk w' (PoolM Am' (putM size ms ⟨key, value, deps⟩)) hb2 (fun w'' hw => hf w'' (fun k hk hlt => hw k (hk.imp (fun h => h.elim id id) id) hlt))).pool_imp (fun _ h => h.2), hb2⟩
/-- Touch. -/
theorem reftouch_own (hO : Owns B (Asrt.pool w0 B (PoolM Am ms) :: l) W) (hb : Below B w0 W) (hB : B ≤ w0.heap.size) (hcm : ms.length ≤ cm) (A3 : Option Addr) (c3 : Nat) (deps : List ByteArray) (hc3 : deps.length ≤ c3) (hd : Kd.string.C W A3 deps.length deps)
    (hl : ms.length ≤ 4294967296) (hdl : deps.length ≤ 4294967296) (N : Nat) (hN : ∀ e ∈ ms, e.f2.length ≤ N) (hN2 : N ≤ 4294967296) :
    Calls Try.prog 18 #[.slice Am ms.length cm, .slice A3 deps.length c3] W fun e w' => ∃ Am' cm' n', e = .returned (.slice Am' n' cm') ∧ n' = (ms.filter fun e => !hitM deps e).length ∧ n' ≤ cm' ∧ Owns B (Asrt.pool w0 B (PoolM Am' (ms.filter fun e => !hitM deps e)) :: l) w' ∧ Below W.heap.size W w' := by
  obtain ⟨ok, hokB, hP, hmk⟩ := hO.pool_open hb hB
  have hF : Kd.F k41 W ok Am ms.length ms := fun w' hw => hP w' hw
  obtain ⟨k, hp⟩ := touch_f ms deps hl hdl N hN hN2
  have hz : B ≤ W.heap.size := Nat.le_trans hB hb.size
  refine (ciceroneref29_Touch.calls k ok Am cm ms A3 c3 deps _ W (Kd.V_mk hcm hF) hd hc3 hp).mono ?_
  rintro e w' ⟨v, rfl, hN, hb2⟩
  obtain ⟨Am', cm', rfl, hle, hf⟩ := Kd.N_V (base' := 0) hN
  exact ⟨Am', cm', _, rfl, rfl, hle, (hmk w' (PoolM Am' (ms.filter fun e => !hitM deps e)) hb2 (fun w'' hw => hf w'' (fun k hk hlt => hw k hk hlt))).pool_imp (fun _ h => h.2), hb2⟩
end
/-- At. -/
theorem refat_any (W : World) (Am : Option Addr) (cm : Nat) (ms : List S41) (h : Kd.C k41 W Am ms.length ms) (hcm : ms.length ≤ cm) (key : ByteArray) (hl : ms.length ≤ 4294967296) :
    Calls Try.prog 17 #[.slice Am ms.length cm, .string key] W fun e w' => e = .returned (.int .i64 (findI (isB key) (keysM ms))) ∧ Drawn0 W w' :=
  ciceroneref29_At.calls (ms.length + 1) Am cm ms key _ W h hcm (at_f ms key hl _ (by omega))
/-- Keys. -/
theorem refkeys_any (W : World) (Am : Option Addr) (cm : Nat) (ms : List S41) (h : Kd.C k41 W Am ms.length ms) (hcm : ms.length ≤ cm) (hl : ms.length ≤ 4294967296) :
    Calls Try.prog 22 #[.slice Am ms.length cm] W fun e w' => ∃ A c n, e = .returned (.slice A n c) ∧ n = (keysM ms).length ∧ n ≤ c ∧ Kd.string.C w' A (keysM ms).length (keysM ms) ∧ Below W.heap.size W w' := by
  obtain ⟨k, hp⟩ := keys_f ms hl
  refine (ciceroneref29_Keys.calls k Am cm ms _ W h hcm hp).mono ?_
  rintro e w' ⟨v, rfl, hR, hb⟩
  obtain ⟨A, c, rfl, hle, hf⟩ := Kd.R_reads hR
  exact ⟨A, c, _, rfl, rfl, hle, hf, hb⟩
/-- Texts, of the same. -/
theorem texts_any (W : World) (A B : Option Addr) (c1 c2 : Nat) (l : List ByteArray) (n1 n2 : Nat) (hn1 : n1 = l.length) (hn2 : n2 = l.length) (h1 : Kd.string.C W A l.length l) (h2 : Kd.string.C W B l.length l) (hc1 : n1 ≤ c1) (hc2 : n2 ≤ c2) (hl : l.length ≤ 4294967296) :
    Calls Try.prog 20 #[.slice A n1 c1, .slice B n2 c2] W fun e w' => e = .returned (.bool true) ∧ Below W.heap.size W w' := by
  subst hn1; subst hn2
  obtain ⟨k, hp⟩ := texts_f l hl
  exact (ciceroneref02_Texts.calls k A c1 l B c2 l true W h1 hc1 h2 hc2 hp).mono fun e w' ⟨h1, h2⟩ => ⟨h1, h2.below⟩
end Go.Proofs.Cac
