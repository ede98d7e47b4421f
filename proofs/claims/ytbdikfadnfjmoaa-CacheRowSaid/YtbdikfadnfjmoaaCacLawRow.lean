/- cache: CacheRow. -/
import Derived.Test.YtbdikfadnfjmoaaCacLawPlays
import Derived.Deep.QuietTactic
import Derived.BigQuiet
namespace Go.Proofs.Cac
open Go.RowKit Go.Cic Go.ChangeMaps Go.Proofs.YtbdikfadnfjmoaaW.PrintWords Go.Proofs.Ytbdikfadnfjmoaa.PCachePlays
set_option linter.unusedVariables false
set_option maxRecDepth 100000
/-- The state between two deeds: a ghost of the document's list goes along. -/
def StR (B p : Nat) (size : Int) (w0 : World) (m : Nat) (v : Value) (wr : World) : Prop := ∃ (ms : List S41) (ks : List ByteArray) (C : Tab) (al : List ByteArray), Sim size ms ks C ∧ Fine ms ∧ al.length ≤ 10 * m ∧ Owns B [CacA p size ks C, Asrt.row 9 v (sv al)] wr ∧ Below B w0 wr
/-- Behind the deed: does its key stand last? -/
def StS (B p : Nat) (size : Int) (w0 : World) (m : Nat) (v : Value) (H : Nat) (d : S29) (A3 : Option Addr) (c3 : Nat) (key : ByteArray) (al : List ByteArray) (b : Bool) (wr : World) : Prop := ∃ (ms : List S41) (ks : List ByteArray) (C : Tab), Sim size ms ks C ∧ Fine ms ∧ al.length ≤ 10 * m ∧ Owns B [CacA p size ks C, Asrt.row 9 v (sv al), Asrt.cells H #[.int .u8 d.f0, .string d.f1, .string d.f2, .slice A3 d.f3.length c3] 29] wr ∧ Below B w0 wr ∧ (b = true → 0 < ks.length ∧ ks[ks.length - 1]? = some key)
theorem _root_.Go.Cic.Owns.front2 {B : Nat} {A C D : Asrt} {w : World} (h : Owns B [A, C, D] w) : Owns B [A, D, C] w := (h.front 2 _ rfl).front 1 _ rfl
theorem quiet_left {P : Program} {f : FuncId} {args : Array Value} {w : World} {n : Nat} {v : Value} (h : Calls P f args (w.drewN n) fun e w' => e = .returned v ∧ w.drewN n = w') : Calls P f args (w.drewN n) fun e w'' => e = .returned v ∧ ∃ m, w'' = w.drewN m :=
  h.mono fun _ _ ⟨he, hm⟩ => ⟨he, n, hm.symm⟩
theorem last_app (l : List ByteArray) (key : ByteArray) : 0 < (l ++ [key]).length ∧ (l ++ [key])[(l ++ [key]).length - 1]? = some key := by simp
theorem put_last {size : Int} {ks : List ByteArray} {key : ByteArray} (h : 0 < size) (hn : (ks.filter (nk key)).Nodup) : 0 < (putK size ks key).length ∧ (putK size ks key)[(putK size ks key).length - 1]? = some key := by
  unfold putK
  split
  · rename_i hlt
    cases hf : ks.filter (nk key) with
    | nil => rw [hf] at hlt; simp at hlt; omega
    | cons y ys =>
      rw [hf] at hn
      have hyk : y ≠ key := by
        have : y ∈ ks.filter (nk key) := by rw [hf]; simp
        exact nk_iff.1 (List.mem_filter.1 this).2
      have hy : nk y y = false := by
        have : ¬ nk y y = true := fun h => nk_iff.1 h rfl
        simpa using this
      have hk : nk y key = true := nk_iff.2 (fun e => hyk e.symm)
      have hys : ys.filter (nk y) = ys := List.filter_eq_self.2 fun z hz => nk_iff.2 (fun e => (List.nodup_cons.1 hn).1 (e ▸ hz))
      have e : ((y :: ys) ++ [key]).filter (nk (((y :: ys) ++ [key]).headD key)) = ys ++ [key] := by
        simp only [List.cons_append, List.headD_cons, List.filter_cons, hy, Bool.false_eq_true, if_false, List.filter_append, hk, if_true, List.filter_nil, hys]
      rw [e]; exact last_app _ _
  · exact last_app _ _
theorem Sim.ks_nodup {size : Int} {ms : List S41} {ks : List ByteArray} {C : Tab} (h : Sim size ms ks C) : ks.Nodup := by rw [h.keys]; exact h.nodup
theorem in_before {ks : List ByteArray} (hn : ks.Nodup) {j : Nat} {y : ByteArray} (hy : ks[j]? = some y) : inB (ks.take j) y = false := by
  unfold inB
  rw [← Bool.not_eq_true]
  intro h
  obtain ⟨x, hx, he⟩ := List.any_eq_true.1 h
  have hxy : x = y := str_inj (beq_iff_eq.1 he)
  subst hxy
  obtain ⟨i, hi, hxi⟩ := List.mem_take_iff_getElem.1 hx
  have hj := (List.getElem?_eq_some_iff.1 hy).1
  have h2 : ks[i]? = ks[j]? := by rw [hy, List.getElem?_eq_getElem (by omega), hxi]
  have := (List.getElem?_inj (by omega) hn).1 h2
  omega
set_option maxHeartbeats 8000000 in
theorem law_row (size : Int) (A : Option Addr) (c : Nat) (l : List S29) (w : World) (hF : Kd.F k29 w (fun k => k < w.heap.size) A l.length l) (hc : l.length ≤ c) (hok : ∀ d ∈ l, (Lit.int .u8 d.f0).wf = true ∧ d.f1.size ≤ maxLen ∧ d.f2.size ≤ maxLen)
    (hs1 : -9223372036854775808 ≤ size) (hs2 : size ≤ 9223372036854775807) :
    Calls Try.prog 5 #[.int .i64 size, .slice A l.length c] w fun e w' => e = .returned (.bool true) ∧ Below w.heap.size w w' := by
  obtain ⟨hk, hr, hheavy, hfacts⟩ := heavy_f l
  have hlv := lives_any w
  have hnow : ∀ W, Below w.heap.size w W → Kd.C k29 W A l.length l := fun W hb => hF W (fun k hk _ => hb.block k hk)
  have hhv := fun W (hb : Below w.heap.size w W) => ciceronelaw29_heavy.calls hk A c l hr W (hnow W hb) hc hheavy
  go_enter Try.func5, Try.ntmps5
  go_wp2_with fail
  refine hlv.mono ?_
  rintro e w1 ⟨rfl, b1⟩
  have hhv1 := hhv w1 b1
  by_cases hcase : hr = true ∨ size < 0 ∨ 4096 < size
  · have hcs : hr = true ∨ (hr = false ∧ size < 0) ∨ (hr = false ∧ 0 ≤ size ∧ 4096 < size) := by
      cases hr <;> simp_all <;> omega
    clear hcase
    rcases hcs with rfl | ⟨rfl, h2⟩ | ⟨rfl, h3, h2⟩
    all_goals
      go_wp2_with fail
      refine hhv1.mono ?_
      rintro e w2 ⟨rfl, d2⟩
      have b2 := d2.below
      go_wp2_with fail
      go_ret
      exact ⟨rfl, b1.trans (b2.mono b1.size)⟩
  · obtain ⟨rfl, hsz0, hsz1⟩ : hr = false ∧ 0 ≤ size ∧ size ≤ 4096 := by cases hr <;> simp_all
    clear hcase
    obtain ⟨hl60, hl10⟩ := hfacts rfl
    have hszf : szf size = size := by unfold szf; omega
    clear hheavy hfacts hhv hlv hnow
    go_wp2_with fail
    refine hhv1.mono ?_
    rintro e w2 ⟨rfl, d2⟩
    have b2 := b1.trans (d2.below.mono b1.size)
    have hnw := new_own size (Owns.nil w.heap.size w2) b2.size
    rw [hszf] at hnw
    clear hhv1 d2 b1 hszf
    go_wp2_with fail
    refine hnw.mono ?_
    rintro e w3 ⟨p, rfl, hO3, b3⟩
    have b3' := b2.trans b3
    have hSt : StR w.heap.size p size w 0 (.slice (some ⟨w3.heap.size, 0, none⟩) 0 0) (w3.alloc (.cells #[] 9)) :=
      ⟨[], [], [], [], Sim.start hsz0, by simp [Fine], by simp, ((hO3.alloc_cells b3'.size #[] 9).rowOfCells (xs := []) rfl (Nat.zero_le _)).swap, b3'.alloc b3'.size (.cells #[] 9)⟩
    clear hO3 b3 hnw b2 b3'
    replace hSt := Hid.mk' hSt
    go_wp2_with fail
    go_loopg [6, 7] l.length (fun g v i wr => ∃ k : Nat, k ≤ l.length ∧ g = l.length - k ∧ i = .int .i64 k ∧ StR w.heap.size p size w k v wr)
    case atStart => exact ⟨0, Nat.zero_le _, rfl, rfl, hSt.out⟩
    case round =>
      clear hSt
      obtain ⟨k, hkl, hgk, rfl, ms, ks, C, al, hS, hfn, hal, hO, hb⟩ := hrel
      obtain ⟨Aa, ca, hv, _⟩ := (hO.front 1 _ rfl).rowE
      rw [sv_len] at hv
      subst hv
      have hzr : w.heap.size ≤ wr.heap.size := hb.size
      by_cases hlt : k < l.length
      · have hd : l[k]? = some l[k] := List.getElem?_eq_getElem hlt
        have hdm : l[k] ∈ l := List.getElem_mem _
        generalize l[k] = d at hd hdm
        obtain ⟨b, o, A3, c3, hix, hcells, hc3, hF3, hbb⟩ := deed_at (c := c) hF hd
        obtain ⟨q0, q1, q2, q3, q4⟩ := hcells wr hb
        have hd10 := hl10 d hdm
        obtain ⟨hu8, hf1, hf2⟩ := hok d hdm
        have hA1 := (hO.alloc_cells hzr #[.int .u8 d.f0, .string d.f1, .string d.f2, .slice A3 d.f3.length c3] 29)
        have hA2 := hA1.front 1 _ rfl
        have hbA := (Below.refl w.heap.size wr).alloc hzr (.cells #[.int .u8 d.f0, .string d.f1, .string d.f2, .slice A3 d.f3.length c3] 29)
        have hzA := Nat.le_trans hzr hbA.size
        have hmsl : ms.length ≤ 4096 := by have := hS.size; omega
        have hksl := hS.len
        go_upto_block 2 with fail
        go_cut [9] (fun s9 wx => ∃ bb : Bool, s9 = .bool bb ∧ StS w.heap.size p size w k (.slice Aa al.length ca) wr.heap.size d A3 c3 d.f1 al bb wx)
        case first =>
          by_cases hput : d.f0 = 0 ∨ d.f0 = 1
          case' pos =>
            have hpt := put_own d.f1 d.f2 A3 d.f3.length c3 d.f3 hA2 hzA (by omega) (hS.keys_fine hfn) hf1 (hcells _ (hb.trans hbA)).2.2.2.2 rfl (by omega) hsz0
            obtain ⟨e0, e1⟩ : ((d.f0 == 0) = true ∨ (d.f0 == 0) = false) ∧ ((d.f0 == 0) = false → (d.f0 == 1) = true) := ⟨by cases h : (d.f0 == 0) <;> simp, fun h => by have := beq_eq_false_iff_ne.1 h; exact beq_iff_eq.2 (by omega)⟩
            clear hput
            rcases e0 with e0 | e0
            case' inl => clear e1
            case' inr => replace e1 := e1 e0
            all_goals
              go_wp2_with fail
              refine hpt.mono ?_
              rintro e w4 ⟨rfl, h4, b4⟩
              have FIN : StS w.heap.size p size w k (.slice Aa al.length ca) wr.heap.size d A3 c3 d.f1 al (decide (0 < size)) w4 := ⟨_, _, _, hS.put hsz0 d.f1 d.f2 d.f3, fine_put hfn hd10 hf1, hal, h4.front2, (hb.trans hbA).trans b4, fun h => put_last (of_decide_eq_true h) (hS.ks_nodup.filter _)⟩
              replace FIN := Hid.mk' FIN
              clear h4 b4 hpt hA1 hA2
              go_wp2_with fail
              go_meet
              exact ⟨_, rfl, FIN.out⟩
          case' neg =>
            have n0 : (d.f0 == 0) = false := beq_eq_false_iff_ne.2 (fun e => hput (.inl e))
            have n1 : (d.f0 == 1) = false := beq_eq_false_iff_ne.2 (fun e => hput (.inr e))
            clear hput
            by_cases hgt : d.f0 = 2 ∨ d.f0 = 3
            case' pos =>
              have hgo := get_own d.f1 hA2 hzA (by omega) hf1
              obtain ⟨e0, e1⟩ : ((d.f0 == 2) = true ∨ (d.f0 == 2) = false) ∧ ((d.f0 == 2) = false → (d.f0 == 3) = true) := ⟨by cases h : (d.f0 == 2) <;> simp, fun h => by have := beq_eq_false_iff_ne.1 h; exact beq_iff_eq.2 (by omega)⟩
              clear hgt
              rcases e0 with e0 | e0
              case' inl => clear e1
              case' inr => replace e1 := e1 e0
              all_goals
                rcases hg : AL.get C d.f1 with _ | cc
                case' none =>
                  unfold Got at hgo
                  rw [hg] at hgo
                  clear hg
                  go_wp2_with fail
                  refine hgo.mono ?_
                  rintro e w4 ⟨rfl, h4, b4⟩
                  have FIN : StS w.heap.size p size w k (.slice Aa al.length ca) wr.heap.size d A3 c3 d.f1 al false w4 := ⟨ms, ks, C, hS, hfn, hal, h4.front2, (hb.trans hbA).trans b4, fun h => by cases h⟩
                case' some =>
                  obtain ⟨i, e, hie, hek, rfl, hfi⟩ := hS.found hg
                  unfold Got at hgo
                  rw [hg] at hgo
                  have hem : e ∈ ms := List.mem_of_getElem? hie
                  have hus := hS.used hem
                  rw [hek] at hus
                  have hfu : Fine (ms.filter (fun x => !isM d.f1 x) ++ [e]) := fun x hx => by
                    rcases List.mem_append.1 hx with hx | hx
                    · exact hfn x (List.mem_filter.1 hx).1
                    · rw [List.mem_singleton.1 hx]; exact hfn e hem
                  replace hus := Hid.mk' hus
                  clear hg hfi
                  go_wp2_with fail
                  refine hgo.mono ?_
                  rintro e' w4 ⟨rfl, h4, b4⟩
                  have FIN : StS w.heap.size p size w k (.slice Aa al.length ca) wr.heap.size d A3 c3 d.f1 al true w4 := ⟨_, _, _, hus.out, hfu, hal, h4.front2, (hb.trans hbA).trans b4, fun _ => last_app _ _⟩
                all_goals
                  replace FIN := Hid.mk' FIN
                  clear h4 b4 hgo hA1 hA2
                  go_wp2_with fail
                  go_meet
                  exact ⟨_, rfl, FIN.out⟩
            case' neg =>
              have n2 : (d.f0 == 2) = false := beq_eq_false_iff_ne.2 (fun e => hgt (.inl e))
              have n3 : (d.f0 == 3) = false := beq_eq_false_iff_ne.2 (fun e => hgt (.inr e))
              clear hgt
              have FIN : StS w.heap.size p size w k (.slice Aa al.length ca) wr.heap.size d A3 c3 d.f1 al false (wr.alloc (.cells #[.int .u8 d.f0, .string d.f1, .string d.f2, .slice A3 d.f3.length c3] 29)) := ⟨ms, ks, C, hS, hfn, hal, hA2.front2, hb.trans hbA, fun h => by cases h⟩
              replace FIN := Hid.mk' FIN
              clear hA1 hA2
              go_wp2_with fail
              go_meet
              exact ⟨_, rfl, FIN.out⟩
        case rest =>
          obtain ⟨bb, rfl, ms', ks', C', hS', hf', hal', hO', hb', hlast⟩ := hcut
          have hz' := hb'.size
          have hcl := (hO'.front 2 _ rfl).cellsE.1
          have c3' : wc.cell? ⟨wr.heap.size, 3, none⟩ = some (.slice A3 d.f3.length c3) := (cell_of hcl 3).trans rfl
          have hrow := hO'.front 1 _ rfl
          have hL := (hcells wc hb').2.2.2.2
          have k1 : (sv al).length + d.f3.length ≤ maxLen := by rw [sv_len]; unfold maxLen; omega
          have k2 : ((sv al).length + d.f3.length) * 16 ≤ 140737488355328 := by rw [sv_len]; omega
          have k3 : (sv al).length + d.f3.length = al.length + d.f3.length := by rw [sv_len]
          have k4 := sv_len d.f3
          have k5 := sv_one d.f3
          have hks' : ks'.length ≤ 4096 := by have := hS'.len; have := hS'.size; omega
          have hksz : (ks'.length : Int) ≤ size := by have := hS'.len; have := hS'.size; omega
          clear hcl hO'
          go_wp2_with (refine wpList_appendRow rfl _ _ 27 rfl Try.underlying27 info9 rfl rfl rfl hrow hz' hL k4 k5 k1 k2 k3 ?_; intro ao1 c1 w5 hO5 hb5)
          have hb5' := hb'.trans hb5
          have hky := keys_own (hO5.front 1 _ rfl) hb5'.size (by omega)
          refine hky.mono ?_
          rintro e' w6 ⟨A9, c9, rfl, h6, b6⟩
          have hb6 := hb5'.trans b6
          have hlen := fun m => len_own ((h6.front 1 _ rfl).drewN m)
          have hL9 := h6.rowLies
          have hc9 := hL9.2.2
          have t1 : decide ((ks'.length : Int) > size) = false := by simpa using hksz
          have t2 : decide (size < (ks'.length : Int)) = false := by simpa using hksz
          clear hrow hky hO5 k1 k2 k3 k4 k5 hL
          have hcl := (h6.front 3 _ rfl).cellsE.1
          have d1 : w6.cell? ⟨wr.heap.size, 1, none⟩ = some (.string d.f1) := (cell_of hcl 1).trans rfl
          clear hcl
          go_wp2_with fail
          go_upto_region 22 with fail
          go_cut [99] (fun s wx => s = .bool false ∧ ∃ m, wx = w6.drewN m)
          case first =>
            cases bb with
            | false =>
              go_quiet ((go_at_call 19; exact quiet_left (hlen _)))
              go_wp2_with fail
              go_meet
              exact ⟨rfl, _, rfl⟩
            | true =>
              obtain ⟨hl0, hl1⟩ := hlast rfl
              obtain ⟨bq, oq, hi9, hc9', hbq⟩ := Lies.idx (P := Try.prog) (c := c9) Try.underlying27 size9 hL9.1 (sv_len ks') (sv_at hl1)
              have e1 : ((ks'.length - 1 : Nat) : Int) = (ks'.length : Int) - 1 := by omega
              rw [e1] at hi9
              have e2 : IntKind.i64.wrap ((ks'.length : Int) - 1) = (ks'.length : Int) - 1 := by rw [IntKind.wrap_i64]; omega
              have t3 : ((ks'.length : Int) == 0) = false := beq_eq_false_iff_ne.2 (by omega)
              clear hl1 e1
              go_quiet ((go_at_call 19; exact quiet_left (hlen _)))
              clear e2
              go_wp2_with fail
              go_meet
              exact ⟨rfl, _, rfl⟩
          case rest =>
            obtain ⟨rfl, m, rfl⟩ := hcut
            have hnd := hS'.ks_nodup
            have FIN : StR w.heap.size p size w (k + 1) (.slice ao1 (al.length + d.f3.length) c1) w6 := ⟨ms', ks', C', al ++ d.f3, hS', hf', by rw [List.length_append]; omega, by
              have := (h6.tail.tail.front 0 _ rfl)
              have h7 := (h6.front 1 _ rfl).drop1_1.drop1_2
              rw [show sv (al ++ d.f3) = sv al ++ sv d.f3 by simp]
              exact h7, hb6⟩
            have hb7 : ∀ m, Below w.heap.size w (w6.drewN m) := fun m => hb6.trans ((Below.drewN' w6 m).mono hb6.size)
            replace FIN := Hid.mk' FIN
            clear hlen h6 hc3
            go_wp2_with fail
            go_loopg [11] ks'.length (fun g t wr2 => ∃ j m : Nat, 1 ≤ j ∧ g = ks'.length + 1 - j ∧ t = .int .i64 j ∧ wr2 = w6.drewN m)
            case atStart => exact ⟨1, m, by omega, by omega, rfl, rfl⟩
            case round =>
              obtain ⟨j, m2, hj1, hgj, rfl, rfl⟩ := hrel
              by_cases hjl : j < ks'.length
              · have hy : ks'[j]? = some ks'[j] := List.getElem?_eq_getElem hjl
                generalize ks'[j] = y at hy
                have hin := in_before hnd hy
                obtain ⟨bq, oq, hi9, hc9', hbq⟩ := Lies.idx (P := Try.prog) (c := c9) Try.underlying27 size9 hL9.1 (sv_len ks') (sv_at hy)
                have hq : ∀ n, Calls Try.prog 14 #[.slice A9 j c9, .string y] (w6.drewN n) fun e w' => e = .returned (.bool false) ∧ w6.drewN n = w' := fun n => by
                  have h1 := in_any A9 j c9 (ks'.take j) y (w6.drewN n) (by
                    have h2 : Lies (w6.drewN n) A9 (sv ks') := hL9.1.below (Below.drewN' w6 n)
                    intro i u hu
                    rw [List.getElem?_map, List.getElem?_take] at hu
                    split at hu
                    · exact h2 i u (by rw [List.getElem?_map]; exact hu)
                    · cases hu) (by rw [List.length_take]; omega) (by omega)
                  rw [hin] at h1
                  exact h1
                have hq2 : ∀ n, Calls Try.prog 14 #[.slice A9 j c9, .string y] ((w6.drewN m2).drewN n) fun e w' => e = .returned (.bool false) ∧ (w6.drewN m2).drewN n = w' := fun n => by rw [World.drewN_drewN]; exact hq _
                have i0 : (0 : Int) ≤ (j : Int) := by omega
                have i1 : (j : Int) ≤ (c9 : Int) := by omega
                clear hy hin hnd hq
                generalize hW : w6.drewN m2 = wq at *
                have hc9q : wq.cell? ⟨bq, oq, none⟩ = some (.string y) := by rw [← hW]; exact hc9'
                replace hW := Hid.mk' hW
                go_wp2_with fail
                go_quiet ((go_at_call 14; exact quiet_left (hq2 _)))
                go_wp2_with fail
                go_roundg (ks'.length - j)
                case rel => exact ⟨j + 1, m2 + nq, by omega, by omega, by go_num, by rw [← hW.out, World.drewN_drewN]⟩
                case measure => omega
              · go_wp2_with fail
                go_roundg (l.length - (k + 1))
                case rel => exact ⟨k + 1, by omega, rfl, by go_num, by
                  obtain ⟨m', k', C'', a', g1, g2, g3, g4, g5⟩ := FIN.out
                  exact ⟨m', k', C'', a', g1, g2, g3, g4.drewN m2, hb7 m2⟩⟩
                case measure => omega
      · have : k = l.length := by omega
        subst this
        have hlen := len_own hO
        have hks' : ks.length ≤ 4096 := by have := hS.len; have := hS.size; omega
        have htd : ∀ W, Below w.heap.size wr W → Owns w.heap.size [Asrt.row 9 (.slice Aa al.length ca) (sv al)] W → Lies W Aa (sv al) := fun W _ h => h.rowLies.1
        have hdl : ∀ c ∈ C, c.2.2.length ≤ 4294967296 := fun c hc => by
          obtain ⟨y, v⟩ := c
          have hy := hS.get_iff y
          have hnd := ((cac_iff.1 hO).choose_spec.choose_spec.front 2 _ rfl).mapOf_keys.1
          rw [AL.get_some hnd hc] at hy
          cases hf : ms.find? (isM y) with
          | none => rw [hf] at hy; simp at hy
          | some e =>
            rw [hf] at hy
            simp only [Option.map_some, Option.some.injEq] at hy
            have := (hfn e (List.mem_of_find?_eq_some hf)).1
            rw [hy]; simp only; omega
        have hto := touch_own Aa al.length ca al hO hb.size (by omega) (hS.keys_fine hfn) hdl htd rfl (by omega)
        obtain ⟨hst, hcnt⟩ := hS.touch al
        obtain ⟨hst2, hcnt2⟩ := hst.touch al
        have hff : (ms.filter fun e => !hitM al e).filter (fun e => !hitM al e) = ms.filter fun e => !hitM al e := by rw [List.filter_filter]; simp
        rw [hff] at hcnt2
        have hz2 : (tAll al (tAll al ks C).1 (tAll al ks C).2.1).2.2 = 0 := by omega
        have hl2 : ((tAll al ks C).1.length : Int) = (ks.length : Int) - ((tAll al ks C).2.2 : Int) := by have := hst.len; have := hS.len; omega
        have hfn2 : Fine (ms.filter fun e => !hitM al e) := fun e he => hfn e (List.mem_filter.1 he).1
        have hks2 := hst.keys_fine hfn2
        have hkl2 : (tAll al ks C).1.length ≤ 4096 := by omega
        have htl : (tAll al ks C).2.2 ≤ ks.length := by omega
        replace hst := Hid.mk' hst
        clear hst2 hcnt hcnt2 hff
        go_wp2_with fail
        refine hlen.mono ?_
        rintro e w8 ⟨rfl, rfl⟩
        go_wp2_with fail
        refine hto.mono ?_
        rintro e w9 ⟨rfl, h9, b9⟩
        have hlen2 := len_own h9
        have hb9 := hb.trans b9
        have hto2 := touch_own Aa al.length ca al h9 hb9.size (by omega) hks2 (fun c hc => by
          obtain ⟨y, v⟩ := c
          have hy := hst.out.get_iff y
          have hnd := ((cac_iff.1 h9).choose_spec.choose_spec.front 2 _ rfl).mapOf_keys.1
          rw [AL.get_some hnd hc] at hy
          cases hf : (ms.filter fun e => !hitM al e).find? (isM y) with
          | none => rw [hf] at hy; simp at hy
          | some e =>
            rw [hf] at hy
            simp only [Option.map_some, Option.some.injEq] at hy
            have := (hfn2 e (List.mem_of_find?_eq_some hf)).1
            rw [hy]; simp only; omega) (fun W _ h => h.rowLies.1) rfl (by omega)
        rw [hz2] at hto2
        generalize hT : tAll al ks C = T at *
        obtain ⟨Tk, TC, Tn⟩ := T
        simp only at hl2 hkl2 htl hlen2 hto2
        have t1 : ((Tk.length : Int) == (ks.length : Int) - (Tn : Int)) = true := beq_iff_eq.2 hl2
        replace hl2 := Hid.mk' hl2
        replace hT := Hid.mk' hT
        clear hz2 hto hlen
        go_wp2_with fail
        refine hlen2.mono ?_
        rintro e w10 ⟨rfl, rfl⟩
        go_wp2_with fail
        refine hto2.mono ?_
        rintro e w11 ⟨rfl, h11, b11⟩
        go_wp2_with fail
        go_ret
        exact ⟨rfl, hb9.trans b11⟩
end Go.Proofs.Cac
