/- pane: the walk of the document's Drop. -/
import Derived.Test.YtfolnnmgnkalkaaPanRefDrop
import Derived.Deep.LoopGhost
import Derived.Deep.QuietTactic
import Derived.BigQuiet
namespace Go.Proofs.Pan
open Go.RowKit Go.Cic Go.ChangeMaps
set_option linter.unusedVariables false
set_option maxRecDepth 100000
theorem met_snoc (g : List Sm) (x s : Sm) : met (g ++ [x]) s = (met g s || (decide (x.1 = s.1) && decide (x.2.1 = s.2.1))) := by simp [met, List.any_append]
def MetS (W0 : World) (G : List Sm) (y : Sm) (f i : Value) (wx : World) : Prop := ∃ j m : Nat, j ≤ G.length ∧ f = .bool ((y.2.2 == 0) || met (G.take j) y) ∧ i = .int .i64 j ∧ wx = W0.drewN m
def DropO (B q : Nat) (width count be : Int) (L : List Sm) (ao : Option Addr) (c : Nat) (l : List Asrt) (w0 : World) (g : Nat) (v5 v6 i : Value) (wr : World) : Prop :=
  ∃ k : Nat, k ≤ L.length ∧ g = L.length - k ∧ i = .int .i64 k ∧ Below B w0 wr ∧ Owns B (Asrt.rows rdSum v5 (keptL be (L.take k)) :: Asrt.rows rdSum v6 (goneL be (L.take k)) :: Asrt.cells q #[.int .i64 width, .slice ao L.length c, .int .i64 count] 47 :: Asrt.rows rdSum (.slice ao L.length c) L :: l) wr
set_option maxHeartbeats 2000000 in
theorem refdrop_own {B q : Nat} {width count : Int} {L : List Sm} {l : List Asrt} {w : World} (before : Int) (hO : Owns B (RefA q width L count :: l) w) (hB : B ≤ w.heap.size) (hok : ∀ x ∈ L, rdSum.ok x) (hlen : L.length ≤ 1000) (hw1 : 1 ≤ width) (hw2 : width ≤ 1099511627776) (hf1 : -9223372036854775808 ≤ before) (hf2 : before ≤ 9223372036854775807) :
    Calls Try.prog 51 #[.pointer (some ⟨q, 0, none⟩), .int .i64 before] w fun e w' => e = .returned (.int .i64 ((goneL (pn width before) L).length : Nat)) ∧ Owns B (RefA q width (keptL (pn width before) L) count :: l) w' ∧ Below B w w' := by
  obtain ⟨v, hO⟩ := ref_iff.1 hO
  obtain ⟨ao, c, rfl, hsl⟩ := sums_at hO.swap hok
  have hpn := fun (W : World) (hp : W.cell? ⟨q, 0, none⟩ = some (.int .i64 width)) => refpane_any q width before W hp hw1 hw2 hf1 hf2
  generalize pn width before = be at hpn ⊢
  have hst : DropO B q width count be L ao c l w L.length (.slice none 0 0) (.slice none 0 0) (.int .i64 0) w := ⟨0, Nat.zero_le _, rfl, rfl, Below.refl B w, rows_nil (rows_nil hO)⟩
  replace hst := Hid.mk' hst
  go_enter Try.func51, Try.ntmps51
  go_wp2_with fail
  go_loopg [5, 6, 7] L.length (fun g v5 v6 i wr => DropO B q width count be L ao c l w g v5 v6 i wr)
  case atStart => exact hst.out
  case round =>
    clear hst
    obtain ⟨k, hk, hgk, rfl, hbr, hOr⟩ := hrel
    have hzr := hbr.size
    obtain ⟨hc3, _⟩ := (hOr.front 2 _ rfl).cellsE
    have c0 : wr.cell? ⟨q, 0, none⟩ = some (.int .i64 width) := by rw [cell_of hc3]; rfl
    have c1 : wr.cell? ⟨q, 1, none⟩ = some (.slice ao L.length c) := by rw [cell_of hc3]; rfl
    by_cases hlt : k < L.length
    · have hy : L[k]? = some (L[k]'(by omega)) := List.getElem?_eq_getElem (by omega)
      generalize (L[k]'(by omega)) = y at hy
      obtain ⟨bb, o, hidx, hc, _⟩ := (sums_lie (hOr.front 3 _ rfl) hok).1.idx (cap := c) Try.underlying45 size89 rfl hy
      obtain ⟨ky, pa, nn⟩ := y
      obtain ⟨d0, d1, d2⟩ := sum_at hc
      dsimp only at d0 d1 d2
      have hq1 : ∀ m', Calls Try.prog 52 #[.pointer (some ⟨q, 0, none⟩), .int .i64 before] (wr.drewN m') fun e w' => e = .returned (.int .i64 be) ∧ wr.drewN m' = w' := fun m' => hpn (wr.drewN m') c0
      replace hy := Hid.mk' hy
      clear hc
      have hok5 : ∀ x ∈ keptL be (L.take k), rdSum.ok x := fun x hx => hok x (List.mem_of_mem_take (List.mem_filter.1 hx).1)
      obtain ⟨a5, x5, rfl, _⟩ := sums_at hOr hok5
      have hn5 : (keptL be (L.take k)).length ≤ 1000 := by
        have h1 := List.length_filter_le (fun s : Sm => decide (be ≤ s.2.1)) (L.take k)
        have h2 : (L.take k).length ≤ L.length := by rw [List.length_take]; omega
        unfold keptL; omega
      by_cases hbe : be ≤ pa
      · have t1 : decide (be ≤ pa) = true := decide_eq_true hbe
        have hsk : rdSum.ok (ky, pa, nn) := hok _ (List.mem_of_getElem? hy.out)
        have hk1 := keptL_yes (be := be) hy.out hbe
        have hg1 : goneL be (L.take (k + 1)) = goneL be (L.take k) := by rw [goneL_step hy.out]; unfold gone1; rw [if_pos hbe]
        replace hk1 := Hid.mk' hk1
        replace hg1 := Hid.mk' hg1
        go_wp2_with fail
        go_quiet ((go_at_call 52; exact quiet_left (hq1 _)))
        have hOq := hOr.drewN nq
        have hbq : Below B w (wr.drewN nq) := hbr.trans (Below.drewN' wr nq |>.mono (Nat.le_trans hB hzr))
        obtain ⟨sl1, hO1, b1⟩ := one_at hOq (Nat.le_trans hB hbq.size) (ky, pa, nn) hsk
        dsimp only at sl1 hO1 b1
        have hb1 := hbq.trans b1
        obtain ⟨a6, x6, w6, hr6, hO6, b6⟩ := append_sums 45 hO1 hok5 (Nat.le_trans hB hb1.size) (c := 1) sl1 rfl (N := (keptL be (L.take k)).length + 1) rfl (by omega)
        have hb6 := hb1.trans b6
        go_wp2_with (refine wpList_app rfl rfl rfl rfl rfl hr6 ?_)
        go_roundg (L.length - (k + 1))
        case rel => exact ⟨k + 1, by omega, rfl, by go_num, hb6, by rw [hk1.out, hg1.out]; exact hO6⟩
        case measure => omega
      · have t1 : decide (be ≤ pa) = false := decide_eq_false hbe
        have hsk : rdSum.ok (ky, pa, nn) := hok _ (List.mem_of_getElem? hy.out)
        have hk1 := keptL_no (be := be) hy.out hbe
        have hg1 : goneL be (L.take (k + 1)) = if nn = 0 ∨ met (goneL be (L.take k)) (ky, pa, nn) = true then goneL be (L.take k) else goneL be (L.take k) ++ [(ky, pa, nn)] := by rw [goneL_step hy.out]; unfold gone1; rw [if_neg hbe]
        have hok6 : ∀ x ∈ goneL be (L.take k), rdSum.ok x := fun x hx => hok x (List.mem_of_mem_take (goneL_sub be _ x hx))
        have hn6 : (goneL be (L.take k)).length ≤ 1000 := by
          have h1 := goneL_len be (L.take k)
          have h2 : (L.take k).length ≤ L.length := by rw [List.length_take]; omega
          omega
        obtain ⟨a6, x6, rfl, _⟩ := sums_at hOr.swap hok6
        have hsg := (sums_lie hOr.swap hok6).1
        rw [← hk1] at hOr
        generalize goneL be (L.take k) = G at *
        replace hk1 := Hid.mk' hk1
        replace hg1 := Hid.mk' hg1
        go_wp2_with fail
        go_quiet ((go_at_call 52; exact quiet_left (hq1 _)))
        go_wp2_with fail
        go_loopw [8, 9] (fun f i wx => MetS (wr.drewN nq) G (ky, pa, nn) f i wx) (fun _ i _ => G.length - (intOf i).toNat)
        case atStart => exact ⟨0, 0, Nat.zero_le _, by simp [met], rfl, rfl⟩
        case round =>
          obtain ⟨j, m, hj, rfl, rfl, rfl⟩ := hrel
          by_cases hjl : j < G.length
          · have hz : G[j]? = some (G[j]'hjl) := List.getElem?_eq_getElem hjl
            generalize (G[j]'hjl) = z at hz
            obtain ⟨b3, o3, hidx3, hc4, _⟩ := hsg.idx (cap := x6) Try.underlying45 size89 rfl hz
            obtain ⟨kz, pz, nz⟩ := z
            obtain ⟨f0, f1, f2⟩ := sum_at hc4
            dsimp only at f0 f1 f2
            have hmt : met (G.take (j + 1)) (ky, pa, nn) = (met (G.take j) (ky, pa, nn) || (decide (kz = ky) && decide (pz = pa))) := by rw [take_succ' hz, met_snoc]
            generalize hW : (wr.drewN nq).drewN m = wq at *
            have q1 : wq.cell? ⟨q, 1, none⟩ = some (.slice ao L.length c) := by rw [← hW]; exact c1
            have e0 : wq.cell? ⟨bb, o, none⟩ = some (.string ky) := by rw [← hW]; exact d0
            have e1 : wq.cell? ⟨bb, o + 1, none⟩ = some (.int .i64 pa) := by rw [← hW]; exact d1
            have g0 : wq.cell? ⟨b3, o3, none⟩ = some (.string kz) := by rw [← hW]; exact f0
            have g1 : wq.cell? ⟨b3, o3 + 1, none⟩ = some (.int .i64 pz) := by rw [← hW]; exact f1
            replace hW := Hid.mk' hW
            replace hmt := Hid.mk' hmt
            clear hz hc4 f0 f1 f2
            have hcs : ((kz.toList == ky.toList) = false ∧ (decide (kz = ky) && decide (pz = pa)) = false) ∨ ((kz.toList == ky.toList) = true ∧ (pz == pa) = false ∧ (decide (kz = ky) && decide (pz = pa)) = false) ∨ ((kz.toList == ky.toList) = true ∧ (pz == pa) = true ∧ (decide (kz = ky) && decide (pz = pa)) = true) := by
              by_cases hk : kz = ky
              · by_cases hp : pz = pa
                · exact .inr (.inr ⟨beq_iff_eq.2 (congrArg _ hk), beq_iff_eq.2 hp, by simp [hk, hp]⟩)
                · exact .inr (.inl ⟨beq_iff_eq.2 (congrArg _ hk), beq_eq_false_iff_ne.2 hp, by simp [hp]⟩)
              · exact .inl ⟨beq_eq_false_iff_ne.2 (fun e => hk (str_inj e)), by simp [hk]⟩
            rcases hcs with ⟨u1, hv⟩ | ⟨u1, u2, hv⟩ | ⟨u1, u2, hv⟩
            all_goals
              replace hv := Hid.mk' hv
              go_wp2_with fail
              go_quiet (fail)
              go_wp2_with fail
              go_roundw
              case rel => exact ⟨j + 1, m + nq, by omega, by rw [hmt.out, hv.out]; first | (simp; done) | (congr 1; simp), by go_num, by rw [← hW.out, World.drewN_drewN]⟩
              case measure => simp [intOf]; omega
          · have hjj : G.take j = G := List.take_of_length_le (by omega)
            rw [hjj]
            clear hjj
            have hOq : Owns B _ ((wr.drewN nq).drewN m) := (hOr.drewN nq).drewN m
            have hbq : Below B w ((wr.drewN nq).drewN m) := by
              rw [World.drewN_drewN]
              exact hbr.trans (Below.drewN' wr _ |>.mono (Nat.le_trans hB hzr))
            have e0 : ((wr.drewN nq).drewN m).cell? ⟨bb, o, none⟩ = some (.string ky) := d0
            have e1 : ((wr.drewN nq).drewN m).cell? ⟨bb, o + 1, none⟩ = some (.int .i64 pa) := d1
            have e2 : ((wr.drewN nq).drewN m).cell? ⟨bb, o + 2, none⟩ = some (.int .i64 nn) := d2
            generalize (wr.drewN nq).drewN m = wq at hOq hbq e0 e1 e2 ⊢
            by_cases hmet : nn = 0 ∨ met G (ky, pa, nn) = true
            · have t5 : ((nn == 0) || met G (ky, pa, nn)) = true := by
                rcases hmet with h | h
                · simp [h]
                · simp [h]
              rw [t5]
              rw [if_pos hmet] at hg1
              go_wp2_with fail
              go_roundg (L.length - (k + 1))
              case rel => exact ⟨k + 1, by omega, rfl, by go_num, hbq, by have h7 := hk1.out; rw [h7] at hOq; rw [h7, hg1.out]; exact hOq⟩
              case measure => omega
            · have t5 : ((nn == 0) || met G (ky, pa, nn)) = false := by
                simp only [not_or] at hmet
                simp [hmet.1, hmet.2]
              rw [t5]
              rw [if_neg hmet] at hg1
              obtain ⟨hc9, _⟩ := (hOq.front 2 _ rfl).cellsE
              have y1 : wq.cell? ⟨q, 1, none⟩ = some (.slice ao L.length c) := by rw [cell_of hc9]; rfl
              have h7 := hk1.out
              rw [h7] at hOq
              obtain ⟨hc8, hO8, hb8⟩ := one_at hOq (Nat.le_trans hB hbq.size) (ky, pa, nn) hsk
              dsimp only at hc8 hO8 hb8
              obtain ⟨a9, x9, w9, hr9, hO9, b9⟩ := append_sums 45 hO8.swap hok6 (Nat.le_trans hB (hbq.trans hb8).size) (c := 1) hc8 rfl (N := G.length + 1) rfl (by omega)
              have hb9 := (hbq.trans hb8).trans b9
              go_wp2_with (refine wpList_app rfl rfl rfl rfl rfl hr9 ?_)
              go_roundg (L.length - (k + 1))
              case rel => exact ⟨k + 1, by omega, rfl, by go_num, hb9, by rw [h7, hg1.out]; exact hO9.swap⟩
              case measure => omega
    · have hkk : L.take k = L := List.take_of_length_le (by omega)
      rw [hkk] at hOr
      have hok6 : ∀ x ∈ goneL be L, rdSum.ok x := fun x hx => hok x (goneL_sub be L x hx)
      have hok5 : ∀ x ∈ keptL be L, rdSum.ok x := fun x hx => hok x (List.mem_filter.1 hx).1
      obtain ⟨a5, x5, rfl, _⟩ := sums_at hOr hok5
      obtain ⟨a6, x6, rfl, _⟩ := sums_at hOr.swap hok6
      obtain ⟨hO9, b9⟩ := (hOr.front 2 _ rfl).poke (Nat.le_trans hB hzr) 1 (.slice a5 (keptL be L).length x5)
      have fr : wr.frozen? ⟨q, 1, none⟩ = false := free_of hc3 _
      go_wp2_with fail
      go_ret
      refine ⟨rfl, ref_iff.2 ⟨.slice a5 (keptL be L).length x5, ?_⟩, hbr.trans b9⟩
      have h9 := ((hO9.front 3 _ rfl).tail.front 2 _ rfl).tail
      simpa using h9
end Go.Proofs.Pan
