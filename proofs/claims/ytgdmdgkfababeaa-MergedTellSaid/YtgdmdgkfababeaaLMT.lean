/-
  MergedTell: the walk. Own work.
-/
import Derived.Test.YtgdmdgkfababeaaPMall
import Derived.Test.YtgdmdgkfababeaaPBase
namespace Go.Proofs.YtgdmdgkfababeaaEv
open Go Go.RowKit Go.Proofs.YtgdmdgkfababeaaCol Go.Proofs.Ytgdmdgkfababeaa.M Go.Proofs.YtgdmdgkfababeaaW.PrintWords Go.Proofs.YtgdmdgkfababeaaW.PrintMore
open Go.Proofs.YtgdmdgkfababeaaH (pairs)

theorem C_take {w : World} {A : Option Addr} {l : List S44} (m : Nat) (h : Kd.C k44 w A l.length l) (q : List S44) (hq : l.take m = q) : Kd.C k44 w A q.length q := by
  subst hq
  refine ⟨rfl, by have := h.2.1; simp; omega, fun hn => ?_⟩
  obtain ⟨ad, e, hc⟩ := h.2.2 (by simp at hn; omega)
  refine ⟨ad, e, fun j p hj => hc j p ?_⟩
  rw [List.getElem?_take] at hj
  split at hj
  · exact hj
  · cases hj

theorem drawn_below {w w' : World} (h : Drawn0 w w') : Below w.heap.size w w' := by
  obtain ⟨n, rfl⟩ := h.out
  exact pw_below_drewN (Below.refl _ _) n

set_option maxRecDepth 100000 in
theorem few_calls (A : Option Addr) (c : Nat) (l q : List S44) (hq : l.take 40 = q) (hc : l.length ≤ c) (w : World) : Calls Try.prog 13 #[.slice A l.length c] w fun e w' => (∃ c', q.length ≤ c' ∧ e = .returned (.slice A q.length c')) ∧ w = w' := by
  by_cases h : 40 < l.length
  · have h' : (40 : Int) < (l.length : Int) := by omega
    have hl : q.length = 40 := by rw [← hq]; simp; omega
    rw [hl]
    clear hq hl
    go_enter Try.func13, Try.ntmps13
    go_wp2
    go_ret
    exact ⟨⟨c, by omega, rfl⟩, rfl⟩
  · have h' : ¬ (40 : Int) < (l.length : Int) := by omega
    have hl : q.length = l.length := by rw [← hq]; simp; omega
    rw [hl]
    clear hq hl
    go_enter Try.func13, Try.ntmps13
    go_wp2
    go_ret
    exact ⟨⟨c, hc, rfl⟩, rfl⟩

set_option maxRecDepth 100000 in
set_option maxHeartbeats 4000000 in
theorem mergedTell_calls (a0 : Int) (A1 : Option Addr) (c1 : Nat) (l1 : List Int) (A2 : Option Addr) (c2 : Nat) (l2 : List Int) (A3 : Option Addr) (c3 : Nat) (l3 : List S44) (a4 : Int) (w : World)
    (hr1 : Kd.C (Kd.int .i64) w A1 l1.length l1) (hc1 : l1.length ≤ c1) (hr2 : Kd.C (Kd.int .i64) w A2 l2.length l2) (hc2 : l2.length ≤ c2) (hr3 : Kd.C k44 w A3 l3.length l3) (hc3 : l3.length ≤ c3) :
    Calls Try.prog 5 #[.agg #[.int .i64 a0, .slice A1 l1.length c1, .slice A2 l2.length c2, .slice A3 l3.length c3, .int .i64 a4]] w fun e w' => e = .returned (.bool true) ∧ Below w.heap.size w w' := by
  obtain ⟨fa, hfa⟩ := awake_ev.some
  obtain ⟨fr, hfr⟩ := (rest_ev a0 10 (by omega)).some
  obtain ⟨fr2, hfr2⟩ := (rest_ev a4 7 (by omega)).some
  have hn := rst_in a0 10 (by omega) (by omega)
  have hk := rst_in a4 7 (by omega) (by omega)
  generalize rst a0 10 = n at *
  generalize rst a4 7 = k at *
  obtain ⟨e, he, hein⟩ := made_ev (1 + n) (by omega) (by omega) l1
  obtain ⟨m, hm, hmin⟩ := made_ev (1 + n) (by omega) (by omega) l2
  obtain ⟨fe, hfe⟩ := he.some
  obtain ⟨fm, hfm⟩ := hm.some
  have hel : e.length ≤ 1000000 := by have := hein.1; omega
  have hml : m.length ≤ 1000000 := by have := hmin.1; omega
  obtain ⟨q, hq⟩ : ∃ q, l3.take 40 = q := ⟨_, rfl⟩
  have h40 : q.length ≤ 1000000 := by rw [← hq]; simp; omega
  obtain ⟨g1, hg1⟩ := (merged_ev (1 + n) k e m hel hml).some
  obtain ⟨g2, hg2⟩ := (merged_ev (1 + n) k q m h40 hml).some
  obtain ⟨g3, hg3⟩ := (merged_ev (1 + n) k e q hel h40).some
  obtain ⟨q1, hq1⟩ := (mergedRef_ev (1 + n) k e m hel hml).some
  obtain ⟨q2, hq2⟩ := (mergedRef_ev (1 + n) k q m h40 hml).some
  obtain ⟨q3, hq3⟩ := (mergedRef_ev (1 + n) k e q hel h40).some
  obtain ⟨o1, ho1⟩ := (nums_ev (merged (1 + n) k (pairs e) (pairs m)) (merged (1 + n) k (pairs e) (pairs m)) (merged_le _ _ _ _)).some
  obtain ⟨o2, ho2⟩ := (nums_ev (merged (1 + n) k (pairs q) (pairs m)) (merged (1 + n) k (pairs q) (pairs m)) (merged_le _ _ _ _)).some
  obtain ⟨o3, ho3⟩ := (nums_ev (merged (1 + n) k (pairs e) (pairs q)) (merged (1 + n) k (pairs e) (pairs q)) (merged_le _ _ _ _)).some
  obtain ⟨g4, hg4⟩ := (merged_ev (-(1 + n)) k e m hel hml).some
  have hneg : merged (-(1 + n)) k (pairs e) (pairs m) = [] := by unfold merged; rw [if_pos (by omega)]
  rw [hneg] at hg4
  generalize hM1 : merged (1 + n) k (pairs e) (pairs m) = M1 at *
  generalize hM2 : merged (1 + n) k (pairs q) (pairs m) = M2 at *
  generalize hM3 : merged (1 + n) k (pairs e) (pairs q) = M3 at *
  simp only [decide_true] at ho1 ho2 ho3
  have hu40 := Try.underlying40
  have hu38 := Try.underlying38
  have HQ := Lib.hid hq
  clear hq
  have HFA := Lib.hid hfa
  clear hfa
  have HFR := Lib.hid hfr
  clear hfr
  have HFR2 := Lib.hid hfr2
  clear hfr2
  have HFE := Lib.hid hfe
  clear hfe
  have HFM := Lib.hid hfm
  clear hfm
  have HG1 := Lib.hid hg1
  clear hg1
  have HG2 := Lib.hid hg2
  clear hg2
  have HG3 := Lib.hid hg3
  clear hg3
  have HG4 := Lib.hid hg4
  clear hg4
  have HQ1 := Lib.hid hq1
  clear hq1
  have HQ2 := Lib.hid hq2
  clear hq2
  have HQ3 := Lib.hid hq3
  clear hq3
  have HO1 := Lib.hid ho1
  clear ho1
  have HO2 := Lib.hid ho2
  clear ho2
  have HO3 := Lib.hid ho3
  clear ho3
  clear he hm hein hmin hneg hM1 hM2 hM3 hel hml h40
  go_enter Try.func5, Try.ntmps5
  have hnew := heap_alloc_new w (.cells #[.int .i64 a0, .slice A1 l1.length c1, .slice A2 l2.length c2, .slice A3 l3.length c3, .int .i64 a4] 40)
  have B := Lib.hid ((Below.refl _ w).alloc (Nat.le_refl _) (.cells #[.int .i64 a0, .slice A1 l1.length c1, .slice A2 l2.length c2, .slice A3 l3.length c3, .int .i64 a4] 40))
  have P0 : Hid ((w.alloc (.cells #[.int .i64 a0, .slice A1 l1.length c1, .slice A2 l2.length c2, .slice A3 l3.length c3, .int .i64 a4] 40)).cell? ⟨w.heap.size, 0, none⟩ = some (.int .i64 a0)) := cell_of_row _ _ 0 _ 40 (0, 0) hnew
  have P1 : Hid ((w.alloc (.cells #[.int .i64 a0, .slice A1 l1.length c1, .slice A2 l2.length c2, .slice A3 l3.length c3, .int .i64 a4] 40)).cell? ⟨w.heap.size, 1, none⟩ = some (.slice A1 l1.length c1)) := cell_of_row _ _ 1 _ 40 (0, 0) hnew
  have P2 : Hid ((w.alloc (.cells #[.int .i64 a0, .slice A1 l1.length c1, .slice A2 l2.length c2, .slice A3 l3.length c3, .int .i64 a4] 40)).cell? ⟨w.heap.size, 2, none⟩ = some (.slice A2 l2.length c2)) := cell_of_row _ _ 2 _ 40 (0, 0) hnew
  have P3 : Hid ((w.alloc (.cells #[.int .i64 a0, .slice A1 l1.length c1, .slice A2 l2.length c2, .slice A3 l3.length c3, .int .i64 a4] 40)).cell? ⟨w.heap.size, 3, none⟩ = some (.slice A3 l3.length c3)) := cell_of_row _ _ 3 _ 40 (0, 0) hnew
  have P4 : Hid ((w.alloc (.cells #[.int .i64 a0, .slice A1 l1.length c1, .slice A2 l2.length c2, .slice A3 l3.length c3, .int .i64 a4] 40)).cell? ⟨w.heap.size, 4, none⟩ = some (.int .i64 a4)) := cell_of_row _ _ 4 _ 40 (0, 0) hnew
  have R1 := Lib.hid (Kd.C_alloc hr1 (.cells #[.int .i64 a0, .slice A1 l1.length c1, .slice A2 l2.length c2, .slice A3 l3.length c3, .int .i64 a4] 40))
  have R2 := Lib.hid (Kd.C_alloc hr2 (.cells #[.int .i64 a0, .slice A1 l1.length c1, .slice A2 l2.length c2, .slice A3 l3.length c3, .int .i64 a4] 40))
  have R3 := Lib.hid (Kd.C_alloc hr3 (.cells #[.int .i64 a0, .slice A1 l1.length c1, .slice A2 l2.length c2, .slice A3 l3.length c3, .int .i64 a4] 40))
  clear hnew hr1 hr2 hr3
  go_wp2_with fail
  go_at_call 7
  refine (jacquardlaw14_awake.calls fa true _ HFA.out).mono ?_
  rintro e W1 ⟨rfl, hb1⟩
  have P0_ := Lib.hid ((hb1.cell (World.block_lt_of_cell? _ _ P0.out)).trans P0.out)
  clear P0
  have P0 := P0_
  clear P0_
  have P1_ := Lib.hid ((hb1.cell (World.block_lt_of_cell? _ _ P1.out)).trans P1.out)
  clear P1
  have P1 := P1_
  clear P1_
  have P2_ := Lib.hid ((hb1.cell (World.block_lt_of_cell? _ _ P2.out)).trans P2.out)
  clear P2
  have P2 := P2_
  clear P2_
  have P3_ := Lib.hid ((hb1.cell (World.block_lt_of_cell? _ _ P3.out)).trans P3.out)
  clear P3
  have P3 := P3_
  clear P3_
  have P4_ := Lib.hid ((hb1.cell (World.block_lt_of_cell? _ _ P4.out)).trans P4.out)
  clear P4
  have P4 := P4_
  clear P4_
  have R1_ := Lib.hid (Kd.C_below R1.out hb1)
  clear R1
  have R1 := R1_
  clear R1_
  have R2_ := Lib.hid (Kd.C_below R2.out hb1)
  clear R2
  have R2 := R2_
  clear R2_
  have R3_ := Lib.hid (Kd.C_below R3.out hb1)
  clear R3
  have R3 := R3_
  clear R3_
  have B_ := Lib.hid (B.out.trans (hb1.mono B.out.size))
  clear B
  have B := B_
  clear B_
  clear hb1
  have hp0 := P0.out
  go_wp2_with fail
  go_at_call 8
  refine (jacquardlaw14_rest.calls a0 10 n _ HFR.out).mono ?_
  rintro e W2 ⟨rfl, hd2⟩
  have hb2 := drawn_below hd2
  clear hd2
  have P0_ := Lib.hid ((hb2.cell (World.block_lt_of_cell? _ _ P0.out)).trans P0.out)
  clear P0
  have P0 := P0_
  clear P0_
  have P1_ := Lib.hid ((hb2.cell (World.block_lt_of_cell? _ _ P1.out)).trans P1.out)
  clear P1
  have P1 := P1_
  clear P1_
  have P2_ := Lib.hid ((hb2.cell (World.block_lt_of_cell? _ _ P2.out)).trans P2.out)
  clear P2
  have P2 := P2_
  clear P2_
  have P3_ := Lib.hid ((hb2.cell (World.block_lt_of_cell? _ _ P3.out)).trans P3.out)
  clear P3
  have P3 := P3_
  clear P3_
  have P4_ := Lib.hid ((hb2.cell (World.block_lt_of_cell? _ _ P4.out)).trans P4.out)
  clear P4
  have P4 := P4_
  clear P4_
  have R1_ := Lib.hid (Kd.C_below R1.out hb2)
  clear R1
  have R1 := R1_
  clear R1_
  have R2_ := Lib.hid (Kd.C_below R2.out hb2)
  clear R2
  have R2 := R2_
  clear R2_
  have R3_ := Lib.hid (Kd.C_below R3.out hb2)
  clear R3
  have R3 := R3_
  clear R3_
  have B_ := Lib.hid (B.out.trans (hb2.mono B.out.size))
  clear B
  have B := B_
  clear B_
  clear hb2
  clear hp0
  have hp1 := P1.out
  have hp2 := P2.out
  have hp3 := fun o => ((below_alloc (Below.refl _ W2) o).cell (World.block_lt_of_cell? _ _ P3.out)).trans P3.out
  have hp4 := fun o => ((below_alloc (Below.refl _ W2) o).cell (World.block_lt_of_cell? _ _ P4.out)).trans P4.out
  go_wp2_with fail
  clear hp1 hp2 hp3 hp4
  have hnw := heap_alloc_new W2 (.cells #[.slice A1 l1.length c1, .slice A2 l2.length c2] 38)
  have hb3 := below_alloc (Below.refl _ W2) (.cells #[.slice A1 l1.length c1, .slice A2 l2.length c2] 38)
  have S1 : Hid ((W2.alloc (.cells #[.slice A1 l1.length c1, .slice A2 l2.length c2] 38)).cell? ⟨W2.heap.size, 1, none⟩ = some (.slice A2 l2.length c2)) := cell_of_row _ _ 1 _ 38 (0, 0) hnw
  clear hnw
  generalize W2.alloc (.cells #[.slice A1 l1.length c1, .slice A2 l2.length c2] 38) = W3 at hb3 S1 ⊢
  clear P0
  clear P1
  clear P2
  clear P3
  clear P4
  have R1_ := Lib.hid (Kd.C_below R1.out hb3)
  clear R1
  have R1 := R1_
  clear R1_
  have R2_ := Lib.hid (Kd.C_below R2.out hb3)
  clear R2
  have R2 := R2_
  clear R2_
  have R3_ := Lib.hid (Kd.C_below R3.out hb3)
  clear R3
  have R3 := R3_
  clear R3_
  have B_ := Lib.hid (B.out.trans (hb3.mono B.out.size))
  clear B
  have B := B_
  clear B_
  clear hb3
  go_at_call 9
  refine (jacquardref14_Made.calls fe (1 + n) A1 c1 l1 e _ R1.out hc1 HFE.out).mono ?_
  rintro ee W4 ⟨v4, rfl, hR4, hb4⟩
  obtain ⟨AE, cE, rfl⟩ := Kd.R_slice hR4
  obtain ⟨_, hcE, hE⟩ := Kd.R_reads' hR4
  have E := Lib.hid hE
  clear hR4 hE
  have R1_ := Lib.hid (Kd.C_below R1.out hb4)
  clear R1
  have R1 := R1_
  clear R1_
  have R2_ := Lib.hid (Kd.C_below R2.out hb4)
  clear R2
  have R2 := R2_
  clear R2_
  have R3_ := Lib.hid (Kd.C_below R3.out hb4)
  clear R3
  have R3 := R3_
  clear R3_
  have B_ := Lib.hid (B.out.trans (hb4.mono B.out.size))
  clear B
  have B := B_
  clear B_
  have S1_ := Lib.hid ((hb4.cell (World.block_lt_of_cell? _ _ S1.out)).trans S1.out)
  clear S1
  have S1 := S1_
  clear S1_
  clear hb4
  clear R1
  have hs1 := S1.out
  go_wp2_with fail
  go_at_call 9
  refine (jacquardref14_Made.calls fm (1 + n) A2 c2 l2 m _ R2.out hc2 HFM.out).mono ?_
  rintro e W5 ⟨v5, rfl, hR5, hb5⟩
  obtain ⟨AM, cM, rfl⟩ := Kd.R_slice hR5
  obtain ⟨_, hcM, hM⟩ := Kd.R_reads' hR5
  have M := Lib.hid hM
  clear hR5 hM
  have R2_ := Lib.hid (Kd.C_below R2.out hb5)
  clear R2
  have R2 := R2_
  clear R2_
  have R3_ := Lib.hid (Kd.C_below R3.out hb5)
  clear R3
  have R3 := R3_
  clear R3_
  have B_ := Lib.hid (B.out.trans (hb5.mono B.out.size))
  clear B
  have B := B_
  clear B_
  have S1_ := Lib.hid ((hb5.cell (World.block_lt_of_cell? _ _ S1.out)).trans S1.out)
  clear S1
  have S1 := S1_
  clear S1_
  have E_ := Lib.hid (Kd.C_below E.out hb5)
  clear E
  have E := E_
  clear E_
  clear hb5
  clear hs1
  clear R2
  clear S1
  go_wp2_with fail
  go_at_call 8
  refine (jacquardlaw14_rest.calls a4 7 k _ HFR2.out).mono ?_
  rintro e W6 ⟨rfl, hd6⟩
  have hb6 := drawn_below hd6
  clear hd6
  have R3_ := Lib.hid (Kd.C_below R3.out hb6)
  clear R3
  have R3 := R3_
  clear R3_
  have B_ := Lib.hid (B.out.trans (hb6.mono B.out.size))
  clear B
  have B := B_
  clear B_
  have E_ := Lib.hid (Kd.C_below E.out hb6)
  clear E
  have E := E_
  clear E_
  have M_ := Lib.hid (Kd.C_below M.out hb6)
  clear M
  have M := M_
  clear M_
  clear hb6
  go_wp2_with fail
  go_at_call 15
  refine (colour_Merged.calls (1 + n) AE cE e AM cM m k M1 _ E.out hcE M.out hcM HG1.out).mono ?_
  rintro e W7 ⟨v7, rfl, hR7, hb7⟩
  obtain ⟨AXa, cXa, rfl⟩ := Kd.R_slice hR7
  obtain ⟨_, hcXa, hXa⟩ := Kd.R_reads' hR7
  have Xa := Lib.hid hXa
  clear hR7 hXa
  have R3_ := Lib.hid (Kd.C_below R3.out hb7)
  clear R3
  have R3 := R3_
  clear R3_
  have B_ := Lib.hid (B.out.trans (hb7.mono B.out.size))
  clear B
  have B := B_
  clear B_
  have E_ := Lib.hid (Kd.C_below E.out hb7)
  clear E
  have E := E_
  clear E_
  have M_ := Lib.hid (Kd.C_below M.out hb7)
  clear M
  have M := M_
  clear M_
  clear hb7
  go_wp2_with fail
  go_at_call 16
  refine (jacquardref14_Merged.calls q1 (1 + n) AE cE e AM cM m k M1 _ E.out hcE M.out hcM HQ1.out).mono ?_
  rintro e W8 ⟨v8, rfl, hR8, hb8⟩
  obtain ⟨AYa, cYa, rfl⟩ := Kd.R_slice hR8
  obtain ⟨_, hcYa, hYa⟩ := Kd.R_reads' hR8
  have Ya := Lib.hid hYa
  clear hR8 hYa
  have R3_ := Lib.hid (Kd.C_below R3.out hb8)
  clear R3
  have R3 := R3_
  clear R3_
  have B_ := Lib.hid (B.out.trans (hb8.mono B.out.size))
  clear B
  have B := B_
  clear B_
  have E_ := Lib.hid (Kd.C_below E.out hb8)
  clear E
  have E := E_
  clear E_
  have M_ := Lib.hid (Kd.C_below M.out hb8)
  clear M
  have M := M_
  clear M_
  have Xa_ := Lib.hid (Kd.C_below Xa.out hb8)
  clear Xa
  have Xa := Xa_
  clear Xa_
  clear hb8
  go_wp2_with fail
  go_at_call 10
  refine (jacquardref14_Nums.calls o1 AXa cXa M1 AYa cYa M1 true _ Xa.out hcXa Ya.out hcYa HO1.out).mono ?_
  rintro e W9 ⟨rfl, hd9⟩
  have hb9 := drawn_below hd9
  clear hd9
  have R3_ := Lib.hid (Kd.C_below R3.out hb9)
  clear R3
  have R3 := R3_
  clear R3_
  have B_ := Lib.hid (B.out.trans (hb9.mono B.out.size))
  clear B
  have B := B_
  clear B_
  have E_ := Lib.hid (Kd.C_below E.out hb9)
  clear E
  have E := E_
  clear E_
  have M_ := Lib.hid (Kd.C_below M.out hb9)
  clear M
  have M := M_
  clear M_
  have Xa_ := Lib.hid (Kd.C_below Xa.out hb9)
  clear Xa
  have Xa := Xa_
  clear Xa_
  have Ya_ := Lib.hid (Kd.C_below Ya.out hb9)
  clear Ya
  have Ya := Ya_
  clear Ya_
  clear hb9
  clear Xa
  clear Ya
  go_wp2_with fail
  go_at_call 13
  refine (few_calls A3 c3 l3 q HQ.out hc3 _).mono ?_
  rintro e' w' ⟨⟨cf1, hcf1, rfl⟩, rfl⟩
  go_wp2_with fail
  go_at_call 15
  refine (colour_Merged.calls (1 + n) A3 cf1 q AM cM m k M2 _ (C_take 40 R3.out q HQ.out) hcf1 M.out hcM HG2.out).mono ?_
  rintro e W10 ⟨v10, rfl, hR10, hb10⟩
  obtain ⟨AXb, cXb, rfl⟩ := Kd.R_slice hR10
  obtain ⟨_, hcXb, hXb⟩ := Kd.R_reads' hR10
  have Xb := Lib.hid hXb
  clear hR10 hXb
  have R3_ := Lib.hid (Kd.C_below R3.out hb10)
  clear R3
  have R3 := R3_
  clear R3_
  have B_ := Lib.hid (B.out.trans (hb10.mono B.out.size))
  clear B
  have B := B_
  clear B_
  have E_ := Lib.hid (Kd.C_below E.out hb10)
  clear E
  have E := E_
  clear E_
  have M_ := Lib.hid (Kd.C_below M.out hb10)
  clear M
  have M := M_
  clear M_
  clear hb10
  go_wp2_with fail
  go_at_call 13
  refine (few_calls A3 c3 l3 q HQ.out hc3 _).mono ?_
  rintro e' w' ⟨⟨cf2, hcf2, rfl⟩, rfl⟩
  go_wp2_with fail
  go_at_call 16
  refine (jacquardref14_Merged.calls q2 (1 + n) A3 cf2 q AM cM m k M2 _ (C_take 40 R3.out q HQ.out) hcf2 M.out hcM HQ2.out).mono ?_
  rintro e W11 ⟨v11, rfl, hR11, hb11⟩
  obtain ⟨AYb, cYb, rfl⟩ := Kd.R_slice hR11
  obtain ⟨_, hcYb, hYb⟩ := Kd.R_reads' hR11
  have Yb := Lib.hid hYb
  clear hR11 hYb
  have R3_ := Lib.hid (Kd.C_below R3.out hb11)
  clear R3
  have R3 := R3_
  clear R3_
  have B_ := Lib.hid (B.out.trans (hb11.mono B.out.size))
  clear B
  have B := B_
  clear B_
  have E_ := Lib.hid (Kd.C_below E.out hb11)
  clear E
  have E := E_
  clear E_
  have M_ := Lib.hid (Kd.C_below M.out hb11)
  clear M
  have M := M_
  clear M_
  have Xb_ := Lib.hid (Kd.C_below Xb.out hb11)
  clear Xb
  have Xb := Xb_
  clear Xb_
  clear hb11
  go_wp2_with fail
  go_at_call 10
  refine (jacquardref14_Nums.calls o2 AXb cXb M2 AYb cYb M2 true _ Xb.out hcXb Yb.out hcYb HO2.out).mono ?_
  rintro e W12 ⟨rfl, hd12⟩
  have hb12 := drawn_below hd12
  clear hd12
  have R3_ := Lib.hid (Kd.C_below R3.out hb12)
  clear R3
  have R3 := R3_
  clear R3_
  have B_ := Lib.hid (B.out.trans (hb12.mono B.out.size))
  clear B
  have B := B_
  clear B_
  have E_ := Lib.hid (Kd.C_below E.out hb12)
  clear E
  have E := E_
  clear E_
  have M_ := Lib.hid (Kd.C_below M.out hb12)
  clear M
  have M := M_
  clear M_
  have Xb_ := Lib.hid (Kd.C_below Xb.out hb12)
  clear Xb
  have Xb := Xb_
  clear Xb_
  have Yb_ := Lib.hid (Kd.C_below Yb.out hb12)
  clear Yb
  have Yb := Yb_
  clear Yb_
  clear hb12
  clear Xb
  clear Yb
  go_wp2_with fail
  go_at_call 13
  refine (few_calls A3 c3 l3 q HQ.out hc3 _).mono ?_
  rintro e' w' ⟨⟨cf3, hcf3, rfl⟩, rfl⟩
  go_wp2_with fail
  go_at_call 15
  refine (colour_Merged.calls (1 + n) AE cE e A3 cf3 q k M3 _ E.out hcE (C_take 40 R3.out q HQ.out) hcf3 HG3.out).mono ?_
  rintro e W13 ⟨v13, rfl, hR13, hb13⟩
  obtain ⟨AXc, cXc, rfl⟩ := Kd.R_slice hR13
  obtain ⟨_, hcXc, hXc⟩ := Kd.R_reads' hR13
  have Xc := Lib.hid hXc
  clear hR13 hXc
  have R3_ := Lib.hid (Kd.C_below R3.out hb13)
  clear R3
  have R3 := R3_
  clear R3_
  have B_ := Lib.hid (B.out.trans (hb13.mono B.out.size))
  clear B
  have B := B_
  clear B_
  have E_ := Lib.hid (Kd.C_below E.out hb13)
  clear E
  have E := E_
  clear E_
  have M_ := Lib.hid (Kd.C_below M.out hb13)
  clear M
  have M := M_
  clear M_
  clear hb13
  go_wp2_with fail
  go_at_call 13
  refine (few_calls A3 c3 l3 q HQ.out hc3 _).mono ?_
  rintro e' w' ⟨⟨cf4, hcf4, rfl⟩, rfl⟩
  go_wp2_with fail
  go_at_call 16
  refine (jacquardref14_Merged.calls q3 (1 + n) AE cE e A3 cf4 q k M3 _ E.out hcE (C_take 40 R3.out q HQ.out) hcf4 HQ3.out).mono ?_
  rintro e W14 ⟨v14, rfl, hR14, hb14⟩
  obtain ⟨AYc, cYc, rfl⟩ := Kd.R_slice hR14
  obtain ⟨_, hcYc, hYc⟩ := Kd.R_reads' hR14
  have Yc := Lib.hid hYc
  clear hR14 hYc
  have R3_ := Lib.hid (Kd.C_below R3.out hb14)
  clear R3
  have R3 := R3_
  clear R3_
  have B_ := Lib.hid (B.out.trans (hb14.mono B.out.size))
  clear B
  have B := B_
  clear B_
  have E_ := Lib.hid (Kd.C_below E.out hb14)
  clear E
  have E := E_
  clear E_
  have M_ := Lib.hid (Kd.C_below M.out hb14)
  clear M
  have M := M_
  clear M_
  have Xc_ := Lib.hid (Kd.C_below Xc.out hb14)
  clear Xc
  have Xc := Xc_
  clear Xc_
  clear hb14
  go_wp2_with fail
  go_at_call 10
  refine (jacquardref14_Nums.calls o3 AXc cXc M3 AYc cYc M3 true _ Xc.out hcXc Yc.out hcYc HO3.out).mono ?_
  rintro e W15 ⟨rfl, hd15⟩
  have hb15 := drawn_below hd15
  clear hd15
  have R3_ := Lib.hid (Kd.C_below R3.out hb15)
  clear R3
  have R3 := R3_
  clear R3_
  have B_ := Lib.hid (B.out.trans (hb15.mono B.out.size))
  clear B
  have B := B_
  clear B_
  have E_ := Lib.hid (Kd.C_below E.out hb15)
  clear E
  have E := E_
  clear E_
  have M_ := Lib.hid (Kd.C_below M.out hb15)
  clear M
  have M := M_
  clear M_
  have Xc_ := Lib.hid (Kd.C_below Xc.out hb15)
  clear Xc
  have Xc := Xc_
  clear Xc_
  have Yc_ := Lib.hid (Kd.C_below Yc.out hb15)
  clear Yc
  have Yc := Yc_
  clear Yc_
  clear hb15
  clear Xc
  clear Yc
  go_wp2_with fail
  go_at_call 15
  refine (colour_Merged.calls (-(1 + n)) AE cE e AM cM m k [] _ E.out hcE M.out hcM HG4.out).mono ?_
  rintro e W16 ⟨v16, rfl, hR16, hb16⟩
  obtain ⟨AZ, cZ, rfl⟩ := Kd.R_slice hR16
  obtain ⟨_, hcZ, hZ⟩ := Kd.R_reads' hR16
  have Z := Lib.hid hZ
  clear hR16 hZ
  have R3_ := Lib.hid (Kd.C_below R3.out hb16)
  clear R3
  have R3 := R3_
  clear R3_
  have B_ := Lib.hid (B.out.trans (hb16.mono B.out.size))
  clear B
  have B := B_
  clear B_
  have E_ := Lib.hid (Kd.C_below E.out hb16)
  clear E
  have E := E_
  clear E_
  have M_ := Lib.hid (Kd.C_below M.out hb16)
  clear M
  have M := M_
  clear M_
  clear hb16
  go_wp2_with fail
  go_ret
  exact ⟨rfl, B.out⟩
end Go.Proofs.YtgdmdgkfababeaaEv
