-- Written by a program of this session (wip/patchprint.py turns a copy of the kit's print); Lean checks it.
import Derived.Test.YtgdmdgkfababeaaM0
namespace Go.Proofs.Ytgdmdgkfababeaa.M
open Go.RowKit Go.Proofs.YtgdmdgkfababeaaW.PrintWords Go.Proofs.YtgdmdgkfababeaaW.PrintLast Go.Proofs.YtgdmdgkfababeaaW.PrintMore
attribute [local go_sem] max2_int min2_int max_two min_two max_three min_three max_four min_four   -- for this text's walks alone
set_option linter.unusedVariables false
set_option linter.unusedSimpArgs false

/-! ### jacquardref14_Table: function 14 -/
mutual
def jacquardref14_Table.l0 : Nat → Int → List (S44) → List (List Bool) → Int → Option ((List (List Bool)))
  | 0, _, _, _, _ => none
  | k + 1, x0, x1, x5, x6 => if x6 < x0 then (if 0 ≤ x0 then (if (x0 : Int).toNat ≤ 281474976710656 then (if x5.length < 5864062014805 then (jacquardref14_Table.l0 k x0 x1 (x5 ++ [(List.replicate (x0 : Int).toNat false)]) (wrap64 (x6 + 1))) else (none)) else (none)) else (none)) else (jacquardref14_Table.l1 k x0 x1 x5 0)
def jacquardref14_Table.l1 : Nat → Int → List (S44) → List (List Bool) → Int → Option ((List (List Bool)))
  | 0, _, _, _, _ => none
  | k + 1, x0, x1, x5, x7 => if x7 < (x1.length : Int) then (if 0 ≤ x7 then (if ((rd_T44 x1 x7).f0) ≥ 0 then (if ((rd_T44 x1 x7).f0) < x0 then (if ((rd_T44 x1 x7).f1) ≥ 0 then (if ((rd_T44 x1 x7).f1) < x0 then (if ((rd_T44 x1 x7).f0) = ((rd_T44 x1 x7).f1) then (jacquardref14_Table.l1 k x0 x1 x5 (wrap64 (x7 + 1))) else (if 0 ≤ ((rd_T44 x1 x7).f0) then (if ((rd_T44 x1 x7).f0) < (x5.length : Int) then (if 0 ≤ ((rd_T44 x1 x7).f1) then (if ((rd_T44 x1 x7).f1) < ((rd_L5 x5 ((rd_T44 x1 x7).f0)).length : Int) then ((some (x5.set (((rd_T44 x1 x7).f0) : Int).toNat ((rd_L5 x5 ((rd_T44 x1 x7).f0)).set (((rd_T44 x1 x7).f1) : Int).toNat true) : List (List Bool))).bind fun y149 => (if ((rd_T44 x1 x7).f1) < (x5.length : Int) then (if ((rd_T44 x1 x7).f0) < ((rd_L5 y149 ((rd_T44 x1 x7).f1)).length : Int) then (jacquardref14_Table.l1 k x0 x1 (y149.set (((rd_T44 x1 x7).f1) : Int).toNat ((rd_L5 y149 ((rd_T44 x1 x7).f1)).set (((rd_T44 x1 x7).f0) : Int).toNat true)) (wrap64 (x7 + 1))) else (none)) else (none))) else (none)) else (none)) else (none)) else (none))) else (jacquardref14_Table.l1 k x0 x1 x5 (wrap64 (x7 + 1)))) else (jacquardref14_Table.l1 k x0 x1 x5 (wrap64 (x7 + 1)))) else (jacquardref14_Table.l1 k x0 x1 x5 (wrap64 (x7 + 1)))) else (jacquardref14_Table.l1 k x0 x1 x5 (wrap64 (x7 + 1)))) else (none)) else (some x5)
end
def jacquardref14_Table.f (k : Nat) (a0 : Int) (l1 : List (S44)) : Option ((List (List Bool))) := jacquardref14_Table.l0 k a0 l1 ([] : List (List Bool)) 0
theorem jacquardref14_Table.mono_l : ∀ k, (∀ y0 y1 y2 y3, LeO (jacquardref14_Table.l0 k y0 y1 y2 y3) (jacquardref14_Table.l0 (k + 1) y0 y1 y2 y3)) ∧ (∀ y0 y1 y2 y3, LeO (jacquardref14_Table.l1 k y0 y1 y2 y3) (jacquardref14_Table.l1 (k + 1) y0 y1 y2 y3))
  | 0 => ⟨fun _ _ _ _ r h => by simp [jacquardref14_Table.l0] at h, fun _ _ _ _ r h => by simp [jacquardref14_Table.l1] at h⟩
  | k + 1 => by
    obtain ⟨ih0, ih1⟩ := jacquardref14_Table.mono_l k
    refine ⟨?_, ?_⟩
    · intro y0 y1 y2 y3
      unfold jacquardref14_Table.l0
      repeat' first
      | (with_reducible exact ih0 _ _ _ _)
      | (with_reducible exact ih1 _ _ _ _)
      | (with_reducible exact LeO.refl _)
      | (with_reducible exact LeO.none _)
      | (with_reducible refine LeO.ite ?_ ?_)
      | (with_reducible refine LeO.bind ?_ (fun _ => ?_))
      | exact ih0 _ _ _ _
      | exact ih1 _ _ _ _
      | exact LeO.none _
      | refine LeO.ite ?_ ?_
      | refine LeO.bind ?_ (fun _ => ?_)
    · intro y0 y1 y2 y3
      unfold jacquardref14_Table.l1
      repeat' first
      | (with_reducible exact ih0 _ _ _ _)
      | (with_reducible exact ih1 _ _ _ _)
      | (with_reducible exact LeO.refl _)
      | (with_reducible exact LeO.none _)
      | (with_reducible refine LeO.ite ?_ ?_)
      | (with_reducible refine LeO.bind ?_ (fun _ => ?_))
      | exact ih0 _ _ _ _
      | exact ih1 _ _ _ _
      | exact LeO.none _
      | refine LeO.ite ?_ ?_
      | refine LeO.bind ?_ (fun _ => ?_)
theorem jacquardref14_Table.mono : ∀ a0 a1 k, LeO (jacquardref14_Table.f k a0 a1) (jacquardref14_Table.f (k + 1) a0 a1) := by
  intro a0 a1 k
  obtain ⟨ih0, ih1⟩ := jacquardref14_Table.mono_l k
  unfold jacquardref14_Table.f
  repeat' first
      | (with_reducible exact ih0 _ _ _ _)
      | (with_reducible exact ih1 _ _ _ _)
      | (with_reducible exact LeO.refl _)
      | (with_reducible exact LeO.none _)
      | (with_reducible refine LeO.ite ?_ ?_)
      | (with_reducible refine LeO.bind ?_ (fun _ => ?_))
      | exact ih0 _ _ _ _
      | exact ih1 _ _ _ _
      | exact LeO.none _
      | refine LeO.ite ?_ ?_
      | refine LeO.bind ?_ (fun _ => ?_)
set_option maxHeartbeats 8000000 in
set_option maxRecDepth 100000 in
theorem jacquardref14_Table.calls (k : Nat) (a0 : Int) (A1 : Option Addr) (c1 : Nat) (l1 : List (S44)) (r : List (List Bool)) (w : World) (hr1 : Kd.C k44 w A1 l1.length l1) (hc1 : l1.length ≤ c1) (h : jacquardref14_Table.f k a0 l1 = some r) :
    Calls Try.prog 14 #[.int .i64 a0, .slice A1 l1.length c1] w fun e w' => ∃ v0_ : Value, e = .returned (v0_) ∧ Kd.S (Kd.slice 4 Kd.bool) 36 w' w.heap.size (fun _ => True) v0_ r ∧ Below w.heap.size w w' := by
  have HR1 := Aside0.mk hr1
  have HC1 := Aside0.mk hc1
  clear hr1 hc1
  have HB := Aside0.mk (Below.refl w.heap.size w)
  have H : (jacquardref14_Table.l0 k a0 l1 ([] : List (List Bool)) 0) = some r := h
  clear h
  have H' := Aside0.mk H
  clear H
  go_enter Try.func14, Try.ntmps14
  go_wp2
  go_loopg [5, 6] k (fun kq v5 v6 w' => ∃ (x5_1 : List (List Bool)) (x6_1 : Int), v6 = .int .i64 x6_1 ∧ Aside0 (jacquardref14_Table.l0 kq a0 l1 x5_1 x6_1 = some r) ∧ Aside0 (kq ≤ k) ∧ Aside0 (Kd.S (Kd.slice 4 Kd.bool) 36 w' w.heap.size (fun _ => True) v5 x5_1) ∧ Aside0 (Below w.heap.size w w'))
  case atStart => exact ⟨(([] : List (List Bool))), (0), (by first | rfl | (simp; done) | (simp [*]; done)), H', ⟨Nat.le_refl _⟩, ⟨by first | exact Kd.S_nil _ _ _ _ _ | exact Kd.N_nil _ _ _ _ _ | exact Kd.V_nil _ _ _ _ _ | exact Kd.Q_nil _ _ _ _ _ | exact Kd.R_nil _ _ _ _ _⟩, ⟨by repeat (first | (with_reducible first | exact HB.out | apply below_alloc | apply pw_below_drewN | apply below_drew1) | exact HB.out)⟩⟩
  case round =>
    clear H'
    try clear c1
    try clear p2
    obtain ⟨x5_1, x6_1, rfl, HA, HK1, HO_5, HB⟩ := hrel
    cases gk with
    | zero => exact absurd HA.out (by simp [jacquardref14_Table.l0])
    | succ k1 =>
      have H := HA.out
      clear HA
      simp only [jacquardref14_Table.l0] at H
      by_cases c3 : x6_1 < a0
      · rw [if_pos c3] at H
        have c3b0 : decide (x6_1 < a0) = true := decide_eq_true c3
        clear c3
        by_cases c4 : 0 ≤ a0
        · rw [if_pos c4] at H
          have c4b0 := eq_true c4
          have c4b1 : decide (0 ≤ a0) = true := decide_eq_true c4
          clear c4
          by_cases c5 : (a0 : Int).toNat ≤ 281474976710656
          · rw [if_pos c5] at H
            have c5b0 := eq_true c5
            have c5b1 : decide ((a0 : Int).toNat ≤ 281474976710656) = true := decide_eq_true c5
            clear c5
            obtain ⟨y138, hy138⟩ : ∃ y_ : List Bool, y_ = (List.replicate (a0 : Int).toNat false) := ⟨_, rfl⟩
            replace H : (if x5_1.length < 5864062014805 then (jacquardref14_Table.l0 k1 a0 l1 (x5_1 ++ [y138]) (wrap64 (x6_1 + 1))) else (none)) = some r := by first | (rw [hy138]; with_reducible exact H) | (have H2_ := (Option.bind_some _ _).symm.trans H; rw [hy138]; with_reducible exact H2_) | (have H2_ := (Option.bind_some _ _).symm.trans H; with_reducible exact H2_) | with_reducible exact H | (rw [hy138]; exact H) | exact H
            have Ny138 := Aside0.mk hy138
            clear hy138
            by_cases c6 : x5_1.length < 5864062014805
            · rw [if_pos c6] at H
              have LMc6 := Aside0.mk c6
              clear c6
              obtain ⟨y141, hy141⟩ : ∃ y_ : List (List Bool), y_ = (x5_1 ++ [y138]) := ⟨_, rfl⟩
              replace H : (jacquardref14_Table.l0 k1 a0 l1 y141 (wrap64 (x6_1 + 1))) = some r := by first | (rw [hy141]; with_reducible exact H) | (have H2_ := (Option.bind_some _ _).symm.trans H; rw [hy141]; with_reducible exact H2_) | (have H2_ := (Option.bind_some _ _).symm.trans H; with_reducible exact H2_) | with_reducible exact H | (rw [hy141]; exact H) | exact H
              have Ny141 := Aside0.mk hy141
              clear hy141
              have H' := Aside0.mk H
              clear H
              go_wp2_with (first | ((with_reducible refine gate_dst (N := 17) rfl ?_); refine Kd.R_make Kd.bool _ 4 rfl (N := 17) rfl 36 _ _ rfl a0 rfl rfl Try.underlying36 (.bool false) 1 info4 rfl (by decide) (by omega) false (ok := fun _ => True) (okp := fun _ => True) rfl (fun _ hk => hk) trivial (of_decide_eq_true (by first | (with_reducible assumption) | assumption)) (Nat.le_trans (Nat.mul_le_mul_right _ (of_decide_eq_true (by first | (with_reducible assumption) | assumption) : a0.toNat ≤ 281474976710656)) (by omega)) (Below.refl _ _) (Nat.le_refl _) ?_; intro v139 w7 ho8 hb hg_ hnew_; clear hg_ hnew_; (first | rw [← Ny138.out] at ho8 | (simp only [Int.reduceToNat] at ho8; rw [← Ny138.out] at ho8)); have n0_ := Aside0.mk (Kd.S_elder' (by (with_reducible repeat (first | apply Kd.S_alloc | apply Kd.S_drewN | apply Kd.S_drew)); exact HO_5.out) (Kd.R_base ho8) hb); have n1_ := Aside0.mk (Kd.R_lower ho8 (below_size (by repeat (first | (with_reducible first | exact HB.out | apply below_alloc | apply pw_below_drewN | apply below_drew1) | exact HB.out)))); have n2_ := Aside0.mk (below_step (by repeat (first | (with_reducible first | exact HB.out | apply below_alloc | apply pw_below_drewN | apply below_drew1) | exact HB.out)) hb); clear HO_5; clear HB; have HO_5 := n0_; have HO140 := n1_; have HB := n2_; clear n0_ n1_ n2_; clear hb ho8; obtain ⟨Ao10, co10, eo10⟩ := Kd.R_slice HO140.out; subst eo10) | ((with_reducible refine gate_builtin (b := .append) (xs := #[.tmp 15, .tmp 18]) rfl ?_); at_builtin; refine Kd.S_append (Kd.slice 4 Kd.bool) (w0 := w) w.heap.size rfl (.tmp 15) (.tmp 18) 33 36 (.slice none 0 0) 24 rfl Try.underlying33 info36 rfl (by decide) (by omega) u5 x5_1 y138 [.slice Ao10 y138.length co10] (fun _ => True) (fun k_ => some k_ = (.slice Ao10 y138.length co10 : Value).ownBlock) rfl rfl ?aP (fun k_ hk_ => ((Kd.R_mono (ok' := fun k_ => ((fun _ => True)) k_ ∧ some k_ ≠ (u5 : Value).ownBlock) (Kd.R_apart' (HO140.out) (Kd.S_typed HO_5.out) (by decide)) (fun k_ hk => ⟨trivial, hk.2⟩))).1 k_ hk_.symm) ?aF ?aO ?aB ?aS ?aL ?_; (case aP => exact Kd.M_row (Kd.R_mono (Kd.R_tight rfl (Kd.R_mono (ok' := fun k_ => ((fun _ => True)) k_ ∧ some k_ ≠ (u5 : Value).ownBlock) (Kd.R_apart' (HO140.out) (Kd.S_typed HO_5.out) (by decide)) (fun k_ hk => ⟨trivial, hk.2⟩))) (fun _ h_ => h_))); (case aB => exact (by repeat (first | (with_reducible first | exact HB.out | apply below_alloc | apply pw_below_drewN | apply below_drew1) | exact HB.out))); (case aF => exact (fun _ _ => trivial)); (case aO => exact (by (with_reducible repeat (first | apply Kd.S_alloc | apply Kd.S_drewN | apply Kd.S_drew)); exact Kd.S_mono HO_5.out (fun k_ hk => ⟨trivial, fun e_ => hk.2 e_⟩))); (case aS => exact (below_size (by repeat (first | (with_reducible first | exact HB.out | apply below_alloc | apply pw_below_drewN | apply below_drew1) | exact HB.out)))); (case aL => have := LMc6.out; omega); intro v142 w9 ho hb hg hat; rw [← Ny141.out] at ho; have n0_ := Aside0.mk (hb); have n1_ := Aside0.mk (ho); clear HB; clear HO_5; clear HO140; have HB := n0_; have HO143 := n1_; clear n0_ n1_; clear ho hb hg hat))
              go_roundg k1
              case measure => have := HK1.out; omega
              case rel => exact ⟨(y141), (wrap64 (x6_1 + 1)), (by first | rfl | (simp; done) | (simp [*]; done)), H', ⟨by have := HK1.out; omega⟩, ⟨by (with_reducible repeat (first | apply Kd.S_alloc | apply Kd.S_drewN | apply Kd.S_drew)); exact HO143.out⟩, ⟨by repeat (first | (with_reducible first | exact HB.out | apply below_alloc | apply pw_below_drewN | apply below_drew1) | exact HB.out)⟩⟩
            · rw [if_neg c6] at H
              exact absurd H (by simp)
          · rw [if_neg c5] at H
            exact absurd H (by simp)
        · rw [if_neg c4] at H
          exact absurd H (by simp)
      · rw [if_neg c3] at H
        have c3b0 : decide (x6_1 < a0) = false := decide_eq_false c3
        clear c3
        have H' := Aside0.mk H
        clear H
        go_wp2
        go_loopg [7] k1 (fun kq v7 w' => ∃ (x5_2 : List (List Bool)) (x7_2 : Int), v7 = .int .i64 x7_2 ∧ Aside0 (jacquardref14_Table.l1 kq a0 l1 x5_2 x7_2 = some r) ∧ Aside0 (kq ≤ k1) ∧ Aside0 (Kd.S (Kd.slice 4 Kd.bool) 36 w' w.heap.size (fun _ => True) u5 x5_2) ∧ Aside0 (Below w.heap.size w w'))
        case atStart => exact ⟨(x5_1), (0), (by first | rfl | (simp; done) | (simp [*]; done)), H', ⟨Nat.le_refl _⟩, ⟨by (with_reducible repeat (first | apply Kd.S_alloc | apply Kd.S_drewN | apply Kd.S_drew)); exact HO_5.out⟩, ⟨by repeat (first | (with_reducible first | exact HB.out | apply below_alloc | apply pw_below_drewN | apply below_drew1) | exact HB.out)⟩⟩
        case round =>
          clear H'
          try clear c1
          try clear p2
          try clear c3
          try clear c3b0
          try clear c4
          try clear c4b0
          try clear c4b1
          try clear c5
          try clear c5b0
          try clear c5b1
          try clear c6
          try clear p6
          try clear p2
          obtain ⟨x5_2, x7_2, rfl, HA, HK2, HO_5, HB⟩ := hrel
          cases gk with
          | zero => exact absurd HA.out (by simp [jacquardref14_Table.l1])
          | succ k2 =>
            have H := HA.out
            clear HA
            simp only [jacquardref14_Table.l1] at H
            by_cases c11 : x7_2 < (l1.length : Int)
            · rw [if_pos c11] at H
              have c11b0 : decide (x7_2 < (l1.length : Int)) = true := decide_eq_true c11
              clear c11
              by_cases c12 : 0 ≤ x7_2
              · rw [if_pos c12] at H
                have c12b0 : decide (0 ≤ x7_2) = true := decide_eq_true c12
                clear c12
                by_cases c13 : ((rd_T44 l1 x7_2).f0) ≥ 0
                · rw [if_pos c13] at H
                  have c13b0 : decide (0 ≤ ((rd_T44 l1 x7_2).f0)) = true := decide_eq_true c13
                  clear c13
                  by_cases c14 : ((rd_T44 l1 x7_2).f0) < a0
                  · rw [if_pos c14] at H
                    have c14b0 : decide (((rd_T44 l1 x7_2).f0) < a0) = true := decide_eq_true c14
                    clear c14
                    by_cases c15 : ((rd_T44 l1 x7_2).f1) ≥ 0
                    · rw [if_pos c15] at H
                      have c15b0 : decide (0 ≤ ((rd_T44 l1 x7_2).f1)) = true := decide_eq_true c15
                      clear c15
                      by_cases c16 : ((rd_T44 l1 x7_2).f1) < a0
                      · rw [if_pos c16] at H
                        have c16b0 : decide (((rd_T44 l1 x7_2).f1) < a0) = true := decide_eq_true c16
                        clear c16
                        by_cases c17 : ((rd_T44 l1 x7_2).f0) = ((rd_T44 l1 x7_2).f1)
                        · rw [if_pos c17] at H
                          have c17b0 : (((rd_T44 l1 x7_2).f0) == ((rd_T44 l1 x7_2).f1)) = true := beq_iff_eq.mpr c17
                          have c17b1 : (((rd_T44 l1 x7_2).f0) != ((rd_T44 l1 x7_2).f1)) = false := bne_eq_false_iff_eq.mpr c17
                          clear c17
                          have H' := Aside0.mk H
                          clear H
                          have p144 : 0 ≤ (x7_2 : Int) := of_decide_eq_true (by first | (with_reducible assumption) | assumption)
                          have q144 : x7_2 < (l1.length : Int) := of_decide_eq_true (by first | (with_reducible assumption) | assumption)
                          obtain ⟨ad144, e144, hx144_0, hx144_1⟩ := at_T44 HR1.out x7_2 p144 q144
                          cases e144
                          replace hx144_0 := (HB.out.cell (World.block_lt_of_cell? w _ hx144_0)).trans hx144_0
                          replace hx144_1 := (HB.out.cell (World.block_lt_of_cell? w _ hx144_1)).trans hx144_1
                          replace p144 := eq_true p144
                          replace q144 := eq_true q144
                          have p145 : 0 ≤ (x7_2 : Int) := of_decide_eq_true (by first | (with_reducible assumption) | assumption)
                          have q145 : x7_2 < (l1.length : Int) := of_decide_eq_true (by first | (with_reducible assumption) | assumption)
                          obtain ⟨ad145, e145, hx145_0, hx145_1⟩ := at_T44 HR1.out x7_2 p145 q145
                          obtain rfl : ad144 = ad145 := (by injection e145)
                          replace hx145_0 := (HB.out.cell (World.block_lt_of_cell? w _ hx145_0)).trans hx145_0
                          replace hx145_1 := (HB.out.cell (World.block_lt_of_cell? w _ hx145_1)).trans hx145_1
                          replace p145 := eq_true p145
                          replace q145 := eq_true q145
                          go_wp2
                          go_roundg k2
                          case measure => have := HK1.out; have := HK2.out; omega
                          case rel => exact ⟨(x5_2), (wrap64 (x7_2 + 1)), (by first | rfl | (simp; done) | (simp [*]; done)), H', ⟨by have := HK1.out; have := HK2.out; omega⟩, ⟨by (with_reducible repeat (first | apply Kd.S_alloc | apply Kd.S_drewN | apply Kd.S_drew)); exact HO_5.out⟩, ⟨by repeat (first | (with_reducible first | exact HB.out | apply below_alloc | apply pw_below_drewN | apply below_drew1) | exact HB.out)⟩⟩
                        · rw [if_neg c17] at H
                          have c17b0 : (((rd_T44 l1 x7_2).f0) == ((rd_T44 l1 x7_2).f1)) = false := beq_eq_false_iff_ne.mpr c17
                          have c17b1 : (((rd_T44 l1 x7_2).f0) != ((rd_T44 l1 x7_2).f1)) = true := bne_iff_ne.mpr c17
                          by_cases c18 : 0 ≤ ((rd_T44 l1 x7_2).f0)
                          · rw [if_pos c18] at H
                            have c18b0 : decide (0 ≤ ((rd_T44 l1 x7_2).f0)) = true := decide_eq_true c18
                            clear c18
                            by_cases c19 : ((rd_T44 l1 x7_2).f0) < (x5_2.length : Int)
                            · rw [if_pos c19] at H
                              have c19b0 : decide (((rd_T44 l1 x7_2).f0) < (x5_2.length : Int)) = true := decide_eq_true c19
                              clear c19
                              by_cases c20 : 0 ≤ ((rd_T44 l1 x7_2).f1)
                              · rw [if_pos c20] at H
                                have c20b0 : decide (0 ≤ ((rd_T44 l1 x7_2).f1)) = true := decide_eq_true c20
                                clear c20
                                by_cases c21 : ((rd_T44 l1 x7_2).f1) < ((rd_L5 x5_2 ((rd_T44 l1 x7_2).f0)).length : Int)
                                · rw [if_pos c21] at H
                                  have c21b0 : decide (((rd_T44 l1 x7_2).f1) < ((rd_L5 x5_2 ((rd_T44 l1 x7_2).f0)).length : Int)) = true := decide_eq_true c21
                                  clear c21
                                  obtain ⟨y147, hy147⟩ : ∃ y_ : List Bool, y_ = ((rd_L5 x5_2 ((rd_T44 l1 x7_2).f0)).set (((rd_T44 l1 x7_2).f1) : Int).toNat true) := ⟨_, rfl⟩
                                  replace H : ((some (x5_2.set (((rd_T44 l1 x7_2).f0) : Int).toNat y147 : List (List Bool))).bind fun y149 => (if ((rd_T44 l1 x7_2).f1) < (x5_2.length : Int) then (if ((rd_T44 l1 x7_2).f0) < ((rd_L5 y149 ((rd_T44 l1 x7_2).f1)).length : Int) then (jacquardref14_Table.l1 k2 a0 l1 (y149.set (((rd_T44 l1 x7_2).f1) : Int).toNat ((rd_L5 y149 ((rd_T44 l1 x7_2).f1)).set (((rd_T44 l1 x7_2).f0) : Int).toNat true)) (wrap64 (x7_2 + 1))) else (none)) else (none))) = some r := by first | (rw [hy147]; with_reducible exact H) | (have H2_ := (Option.bind_some _ _).symm.trans H; rw [hy147]; with_reducible exact H2_) | (have H2_ := (Option.bind_some _ _).symm.trans H; with_reducible exact H2_) | with_reducible exact H | (rw [hy147]; exact H) | exact H
                                  have Ny147 := Aside0.mk hy147
                                  clear hy147
                                  obtain ⟨y149, hy149⟩ : ∃ y_ : List (List Bool), y_ = (x5_2.set (((rd_T44 l1 x7_2).f0) : Int).toNat y147) := ⟨_, rfl⟩
                                  replace H : (if ((rd_T44 l1 x7_2).f1) < (x5_2.length : Int) then (if ((rd_T44 l1 x7_2).f0) < ((rd_L5 y149 ((rd_T44 l1 x7_2).f1)).length : Int) then (jacquardref14_Table.l1 k2 a0 l1 (y149.set (((rd_T44 l1 x7_2).f1) : Int).toNat ((rd_L5 y149 ((rd_T44 l1 x7_2).f1)).set (((rd_T44 l1 x7_2).f0) : Int).toNat true)) (wrap64 (x7_2 + 1))) else (none)) else (none)) = some r := by first | (rw [hy149]; with_reducible exact H) | (have H2_ := (Option.bind_some _ _).symm.trans H; rw [hy149]; with_reducible exact H2_) | (have H2_ := (Option.bind_some _ _).symm.trans H; with_reducible exact H2_) | with_reducible exact H | (rw [hy149]; exact H) | exact H
                                  have Ny149 := Aside0.mk hy149
                                  clear hy149
                                  by_cases c23 : ((rd_T44 l1 x7_2).f1) < (x5_2.length : Int)
                                  · rw [if_pos c23] at H
                                    have c23b0 : decide (((rd_T44 l1 x7_2).f1) < (x5_2.length : Int)) = true := decide_eq_true c23
                                    clear c23
                                    by_cases c24 : ((rd_T44 l1 x7_2).f0) < ((rd_L5 y149 ((rd_T44 l1 x7_2).f1)).length : Int)
                                    · rw [if_pos c24] at H
                                      have c24b0 : decide (((rd_T44 l1 x7_2).f0) < ((rd_L5 y149 ((rd_T44 l1 x7_2).f1)).length : Int)) = true := decide_eq_true c24
                                      clear c24
                                      obtain ⟨y151, hy151⟩ : ∃ y_ : List Bool, y_ = ((rd_L5 y149 ((rd_T44 l1 x7_2).f1)).set (((rd_T44 l1 x7_2).f0) : Int).toNat true) := ⟨_, rfl⟩
                                      replace H : (jacquardref14_Table.l1 k2 a0 l1 (y149.set (((rd_T44 l1 x7_2).f1) : Int).toNat y151) (wrap64 (x7_2 + 1))) = some r := by first | (rw [hy151]; with_reducible exact H) | (have H2_ := (Option.bind_some _ _).symm.trans H; rw [hy151]; with_reducible exact H2_) | (have H2_ := (Option.bind_some _ _).symm.trans H; with_reducible exact H2_) | with_reducible exact H | (rw [hy151]; exact H) | exact H
                                      have Ny151 := Aside0.mk hy151
                                      clear hy151
                                      obtain ⟨y153, hy153⟩ : ∃ y_ : List (List Bool), y_ = (y149.set (((rd_T44 l1 x7_2).f1) : Int).toNat y151) := ⟨_, rfl⟩
                                      replace H : (jacquardref14_Table.l1 k2 a0 l1 y153 (wrap64 (x7_2 + 1))) = some r := by first | (rw [hy153]; with_reducible exact H) | (have H2_ := (Option.bind_some _ _).symm.trans H; rw [hy153]; with_reducible exact H2_) | (have H2_ := (Option.bind_some _ _).symm.trans H; with_reducible exact H2_) | with_reducible exact H | (rw [hy153]; exact H) | exact H
                                      have Ny153 := Aside0.mk hy153
                                      clear hy153
                                      have H' := Aside0.mk H
                                      clear H
                                      have p144 : 0 ≤ (x7_2 : Int) := of_decide_eq_true (by first | (with_reducible assumption) | assumption)
                                      have q144 : x7_2 < (l1.length : Int) := of_decide_eq_true (by first | (with_reducible assumption) | assumption)
                                      obtain ⟨ad144, e144, hx144_0, hx144_1⟩ := at_T44 HR1.out x7_2 p144 q144
                                      cases e144
                                      replace hx144_0 := (HB.out.cell (World.block_lt_of_cell? w _ hx144_0)).trans hx144_0
                                      replace hx144_1 := (HB.out.cell (World.block_lt_of_cell? w _ hx144_1)).trans hx144_1
                                      replace p144 := eq_true p144
                                      replace q144 := eq_true q144
                                      have p145 : 0 ≤ (x7_2 : Int) := of_decide_eq_true (by first | (with_reducible assumption) | assumption)
                                      have q145 : x7_2 < (l1.length : Int) := of_decide_eq_true (by first | (with_reducible assumption) | assumption)
                                      obtain ⟨ad145, e145, hx145_0, hx145_1⟩ := at_T44 HR1.out x7_2 p145 q145
                                      obtain rfl : ad144 = ad145 := (by injection e145)
                                      replace hx145_0 := (HB.out.cell (World.block_lt_of_cell? w _ hx145_0)).trans hx145_0
                                      replace hx145_1 := (HB.out.cell (World.block_lt_of_cell? w _ hx145_1)).trans hx145_1
                                      replace p145 := eq_true p145
                                      replace q145 := eq_true q145
                                      obtain ⟨Ao26, co26, eo26⟩ := Kd.S_slice HO_5.out
                                      subst eo26
                                      have p146 : 0 ≤ (((rd_T44 l1 x7_2).f0) : Int) := of_decide_eq_true (by first | (with_reducible assumption) | assumption)
                                      have q146 : ((rd_T44 l1 x7_2).f0) < (x5_2.length : Int) := of_decide_eq_true (by first | (with_reducible assumption) | assumption)
                                      obtain ⟨ad146, A146_0, c146_0, e146, hx146_0, hl146_0, hi146_0⟩ := at_L5 (Kd.S_reads' HO_5.out).2.2 ((rd_T44 l1 x7_2).f0) p146 q146
                                      cases e146
                                      obtain ⟨ce146, hce146, hMe146, hcc146⟩ := Kd.S_get HO_5.out [] ((rd_T44 l1 x7_2).f0) p146 (by first | exact q146 | exact of_decide_eq_true (by first | (with_reducible assumption) | assumption) | (have e_ := (Kd.S_reads' HO_5.out).1; omega))
                                      obtain ⟨ve146_0, rfl, ge146_0⟩ := hMe146
                                      have hv146_0 := hcc146 0 _ rfl
                                      rw [Nat.add_zero, show ((Kd.slice 4 Kd.bool)).sz = 1 from rfl, Nat.mul_one] at hv146_0
                                      replace hv146_0 := Option.some.inj (hv146_0.symm.trans hx146_0)
                                      rw [hv146_0] at ge146_0
                                      have HL146_0 := Aside0.mk (show Kd.R Kd.bool 4 _ _ _ _ (rd_L5 x5_2 ((rd_T44 l1 x7_2).f0)) from ge146_0)
                                      clear hv146_0 ge146_0
                                      have HX146_0 := Aside0.mk hx146_0
                                      clear hcc146 hce146
                                      have HR146_0 := Aside0.mk hi146_0
                                      have HC146_0 := Aside0.mk hl146_0
                                      clear hi146_0 hl146_0
                                      replace p146 := eq_true p146
                                      replace q146 := eq_true q146
                                      have p22 : 0 ≤ (((rd_T44 l1 x7_2).f1) : Int) := of_decide_eq_true (by first | (with_reducible assumption) | assumption)
                                      have q22 : (((rd_T44 l1 x7_2).f1) : Int) < (((rd_L5 x5_2 ((rd_T44 l1 x7_2).f0)).length : Int) : Int) := of_decide_eq_true (by first | (with_reducible assumption) | assumption)
                                      obtain ⟨go22, co22, eo22, gb22, gl22, cl22, HG22⟩ := Kd.R_form HL146_0.out (by omega)
                                      (first | cases eo22 | (injection eo22 with ea_ en_ ec_; (first | subst ea_ | (injection ea_ with ea_; subst ea_)); subst ec_; clear en_))
                                      have GB22 := Aside0.mk gb22
                                      have GG22 := Aside0.mk HG22
                                      clear gb22 gl22 HG22
                                      obtain ⟨hx22_0, hf22_0⟩ := Kd.R_celln false HL146_0.out (((rd_T44 l1 x7_2).f1) : Int) p22 q22
                                      replace p22 := eq_true p22
                                      replace q22 := eq_true q22
                                      have hq27 : (((rd_T44 l1 x7_2).f0) : Int) < (x5_2.length : Int) := (by have h_ : (((rd_T44 l1 x7_2).f0) : Int) < ((x5_2.length : Int) : Int) := of_decide_eq_true (by first | (with_reducible assumption) | assumption); first | exact h_ | (have e_ := (Kd.S_reads' HO_5.out).1; omega) | simpa only [List.length_set, List.length_set] using h_)
                                      obtain ⟨oki27, ce27, hcl27, hM27, hcc27, hok27, hbk27⟩ := Kd.S_borrow HO_5.out [] (((rd_T44 l1 x7_2).f0) : Int) (of_decide_eq_true (by first | (with_reducible assumption) | assumption)) (by first | exact hq27 | (have e_ := (Kd.S_reads' HO_5.out).1; omega))
                                      obtain ⟨ve27_0, rfl, ge27_0⟩ := hM27
                                      have hv27 := hcc27 0 _ rfl
                                      rw [Nat.add_zero, show ((Kd.slice 4 Kd.bool)).sz = 1 from rfl, Nat.mul_one] at hv27
                                      replace hv27 := Option.some.inj (hv27.symm.trans HX146_0.out)
                                      subst hv27
                                      clear hcc27 hcl27
                                      replace ge27_0 := (show Kd.R Kd.bool 4 _ _ _ _ (rd_L5 x5_2 ((rd_T44 l1 x7_2).f0)) from ge27_0)
                                      have HP27 := Kd.R_putg ge27_0 (((rd_T44 l1 x7_2).f1) : Int) true
                                      go_wp2_with (first | ((with_reducible refine gate_store (t := 4) (p := 62) rfl ?_); refine store_event (t := 4) (p := 62) (v := ?vo_w28) (w1 := (wr.setCell ⟨go22, (((rd_T44 l1 x7_2).f1) : Int).toNat, none⟩ (.bool true))) ?hg ?ho ?hn ?hr ?_; (case ho => rfl); (case hg => rfl); (case hn => rfl); (case hr => first | (go_simp; done) | (go_simp; rfl)); intro w28 hw; have hg : wr.grownBy w28 (some go22) := (by rw [hw]; exact HP27.2); have hz_ : Kd.R Kd.bool 4 w28 w.heap.size oki27 (.slice (some ⟨go22, 0, none⟩) (rd_L5 x5_2 ((rd_T44 l1 x7_2).f0)).length c146_0) y147 := (by rw [hw, Ny147.out]; exact HP27.1); have hp_ : Kd.S (Kd.slice 4 Kd.bool) 36 w28 w.heap.size (fun _ => True) (.slice (some ad146) x5_2.length co26) y149 := (by rw [Ny149.out]; exact hbk27 hg (fun k_ e_ => by injection e_ with e_; subst e_; exact ge27_0.1 _ rfl) (Kd.M_row hz_)); have hm_ := Kd.R_mono hz_ hok27; clear HP27 hbk27; have n0_ := Aside0.mk (hp_); have n1_ := Aside0.mk ((by rw [hw]; exact below_set (HB.out) GB22.out : Below w.heap.size w w28)); have n2_ := Aside0.mk (hm_); have n3_ := Aside0.mk ((Kd.R_reads' hm_).2.1); clear HO_5; clear HB; clear HL146_0; have HO_5 := n0_; have HB := n1_; have HL154 := n2_; have HC148 := n3_; clear n0_ n1_ n2_ n3_; clear hg hw hp_ hz_ hm_ hok27; have p150 : 0 ≤ (((rd_T44 l1 x7_2).f1) : Int) := of_decide_eq_true (by first | (with_reducible assumption) | assumption); have q150 : ((rd_T44 l1 x7_2).f1) < (y149.length : Int) := (by have h_ : (((rd_T44 l1 x7_2).f1) : Int) < ((x5_2.length : Int) : Int) := of_decide_eq_true (by first | (with_reducible assumption) | assumption); first | (have e_ := (Kd.S_reads' HO_5.out).1; omega) | simpa only [Ny149.out, List.length_set] using h_); have ql150 : ((((rd_T44 l1 x7_2).f1) : Int) < ((x5_2.length : Int) : Int)) = True := eq_true (of_decide_eq_true (by first | (with_reducible assumption) | assumption)); obtain ⟨ad150, A150_0, c150_0, e150, hx150_0, hl150_0, hi150_0⟩ := at_L5 (Kd.S_reads' HO_5.out).2.2 ((rd_T44 l1 x7_2).f1) p150 q150; obtain rfl : ad146 = ad150 := (by injection e150); obtain ⟨ce150, hce150, hMe150, hcc150⟩ := Kd.S_get HO_5.out [] ((rd_T44 l1 x7_2).f1) p150 (by first | exact q150 | exact of_decide_eq_true (by first | (with_reducible assumption) | assumption) | (have e_ := (Kd.S_reads' HO_5.out).1; omega)); obtain ⟨ve150_0, rfl, ge150_0⟩ := hMe150; have hv150_0 := hcc150 0 _ rfl; rw [Nat.add_zero, show ((Kd.slice 4 Kd.bool)).sz = 1 from rfl, Nat.mul_one] at hv150_0; replace hv150_0 := Option.some.inj (hv150_0.symm.trans hx150_0); rw [hv150_0] at ge150_0; have HL150_0 := Aside0.mk (show Kd.R Kd.bool 4 _ _ _ _ (rd_L5 y149 ((rd_T44 l1 x7_2).f1)) from ge150_0); clear hv150_0 ge150_0; have HX150_0 := Aside0.mk hx150_0; clear hcc150 hce150; have HR150_0 := Aside0.mk hi150_0; have HC150_0 := Aside0.mk hl150_0; clear hi150_0 hl150_0; replace p150 := eq_true p150; replace q150 := eq_true q150; have p25 : 0 ≤ (((rd_T44 l1 x7_2).f0) : Int) := of_decide_eq_true (by first | (with_reducible assumption) | assumption); have q25 : (((rd_T44 l1 x7_2).f0) : Int) < (((rd_L5 y149 ((rd_T44 l1 x7_2).f1)).length : Int) : Int) := of_decide_eq_true (by first | (with_reducible assumption) | assumption); obtain ⟨go25, co25, eo25, gb25, gl25, cl25, HG25⟩ := Kd.R_form HL150_0.out (by omega); (first | cases eo25 | (injection eo25 with ea_ en_ ec_; (first | subst ea_ | (injection ea_ with ea_; subst ea_)); subst ec_; clear en_)); have GB25 := Aside0.mk gb25; have GG25 := Aside0.mk HG25; clear gb25 gl25 HG25; obtain ⟨hx25_0, hf25_0⟩ := Kd.R_celln false HL150_0.out (((rd_T44 l1 x7_2).f0) : Int) p25 q25; replace p25 := eq_true p25; replace q25 := eq_true q25; have hq29 : (((rd_T44 l1 x7_2).f1) : Int) < (y149.length : Int) := (by have h_ : (((rd_T44 l1 x7_2).f1) : Int) < ((x5_2.length : Int) : Int) := of_decide_eq_true (by first | (with_reducible assumption) | assumption); first | exact h_ | (have e_ := (Kd.S_reads' HO_5.out).1; omega) | simpa only [Ny149.out, List.length_set] using h_); obtain ⟨oki29, ce29, hcl29, hM29, hcc29, hok29, hbk29⟩ := Kd.S_borrow HO_5.out [] (((rd_T44 l1 x7_2).f1) : Int) (of_decide_eq_true (by first | (with_reducible assumption) | assumption)) (by first | exact hq29 | (have e_ := (Kd.S_reads' HO_5.out).1; omega)); obtain ⟨ve29_0, rfl, ge29_0⟩ := hM29; have hv29 := hcc29 0 _ rfl; rw [Nat.add_zero, show ((Kd.slice 4 Kd.bool)).sz = 1 from rfl, Nat.mul_one] at hv29; replace hv29 := Option.some.inj (hv29.symm.trans HX150_0.out); subst hv29; clear hcc29 hcl29; replace ge29_0 := (show Kd.R Kd.bool 4 _ _ _ _ (rd_L5 y149 ((rd_T44 l1 x7_2).f1)) from ge29_0); have HP29 := Kd.R_putg ge29_0 (((rd_T44 l1 x7_2).f0) : Int) true) | ((with_reducible refine gate_store (t := 4) (p := 68) rfl ?_); refine store_event (t := 4) (p := 68) (v := ?vo_w30) (w1 := (w28.setCell ⟨go25, (((rd_T44 l1 x7_2).f0) : Int).toNat, none⟩ (.bool true))) ?hg ?ho ?hn ?hr ?_; (case ho => rfl); (case hg => rfl); (case hn => rfl); (case hr => first | (go_simp; done) | (go_simp; rfl)); intro w30 hw; have hg : w28.grownBy w30 (some go25) := (by rw [hw]; exact HP29.2); have hz_ : Kd.R Kd.bool 4 w30 w.heap.size oki29 (.slice (some ⟨go25, 0, none⟩) (rd_L5 y149 ((rd_T44 l1 x7_2).f1)).length c150_0) y151 := (by rw [hw, Ny151.out]; exact HP29.1); have hp_ : Kd.S (Kd.slice 4 Kd.bool) 36 w30 w.heap.size (fun _ => True) (.slice (some ad146) x5_2.length co26) y153 := (by rw [Ny153.out]; exact hbk29 hg (fun k_ e_ => by injection e_ with e_; subst e_; exact ge29_0.1 _ rfl) (Kd.M_row hz_)); have hm_ := Kd.R_mono hz_ hok29; clear HP29 hbk29; have n0_ := Aside0.mk (hp_); have n1_ := Aside0.mk ((by rw [hw]; exact below_set (HB.out) GB25.out : Below w.heap.size w w30)); have n2_ := Aside0.mk (hm_); have n3_ := Aside0.mk ((Kd.R_reads' hm_).2.1); clear HO_5; clear HB; clear HL154; clear HL150_0; have HO_5 := n0_; have HB := n1_; have HL155 := n2_; have HC152 := n3_; clear n0_ n1_ n2_ n3_; clear hg hw hp_ hz_ hm_ hok29))
                                      go_roundg k2
                                      case measure => have := HK1.out; have := HK2.out; omega
                                      case rel => exact ⟨(y153), (wrap64 (x7_2 + 1)), (by first | rfl | (simp; done) | (simp [*]; done)), H', ⟨by have := HK1.out; have := HK2.out; omega⟩, ⟨by (with_reducible repeat (first | apply Kd.S_alloc | apply Kd.S_drewN | apply Kd.S_drew)); exact HO_5.out⟩, ⟨by repeat (first | (with_reducible first | exact HB.out | apply below_alloc | apply pw_below_drewN | apply below_drew1) | exact HB.out)⟩⟩
                                    · rw [if_neg c24] at H
                                      exact absurd H (by simp)
                                  · rw [if_neg c23] at H
                                    exact absurd H (by simp)
                                · rw [if_neg c21] at H
                                  exact absurd H (by simp)
                              · rw [if_neg c20] at H
                                exact absurd H (by simp)
                            · rw [if_neg c19] at H
                              exact absurd H (by simp)
                          · rw [if_neg c18] at H
                            exact absurd H (by simp)
                      · rw [if_neg c16] at H
                        have c16b0 : decide (((rd_T44 l1 x7_2).f1) < a0) = false := decide_eq_false c16
                        clear c16
                        have H' := Aside0.mk H
                        clear H
                        have p144 : 0 ≤ (x7_2 : Int) := of_decide_eq_true (by first | (with_reducible assumption) | assumption)
                        have q144 : x7_2 < (l1.length : Int) := of_decide_eq_true (by first | (with_reducible assumption) | assumption)
                        obtain ⟨ad144, e144, hx144_0, hx144_1⟩ := at_T44 HR1.out x7_2 p144 q144
                        cases e144
                        replace hx144_0 := (HB.out.cell (World.block_lt_of_cell? w _ hx144_0)).trans hx144_0
                        replace hx144_1 := (HB.out.cell (World.block_lt_of_cell? w _ hx144_1)).trans hx144_1
                        replace p144 := eq_true p144
                        replace q144 := eq_true q144
                        have p145 : 0 ≤ (x7_2 : Int) := of_decide_eq_true (by first | (with_reducible assumption) | assumption)
                        have q145 : x7_2 < (l1.length : Int) := of_decide_eq_true (by first | (with_reducible assumption) | assumption)
                        obtain ⟨ad145, e145, hx145_0, hx145_1⟩ := at_T44 HR1.out x7_2 p145 q145
                        obtain rfl : ad144 = ad145 := (by injection e145)
                        replace hx145_0 := (HB.out.cell (World.block_lt_of_cell? w _ hx145_0)).trans hx145_0
                        replace hx145_1 := (HB.out.cell (World.block_lt_of_cell? w _ hx145_1)).trans hx145_1
                        replace p145 := eq_true p145
                        replace q145 := eq_true q145
                        go_wp2
                        go_roundg k2
                        case measure => have := HK1.out; have := HK2.out; omega
                        case rel => exact ⟨(x5_2), (wrap64 (x7_2 + 1)), (by first | rfl | (simp; done) | (simp [*]; done)), H', ⟨by have := HK1.out; have := HK2.out; omega⟩, ⟨by (with_reducible repeat (first | apply Kd.S_alloc | apply Kd.S_drewN | apply Kd.S_drew)); exact HO_5.out⟩, ⟨by repeat (first | (with_reducible first | exact HB.out | apply below_alloc | apply pw_below_drewN | apply below_drew1) | exact HB.out)⟩⟩
                    · rw [if_neg c15] at H
                      have c15b0 : decide (0 ≤ ((rd_T44 l1 x7_2).f1)) = false := decide_eq_false c15
                      clear c15
                      have H' := Aside0.mk H
                      clear H
                      have p144 : 0 ≤ (x7_2 : Int) := of_decide_eq_true (by first | (with_reducible assumption) | assumption)
                      have q144 : x7_2 < (l1.length : Int) := of_decide_eq_true (by first | (with_reducible assumption) | assumption)
                      obtain ⟨ad144, e144, hx144_0, hx144_1⟩ := at_T44 HR1.out x7_2 p144 q144
                      cases e144
                      replace hx144_0 := (HB.out.cell (World.block_lt_of_cell? w _ hx144_0)).trans hx144_0
                      replace hx144_1 := (HB.out.cell (World.block_lt_of_cell? w _ hx144_1)).trans hx144_1
                      replace p144 := eq_true p144
                      replace q144 := eq_true q144
                      have p145 : 0 ≤ (x7_2 : Int) := of_decide_eq_true (by first | (with_reducible assumption) | assumption)
                      have q145 : x7_2 < (l1.length : Int) := of_decide_eq_true (by first | (with_reducible assumption) | assumption)
                      obtain ⟨ad145, e145, hx145_0, hx145_1⟩ := at_T44 HR1.out x7_2 p145 q145
                      obtain rfl : ad144 = ad145 := (by injection e145)
                      replace hx145_0 := (HB.out.cell (World.block_lt_of_cell? w _ hx145_0)).trans hx145_0
                      replace hx145_1 := (HB.out.cell (World.block_lt_of_cell? w _ hx145_1)).trans hx145_1
                      replace p145 := eq_true p145
                      replace q145 := eq_true q145
                      go_wp2
                      go_roundg k2
                      case measure => have := HK1.out; have := HK2.out; omega
                      case rel => exact ⟨(x5_2), (wrap64 (x7_2 + 1)), (by first | rfl | (simp; done) | (simp [*]; done)), H', ⟨by have := HK1.out; have := HK2.out; omega⟩, ⟨by (with_reducible repeat (first | apply Kd.S_alloc | apply Kd.S_drewN | apply Kd.S_drew)); exact HO_5.out⟩, ⟨by repeat (first | (with_reducible first | exact HB.out | apply below_alloc | apply pw_below_drewN | apply below_drew1) | exact HB.out)⟩⟩
                  · rw [if_neg c14] at H
                    have c14b0 : decide (((rd_T44 l1 x7_2).f0) < a0) = false := decide_eq_false c14
                    clear c14
                    have H' := Aside0.mk H
                    clear H
                    have p144 : 0 ≤ (x7_2 : Int) := of_decide_eq_true (by first | (with_reducible assumption) | assumption)
                    have q144 : x7_2 < (l1.length : Int) := of_decide_eq_true (by first | (with_reducible assumption) | assumption)
                    obtain ⟨ad144, e144, hx144_0, hx144_1⟩ := at_T44 HR1.out x7_2 p144 q144
                    cases e144
                    replace hx144_0 := (HB.out.cell (World.block_lt_of_cell? w _ hx144_0)).trans hx144_0
                    replace hx144_1 := (HB.out.cell (World.block_lt_of_cell? w _ hx144_1)).trans hx144_1
                    replace p144 := eq_true p144
                    replace q144 := eq_true q144
                    have p145 : 0 ≤ (x7_2 : Int) := of_decide_eq_true (by first | (with_reducible assumption) | assumption)
                    have q145 : x7_2 < (l1.length : Int) := of_decide_eq_true (by first | (with_reducible assumption) | assumption)
                    obtain ⟨ad145, e145, hx145_0, hx145_1⟩ := at_T44 HR1.out x7_2 p145 q145
                    obtain rfl : ad144 = ad145 := (by injection e145)
                    replace hx145_0 := (HB.out.cell (World.block_lt_of_cell? w _ hx145_0)).trans hx145_0
                    replace hx145_1 := (HB.out.cell (World.block_lt_of_cell? w _ hx145_1)).trans hx145_1
                    replace p145 := eq_true p145
                    replace q145 := eq_true q145
                    go_wp2
                    go_roundg k2
                    case measure => have := HK1.out; have := HK2.out; omega
                    case rel => exact ⟨(x5_2), (wrap64 (x7_2 + 1)), (by first | rfl | (simp; done) | (simp [*]; done)), H', ⟨by have := HK1.out; have := HK2.out; omega⟩, ⟨by (with_reducible repeat (first | apply Kd.S_alloc | apply Kd.S_drewN | apply Kd.S_drew)); exact HO_5.out⟩, ⟨by repeat (first | (with_reducible first | exact HB.out | apply below_alloc | apply pw_below_drewN | apply below_drew1) | exact HB.out)⟩⟩
                · rw [if_neg c13] at H
                  have c13b0 : decide (0 ≤ ((rd_T44 l1 x7_2).f0)) = false := decide_eq_false c13
                  clear c13
                  have H' := Aside0.mk H
                  clear H
                  have p144 : 0 ≤ (x7_2 : Int) := of_decide_eq_true (by first | (with_reducible assumption) | assumption)
                  have q144 : x7_2 < (l1.length : Int) := of_decide_eq_true (by first | (with_reducible assumption) | assumption)
                  obtain ⟨ad144, e144, hx144_0, hx144_1⟩ := at_T44 HR1.out x7_2 p144 q144
                  cases e144
                  replace hx144_0 := (HB.out.cell (World.block_lt_of_cell? w _ hx144_0)).trans hx144_0
                  replace hx144_1 := (HB.out.cell (World.block_lt_of_cell? w _ hx144_1)).trans hx144_1
                  replace p144 := eq_true p144
                  replace q144 := eq_true q144
                  have p145 : 0 ≤ (x7_2 : Int) := of_decide_eq_true (by first | (with_reducible assumption) | assumption)
                  have q145 : x7_2 < (l1.length : Int) := of_decide_eq_true (by first | (with_reducible assumption) | assumption)
                  obtain ⟨ad145, e145, hx145_0, hx145_1⟩ := at_T44 HR1.out x7_2 p145 q145
                  obtain rfl : ad144 = ad145 := (by injection e145)
                  replace hx145_0 := (HB.out.cell (World.block_lt_of_cell? w _ hx145_0)).trans hx145_0
                  replace hx145_1 := (HB.out.cell (World.block_lt_of_cell? w _ hx145_1)).trans hx145_1
                  replace p145 := eq_true p145
                  replace q145 := eq_true q145
                  go_wp2
                  go_roundg k2
                  case measure => have := HK1.out; have := HK2.out; omega
                  case rel => exact ⟨(x5_2), (wrap64 (x7_2 + 1)), (by first | rfl | (simp; done) | (simp [*]; done)), H', ⟨by have := HK1.out; have := HK2.out; omega⟩, ⟨by (with_reducible repeat (first | apply Kd.S_alloc | apply Kd.S_drewN | apply Kd.S_drew)); exact HO_5.out⟩, ⟨by repeat (first | (with_reducible first | exact HB.out | apply below_alloc | apply pw_below_drewN | apply below_drew1) | exact HB.out)⟩⟩
              · rw [if_neg c12] at H
                exact absurd H (by simp)
            · rw [if_neg c11] at H
              have c11b0 : decide (x7_2 < (l1.length : Int)) = false := decide_eq_false c11
              clear c11
              obtain rfl := Option.some.inj H
              go_wp2
              go_ret
              exact ⟨_, by first | rfl | (simp [errW_none, errW_some] <;> rfl) | (simp [*, errW_none, errW_some] <;> rfl), by (with_reducible repeat (first | apply Kd.S_alloc | apply Kd.S_drewN | apply Kd.S_drew)); exact HO_5.out, by repeat (first | (with_reducible first | exact HB.out | apply below_alloc | apply pw_below_drewN | apply below_drew1) | exact HB.out)⟩

/-! ### jacquardref14_degree: function 21 -/
def jacquardref14_degree.l0 : Nat → List (List Bool) → List Bool → Int → Int → Int → Option (Int)
  | 0, _, _, _, _, _ => none
  | k + 1, x0, x1, x2, x7, x8 => if x8 < (x0.length : Int) then (if 0 ≤ x8 then (if x8 < (x1.length : Int) then (if rdOf false x1 x8 = true then (if 0 ≤ x2 then (if x2 < (x0.length : Int) then (if x8 < ((rd_L5 x0 x2).length : Int) then (if rdOf false (rd_L5 x0 x2) x8 = true then (jacquardref14_degree.l0 k x0 x1 x2 (wrap64 (x7 + 1)) (wrap64 (x8 + 1))) else (jacquardref14_degree.l0 k x0 x1 x2 x7 (wrap64 (x8 + 1)))) else (none)) else (none)) else (none)) else (jacquardref14_degree.l0 k x0 x1 x2 x7 (wrap64 (x8 + 1)))) else (none)) else (none)) else (some x7)
def jacquardref14_degree.f (k : Nat) (l0 : List (List Bool)) (l1 : List Bool) (a2 : Int) : Option (Int) := jacquardref14_degree.l0 k l0 l1 a2 0 0
theorem jacquardref14_degree.mono_l : ∀ k, (∀ y0 y1 y2 y3 y4, LeO (jacquardref14_degree.l0 k y0 y1 y2 y3 y4) (jacquardref14_degree.l0 (k + 1) y0 y1 y2 y3 y4))
  | 0 => fun _ _ _ _ _ r h => by simp [jacquardref14_degree.l0] at h
  | k + 1 => by
    have ih0 := jacquardref14_degree.mono_l k
    · intro y0 y1 y2 y3 y4
      unfold jacquardref14_degree.l0
      repeat' first
      | (with_reducible exact ih0 _ _ _ _ _)
      | (with_reducible exact LeO.refl _)
      | (with_reducible exact LeO.none _)
      | (with_reducible refine LeO.ite ?_ ?_)
      | (with_reducible refine LeO.bind ?_ (fun _ => ?_))
      | exact ih0 _ _ _ _ _
      | exact LeO.none _
      | refine LeO.ite ?_ ?_
      | refine LeO.bind ?_ (fun _ => ?_)
theorem jacquardref14_degree.mono : ∀ a0 a1 a2 k, LeO (jacquardref14_degree.f k a0 a1 a2) (jacquardref14_degree.f (k + 1) a0 a1 a2) := by
  intro a0 a1 a2 k
  have ih0 := jacquardref14_degree.mono_l k
  unfold jacquardref14_degree.f
  repeat' first
      | (with_reducible exact ih0 _ _ _ _ _)
      | (with_reducible exact LeO.refl _)
      | (with_reducible exact LeO.none _)
      | (with_reducible refine LeO.ite ?_ ?_)
      | (with_reducible refine LeO.bind ?_ (fun _ => ?_))
      | exact ih0 _ _ _ _ _
      | exact LeO.none _
      | refine LeO.ite ?_ ?_
      | refine LeO.bind ?_ (fun _ => ?_)
set_option maxHeartbeats 8000000 in
set_option maxRecDepth 100000 in
theorem jacquardref14_degree.calls (k : Nat) (A0 : Option Addr) (c0 : Nat) (l0 : List (List Bool)) (A1 : Option Addr) (c1 : Nat) (l1 : List Bool) (a2 : Int) (r : Int) (w : World) (hr0 : Kd.C (Kd.slice 4 Kd.bool) w A0 l0.length l0) (hc0 : l0.length ≤ c0) (hr1 : Kd.C Kd.bool w A1 l1.length l1) (hc1 : l1.length ≤ c1) (h : jacquardref14_degree.f k l0 l1 a2 = some r) :
    Calls Try.prog 21 #[.slice A0 l0.length c0, .slice A1 l1.length c1, .int .i64 a2] w fun e w' => e = .returned (.int .i64 r) ∧ Drawn0 w w' := by
  have HR0 := Aside0.mk hr0
  have HC0 := Aside0.mk hc0
  clear hr0 hc0
  have HR1 := Aside0.mk hr1
  have HC1 := Aside0.mk hc1
  clear hr1 hc1
  have H : (jacquardref14_degree.l0 k l0 l1 a2 0 0) = some r := h
  clear h
  have H' := Aside0.mk H
  clear H
  go_enter Try.func21, Try.ntmps21
  go_wp2
  go_loopg [7, 8] k (fun kq v7 v8 w' => ∃ (x7_1 : Int) (x8_1 : Int), v7 = .int .i64 x7_1 ∧ v8 = .int .i64 x8_1 ∧ Aside0 (jacquardref14_degree.l0 kq l0 l1 a2 x7_1 x8_1 = some r) ∧ Aside0 (kq ≤ k) ∧ Drawn0 w w')
  case atStart => exact ⟨(0), (0), (by first | rfl | (simp; done) | (simp [*]; done)), (by first | rfl | (simp; done) | (simp [*]; done)), H', ⟨Nat.le_refl _⟩, by repeat (first | exact Drawn0.refl _ | apply Drawn0.step)⟩
  case round =>
    clear H'
    try clear c1
    try clear c2
    try clear p2
    obtain ⟨x7_1, x8_1, rfl, rfl, HA, HK1, ⟨m1, rfl⟩⟩ := hrel
    cases gk with
    | zero => exact absurd HA.out (by simp [jacquardref14_degree.l0])
    | succ k1 =>
      have H := HA.out
      clear HA
      simp only [jacquardref14_degree.l0] at H
      by_cases c4 : x8_1 < (l0.length : Int)
      · rw [if_pos c4] at H
        have c4b0 : decide (x8_1 < (l0.length : Int)) = true := decide_eq_true c4
        clear c4
        by_cases c5 : 0 ≤ x8_1
        · rw [if_pos c5] at H
          have c5b0 : decide (0 ≤ x8_1) = true := decide_eq_true c5
          clear c5
          by_cases c6 : x8_1 < (l1.length : Int)
          · rw [if_pos c6] at H
            have c6b0 : decide (x8_1 < (l1.length : Int)) = true := decide_eq_true c6
            clear c6
            obtain ⟨bq7, hbq7⟩ : ∃ b_ : Bool, b_ = (rdOf false l1 x8_1) := ⟨_, rfl⟩
            replace H : (if bq7 = true then (if 0 ≤ a2 then (if a2 < (l0.length : Int) then (if x8_1 < ((rd_L5 l0 a2).length : Int) then (if rdOf false (rd_L5 l0 a2) x8_1 = true then (jacquardref14_degree.l0 k1 l0 l1 a2 (wrap64 (x7_1 + 1)) (wrap64 (x8_1 + 1))) else (jacquardref14_degree.l0 k1 l0 l1 a2 x7_1 (wrap64 (x8_1 + 1)))) else (none)) else (none)) else (none)) else (jacquardref14_degree.l0 k1 l0 l1 a2 x7_1 (wrap64 (x8_1 + 1)))) = some r := by rw [← hbq7] at H; exact H
            have Nbq7 := Aside0.mk hbq7
            clear hbq7
            by_cases c8 : bq7 = true
            · subst c8
              have H1 : (if 0 ≤ a2 then (if a2 < (l0.length : Int) then (if x8_1 < ((rd_L5 l0 a2).length : Int) then (if rdOf false (rd_L5 l0 a2) x8_1 = true then (jacquardref14_degree.l0 k1 l0 l1 a2 (wrap64 (x7_1 + 1)) (wrap64 (x8_1 + 1))) else (jacquardref14_degree.l0 k1 l0 l1 a2 x7_1 (wrap64 (x8_1 + 1)))) else (none)) else (none)) else (none)) = some r := by rw [if_pos rfl] at H; exact H
              clear H
              have H := H1
              clear H1
              by_cases c9 : 0 ≤ a2
              · rw [if_pos c9] at H
                have c9b0 : decide (0 ≤ a2) = true := decide_eq_true c9
                clear c9
                by_cases c10 : a2 < (l0.length : Int)
                · rw [if_pos c10] at H
                  have c10b0 : decide (a2 < (l0.length : Int)) = true := decide_eq_true c10
                  clear c10
                  by_cases c11 : x8_1 < ((rd_L5 l0 a2).length : Int)
                  · rw [if_pos c11] at H
                    have c11b0 : decide (x8_1 < ((rd_L5 l0 a2).length : Int)) = true := decide_eq_true c11
                    clear c11
                    obtain ⟨bq12, hbq12⟩ : ∃ b_ : Bool, b_ = (rdOf false (rd_L5 l0 a2) x8_1) := ⟨_, rfl⟩
                    replace H : (if bq12 = true then (jacquardref14_degree.l0 k1 l0 l1 a2 (wrap64 (x7_1 + 1)) (wrap64 (x8_1 + 1))) else (jacquardref14_degree.l0 k1 l0 l1 a2 x7_1 (wrap64 (x8_1 + 1)))) = some r := by rw [← hbq12] at H; exact H
                    have Nbq12 := Aside0.mk hbq12
                    clear hbq12
                    by_cases c13 : bq12 = true
                    · subst c13
                      have H1 : (jacquardref14_degree.l0 k1 l0 l1 a2 (wrap64 (x7_1 + 1)) (wrap64 (x8_1 + 1))) = some r := by rw [if_pos rfl] at H; exact H
                      clear H
                      have H := H1
                      clear H1
                      have H' := Aside0.mk H
                      clear H
                      have p156 : 0 ≤ (x8_1 : Int) := of_decide_eq_true (by first | (with_reducible assumption) | assumption)
                      have q156 : x8_1 < (l1.length : Int) := of_decide_eq_true (by first | (with_reducible assumption) | assumption)
                      obtain ⟨ad156, e156, hx156_0⟩ := Kd.at_bool HR1.out x8_1 p156 q156
                      (try rw [← Nbq7.out] at hx156_0)
                      (try rw [← Nbq12.out] at hx156_0)
                      cases e156
                      replace p156 := eq_true p156
                      replace q156 := eq_true q156
                      have p157 : 0 ≤ (a2 : Int) := of_decide_eq_true (by first | (with_reducible assumption) | assumption)
                      have q157 : a2 < (l0.length : Int) := of_decide_eq_true (by first | (with_reducible assumption) | assumption)
                      obtain ⟨ad157, A157_0, c157_0, e157, hx157_0, hl157_0, hi157_0⟩ := at_L5 HR0.out a2 p157 q157
                      cases e157
                      have HR157_0 := Aside0.mk hi157_0
                      have HC157_0 := Aside0.mk hl157_0
                      clear hi157_0 hl157_0
                      replace p157 := eq_true p157
                      replace q157 := eq_true q157
                      have p158 : 0 ≤ (x8_1 : Int) := of_decide_eq_true (by first | (with_reducible assumption) | assumption)
                      have q158 : x8_1 < ((rd_L5 l0 a2).length : Int) := of_decide_eq_true (by first | (with_reducible assumption) | assumption)
                      obtain ⟨ad158, e158, hx158_0⟩ := Kd.at_bool HR157_0.out x8_1 p158 q158
                      (try rw [← Nbq7.out] at hx158_0)
                      (try rw [← Nbq12.out] at hx158_0)
                      cases e158
                      replace p158 := eq_true p158
                      replace q158 := eq_true q158
                      go_wp2
                      go_roundg k1
                      case measure => have := HK1.out; omega
                      case rel => exact ⟨(wrap64 (x7_1 + 1)), (wrap64 (x8_1 + 1)), (by first | rfl | (simp; done) | (simp [*]; done)), (by first | rfl | (simp; done) | (simp [*]; done)), H', ⟨by have := HK1.out; omega⟩, by repeat (first | exact Drawn0.refl _ | apply Drawn0.step)⟩
                    · replace c13 := Bool.eq_false_iff.mpr c13
                      subst c13
                      have H1 : (jacquardref14_degree.l0 k1 l0 l1 a2 x7_1 (wrap64 (x8_1 + 1))) = some r := by rw [if_neg (show ¬ (false = true) by decide)] at H; exact H
                      clear H
                      have H := H1
                      clear H1
                      have H' := Aside0.mk H
                      clear H
                      have p156 : 0 ≤ (x8_1 : Int) := of_decide_eq_true (by first | (with_reducible assumption) | assumption)
                      have q156 : x8_1 < (l1.length : Int) := of_decide_eq_true (by first | (with_reducible assumption) | assumption)
                      obtain ⟨ad156, e156, hx156_0⟩ := Kd.at_bool HR1.out x8_1 p156 q156
                      (try rw [← Nbq7.out] at hx156_0)
                      (try rw [← Nbq12.out] at hx156_0)
                      cases e156
                      replace p156 := eq_true p156
                      replace q156 := eq_true q156
                      have p157 : 0 ≤ (a2 : Int) := of_decide_eq_true (by first | (with_reducible assumption) | assumption)
                      have q157 : a2 < (l0.length : Int) := of_decide_eq_true (by first | (with_reducible assumption) | assumption)
                      obtain ⟨ad157, A157_0, c157_0, e157, hx157_0, hl157_0, hi157_0⟩ := at_L5 HR0.out a2 p157 q157
                      cases e157
                      have HR157_0 := Aside0.mk hi157_0
                      have HC157_0 := Aside0.mk hl157_0
                      clear hi157_0 hl157_0
                      replace p157 := eq_true p157
                      replace q157 := eq_true q157
                      have p158 : 0 ≤ (x8_1 : Int) := of_decide_eq_true (by first | (with_reducible assumption) | assumption)
                      have q158 : x8_1 < ((rd_L5 l0 a2).length : Int) := of_decide_eq_true (by first | (with_reducible assumption) | assumption)
                      obtain ⟨ad158, e158, hx158_0⟩ := Kd.at_bool HR157_0.out x8_1 p158 q158
                      (try rw [← Nbq7.out] at hx158_0)
                      (try rw [← Nbq12.out] at hx158_0)
                      cases e158
                      replace p158 := eq_true p158
                      replace q158 := eq_true q158
                      go_wp2
                      go_roundg k1
                      case measure => have := HK1.out; omega
                      case rel => exact ⟨(x7_1), (wrap64 (x8_1 + 1)), (by first | rfl | (simp; done) | (simp [*]; done)), (by first | rfl | (simp; done) | (simp [*]; done)), H', ⟨by have := HK1.out; omega⟩, by repeat (first | exact Drawn0.refl _ | apply Drawn0.step)⟩
                  · rw [if_neg c11] at H
                    exact absurd H (by simp)
                · rw [if_neg c10] at H
                  exact absurd H (by simp)
              · rw [if_neg c9] at H
                exact absurd H (by simp)
            · replace c8 := Bool.eq_false_iff.mpr c8
              subst c8
              have H1 : (jacquardref14_degree.l0 k1 l0 l1 a2 x7_1 (wrap64 (x8_1 + 1))) = some r := by rw [if_neg (show ¬ (false = true) by decide)] at H; exact H
              clear H
              have H := H1
              clear H1
              have H' := Aside0.mk H
              clear H
              have p156 : 0 ≤ (x8_1 : Int) := of_decide_eq_true (by first | (with_reducible assumption) | assumption)
              have q156 : x8_1 < (l1.length : Int) := of_decide_eq_true (by first | (with_reducible assumption) | assumption)
              obtain ⟨ad156, e156, hx156_0⟩ := Kd.at_bool HR1.out x8_1 p156 q156
              (try rw [← Nbq7.out] at hx156_0)
              cases e156
              replace p156 := eq_true p156
              replace q156 := eq_true q156
              go_wp2
              go_roundg k1
              case measure => have := HK1.out; omega
              case rel => exact ⟨(x7_1), (wrap64 (x8_1 + 1)), (by first | rfl | (simp; done) | (simp [*]; done)), (by first | rfl | (simp; done) | (simp [*]; done)), H', ⟨by have := HK1.out; omega⟩, by repeat (first | exact Drawn0.refl _ | apply Drawn0.step)⟩
          · rw [if_neg c6] at H
            exact absurd H (by simp)
        · rw [if_neg c5] at H
          exact absurd H (by simp)
      · rw [if_neg c4] at H
        have c4b0 : decide (x8_1 < (l0.length : Int)) = false := decide_eq_false c4
        clear c4
        obtain rfl := Option.some.inj H
        go_wp2
        go_ret
        exact ⟨by first | rfl | (simp; done) | (simp [*]; done), by repeat (first | exact Drawn0.refl _ | apply Drawn0.step)⟩

end Go.Proofs.Ytgdmdgkfababeaa.M
