-- Written by a program of this session (wip/patchprint.py turns a copy of the kit's print); Lean checks it.
import Derived.Test.YtgdmdgkfababeaaM0
import Derived.Test.YtgdmdgkfababeaaMJ
namespace Go.Proofs.Ytgdmdgkfababeaa.M
open Go.RowKit Go.Proofs.YtgdmdgkfababeaaW.PrintWords Go.Proofs.YtgdmdgkfababeaaW.PrintLast Go.Proofs.YtgdmdgkfababeaaW.PrintMore
attribute [local go_sem] max2_int min2_int max_two min_two max_three min_three max_four min_four   -- for this text's walks alone
set_option linter.unusedVariables false
set_option linter.unusedSimpArgs false

/-! ### jacquardref14_near: function 28 -/
mutual
def jacquardref14_near.l0 : Nat → List (List Bool) → List Int → Int → Int → Int → Option (Bool)
  | 0, _, _, _, _, _ => none
  | k + 1, x0, x1, x2, x3, x9 => if x9 < (x1.length : Int) then (jacquardref14_near.l1 k x0 x1 x2 x3 x9 0) else (some false)
def jacquardref14_near.l1 : Nat → List (List Bool) → List Int → Int → Int → Int → Int → Option (Bool)
  | 0, _, _, _, _, _, _ => none
  | k + 1, x0, x1, x2, x3, x9, x10 => if x10 < (x1.length : Int) then (if 0 ≤ x9 then (if x9 < (x1.length : Int) then (if (rd x1 x9) = x2 then (if 0 ≤ x10 then (if (rd x1 x10) = x3 then (if x9 < (x0.length : Int) then (if x10 < ((rd_L5 x0 x9).length : Int) then (if rdOf false (rd_L5 x0 x9) x10 = true then (some true) else (jacquardref14_near.l1 k x0 x1 x2 x3 x9 (wrap64 (x10 + 1)))) else (none)) else (none)) else (jacquardref14_near.l1 k x0 x1 x2 x3 x9 (wrap64 (x10 + 1)))) else (none)) else (jacquardref14_near.l1 k x0 x1 x2 x3 x9 (wrap64 (x10 + 1)))) else (none)) else (none)) else (jacquardref14_near.l0 k x0 x1 x2 x3 (wrap64 (x9 + 1)))
end
def jacquardref14_near.f (k : Nat) (l0 : List (List Bool)) (l1 : List Int) (a2 : Int) (a3 : Int) : Option (Bool) := jacquardref14_near.l0 k l0 l1 a2 a3 0
theorem jacquardref14_near.mono_l : ∀ k, (∀ y0 y1 y2 y3 y4, LeO (jacquardref14_near.l0 k y0 y1 y2 y3 y4) (jacquardref14_near.l0 (k + 1) y0 y1 y2 y3 y4)) ∧ (∀ y0 y1 y2 y3 y4 y5, LeO (jacquardref14_near.l1 k y0 y1 y2 y3 y4 y5) (jacquardref14_near.l1 (k + 1) y0 y1 y2 y3 y4 y5))
  | 0 => ⟨fun _ _ _ _ _ r h => by simp [jacquardref14_near.l0] at h, fun _ _ _ _ _ _ r h => by simp [jacquardref14_near.l1] at h⟩
  | k + 1 => by
    obtain ⟨ih0, ih1⟩ := jacquardref14_near.mono_l k
    refine ⟨?_, ?_⟩
    · intro y0 y1 y2 y3 y4
      unfold jacquardref14_near.l0
      repeat' first
      | (with_reducible exact ih0 _ _ _ _ _)
      | (with_reducible exact ih1 _ _ _ _ _ _)
      | (with_reducible exact LeO.refl _)
      | (with_reducible exact LeO.none _)
      | (with_reducible refine LeO.ite ?_ ?_)
      | (with_reducible refine LeO.bind ?_ (fun _ => ?_))
      | exact ih0 _ _ _ _ _
      | exact ih1 _ _ _ _ _ _
      | exact LeO.none _
      | refine LeO.ite ?_ ?_
      | refine LeO.bind ?_ (fun _ => ?_)
    · intro y0 y1 y2 y3 y4 y5
      unfold jacquardref14_near.l1
      repeat' first
      | (with_reducible exact ih0 _ _ _ _ _)
      | (with_reducible exact ih1 _ _ _ _ _ _)
      | (with_reducible exact LeO.refl _)
      | (with_reducible exact LeO.none _)
      | (with_reducible refine LeO.ite ?_ ?_)
      | (with_reducible refine LeO.bind ?_ (fun _ => ?_))
      | exact ih0 _ _ _ _ _
      | exact ih1 _ _ _ _ _ _
      | exact LeO.none _
      | refine LeO.ite ?_ ?_
      | refine LeO.bind ?_ (fun _ => ?_)
theorem jacquardref14_near.mono : ∀ a0 a1 a2 a3 k, LeO (jacquardref14_near.f k a0 a1 a2 a3) (jacquardref14_near.f (k + 1) a0 a1 a2 a3) := by
  intro a0 a1 a2 a3 k
  obtain ⟨ih0, ih1⟩ := jacquardref14_near.mono_l k
  unfold jacquardref14_near.f
  repeat' first
      | (with_reducible exact ih0 _ _ _ _ _)
      | (with_reducible exact ih1 _ _ _ _ _ _)
      | (with_reducible exact LeO.refl _)
      | (with_reducible exact LeO.none _)
      | (with_reducible refine LeO.ite ?_ ?_)
      | (with_reducible refine LeO.bind ?_ (fun _ => ?_))
      | exact ih0 _ _ _ _ _
      | exact ih1 _ _ _ _ _ _
      | exact LeO.none _
      | refine LeO.ite ?_ ?_
      | refine LeO.bind ?_ (fun _ => ?_)
set_option maxHeartbeats 8000000 in
set_option maxRecDepth 100000 in
theorem jacquardref14_near.calls (k : Nat) (A0 : Option Addr) (c0 : Nat) (l0 : List (List Bool)) (A1 : Option Addr) (c1 : Nat) (l1 : List Int) (a2 : Int) (a3 : Int) (r : Bool) (w : World) (hr0 : Kd.C (Kd.slice 4 Kd.bool) w A0 l0.length l0) (hc0 : l0.length ≤ c0) (hr1 : Kd.C (Kd.int .i64) w A1 l1.length l1) (hc1 : l1.length ≤ c1) (h : jacquardref14_near.f k l0 l1 a2 a3 = some r) :
    Calls Try.prog 28 #[.slice A0 l0.length c0, .slice A1 l1.length c1, .int .i64 a2, .int .i64 a3] w fun e w' => e = .returned (.bool r) ∧ Drawn0 w w' := by
  have HR0 := Aside0.mk hr0
  have HC0 := Aside0.mk hc0
  clear hr0 hc0
  have HR1 := Aside0.mk hr1
  have HC1 := Aside0.mk hc1
  clear hr1 hc1
  have H : (jacquardref14_near.l0 k l0 l1 a2 a3 0) = some r := h
  clear h
  have H' := Aside0.mk H
  clear H
  go_enter Try.func28, Try.ntmps28
  go_wp2
  go_loopg [9] k (fun kq v9 w' => ∃ (x9_1 : Int), v9 = .int .i64 x9_1 ∧ Aside0 (jacquardref14_near.l0 kq l0 l1 a2 a3 x9_1 = some r) ∧ Aside0 (kq ≤ k) ∧ Drawn0 w w')
  case atStart => exact ⟨(0), (by first | rfl | (simp; done) | (simp [*]; done)), H', ⟨Nat.le_refl _⟩, by repeat (first | exact Drawn0.refl _ | apply Drawn0.step)⟩
  case round =>
    clear H'
    try clear c1
    try clear c2
    try clear p2
    obtain ⟨x9_1, rfl, HA, HK1, ⟨m1, rfl⟩⟩ := hrel
    cases gk with
    | zero => exact absurd HA.out (by simp [jacquardref14_near.l0])
    | succ k1 =>
      have H := HA.out
      clear HA
      simp only [jacquardref14_near.l0] at H
      by_cases c5 : x9_1 < (l1.length : Int)
      · rw [if_pos c5] at H
        have c5b0 : decide (x9_1 < (l1.length : Int)) = true := decide_eq_true c5
        clear c5
        have H' := Aside0.mk H
        clear H
        go_wp2
        go_loopg [10] k1 (fun kq v10 w' => ∃ (x10_2 : Int), v10 = .int .i64 x10_2 ∧ Aside0 (jacquardref14_near.l1 kq l0 l1 a2 a3 x9_1 x10_2 = some r) ∧ Aside0 (kq ≤ k1) ∧ Drawn0 w w')
        case atStart => exact ⟨(0), (by first | rfl | (simp; done) | (simp [*]; done)), H', ⟨Nat.le_refl _⟩, by repeat (first | exact Drawn0.refl _ | apply Drawn0.step)⟩
        case round =>
          clear H'
          try clear c1
          try clear c2
          try clear p2
          try clear c5
          try clear c5b0
          try clear p2
          obtain ⟨x10_2, rfl, HA, HK2, ⟨m2, rfl⟩⟩ := hrel
          cases gk with
          | zero => exact absurd HA.out (by simp [jacquardref14_near.l1])
          | succ k2 =>
            have H := HA.out
            clear HA
            simp only [jacquardref14_near.l1] at H
            by_cases c6 : x10_2 < (l1.length : Int)
            · rw [if_pos c6] at H
              have c6b0 : decide (x10_2 < (l1.length : Int)) = true := decide_eq_true c6
              clear c6
              by_cases c7 : 0 ≤ x9_1
              · rw [if_pos c7] at H
                have c7b0 : decide (0 ≤ x9_1) = true := decide_eq_true c7
                clear c7
                by_cases c8 : x9_1 < (l1.length : Int)
                · rw [if_pos c8] at H
                  have c8b0 : decide (x9_1 < (l1.length : Int)) = true := decide_eq_true c8
                  clear c8
                  by_cases c9 : (rd l1 x9_1) = a2
                  · rw [if_pos c9] at H
                    have c9b0 : ((rd l1 x9_1) == a2) = true := beq_iff_eq.mpr c9
                    have c9b1 : ((rd l1 x9_1) != a2) = false := bne_eq_false_iff_eq.mpr c9
                    clear c9
                    by_cases c10 : 0 ≤ x10_2
                    · rw [if_pos c10] at H
                      have c10b0 : decide (0 ≤ x10_2) = true := decide_eq_true c10
                      clear c10
                      by_cases c11 : (rd l1 x10_2) = a3
                      · rw [if_pos c11] at H
                        have c11b0 : ((rd l1 x10_2) == a3) = true := beq_iff_eq.mpr c11
                        have c11b1 : ((rd l1 x10_2) != a3) = false := bne_eq_false_iff_eq.mpr c11
                        clear c11
                        by_cases c12 : x9_1 < (l0.length : Int)
                        · rw [if_pos c12] at H
                          have c12b0 : decide (x9_1 < (l0.length : Int)) = true := decide_eq_true c12
                          clear c12
                          by_cases c13 : x10_2 < ((rd_L5 l0 x9_1).length : Int)
                          · rw [if_pos c13] at H
                            have c13b0 : decide (x10_2 < ((rd_L5 l0 x9_1).length : Int)) = true := decide_eq_true c13
                            clear c13
                            obtain ⟨bq14, hbq14⟩ : ∃ b_ : Bool, b_ = (rdOf false (rd_L5 l0 x9_1) x10_2) := ⟨_, rfl⟩
                            replace H : (if bq14 = true then (some true) else (jacquardref14_near.l1 k2 l0 l1 a2 a3 x9_1 (wrap64 (x10_2 + 1)))) = some r := by rw [← hbq14] at H; exact H
                            have Nbq14 := Aside0.mk hbq14
                            clear hbq14
                            by_cases c15 : bq14 = true
                            · subst c15
                              have H1 : (some true) = some r := by rw [if_pos rfl] at H; exact H
                              clear H
                              have H := H1
                              clear H1
                              obtain rfl := Option.some.inj H
                              have p254 : 0 ≤ (x9_1 : Int) := of_decide_eq_true (by first | (with_reducible assumption) | assumption)
                              have q254 : x9_1 < (l1.length : Int) := of_decide_eq_true (by first | (with_reducible assumption) | assumption)
                              obtain ⟨ad254, e254, hx254_0⟩ := Kd.at_int HR1.out x9_1 p254 q254
                              cases e254
                              replace p254 := eq_true p254
                              replace q254 := eq_true q254
                              have p255 : 0 ≤ (x10_2 : Int) := of_decide_eq_true (by first | (with_reducible assumption) | assumption)
                              have q255 : x10_2 < (l1.length : Int) := of_decide_eq_true (by first | (with_reducible assumption) | assumption)
                              obtain ⟨ad255, e255, hx255_0⟩ := Kd.at_int HR1.out x10_2 p255 q255
                              obtain rfl : ad254 = ad255 := (by injection e255)
                              replace p255 := eq_true p255
                              replace q255 := eq_true q255
                              have p256 : 0 ≤ (x9_1 : Int) := of_decide_eq_true (by first | (with_reducible assumption) | assumption)
                              have q256 : x9_1 < (l0.length : Int) := of_decide_eq_true (by first | (with_reducible assumption) | assumption)
                              obtain ⟨ad256, A256_0, c256_0, e256, hx256_0, hl256_0, hi256_0⟩ := at_L5 HR0.out x9_1 p256 q256
                              cases e256
                              have HR256_0 := Aside0.mk hi256_0
                              have HC256_0 := Aside0.mk hl256_0
                              clear hi256_0 hl256_0
                              replace p256 := eq_true p256
                              replace q256 := eq_true q256
                              have p257 : 0 ≤ (x10_2 : Int) := of_decide_eq_true (by first | (with_reducible assumption) | assumption)
                              have q257 : x10_2 < ((rd_L5 l0 x9_1).length : Int) := of_decide_eq_true (by first | (with_reducible assumption) | assumption)
                              obtain ⟨ad257, e257, hx257_0⟩ := Kd.at_bool HR256_0.out x10_2 p257 q257
                              (try rw [← Nbq14.out] at hx257_0)
                              cases e257
                              replace p257 := eq_true p257
                              replace q257 := eq_true q257
                              go_wp2
                              go_ret
                              exact ⟨by first | rfl | (simp; done) | (simp [*]; done), by repeat (first | exact Drawn0.refl _ | apply Drawn0.step)⟩
                            · replace c15 := Bool.eq_false_iff.mpr c15
                              subst c15
                              have H1 : (jacquardref14_near.l1 k2 l0 l1 a2 a3 x9_1 (wrap64 (x10_2 + 1))) = some r := by rw [if_neg (show ¬ (false = true) by decide)] at H; exact H
                              clear H
                              have H := H1
                              clear H1
                              have H' := Aside0.mk H
                              clear H
                              have p254 : 0 ≤ (x9_1 : Int) := of_decide_eq_true (by first | (with_reducible assumption) | assumption)
                              have q254 : x9_1 < (l1.length : Int) := of_decide_eq_true (by first | (with_reducible assumption) | assumption)
                              obtain ⟨ad254, e254, hx254_0⟩ := Kd.at_int HR1.out x9_1 p254 q254
                              cases e254
                              replace p254 := eq_true p254
                              replace q254 := eq_true q254
                              have p255 : 0 ≤ (x10_2 : Int) := of_decide_eq_true (by first | (with_reducible assumption) | assumption)
                              have q255 : x10_2 < (l1.length : Int) := of_decide_eq_true (by first | (with_reducible assumption) | assumption)
                              obtain ⟨ad255, e255, hx255_0⟩ := Kd.at_int HR1.out x10_2 p255 q255
                              obtain rfl : ad254 = ad255 := (by injection e255)
                              replace p255 := eq_true p255
                              replace q255 := eq_true q255
                              have p256 : 0 ≤ (x9_1 : Int) := of_decide_eq_true (by first | (with_reducible assumption) | assumption)
                              have q256 : x9_1 < (l0.length : Int) := of_decide_eq_true (by first | (with_reducible assumption) | assumption)
                              obtain ⟨ad256, A256_0, c256_0, e256, hx256_0, hl256_0, hi256_0⟩ := at_L5 HR0.out x9_1 p256 q256
                              cases e256
                              have HR256_0 := Aside0.mk hi256_0
                              have HC256_0 := Aside0.mk hl256_0
                              clear hi256_0 hl256_0
                              replace p256 := eq_true p256
                              replace q256 := eq_true q256
                              have p257 : 0 ≤ (x10_2 : Int) := of_decide_eq_true (by first | (with_reducible assumption) | assumption)
                              have q257 : x10_2 < ((rd_L5 l0 x9_1).length : Int) := of_decide_eq_true (by first | (with_reducible assumption) | assumption)
                              obtain ⟨ad257, e257, hx257_0⟩ := Kd.at_bool HR256_0.out x10_2 p257 q257
                              (try rw [← Nbq14.out] at hx257_0)
                              cases e257
                              replace p257 := eq_true p257
                              replace q257 := eq_true q257
                              go_wp2
                              go_roundg k2
                              case measure => have := HK1.out; have := HK2.out; omega
                              case rel => exact ⟨(wrap64 (x10_2 + 1)), (by first | rfl | (simp; done) | (simp [*]; done)), H', ⟨by have := HK1.out; have := HK2.out; omega⟩, by repeat (first | exact Drawn0.refl _ | apply Drawn0.step)⟩
                          · rw [if_neg c13] at H
                            exact absurd H (by simp)
                        · rw [if_neg c12] at H
                          exact absurd H (by simp)
                      · rw [if_neg c11] at H
                        have c11b0 : ((rd l1 x10_2) == a3) = false := beq_eq_false_iff_ne.mpr c11
                        have c11b1 : ((rd l1 x10_2) != a3) = true := bne_iff_ne.mpr c11
                        have H' := Aside0.mk H
                        clear H
                        have p254 : 0 ≤ (x9_1 : Int) := of_decide_eq_true (by first | (with_reducible assumption) | assumption)
                        have q254 : x9_1 < (l1.length : Int) := of_decide_eq_true (by first | (with_reducible assumption) | assumption)
                        obtain ⟨ad254, e254, hx254_0⟩ := Kd.at_int HR1.out x9_1 p254 q254
                        cases e254
                        replace p254 := eq_true p254
                        replace q254 := eq_true q254
                        have p255 : 0 ≤ (x10_2 : Int) := of_decide_eq_true (by first | (with_reducible assumption) | assumption)
                        have q255 : x10_2 < (l1.length : Int) := of_decide_eq_true (by first | (with_reducible assumption) | assumption)
                        obtain ⟨ad255, e255, hx255_0⟩ := Kd.at_int HR1.out x10_2 p255 q255
                        obtain rfl : ad254 = ad255 := (by injection e255)
                        replace p255 := eq_true p255
                        replace q255 := eq_true q255
                        go_wp2
                        go_roundg k2
                        case measure => have := HK1.out; have := HK2.out; omega
                        case rel => exact ⟨(wrap64 (x10_2 + 1)), (by first | rfl | (simp; done) | (simp [*]; done)), H', ⟨by have := HK1.out; have := HK2.out; omega⟩, by repeat (first | exact Drawn0.refl _ | apply Drawn0.step)⟩
                    · rw [if_neg c10] at H
                      exact absurd H (by simp)
                  · rw [if_neg c9] at H
                    have c9b0 : ((rd l1 x9_1) == a2) = false := beq_eq_false_iff_ne.mpr c9
                    have c9b1 : ((rd l1 x9_1) != a2) = true := bne_iff_ne.mpr c9
                    have H' := Aside0.mk H
                    clear H
                    have p254 : 0 ≤ (x9_1 : Int) := of_decide_eq_true (by first | (with_reducible assumption) | assumption)
                    have q254 : x9_1 < (l1.length : Int) := of_decide_eq_true (by first | (with_reducible assumption) | assumption)
                    obtain ⟨ad254, e254, hx254_0⟩ := Kd.at_int HR1.out x9_1 p254 q254
                    cases e254
                    replace p254 := eq_true p254
                    replace q254 := eq_true q254
                    go_wp2
                    go_roundg k2
                    case measure => have := HK1.out; have := HK2.out; omega
                    case rel => exact ⟨(wrap64 (x10_2 + 1)), (by first | rfl | (simp; done) | (simp [*]; done)), H', ⟨by have := HK1.out; have := HK2.out; omega⟩, by repeat (first | exact Drawn0.refl _ | apply Drawn0.step)⟩
                · rw [if_neg c8] at H
                  exact absurd H (by simp)
              · rw [if_neg c7] at H
                exact absurd H (by simp)
            · rw [if_neg c6] at H
              have c6b0 : decide (x10_2 < (l1.length : Int)) = false := decide_eq_false c6
              clear c6
              have H' := Aside0.mk H
              clear H
              go_wp2
              go_roundg k2
              case measure => have := HK1.out; have := HK2.out; omega
              case rel => exact ⟨(wrap64 (x9_1 + 1)), (by first | rfl | (simp; done) | (simp [*]; done)), H', ⟨by have := HK1.out; have := HK2.out; omega⟩, by repeat (first | exact Drawn0.refl _ | apply Drawn0.step)⟩
      · rw [if_neg c5] at H
        have c5b0 : decide (x9_1 < (l1.length : Int)) = false := decide_eq_false c5
        clear c5
        obtain rfl := Option.some.inj H
        go_wp2
        go_ret
        exact ⟨by first | rfl | (simp; done) | (simp [*]; done), by repeat (first | exact Drawn0.refl _ | apply Drawn0.step)⟩

/-! ### jacquardref14_joins: function 26 -/
mutual
def jacquardref14_joins.l0 : Nat → List (List Bool) → Int → List Int → Int → Int → Int → Option (Bool)
  | 0, _, _, _, _, _, _ => none
  | k + 1, x0, x4, x12, x13, x14, x15 => if x15 < (x12.length : Int) then (if 0 ≤ x15 then (if (rd x12 x15) = x15 then (if x15 = x13 then (jacquardref14_joins.j1 k x0 x4 x12 x13 x14 x15 false) else ((jacquardref14_near.f k x0 x12 x15 x13).bind fun t263 => (jacquardref14_joins.j1 k x0 x4 x12 x13 x14 x15 t263))) else (jacquardref14_joins.j1 k x0 x4 x12 x13 x14 x15 false)) else (none)) else (some (decide (x14 < x4)))
def jacquardref14_joins.j1 : Nat → List (List Bool) → Int → List Int → Int → Int → Int → Bool → Option (Bool)
  | 0, _, _, _, _, _, _, _ => none
  | k + 1, x0, x4, x12, x13, x14, x15, x16 => if x16 = true then (jacquardref14_joins.l1 k x0 x4 x12 x13 x14 x15 0 0) else (jacquardref14_joins.l0 k x0 x4 x12 x13 x14 (wrap64 (x15 + 1)))
def jacquardref14_joins.l1 : Nat → List (List Bool) → Int → List Int → Int → Int → Int → Int → Int → Option (Bool)
  | 0, _, _, _, _, _, _, _, _ => none
  | k + 1, x0, x4, x12, x13, x14, x15, x17, x18 => if x18 < (x12.length : Int) then (if 0 ≤ x18 then (if (rd x12 x18) = x18 then (if x18 = x15 then (jacquardref14_joins.l1 k x0 x4 x12 x13 x14 x15 x17 (wrap64 (x18 + 1))) else ((jacquardref14_near.f k x0 x12 x15 x18).bind fun t265 => (if t265 = true then (jacquardref14_joins.l1 k x0 x4 x12 x13 x14 x15 (wrap64 (x17 + 1)) (wrap64 (x18 + 1))) else (jacquardref14_joins.l1 k x0 x4 x12 x13 x14 x15 x17 (wrap64 (x18 + 1)))))) else (jacquardref14_joins.l1 k x0 x4 x12 x13 x14 x15 x17 (wrap64 (x18 + 1)))) else (none)) else (if x17 ≥ x4 then (jacquardref14_joins.l0 k x0 x4 x12 x13 (wrap64 (x14 + 1)) (wrap64 (x15 + 1))) else (jacquardref14_joins.l0 k x0 x4 x12 x13 x14 (wrap64 (x15 + 1))))
end
def jacquardref14_joins.f (k : Nat) (l0 : List (List Bool)) (l1 : List Int) (a2 : Int) (a3 : Int) (a4 : Int) : Option (Bool) := if a2 = a3 then (some false) else ((jacquardref14_near.f k l0 l1 a2 a3).bind fun t258 => (if t258 = true then (some false) else ((jacquardref14_joined.f k l1 a2 a3).bind fun t259 => (jacquardref14_joins.l0 k l0 a4 t259 (mn a2 a3) 0 0))))
theorem jacquardref14_joins.mono_l : ∀ k, (∀ y0 y1 y2 y3 y4 y5, LeO (jacquardref14_joins.l0 k y0 y1 y2 y3 y4 y5) (jacquardref14_joins.l0 (k + 1) y0 y1 y2 y3 y4 y5)) ∧ (∀ y0 y1 y2 y3 y4 y5 y6, LeO (jacquardref14_joins.j1 k y0 y1 y2 y3 y4 y5 y6) (jacquardref14_joins.j1 (k + 1) y0 y1 y2 y3 y4 y5 y6)) ∧ (∀ y0 y1 y2 y3 y4 y5 y6 y7, LeO (jacquardref14_joins.l1 k y0 y1 y2 y3 y4 y5 y6 y7) (jacquardref14_joins.l1 (k + 1) y0 y1 y2 y3 y4 y5 y6 y7))
  | 0 => ⟨fun _ _ _ _ _ _ r h => by simp [jacquardref14_joins.l0] at h, fun _ _ _ _ _ _ _ r h => by simp [jacquardref14_joins.j1] at h, fun _ _ _ _ _ _ _ _ r h => by simp [jacquardref14_joins.l1] at h⟩
  | k + 1 => by
    obtain ⟨ih0, ih1, ih2⟩ := jacquardref14_joins.mono_l k
    refine ⟨?_, ?_, ?_⟩
    · intro y0 y1 y2 y3 y4 y5
      unfold jacquardref14_joins.l0
      repeat' first
      | (with_reducible exact ih0 _ _ _ _ _ _)
      | (with_reducible exact ih1 _ _ _ _ _ _ _)
      | (with_reducible exact ih2 _ _ _ _ _ _ _ _)
      | (with_reducible exact jacquardref14_joined.mono _ _ _ _)
      | (with_reducible exact jacquardref14_near.mono _ _ _ _ _)
      | (with_reducible exact LeO.refl _)
      | (with_reducible exact LeO.none _)
      | (with_reducible refine LeO.ite ?_ ?_)
      | (with_reducible refine LeO.bind ?_ (fun _ => ?_))
      | exact ih0 _ _ _ _ _ _
      | exact ih1 _ _ _ _ _ _ _
      | exact ih2 _ _ _ _ _ _ _ _
      | exact jacquardref14_joined.mono _ _ _ _
      | exact jacquardref14_near.mono _ _ _ _ _
      | exact LeO.none _
      | refine LeO.ite ?_ ?_
      | refine LeO.bind ?_ (fun _ => ?_)
    · intro y0 y1 y2 y3 y4 y5 y6
      unfold jacquardref14_joins.j1
      repeat' first
      | (with_reducible exact ih0 _ _ _ _ _ _)
      | (with_reducible exact ih1 _ _ _ _ _ _ _)
      | (with_reducible exact ih2 _ _ _ _ _ _ _ _)
      | (with_reducible exact jacquardref14_joined.mono _ _ _ _)
      | (with_reducible exact jacquardref14_near.mono _ _ _ _ _)
      | (with_reducible exact LeO.refl _)
      | (with_reducible exact LeO.none _)
      | (with_reducible refine LeO.ite ?_ ?_)
      | (with_reducible refine LeO.bind ?_ (fun _ => ?_))
      | exact ih0 _ _ _ _ _ _
      | exact ih1 _ _ _ _ _ _ _
      | exact ih2 _ _ _ _ _ _ _ _
      | exact jacquardref14_joined.mono _ _ _ _
      | exact jacquardref14_near.mono _ _ _ _ _
      | exact LeO.none _
      | refine LeO.ite ?_ ?_
      | refine LeO.bind ?_ (fun _ => ?_)
    · intro y0 y1 y2 y3 y4 y5 y6 y7
      unfold jacquardref14_joins.l1
      repeat' first
      | (with_reducible exact ih0 _ _ _ _ _ _)
      | (with_reducible exact ih1 _ _ _ _ _ _ _)
      | (with_reducible exact ih2 _ _ _ _ _ _ _ _)
      | (with_reducible exact jacquardref14_joined.mono _ _ _ _)
      | (with_reducible exact jacquardref14_near.mono _ _ _ _ _)
      | (with_reducible exact LeO.refl _)
      | (with_reducible exact LeO.none _)
      | (with_reducible refine LeO.ite ?_ ?_)
      | (with_reducible refine LeO.bind ?_ (fun _ => ?_))
      | exact ih0 _ _ _ _ _ _
      | exact ih1 _ _ _ _ _ _ _
      | exact ih2 _ _ _ _ _ _ _ _
      | exact jacquardref14_joined.mono _ _ _ _
      | exact jacquardref14_near.mono _ _ _ _ _
      | exact LeO.none _
      | refine LeO.ite ?_ ?_
      | refine LeO.bind ?_ (fun _ => ?_)
theorem jacquardref14_joins.mono : ∀ a0 a1 a2 a3 a4 k, LeO (jacquardref14_joins.f k a0 a1 a2 a3 a4) (jacquardref14_joins.f (k + 1) a0 a1 a2 a3 a4) := by
  intro a0 a1 a2 a3 a4 k
  obtain ⟨ih0, ih1, ih2⟩ := jacquardref14_joins.mono_l k
  unfold jacquardref14_joins.f
  repeat' first
      | (with_reducible exact ih0 _ _ _ _ _ _)
      | (with_reducible exact ih1 _ _ _ _ _ _ _)
      | (with_reducible exact ih2 _ _ _ _ _ _ _ _)
      | (with_reducible exact jacquardref14_joined.mono _ _ _ _)
      | (with_reducible exact jacquardref14_near.mono _ _ _ _ _)
      | (with_reducible exact LeO.refl _)
      | (with_reducible exact LeO.none _)
      | (with_reducible refine LeO.ite ?_ ?_)
      | (with_reducible refine LeO.bind ?_ (fun _ => ?_))
      | exact ih0 _ _ _ _ _ _
      | exact ih1 _ _ _ _ _ _ _
      | exact ih2 _ _ _ _ _ _ _ _
      | exact jacquardref14_joined.mono _ _ _ _
      | exact jacquardref14_near.mono _ _ _ _ _
      | exact LeO.none _
      | refine LeO.ite ?_ ?_
      | refine LeO.bind ?_ (fun _ => ?_)
set_option maxHeartbeats 8000000 in
set_option maxRecDepth 100000 in
theorem jacquardref14_joins.calls (k : Nat) (A0 : Option Addr) (c0 : Nat) (l0 : List (List Bool)) (A1 : Option Addr) (c1 : Nat) (l1 : List Int) (a2 : Int) (a3 : Int) (a4 : Int) (r : Bool) (w : World) (hr0 : Kd.C (Kd.slice 4 Kd.bool) w A0 l0.length l0) (hc0 : l0.length ≤ c0) (hr1 : Kd.C (Kd.int .i64) w A1 l1.length l1) (hc1 : l1.length ≤ c1) (h : jacquardref14_joins.f k l0 l1 a2 a3 a4 = some r) :
    Calls Try.prog 26 #[.slice A0 l0.length c0, .slice A1 l1.length c1, .int .i64 a2, .int .i64 a3, .int .i64 a4] w fun e w' => e = .returned (.bool r) ∧ Below w.heap.size w w' := by
  have HR0 := Aside0.mk hr0
  have HC0 := Aside0.mk hc0
  clear hr0 hc0
  have HR1 := Aside0.mk hr1
  have HC1 := Aside0.mk hc1
  clear hr1 hc1
  have HB := Aside0.mk (Below.refl w.heap.size w)
  have H : (if a2 = a3 then (some false) else ((jacquardref14_near.f k l0 l1 a2 a3).bind fun t258 => (if t258 = true then (some false) else ((jacquardref14_joined.f k l1 a2 a3).bind fun t259 => (jacquardref14_joins.l0 k l0 a4 t259 (mn a2 a3) 0 0))))) = some r := h
  clear h
  by_cases c6 : a2 = a3
  · rw [if_pos c6] at H
    have c6b0 : (a2 == a3) = true := beq_iff_eq.mpr c6
    have c6b1 : (a2 != a3) = false := bne_eq_false_iff_eq.mpr c6
    clear c6
    obtain rfl := Option.some.inj H
    go_enter Try.func26, Try.ntmps26
    go_wp2
    go_ret
    exact ⟨by first | rfl | (simp [errW_none, errW_some] <;> rfl) | (simp [*, errW_none, errW_some] <;> rfl), by repeat (first | (with_reducible first | exact HB.out | apply below_alloc | apply pw_below_drewN | apply below_drew1) | exact HB.out)⟩
  · rw [if_neg c6] at H
    have c6b0 : (a2 == a3) = false := beq_eq_false_iff_ne.mpr c6
    have c6b1 : (a2 != a3) = true := bne_iff_ne.mpr c6
    replace H := Option.bind_eq_some_iff.mp H
    obtain ⟨t258, A70, H⟩ := H
    replace H : (if t258 = true then (some false) else ((jacquardref14_joined.f k l1 a2 a3).bind fun t259 => (jacquardref14_joins.l0 k l0 a4 t259 (mn a2 a3) 0 0))) = some r := H
    have A7 := Aside0.mk A70
    clear A70
    by_cases c8 : t258 = true
    · subst c8
      have H1 : (some false) = some r := by rw [if_pos rfl] at H; exact H
      clear H
      have H := H1
      clear H1
      obtain rfl := Option.some.inj H
      go_enter Try.func26, Try.ntmps26
      go_wp2_with (first | ((with_reducible refine gate_callee (f := 28) rfl ?_); refine goesL_ (some 27) rfl rfl Try.func28 (by kernel_rfl) rfl #[.slice A0 l0.length c0, .slice A1 l1.length c1, .int .i64 a2, .int .i64 a3] rfl (by (try simp only [List.map_toArray, List.map_cons, List.map_nil]); first | done | rfl | (simp only [List.length_drop, List.length_take]; rfl)) ?_; (with_reducible refine (jacquardref14_near.calls k _ _ l0 _ _ l1 a2 a3 true _ ?side1 ?side2 ?side3 ?side4 A7.out).mono ?_); (case side1 => repeat (first | exact HR0.out | (with_reducible refine Kd.C_alloc ?_ _) | (with_reducible refine Kd.C_drewN ?_ _) | (with_reducible refine Kd.C_drew ?_))); (case side2 => exact HC0.out); (case side3 => repeat (first | exact HR1.out | (with_reducible refine Kd.C_alloc ?_ _) | (with_reducible refine Kd.C_drewN ?_ _) | (with_reducible refine Kd.C_drew ?_))); (case side4 => exact HC1.out); rintro e w' ⟨rfl, ⟨nd, rfl⟩⟩; refine ⟨_, rfl, ?_⟩))
      go_ret
      exact ⟨by first | rfl | (simp [errW_none, errW_some] <;> rfl) | (simp [*, errW_none, errW_some] <;> rfl), by repeat (first | (with_reducible first | exact HB.out | apply below_alloc | apply pw_below_drewN | apply below_drew1) | exact HB.out)⟩
    · replace c8 := Bool.eq_false_iff.mpr c8
      subst c8
      have H1 : ((jacquardref14_joined.f k l1 a2 a3).bind fun t259 => (jacquardref14_joins.l0 k l0 a4 t259 (mn a2 a3) 0 0)) = some r := by rw [if_neg (show ¬ (false = true) by decide)] at H; exact H
      clear H
      have H := H1
      clear H1
      replace H := Option.bind_eq_some_iff.mp H
      obtain ⟨t259, A90, H⟩ := H
      replace H : (jacquardref14_joins.l0 k l0 a4 t259 (mn a2 a3) 0 0) = some r := H
      have A9 := Aside0.mk A90
      clear A90
      obtain ⟨ji10, hji10⟩ : ∃ j_ : Int, (mn a2 a3) = j_ := ⟨_, rfl⟩
      replace H : (jacquardref14_joins.l0 k l0 a4 t259 ji10 0 0) = some r := by first | (rw [hji10] at H; exact H) | (simp only [hji10] at H ⊢; exact H)
      (try rw [hji10] at A7)
      (try rw [hji10] at A9)
      have hji10_ : (if a3 < a2 then a3 else a2) = ji10 := hji10
      have H' := Aside0.mk H
      clear H
      go_enter Try.func26, Try.ntmps26
      go_wp2_with (first | ((with_reducible refine gate_callee (f := 28) rfl ?_); refine goesL_ (some 27) rfl rfl Try.func28 (by kernel_rfl) rfl #[.slice A0 l0.length c0, .slice A1 l1.length c1, .int .i64 a2, .int .i64 a3] rfl (by (try simp only [List.map_toArray, List.map_cons, List.map_nil]); first | done | rfl | (simp only [List.length_drop, List.length_take]; rfl)) ?_; (with_reducible refine (jacquardref14_near.calls k _ _ l0 _ _ l1 a2 a3 false _ ?side1 ?side2 ?side3 ?side4 A7.out).mono ?_); (case side1 => repeat (first | exact HR0.out | (with_reducible refine Kd.C_alloc ?_ _) | (with_reducible refine Kd.C_drewN ?_ _) | (with_reducible refine Kd.C_drew ?_))); (case side2 => exact HC0.out); (case side3 => repeat (first | exact HR1.out | (with_reducible refine Kd.C_alloc ?_ _) | (with_reducible refine Kd.C_drewN ?_ _) | (with_reducible refine Kd.C_drew ?_))); (case side4 => exact HC1.out); rintro e w' ⟨rfl, ⟨nd, rfl⟩⟩; refine ⟨_, rfl, ?_⟩) | ((with_reducible refine gate_callee (f := 27) rfl ?_); refine goesL_ (some 32) rfl rfl Try.func27 (by kernel_rfl) rfl #[.slice A1 l1.length c1, .int .i64 a2, .int .i64 a3] rfl (by (try simp only [List.map_toArray, List.map_cons, List.map_nil]); first | done | rfl | (simp only [List.length_drop, List.length_take]; rfl)) ?_; (with_reducible refine (jacquardref14_joined.calls k _ _ l1 a2 a3 t259 _ ?side1 ?side2 A9.out).mono ?_); (case side1 => repeat (first | exact HR1.out | (with_reducible refine Kd.C_alloc ?_ _) | (with_reducible refine Kd.C_drewN ?_ _) | (with_reducible refine Kd.C_drew ?_))); (case side2 => exact HC1.out); rintro e w11 ⟨v260, rfl, ho0, hb⟩; refine ⟨_, rfl, ?_⟩; have n0_ := Aside0.mk (Kd.R_lower ho0 (below_size (by repeat (first | (with_reducible first | exact HB.out | apply below_alloc | apply pw_below_drewN | apply below_drew1) | exact HB.out)))); have n1_ := Aside0.mk (below_step (by repeat (first | (with_reducible first | exact HB.out | apply below_alloc | apply pw_below_drewN | apply below_drew1) | exact HB.out)) hb); clear HB; have HO261 := n0_; have HB := n1_; clear n0_ n1_; (try clear hb); (try clear hb2); (try clear hk); (try clear hi); (try clear ho0)))
      go_loopg [14, 15] k (fun kq v14 v15 w' => ∃ (x14_1 : Int) (x15_1 : Int), v14 = .int .i64 x14_1 ∧ v15 = .int .i64 x15_1 ∧ Aside0 (jacquardref14_joins.l0 kq l0 a4 t259 ji10 x14_1 x15_1 = some r) ∧ Aside0 (kq ≤ k) ∧ Aside0 (Kd.R (Kd.int .i64) 3 w' w.heap.size (fun _ => True) v260 t259) ∧ Aside0 (Below w.heap.size w w'))
      case atStart => exact ⟨(0), (0), (by first | rfl | (simp; done) | (simp [*]; done)), (by first | rfl | (simp; done) | (simp [*]; done)), H', ⟨Nat.le_refl _⟩, ⟨by (with_reducible repeat (first | apply Kd.R_alloc | apply Kd.R_drewN | apply Kd.R_drew)); exact HO261.out⟩, ⟨by repeat (first | (with_reducible first | exact HB.out | apply below_alloc | apply pw_below_drewN | apply below_drew1) | exact HB.out)⟩⟩
      case round =>
        clear H'
        try clear c1
        try clear c2
        try clear p2
        try clear c6
        try clear c6b0
        try clear c6b1
        try clear c8
        obtain ⟨x14_1, x15_1, rfl, rfl, HA, HK1, HO_12, HB⟩ := hrel
        cases gk with
        | zero => exact absurd HA.out (by simp [jacquardref14_joins.l0])
        | succ k1 =>
          have H := HA.out
          clear HA
          simp only [jacquardref14_joins.l0] at H
          by_cases c12 : x15_1 < (t259.length : Int)
          · rw [if_pos c12] at H
            have c12b0 : decide (x15_1 < (t259.length : Int)) = true := decide_eq_true c12
            clear c12
            have HC13 := Aside0.mk H
            clear H
            obtain ⟨Ao14, co14, eo14⟩ := Kd.R_slice HO_12.out
            subst eo14
            go_upto_region 12 with (fail)
            go_cut [16] (fun v16 wc => ∃ (kq : Nat) (x16_12 : Bool), v16 = .bool x16_12 ∧ Aside0 (jacquardref14_joins.j1 kq l0 a4 t259 ji10 x14_1 x15_1 x16_12 = some r) ∧ Aside0 (kq ≤ k1) ∧ Aside0 (Kd.R (Kd.int .i64) 3 wc w.heap.size (fun _ => True) (.slice Ao14 t259.length co14) t259) ∧ Aside0 (Below w.heap.size w wc))
            case first =>
              have H := HC13.out
              clear HC13
              by_cases c15 : 0 ≤ x15_1
              · rw [if_pos c15] at H
                have c15b0 : decide (0 ≤ x15_1) = true := decide_eq_true c15
                clear c15
                (first | rw [c15b0] | (simp only [i64_w, i32_w]; rw [c15b0]) | skip)
                by_cases c16 : (rd t259 x15_1) = x15_1
                · rw [if_pos c16] at H
                  have c16b0 : ((rd t259 x15_1) == x15_1) = true := beq_iff_eq.mpr c16
                  have c16b1 : ((rd t259 x15_1) != x15_1) = false := bne_eq_false_iff_eq.mpr c16
                  clear c16
                  by_cases c17 : x15_1 = ji10
                  · rw [if_pos c17] at H
                    have c17b0 : (x15_1 == ji10) = true := beq_iff_eq.mpr c17
                    have c17b1 : (x15_1 != ji10) = false := bne_eq_false_iff_eq.mpr c17
                    clear c17
                    have H' := Aside0.mk H
                    clear H
                    have p262 : 0 ≤ (x15_1 : Int) := of_decide_eq_true (by first | (with_reducible assumption) | assumption)
                    have q262 : x15_1 < (t259.length : Int) := of_decide_eq_true (by first | (with_reducible assumption) | assumption)
                    obtain ⟨ad262, e262, hx262_0⟩ := Kd.at_int (Kd.R_reads' HO_12.out).2.2 x15_1 p262 q262
                    cases e262
                    replace p262 := eq_true p262
                    replace q262 := eq_true q262
                    go_wp2
                    go_meet
                    case rel => exact ⟨_, (false), (by first | rfl | (simp; done) | (simp [*]; done)), H', ⟨by have := HK1.out; first | omega | exact Nat.le_refl _⟩, ⟨by (with_reducible repeat (first | apply Kd.R_alloc | apply Kd.R_drewN | apply Kd.R_drew)); exact HO_12.out⟩, ⟨by repeat (first | (with_reducible first | exact HB.out | apply below_alloc | apply pw_below_drewN | apply below_drew1) | exact HB.out)⟩⟩
                  · rw [if_neg c17] at H
                    have c17b0 : (x15_1 == ji10) = false := beq_eq_false_iff_ne.mpr c17
                    have c17b1 : (x15_1 != ji10) = true := bne_iff_ne.mpr c17
                    replace H := Option.bind_eq_some_iff.mp H
                    obtain ⟨t263, A180, H⟩ := H
                    replace H : (jacquardref14_joins.j1 k1 l0 a4 t259 ji10 x14_1 x15_1 t263) = some r := H
                    have A18 := Aside0.mk A180
                    clear A180
                    have H' := Aside0.mk H
                    clear H
                    have p262 : 0 ≤ (x15_1 : Int) := of_decide_eq_true (by first | (with_reducible assumption) | assumption)
                    have q262 : x15_1 < (t259.length : Int) := of_decide_eq_true (by first | (with_reducible assumption) | assumption)
                    obtain ⟨ad262, e262, hx262_0⟩ := Kd.at_int (Kd.R_reads' HO_12.out).2.2 x15_1 p262 q262
                    cases e262
                    replace p262 := eq_true p262
                    replace q262 := eq_true q262
                    go_wp2_with (first | (go_at_call 28; (with_reducible refine (jacquardref14_near.calls k1 _ _ l0 _ _ t259 x15_1 ji10 t263 _ ?side1 ?side2 ?side3 ?side4 A18.out).mono ?_); (case side1 => repeat (first | exact (Kd.C_below HR0.out HB.out) | (with_reducible refine Kd.C_alloc ?_ _) | (with_reducible refine Kd.C_drewN ?_ _) | (with_reducible refine Kd.C_drew ?_))); (case side2 => exact HC0.out); (case side3 => repeat (first | exact (Kd.R_reads' HO_12.out).2.2 | (with_reducible refine Kd.C_alloc ?_ _) | (with_reducible refine Kd.C_drewN ?_ _) | (with_reducible refine Kd.C_drew ?_))); (case side4 => exact (Kd.R_reads' HO_12.out).2.1); rintro e w' ⟨rfl, ⟨nd, rfl⟩⟩))
                    go_meet
                    case rel => exact ⟨_, (t263), (by first | rfl | (simp; done) | (simp [*]; done)), H', ⟨by have := HK1.out; first | omega | exact Nat.le_refl _⟩, ⟨by (with_reducible repeat (first | apply Kd.R_alloc | apply Kd.R_drewN | apply Kd.R_drew)); exact HO_12.out⟩, ⟨by repeat (first | (with_reducible first | exact HB.out | apply below_alloc | apply pw_below_drewN | apply below_drew1) | exact HB.out)⟩⟩
                · rw [if_neg c16] at H
                  have c16b0 : ((rd t259 x15_1) == x15_1) = false := beq_eq_false_iff_ne.mpr c16
                  have c16b1 : ((rd t259 x15_1) != x15_1) = true := bne_iff_ne.mpr c16
                  have H' := Aside0.mk H
                  clear H
                  have p262 : 0 ≤ (x15_1 : Int) := of_decide_eq_true (by first | (with_reducible assumption) | assumption)
                  have q262 : x15_1 < (t259.length : Int) := of_decide_eq_true (by first | (with_reducible assumption) | assumption)
                  obtain ⟨ad262, e262, hx262_0⟩ := Kd.at_int (Kd.R_reads' HO_12.out).2.2 x15_1 p262 q262
                  cases e262
                  replace p262 := eq_true p262
                  replace q262 := eq_true q262
                  go_wp2
                  go_meet
                  case rel => exact ⟨_, (false), (by first | rfl | (simp; done) | (simp [*]; done)), H', ⟨by have := HK1.out; first | omega | exact Nat.le_refl _⟩, ⟨by (with_reducible repeat (first | apply Kd.R_alloc | apply Kd.R_drewN | apply Kd.R_drew)); exact HO_12.out⟩, ⟨by repeat (first | (with_reducible first | exact HB.out | apply below_alloc | apply pw_below_drewN | apply below_drew1) | exact HB.out)⟩⟩
              · rw [if_neg c15] at H
                exact absurd H (by simp)
            case rest =>
              clear HC13
              try clear c1
              try clear c2
              try clear p2
              try clear q2
              try clear hx2
              try clear c6
              try clear c6b0
              try clear c6b1
              try clear c8
              try clear c12
              try clear c12b0
              try clear c15
              try clear c15b0
              try clear c16
              try clear c16b0
              try clear c16b1
              try clear c17
              try clear c17b0
              try clear c17b1
              try clear hx262_0
              try clear p2
              try clear p262
              try clear q262
              obtain ⟨kq, x16_12, rfl, HA, HJ12, HO_12, HB⟩ := hcut
              cases kq with
              | zero => exact absurd HA.out (by simp [jacquardref14_joins.j1])
              | succ kj12 =>
                have H := HA.out
                clear HA
                simp only [jacquardref14_joins.j1] at H
                by_cases c19 : x16_12 = true
                · subst c19
                  have H1 : (jacquardref14_joins.l1 kj12 l0 a4 t259 ji10 x14_1 x15_1 0 0) = some r := by rw [if_pos rfl] at H; exact H
                  clear H
                  have H := H1
                  clear H1
                  have H' := Aside0.mk H
                  clear H
                  go_wp2
                  go_loopg [17, 18] kj12 (fun kq v17 v18 w' => ∃ (x17_3 : Int) (x18_3 : Int), v17 = .int .i64 x17_3 ∧ v18 = .int .i64 x18_3 ∧ Aside0 (jacquardref14_joins.l1 kq l0 a4 t259 ji10 x14_1 x15_1 x17_3 x18_3 = some r) ∧ Aside0 (kq ≤ kj12) ∧ Aside0 (Kd.R (Kd.int .i64) 3 w' w.heap.size (fun _ => True) (.slice Ao14 t259.length co14) t259) ∧ Aside0 (Below w.heap.size w w'))
                  case atStart => exact ⟨(0), (0), (by first | rfl | (simp; done) | (simp [*]; done)), (by first | rfl | (simp; done) | (simp [*]; done)), H', ⟨Nat.le_refl _⟩, ⟨by (with_reducible repeat (first | apply Kd.R_alloc | apply Kd.R_drewN | apply Kd.R_drew)); exact HO_12.out⟩, ⟨by repeat (first | (with_reducible first | exact HB.out | apply below_alloc | apply pw_below_drewN | apply below_drew1) | exact HB.out)⟩⟩
                  case round =>
                    clear H'
                    try clear c1
                    try clear c2
                    try clear p2
                    try clear q2
                    try clear hx2
                    try clear c6
                    try clear c6b0
                    try clear c6b1
                    try clear c8
                    try clear c12
                    try clear c12b0
                    try clear c15
                    try clear c15b0
                    try clear c16
                    try clear c16b0
                    try clear c16b1
                    try clear c17
                    try clear c17b0
                    try clear c17b1
                    try clear c19
                    try clear hx262_0
                    try clear p2
                    try clear p262
                    try clear q2
                    try clear q262
                    obtain ⟨x17_3, x18_3, rfl, rfl, HA, HK3, HO_12, HB⟩ := hrel
                    cases gk with
                    | zero => exact absurd HA.out (by simp [jacquardref14_joins.l1])
                    | succ k3 =>
                      have H := HA.out
                      clear HA
                      simp only [jacquardref14_joins.l1] at H
                      by_cases c20 : x18_3 < (t259.length : Int)
                      · rw [if_pos c20] at H
                        have c20b0 : decide (x18_3 < (t259.length : Int)) = true := decide_eq_true c20
                        clear c20
                        by_cases c21 : 0 ≤ x18_3
                        · rw [if_pos c21] at H
                          have c21b0 : decide (0 ≤ x18_3) = true := decide_eq_true c21
                          clear c21
                          by_cases c22 : (rd t259 x18_3) = x18_3
                          · rw [if_pos c22] at H
                            have c22b0 : ((rd t259 x18_3) == x18_3) = true := beq_iff_eq.mpr c22
                            have c22b1 : ((rd t259 x18_3) != x18_3) = false := bne_eq_false_iff_eq.mpr c22
                            clear c22
                            by_cases c23 : x18_3 = x15_1
                            · rw [if_pos c23] at H
                              have c23b0 : (x18_3 == x15_1) = true := beq_iff_eq.mpr c23
                              have c23b1 : (x18_3 != x15_1) = false := bne_eq_false_iff_eq.mpr c23
                              clear c23
                              have H' := Aside0.mk H
                              clear H
                              have p264 : 0 ≤ (x18_3 : Int) := of_decide_eq_true (by first | (with_reducible assumption) | assumption)
                              have q264 : x18_3 < (t259.length : Int) := of_decide_eq_true (by first | (with_reducible assumption) | assumption)
                              obtain ⟨ad264, e264, hx264_0⟩ := Kd.at_int (Kd.R_reads' HO_12.out).2.2 x18_3 p264 q264
                              cases e264
                              replace p264 := eq_true p264
                              replace q264 := eq_true q264
                              go_wp2
                              go_roundg k3
                              case measure => have := HK1.out; have := HJ12.out; have := HK3.out; omega
                              case rel => exact ⟨(x17_3), (wrap64 (x18_3 + 1)), (by first | rfl | (simp; done) | (simp [*]; done)), (by first | rfl | (simp; done) | (simp [*]; done)), H', ⟨by have := HK1.out; have := HJ12.out; have := HK3.out; omega⟩, ⟨by (with_reducible repeat (first | apply Kd.R_alloc | apply Kd.R_drewN | apply Kd.R_drew)); exact HO_12.out⟩, ⟨by repeat (first | (with_reducible first | exact HB.out | apply below_alloc | apply pw_below_drewN | apply below_drew1) | exact HB.out)⟩⟩
                            · rw [if_neg c23] at H
                              have c23b0 : (x18_3 == x15_1) = false := beq_eq_false_iff_ne.mpr c23
                              have c23b1 : (x18_3 != x15_1) = true := bne_iff_ne.mpr c23
                              replace H := Option.bind_eq_some_iff.mp H
                              obtain ⟨t265, A240, H⟩ := H
                              replace H : (if t265 = true then (jacquardref14_joins.l1 k3 l0 a4 t259 ji10 x14_1 x15_1 (wrap64 (x17_3 + 1)) (wrap64 (x18_3 + 1))) else (jacquardref14_joins.l1 k3 l0 a4 t259 ji10 x14_1 x15_1 x17_3 (wrap64 (x18_3 + 1)))) = some r := H
                              have A24 := Aside0.mk A240
                              clear A240
                              by_cases c25 : t265 = true
                              · subst c25
                                have H1 : (jacquardref14_joins.l1 k3 l0 a4 t259 ji10 x14_1 x15_1 (wrap64 (x17_3 + 1)) (wrap64 (x18_3 + 1))) = some r := by rw [if_pos rfl] at H; exact H
                                clear H
                                have H := H1
                                clear H1
                                have H' := Aside0.mk H
                                clear H
                                have p264 : 0 ≤ (x18_3 : Int) := of_decide_eq_true (by first | (with_reducible assumption) | assumption)
                                have q264 : x18_3 < (t259.length : Int) := of_decide_eq_true (by first | (with_reducible assumption) | assumption)
                                obtain ⟨ad264, e264, hx264_0⟩ := Kd.at_int (Kd.R_reads' HO_12.out).2.2 x18_3 p264 q264
                                cases e264
                                replace p264 := eq_true p264
                                replace q264 := eq_true q264
                                go_wp2_with (first | (go_at_call 28; (with_reducible refine (jacquardref14_near.calls k3 _ _ l0 _ _ t259 x15_1 x18_3 true _ ?side1 ?side2 ?side3 ?side4 A24.out).mono ?_); (case side1 => repeat (first | exact (Kd.C_below HR0.out HB.out) | (with_reducible refine Kd.C_alloc ?_ _) | (with_reducible refine Kd.C_drewN ?_ _) | (with_reducible refine Kd.C_drew ?_))); (case side2 => exact HC0.out); (case side3 => repeat (first | exact (Kd.R_reads' HO_12.out).2.2 | (with_reducible refine Kd.C_alloc ?_ _) | (with_reducible refine Kd.C_drewN ?_ _) | (with_reducible refine Kd.C_drew ?_))); (case side4 => exact (Kd.R_reads' HO_12.out).2.1); rintro e w' ⟨rfl, ⟨nd, rfl⟩⟩))
                                go_roundg k3
                                case measure => have := HK1.out; have := HJ12.out; have := HK3.out; omega
                                case rel => exact ⟨(wrap64 (x17_3 + 1)), (wrap64 (x18_3 + 1)), (by first | rfl | (simp; done) | (simp [*]; done)), (by first | rfl | (simp; done) | (simp [*]; done)), H', ⟨by have := HK1.out; have := HJ12.out; have := HK3.out; omega⟩, ⟨by (with_reducible repeat (first | apply Kd.R_alloc | apply Kd.R_drewN | apply Kd.R_drew)); exact HO_12.out⟩, ⟨by repeat (first | (with_reducible first | exact HB.out | apply below_alloc | apply pw_below_drewN | apply below_drew1) | exact HB.out)⟩⟩
                              · replace c25 := Bool.eq_false_iff.mpr c25
                                subst c25
                                have H1 : (jacquardref14_joins.l1 k3 l0 a4 t259 ji10 x14_1 x15_1 x17_3 (wrap64 (x18_3 + 1))) = some r := by rw [if_neg (show ¬ (false = true) by decide)] at H; exact H
                                clear H
                                have H := H1
                                clear H1
                                have H' := Aside0.mk H
                                clear H
                                have p264 : 0 ≤ (x18_3 : Int) := of_decide_eq_true (by first | (with_reducible assumption) | assumption)
                                have q264 : x18_3 < (t259.length : Int) := of_decide_eq_true (by first | (with_reducible assumption) | assumption)
                                obtain ⟨ad264, e264, hx264_0⟩ := Kd.at_int (Kd.R_reads' HO_12.out).2.2 x18_3 p264 q264
                                cases e264
                                replace p264 := eq_true p264
                                replace q264 := eq_true q264
                                go_wp2_with (first | (go_at_call 28; (with_reducible refine (jacquardref14_near.calls k3 _ _ l0 _ _ t259 x15_1 x18_3 false _ ?side1 ?side2 ?side3 ?side4 A24.out).mono ?_); (case side1 => repeat (first | exact (Kd.C_below HR0.out HB.out) | (with_reducible refine Kd.C_alloc ?_ _) | (with_reducible refine Kd.C_drewN ?_ _) | (with_reducible refine Kd.C_drew ?_))); (case side2 => exact HC0.out); (case side3 => repeat (first | exact (Kd.R_reads' HO_12.out).2.2 | (with_reducible refine Kd.C_alloc ?_ _) | (with_reducible refine Kd.C_drewN ?_ _) | (with_reducible refine Kd.C_drew ?_))); (case side4 => exact (Kd.R_reads' HO_12.out).2.1); rintro e w' ⟨rfl, ⟨nd, rfl⟩⟩))
                                go_roundg k3
                                case measure => have := HK1.out; have := HJ12.out; have := HK3.out; omega
                                case rel => exact ⟨(x17_3), (wrap64 (x18_3 + 1)), (by first | rfl | (simp; done) | (simp [*]; done)), (by first | rfl | (simp; done) | (simp [*]; done)), H', ⟨by have := HK1.out; have := HJ12.out; have := HK3.out; omega⟩, ⟨by (with_reducible repeat (first | apply Kd.R_alloc | apply Kd.R_drewN | apply Kd.R_drew)); exact HO_12.out⟩, ⟨by repeat (first | (with_reducible first | exact HB.out | apply below_alloc | apply pw_below_drewN | apply below_drew1) | exact HB.out)⟩⟩
                          · rw [if_neg c22] at H
                            have c22b0 : ((rd t259 x18_3) == x18_3) = false := beq_eq_false_iff_ne.mpr c22
                            have c22b1 : ((rd t259 x18_3) != x18_3) = true := bne_iff_ne.mpr c22
                            have H' := Aside0.mk H
                            clear H
                            have p264 : 0 ≤ (x18_3 : Int) := of_decide_eq_true (by first | (with_reducible assumption) | assumption)
                            have q264 : x18_3 < (t259.length : Int) := of_decide_eq_true (by first | (with_reducible assumption) | assumption)
                            obtain ⟨ad264, e264, hx264_0⟩ := Kd.at_int (Kd.R_reads' HO_12.out).2.2 x18_3 p264 q264
                            cases e264
                            replace p264 := eq_true p264
                            replace q264 := eq_true q264
                            go_wp2
                            go_roundg k3
                            case measure => have := HK1.out; have := HJ12.out; have := HK3.out; omega
                            case rel => exact ⟨(x17_3), (wrap64 (x18_3 + 1)), (by first | rfl | (simp; done) | (simp [*]; done)), (by first | rfl | (simp; done) | (simp [*]; done)), H', ⟨by have := HK1.out; have := HJ12.out; have := HK3.out; omega⟩, ⟨by (with_reducible repeat (first | apply Kd.R_alloc | apply Kd.R_drewN | apply Kd.R_drew)); exact HO_12.out⟩, ⟨by repeat (first | (with_reducible first | exact HB.out | apply below_alloc | apply pw_below_drewN | apply below_drew1) | exact HB.out)⟩⟩
                        · rw [if_neg c21] at H
                          exact absurd H (by simp)
                      · rw [if_neg c20] at H
                        have c20b0 : decide (x18_3 < (t259.length : Int)) = false := decide_eq_false c20
                        clear c20
                        by_cases c26 : x17_3 ≥ a4
                        · rw [if_pos c26] at H
                          have c26b0 : decide (a4 ≤ x17_3) = true := decide_eq_true c26
                          clear c26
                          have H' := Aside0.mk H
                          clear H
                          go_wp2
                          go_roundg k3
                          case measure => have := HK1.out; have := HJ12.out; have := HK3.out; omega
                          case rel => exact ⟨(wrap64 (x14_1 + 1)), (wrap64 (x15_1 + 1)), (by first | rfl | (simp; done) | (simp [*]; done)), (by first | rfl | (simp; done) | (simp [*]; done)), H', ⟨by have := HK1.out; have := HJ12.out; have := HK3.out; omega⟩, ⟨by (with_reducible repeat (first | apply Kd.R_alloc | apply Kd.R_drewN | apply Kd.R_drew)); exact HO_12.out⟩, ⟨by repeat (first | (with_reducible first | exact HB.out | apply below_alloc | apply pw_below_drewN | apply below_drew1) | exact HB.out)⟩⟩
                        · rw [if_neg c26] at H
                          have c26b0 : decide (a4 ≤ x17_3) = false := decide_eq_false c26
                          clear c26
                          have H' := Aside0.mk H
                          clear H
                          go_wp2
                          go_roundg k3
                          case measure => have := HK1.out; have := HJ12.out; have := HK3.out; omega
                          case rel => exact ⟨(x14_1), (wrap64 (x15_1 + 1)), (by first | rfl | (simp; done) | (simp [*]; done)), (by first | rfl | (simp; done) | (simp [*]; done)), H', ⟨by have := HK1.out; have := HJ12.out; have := HK3.out; omega⟩, ⟨by (with_reducible repeat (first | apply Kd.R_alloc | apply Kd.R_drewN | apply Kd.R_drew)); exact HO_12.out⟩, ⟨by repeat (first | (with_reducible first | exact HB.out | apply below_alloc | apply pw_below_drewN | apply below_drew1) | exact HB.out)⟩⟩
                · replace c19 := Bool.eq_false_iff.mpr c19
                  subst c19
                  have H1 : (jacquardref14_joins.l0 kj12 l0 a4 t259 ji10 x14_1 (wrap64 (x15_1 + 1))) = some r := by rw [if_neg (show ¬ (false = true) by decide)] at H; exact H
                  clear H
                  have H := H1
                  clear H1
                  have H' := Aside0.mk H
                  clear H
                  go_wp2
                  go_roundg kj12
                  case measure => have := HK1.out; have := HJ12.out; omega
                  case rel => exact ⟨(x14_1), (wrap64 (x15_1 + 1)), (by first | rfl | (simp; done) | (simp [*]; done)), (by first | rfl | (simp; done) | (simp [*]; done)), H', ⟨by have := HK1.out; have := HJ12.out; omega⟩, ⟨by (with_reducible repeat (first | apply Kd.R_alloc | apply Kd.R_drewN | apply Kd.R_drew)); exact HO_12.out⟩, ⟨by repeat (first | (with_reducible first | exact HB.out | apply below_alloc | apply pw_below_drewN | apply below_drew1) | exact HB.out)⟩⟩
          · rw [if_neg c12] at H
            have c12b0 : decide (x15_1 < (t259.length : Int)) = false := decide_eq_false c12
            clear c12
            obtain rfl := Option.some.inj H
            obtain ⟨Ao27, co27, eo27⟩ := Kd.R_slice HO_12.out
            subst eo27
            go_wp2
            go_ret
            exact ⟨by first | rfl | (simp [errW_none, errW_some] <;> rfl) | (simp only [← hji10]; first | rfl | (simp [errW_none, errW_some] <;> rfl)) | (simp [*, errW_none, errW_some] <;> rfl), by repeat (first | (with_reducible first | exact HB.out | apply below_alloc | apply pw_below_drewN | apply below_drew1) | exact HB.out)⟩

end Go.Proofs.Ytgdmdgkfababeaa.M
