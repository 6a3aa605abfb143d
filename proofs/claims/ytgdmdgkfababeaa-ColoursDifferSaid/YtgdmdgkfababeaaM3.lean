-- Written by a program of this session (wip/patchprint.py turns a copy of the kit's print); Lean checks it.
import Derived.Test.YtgdmdgkfababeaaM0
import Derived.Test.YtgdmdgkfababeaaM2
namespace Go.Proofs.Ytgdmdgkfababeaa.M
open Go.RowKit Go.Proofs.YtgdmdgkfababeaaW.PrintWords Go.Proofs.YtgdmdgkfababeaaW.PrintLast Go.Proofs.YtgdmdgkfababeaaW.PrintMore
attribute [local go_sem] max2_int min2_int max_two min_two max_three min_three max_four min_four   -- for this text's walks alone
set_option linter.unusedVariables false
set_option linter.unusedSimpArgs false

/-! ### jacquardref14_Colours: function 12 -/
mutual
def jacquardref14_Colours.j0 : Nat → Int → List (S44) → Int → Bool → Option (List Int)
  | 0, _, _, _, _ => none
  | k + 1, x0, x1, x2, x27 => if x27 = true then (some ([] : List Int)) else ((jacquardref14_Table.f k x0 x1).bind fun t159 => (if 0 ≤ x0 then (if (x0 : Int).toNat ≤ 281474976710656 then (jacquardref14_Colours.l0 k x0 x2 t159 (List.replicate (x0 : Int).toNat false) 0) else (none)) else (none)))
def jacquardref14_Colours.l0 : Nat → Int → Int → List (List Bool) → List Bool → Int → Option (List Int)
  | 0, _, _, _, _, _ => none
  | k + 1, x0, x2, x7, x8, x9 => if x9 < x0 then (if 0 ≤ x9 then (if x9 < (x8.length : Int) then (jacquardref14_Colours.l0 k x0 x2 x7 (x8.set (x9 : Int).toNat true) (wrap64 (x9 + 1))) else (none)) else (none)) else (jacquardref14_Colours.l1 k x0 x2 x7 x8 ([] : List Int))
def jacquardref14_Colours.l1 : Nat → Int → Int → List (List Bool) → List Bool → List Int → Option (List Int)
  | 0, _, _, _, _, _ => none
  | k + 1, x0, x2, x7, x8, x10 => if (x10.length : Int) < x0 then (jacquardref14_Colours.l2 k x0 x2 x7 x8 x10 (-1) (-1) 0) else (if 0 ≤ x0 then (if (x0 : Int).toNat ≤ 35184372088832 then (jacquardref14_Colours.l3 k x0 x2 x7 x10 (List.replicate (x0 : Int).toNat 0) 0) else (none)) else (none))
def jacquardref14_Colours.l2 : Nat → Int → Int → List (List Bool) → List Bool → List Int → Int → Int → Int → Option (List Int)
  | 0, _, _, _, _, _, _, _, _ => none
  | k + 1, x0, x2, x7, x8, x10, x11, x12, x13 => if x13 < x0 then (if 0 ≤ x13 then (if x13 < (x8.length : Int) then (if rdOf false x8 x13 = true then ((jacquardref14_degree.f k x7 x8 x13).bind fun t171 => (if t171 < x2 then (if x10.length < 17592186044416 then (jacquardref14_Colours.l1 k x0 x2 x7 (x8.set (x13 : Int).toNat false) (x10 ++ [x13])) else (none)) else (if t171 > x12 then (jacquardref14_Colours.l2 k x0 x2 x7 x8 x10 x13 t171 (wrap64 (x13 + 1))) else (jacquardref14_Colours.l2 k x0 x2 x7 x8 x10 x11 x12 (wrap64 (x13 + 1)))))) else (jacquardref14_Colours.l2 k x0 x2 x7 x8 x10 x11 x12 (wrap64 (x13 + 1)))) else (none)) else (none)) else (if 0 ≤ x11 then (if x11 < (x8.length : Int) then (if x10.length < 17592186044416 then (jacquardref14_Colours.l1 k x0 x2 x7 (x8.set (x11 : Int).toNat false) (x10 ++ [x11])) else (none)) else (none)) else (none))
def jacquardref14_Colours.l3 : Nat → Int → Int → List (List Bool) → List Int → List Int → Int → Option (List Int)
  | 0, _, _, _, _, _, _ => none
  | k + 1, x0, x2, x7, x10, x15, x16 => if x16 < x0 then (if 0 ≤ x16 then (if x16 < (x15.length : Int) then (jacquardref14_Colours.l3 k x0 x2 x7 x10 (x15.set (x16 : Int).toNat (-1)) (wrap64 (x16 + 1))) else (none)) else (none)) else (jacquardref14_Colours.l4 k x0 x2 x7 x10 x15 (wrap64 (x0 - 1)))
def jacquardref14_Colours.l4 : Nat → Int → Int → List (List Bool) → List Int → List Int → Int → Option (List Int)
  | 0, _, _, _, _, _, _ => none
  | k + 1, x0, x2, x7, x10, x15, x17 => if x17 ≥ 0 then (if 0 ≤ x17 then (if x17 < (x10.length : Int) then (jacquardref14_Colours.l5 k x0 x2 x7 x10 x15 x17 (rd x10 x17) 0) else (none)) else (none)) else (some x15)
def jacquardref14_Colours.l5 : Nat → Int → Int → List (List Bool) → List Int → List Int → Int → Int → Int → Option (List Int)
  | 0, _, _, _, _, _, _, _, _ => none
  | k + 1, x0, x2, x7, x10, x15, x17, x18, x19 => if x19 < x2 then (jacquardref14_Colours.l6 k x0 x2 x7 x10 x15 x17 x18 x19 false 0) else (jacquardref14_Colours.l4 k x0 x2 x7 x10 x15 (wrap64 (x17 - 1)))
def jacquardref14_Colours.l6 : Nat → Int → Int → List (List Bool) → List Int → List Int → Int → Int → Int → Bool → Int → Option (List Int)
  | 0, _, _, _, _, _, _, _, _, _, _ => none
  | k + 1, x0, x2, x7, x10, x15, x17, x18, x19, x20, x21 => if x21 < x0 then (if x20 = true then (jacquardref14_Colours.l6 k x0 x2 x7 x10 x15 x17 x18 x19 true (wrap64 (x21 + 1))) else (if 0 ≤ x18 then (if x18 < (x7.length : Int) then (if 0 ≤ x21 then (if x21 < ((rd_L5 x7 x18).length : Int) then (if rdOf false (rd_L5 x7 x18) x21 = true then (if x21 < (x15.length : Int) then (jacquardref14_Colours.l6 k x0 x2 x7 x10 x15 x17 x18 x19 ((rd x15 x21) == x19) (wrap64 (x21 + 1))) else (none)) else (jacquardref14_Colours.l6 k x0 x2 x7 x10 x15 x17 x18 x19 false (wrap64 (x21 + 1)))) else (none)) else (none)) else (none)) else (none))) else (if x20 = true then (jacquardref14_Colours.l5 k x0 x2 x7 x10 x15 x17 x18 (wrap64 (x19 + 1))) else (if 0 ≤ x18 then (if x18 < (x15.length : Int) then (jacquardref14_Colours.l4 k x0 x2 x7 x10 (x15.set (x18 : Int).toNat x19) (wrap64 (x17 - 1))) else (none)) else (none)))
end
def jacquardref14_Colours.f (k : Nat) (a0 : Int) (l1 : List (S44)) (a2 : Int) : Option (List Int) := if a0 < 0 then (jacquardref14_Colours.j0 k a0 l1 a2 true) else (jacquardref14_Colours.j0 k a0 l1 a2 (decide (a0 > 8192)))
theorem jacquardref14_Colours.mono_l : ∀ k, (∀ y0 y1 y2 y3, LeO (jacquardref14_Colours.j0 k y0 y1 y2 y3) (jacquardref14_Colours.j0 (k + 1) y0 y1 y2 y3)) ∧ (∀ y0 y1 y2 y3 y4, LeO (jacquardref14_Colours.l0 k y0 y1 y2 y3 y4) (jacquardref14_Colours.l0 (k + 1) y0 y1 y2 y3 y4)) ∧ (∀ y0 y1 y2 y3 y4, LeO (jacquardref14_Colours.l1 k y0 y1 y2 y3 y4) (jacquardref14_Colours.l1 (k + 1) y0 y1 y2 y3 y4)) ∧ (∀ y0 y1 y2 y3 y4 y5 y6 y7, LeO (jacquardref14_Colours.l2 k y0 y1 y2 y3 y4 y5 y6 y7) (jacquardref14_Colours.l2 (k + 1) y0 y1 y2 y3 y4 y5 y6 y7)) ∧ (∀ y0 y1 y2 y3 y4 y5, LeO (jacquardref14_Colours.l3 k y0 y1 y2 y3 y4 y5) (jacquardref14_Colours.l3 (k + 1) y0 y1 y2 y3 y4 y5)) ∧ (∀ y0 y1 y2 y3 y4 y5, LeO (jacquardref14_Colours.l4 k y0 y1 y2 y3 y4 y5) (jacquardref14_Colours.l4 (k + 1) y0 y1 y2 y3 y4 y5)) ∧ (∀ y0 y1 y2 y3 y4 y5 y6 y7, LeO (jacquardref14_Colours.l5 k y0 y1 y2 y3 y4 y5 y6 y7) (jacquardref14_Colours.l5 (k + 1) y0 y1 y2 y3 y4 y5 y6 y7)) ∧ (∀ y0 y1 y2 y3 y4 y5 y6 y7 y8 y9, LeO (jacquardref14_Colours.l6 k y0 y1 y2 y3 y4 y5 y6 y7 y8 y9) (jacquardref14_Colours.l6 (k + 1) y0 y1 y2 y3 y4 y5 y6 y7 y8 y9))
  | 0 => ⟨fun _ _ _ _ r h => by simp [jacquardref14_Colours.j0] at h, fun _ _ _ _ _ r h => by simp [jacquardref14_Colours.l0] at h, fun _ _ _ _ _ r h => by simp [jacquardref14_Colours.l1] at h, fun _ _ _ _ _ _ _ _ r h => by simp [jacquardref14_Colours.l2] at h, fun _ _ _ _ _ _ r h => by simp [jacquardref14_Colours.l3] at h, fun _ _ _ _ _ _ r h => by simp [jacquardref14_Colours.l4] at h, fun _ _ _ _ _ _ _ _ r h => by simp [jacquardref14_Colours.l5] at h, fun _ _ _ _ _ _ _ _ _ _ r h => by simp [jacquardref14_Colours.l6] at h⟩
  | k + 1 => by
    obtain ⟨ih0, ih1, ih2, ih3, ih4, ih5, ih6, ih7⟩ := jacquardref14_Colours.mono_l k
    refine ⟨?_, ?_, ?_, ?_, ?_, ?_, ?_, ?_⟩
    · intro y0 y1 y2 y3
      unfold jacquardref14_Colours.j0
      repeat' first
      | (with_reducible exact ih0 _ _ _ _)
      | (with_reducible exact ih1 _ _ _ _ _)
      | (with_reducible exact ih2 _ _ _ _ _)
      | (with_reducible exact ih3 _ _ _ _ _ _ _ _)
      | (with_reducible exact ih4 _ _ _ _ _ _)
      | (with_reducible exact ih5 _ _ _ _ _ _)
      | (with_reducible exact ih6 _ _ _ _ _ _ _ _)
      | (with_reducible exact ih7 _ _ _ _ _ _ _ _ _ _)
      | (with_reducible exact jacquardref14_Table.mono _ _ _)
      | (with_reducible exact jacquardref14_degree.mono _ _ _ _)
      | (with_reducible exact LeO.refl _)
      | (with_reducible exact LeO.none _)
      | (with_reducible refine LeO.ite ?_ ?_)
      | (with_reducible refine LeO.bind ?_ (fun _ => ?_))
      | exact ih0 _ _ _ _
      | exact ih1 _ _ _ _ _
      | exact ih2 _ _ _ _ _
      | exact ih3 _ _ _ _ _ _ _ _
      | exact ih4 _ _ _ _ _ _
      | exact ih5 _ _ _ _ _ _
      | exact ih6 _ _ _ _ _ _ _ _
      | exact ih7 _ _ _ _ _ _ _ _ _ _
      | exact jacquardref14_Table.mono _ _ _
      | exact jacquardref14_degree.mono _ _ _ _
      | exact LeO.none _
      | refine LeO.ite ?_ ?_
      | refine LeO.bind ?_ (fun _ => ?_)
    · intro y0 y1 y2 y3 y4
      unfold jacquardref14_Colours.l0
      repeat' first
      | (with_reducible exact ih0 _ _ _ _)
      | (with_reducible exact ih1 _ _ _ _ _)
      | (with_reducible exact ih2 _ _ _ _ _)
      | (with_reducible exact ih3 _ _ _ _ _ _ _ _)
      | (with_reducible exact ih4 _ _ _ _ _ _)
      | (with_reducible exact ih5 _ _ _ _ _ _)
      | (with_reducible exact ih6 _ _ _ _ _ _ _ _)
      | (with_reducible exact ih7 _ _ _ _ _ _ _ _ _ _)
      | (with_reducible exact jacquardref14_Table.mono _ _ _)
      | (with_reducible exact jacquardref14_degree.mono _ _ _ _)
      | (with_reducible exact LeO.refl _)
      | (with_reducible exact LeO.none _)
      | (with_reducible refine LeO.ite ?_ ?_)
      | (with_reducible refine LeO.bind ?_ (fun _ => ?_))
      | exact ih0 _ _ _ _
      | exact ih1 _ _ _ _ _
      | exact ih2 _ _ _ _ _
      | exact ih3 _ _ _ _ _ _ _ _
      | exact ih4 _ _ _ _ _ _
      | exact ih5 _ _ _ _ _ _
      | exact ih6 _ _ _ _ _ _ _ _
      | exact ih7 _ _ _ _ _ _ _ _ _ _
      | exact jacquardref14_Table.mono _ _ _
      | exact jacquardref14_degree.mono _ _ _ _
      | exact LeO.none _
      | refine LeO.ite ?_ ?_
      | refine LeO.bind ?_ (fun _ => ?_)
    · intro y0 y1 y2 y3 y4
      unfold jacquardref14_Colours.l1
      repeat' first
      | (with_reducible exact ih0 _ _ _ _)
      | (with_reducible exact ih1 _ _ _ _ _)
      | (with_reducible exact ih2 _ _ _ _ _)
      | (with_reducible exact ih3 _ _ _ _ _ _ _ _)
      | (with_reducible exact ih4 _ _ _ _ _ _)
      | (with_reducible exact ih5 _ _ _ _ _ _)
      | (with_reducible exact ih6 _ _ _ _ _ _ _ _)
      | (with_reducible exact ih7 _ _ _ _ _ _ _ _ _ _)
      | (with_reducible exact jacquardref14_Table.mono _ _ _)
      | (with_reducible exact jacquardref14_degree.mono _ _ _ _)
      | (with_reducible exact LeO.refl _)
      | (with_reducible exact LeO.none _)
      | (with_reducible refine LeO.ite ?_ ?_)
      | (with_reducible refine LeO.bind ?_ (fun _ => ?_))
      | exact ih0 _ _ _ _
      | exact ih1 _ _ _ _ _
      | exact ih2 _ _ _ _ _
      | exact ih3 _ _ _ _ _ _ _ _
      | exact ih4 _ _ _ _ _ _
      | exact ih5 _ _ _ _ _ _
      | exact ih6 _ _ _ _ _ _ _ _
      | exact ih7 _ _ _ _ _ _ _ _ _ _
      | exact jacquardref14_Table.mono _ _ _
      | exact jacquardref14_degree.mono _ _ _ _
      | exact LeO.none _
      | refine LeO.ite ?_ ?_
      | refine LeO.bind ?_ (fun _ => ?_)
    · intro y0 y1 y2 y3 y4 y5 y6 y7
      unfold jacquardref14_Colours.l2
      repeat' first
      | (with_reducible exact ih0 _ _ _ _)
      | (with_reducible exact ih1 _ _ _ _ _)
      | (with_reducible exact ih2 _ _ _ _ _)
      | (with_reducible exact ih3 _ _ _ _ _ _ _ _)
      | (with_reducible exact ih4 _ _ _ _ _ _)
      | (with_reducible exact ih5 _ _ _ _ _ _)
      | (with_reducible exact ih6 _ _ _ _ _ _ _ _)
      | (with_reducible exact ih7 _ _ _ _ _ _ _ _ _ _)
      | (with_reducible exact jacquardref14_Table.mono _ _ _)
      | (with_reducible exact jacquardref14_degree.mono _ _ _ _)
      | (with_reducible exact LeO.refl _)
      | (with_reducible exact LeO.none _)
      | (with_reducible refine LeO.ite ?_ ?_)
      | (with_reducible refine LeO.bind ?_ (fun _ => ?_))
      | exact ih0 _ _ _ _
      | exact ih1 _ _ _ _ _
      | exact ih2 _ _ _ _ _
      | exact ih3 _ _ _ _ _ _ _ _
      | exact ih4 _ _ _ _ _ _
      | exact ih5 _ _ _ _ _ _
      | exact ih6 _ _ _ _ _ _ _ _
      | exact ih7 _ _ _ _ _ _ _ _ _ _
      | exact jacquardref14_Table.mono _ _ _
      | exact jacquardref14_degree.mono _ _ _ _
      | exact LeO.none _
      | refine LeO.ite ?_ ?_
      | refine LeO.bind ?_ (fun _ => ?_)
    · intro y0 y1 y2 y3 y4 y5
      unfold jacquardref14_Colours.l3
      repeat' first
      | (with_reducible exact ih0 _ _ _ _)
      | (with_reducible exact ih1 _ _ _ _ _)
      | (with_reducible exact ih2 _ _ _ _ _)
      | (with_reducible exact ih3 _ _ _ _ _ _ _ _)
      | (with_reducible exact ih4 _ _ _ _ _ _)
      | (with_reducible exact ih5 _ _ _ _ _ _)
      | (with_reducible exact ih6 _ _ _ _ _ _ _ _)
      | (with_reducible exact ih7 _ _ _ _ _ _ _ _ _ _)
      | (with_reducible exact jacquardref14_Table.mono _ _ _)
      | (with_reducible exact jacquardref14_degree.mono _ _ _ _)
      | (with_reducible exact LeO.refl _)
      | (with_reducible exact LeO.none _)
      | (with_reducible refine LeO.ite ?_ ?_)
      | (with_reducible refine LeO.bind ?_ (fun _ => ?_))
      | exact ih0 _ _ _ _
      | exact ih1 _ _ _ _ _
      | exact ih2 _ _ _ _ _
      | exact ih3 _ _ _ _ _ _ _ _
      | exact ih4 _ _ _ _ _ _
      | exact ih5 _ _ _ _ _ _
      | exact ih6 _ _ _ _ _ _ _ _
      | exact ih7 _ _ _ _ _ _ _ _ _ _
      | exact jacquardref14_Table.mono _ _ _
      | exact jacquardref14_degree.mono _ _ _ _
      | exact LeO.none _
      | refine LeO.ite ?_ ?_
      | refine LeO.bind ?_ (fun _ => ?_)
    · intro y0 y1 y2 y3 y4 y5
      unfold jacquardref14_Colours.l4
      repeat' first
      | (with_reducible exact ih0 _ _ _ _)
      | (with_reducible exact ih1 _ _ _ _ _)
      | (with_reducible exact ih2 _ _ _ _ _)
      | (with_reducible exact ih3 _ _ _ _ _ _ _ _)
      | (with_reducible exact ih4 _ _ _ _ _ _)
      | (with_reducible exact ih5 _ _ _ _ _ _)
      | (with_reducible exact ih6 _ _ _ _ _ _ _ _)
      | (with_reducible exact ih7 _ _ _ _ _ _ _ _ _ _)
      | (with_reducible exact jacquardref14_Table.mono _ _ _)
      | (with_reducible exact jacquardref14_degree.mono _ _ _ _)
      | (with_reducible exact LeO.refl _)
      | (with_reducible exact LeO.none _)
      | (with_reducible refine LeO.ite ?_ ?_)
      | (with_reducible refine LeO.bind ?_ (fun _ => ?_))
      | exact ih0 _ _ _ _
      | exact ih1 _ _ _ _ _
      | exact ih2 _ _ _ _ _
      | exact ih3 _ _ _ _ _ _ _ _
      | exact ih4 _ _ _ _ _ _
      | exact ih5 _ _ _ _ _ _
      | exact ih6 _ _ _ _ _ _ _ _
      | exact ih7 _ _ _ _ _ _ _ _ _ _
      | exact jacquardref14_Table.mono _ _ _
      | exact jacquardref14_degree.mono _ _ _ _
      | exact LeO.none _
      | refine LeO.ite ?_ ?_
      | refine LeO.bind ?_ (fun _ => ?_)
    · intro y0 y1 y2 y3 y4 y5 y6 y7
      unfold jacquardref14_Colours.l5
      repeat' first
      | (with_reducible exact ih0 _ _ _ _)
      | (with_reducible exact ih1 _ _ _ _ _)
      | (with_reducible exact ih2 _ _ _ _ _)
      | (with_reducible exact ih3 _ _ _ _ _ _ _ _)
      | (with_reducible exact ih4 _ _ _ _ _ _)
      | (with_reducible exact ih5 _ _ _ _ _ _)
      | (with_reducible exact ih6 _ _ _ _ _ _ _ _)
      | (with_reducible exact ih7 _ _ _ _ _ _ _ _ _ _)
      | (with_reducible exact jacquardref14_Table.mono _ _ _)
      | (with_reducible exact jacquardref14_degree.mono _ _ _ _)
      | (with_reducible exact LeO.refl _)
      | (with_reducible exact LeO.none _)
      | (with_reducible refine LeO.ite ?_ ?_)
      | (with_reducible refine LeO.bind ?_ (fun _ => ?_))
      | exact ih0 _ _ _ _
      | exact ih1 _ _ _ _ _
      | exact ih2 _ _ _ _ _
      | exact ih3 _ _ _ _ _ _ _ _
      | exact ih4 _ _ _ _ _ _
      | exact ih5 _ _ _ _ _ _
      | exact ih6 _ _ _ _ _ _ _ _
      | exact ih7 _ _ _ _ _ _ _ _ _ _
      | exact jacquardref14_Table.mono _ _ _
      | exact jacquardref14_degree.mono _ _ _ _
      | exact LeO.none _
      | refine LeO.ite ?_ ?_
      | refine LeO.bind ?_ (fun _ => ?_)
    · intro y0 y1 y2 y3 y4 y5 y6 y7 y8 y9
      unfold jacquardref14_Colours.l6
      repeat' first
      | (with_reducible exact ih0 _ _ _ _)
      | (with_reducible exact ih1 _ _ _ _ _)
      | (with_reducible exact ih2 _ _ _ _ _)
      | (with_reducible exact ih3 _ _ _ _ _ _ _ _)
      | (with_reducible exact ih4 _ _ _ _ _ _)
      | (with_reducible exact ih5 _ _ _ _ _ _)
      | (with_reducible exact ih6 _ _ _ _ _ _ _ _)
      | (with_reducible exact ih7 _ _ _ _ _ _ _ _ _ _)
      | (with_reducible exact jacquardref14_Table.mono _ _ _)
      | (with_reducible exact jacquardref14_degree.mono _ _ _ _)
      | (with_reducible exact LeO.refl _)
      | (with_reducible exact LeO.none _)
      | (with_reducible refine LeO.ite ?_ ?_)
      | (with_reducible refine LeO.bind ?_ (fun _ => ?_))
      | exact ih0 _ _ _ _
      | exact ih1 _ _ _ _ _
      | exact ih2 _ _ _ _ _
      | exact ih3 _ _ _ _ _ _ _ _
      | exact ih4 _ _ _ _ _ _
      | exact ih5 _ _ _ _ _ _
      | exact ih6 _ _ _ _ _ _ _ _
      | exact ih7 _ _ _ _ _ _ _ _ _ _
      | exact jacquardref14_Table.mono _ _ _
      | exact jacquardref14_degree.mono _ _ _ _
      | exact LeO.none _
      | refine LeO.ite ?_ ?_
      | refine LeO.bind ?_ (fun _ => ?_)
theorem jacquardref14_Colours.mono : ∀ a0 a1 a2 k, LeO (jacquardref14_Colours.f k a0 a1 a2) (jacquardref14_Colours.f (k + 1) a0 a1 a2) := by
  intro a0 a1 a2 k
  obtain ⟨ih0, ih1, ih2, ih3, ih4, ih5, ih6, ih7⟩ := jacquardref14_Colours.mono_l k
  unfold jacquardref14_Colours.f
  repeat' first
      | (with_reducible exact ih0 _ _ _ _)
      | (with_reducible exact ih1 _ _ _ _ _)
      | (with_reducible exact ih2 _ _ _ _ _)
      | (with_reducible exact ih3 _ _ _ _ _ _ _ _)
      | (with_reducible exact ih4 _ _ _ _ _ _)
      | (with_reducible exact ih5 _ _ _ _ _ _)
      | (with_reducible exact ih6 _ _ _ _ _ _ _ _)
      | (with_reducible exact ih7 _ _ _ _ _ _ _ _ _ _)
      | (with_reducible exact jacquardref14_Table.mono _ _ _)
      | (with_reducible exact jacquardref14_degree.mono _ _ _ _)
      | (with_reducible exact LeO.refl _)
      | (with_reducible exact LeO.none _)
      | (with_reducible refine LeO.ite ?_ ?_)
      | (with_reducible refine LeO.bind ?_ (fun _ => ?_))
      | exact ih0 _ _ _ _
      | exact ih1 _ _ _ _ _
      | exact ih2 _ _ _ _ _
      | exact ih3 _ _ _ _ _ _ _ _
      | exact ih4 _ _ _ _ _ _
      | exact ih5 _ _ _ _ _ _
      | exact ih6 _ _ _ _ _ _ _ _
      | exact ih7 _ _ _ _ _ _ _ _ _ _
      | exact jacquardref14_Table.mono _ _ _
      | exact jacquardref14_degree.mono _ _ _ _
      | exact LeO.none _
      | refine LeO.ite ?_ ?_
      | refine LeO.bind ?_ (fun _ => ?_)
set_option maxHeartbeats 8000000 in
set_option maxRecDepth 100000 in
theorem jacquardref14_Colours.calls (k : Nat) (a0 : Int) (A1 : Option Addr) (c1 : Nat) (l1 : List (S44)) (a2 : Int) (r : List Int) (w : World) (hr1 : Kd.C k44 w A1 l1.length l1) (hc1 : l1.length ≤ c1) (h : jacquardref14_Colours.f k a0 l1 a2 = some r) :
    Calls Try.prog 12 #[.int .i64 a0, .slice A1 l1.length c1, .int .i64 a2] w fun e w' => ∃ v0_ : Value, e = .returned (v0_) ∧ Kd.R (Kd.int .i64) 3 w' w.heap.size (fun _ => True) v0_ r ∧ Below w.heap.size w w' := by
  have HR1 := Aside0.mk hr1
  have HC1 := Aside0.mk hc1
  clear hr1 hc1
  have HB := Aside0.mk (Below.refl w.heap.size w)
  have H : (if a0 < 0 then (jacquardref14_Colours.j0 k a0 l1 a2 true) else (jacquardref14_Colours.j0 k a0 l1 a2 (decide (a0 > 8192)))) = some r := h
  clear h
  have HC4 := Aside0.mk H
  clear H
  go_enter Try.func12, Try.ntmps12
  go_upto_region 1 with (fail)
  go_cut [27] (fun v27 wc => ∃ (kq : Nat) (x27_3 : Bool), v27 = .bool x27_3 ∧ Aside0 (jacquardref14_Colours.j0 kq a0 l1 a2 x27_3 = some r) ∧ Aside0 (kq ≤ k) ∧ Aside0 (Below w.heap.size w wc))
  case first =>
    have H := HC4.out
    clear HC4
    by_cases c5 : a0 < 0
    · rw [if_pos c5] at H
      have c5b0 : decide (a0 < 0) = true := decide_eq_true c5
      clear c5
      (first | rw [c5b0] | (simp only [i64_w, i32_w]; rw [c5b0]) | skip)
      have H' := Aside0.mk H
      clear H
      go_wp2
      go_meet
      case rel => exact ⟨_, (true), (by first | rfl | (simp; done) | (simp [*]; done)), H', ⟨by first | omega | exact Nat.le_refl _⟩, ⟨by repeat (first | (with_reducible first | exact HB.out | apply below_alloc | apply pw_below_drewN | apply below_drew1) | exact HB.out)⟩⟩
    · rw [if_neg c5] at H
      have c5b0 : decide (a0 < 0) = false := decide_eq_false c5
      clear c5
      (first | rw [c5b0] | (simp only [i64_w, i32_w]; rw [c5b0]) | skip)
      have H' := Aside0.mk H
      clear H
      go_wp2
      go_meet
      case rel => exact ⟨_, (decide (a0 > 8192)), (by first | rfl | (simp; done) | (simp [*]; done)), H', ⟨by first | omega | exact Nat.le_refl _⟩, ⟨by repeat (first | (with_reducible first | exact HB.out | apply below_alloc | apply pw_below_drewN | apply below_drew1) | exact HB.out)⟩⟩
  case rest =>
    clear HC4
    try clear c1
    try clear p2
    try clear c5
    try clear c5b0
    obtain ⟨kq, x27_3, rfl, HA, HJ3, HB⟩ := hcut
    cases kq with
    | zero => exact absurd HA.out (by simp [jacquardref14_Colours.j0])
    | succ kj3 =>
      have H := HA.out
      clear HA
      simp only [jacquardref14_Colours.j0] at H
      by_cases c6 : x27_3 = true
      · subst c6
        have H1 : (some ([] : List Int)) = some r := by rw [if_pos rfl] at H; exact H
        clear H
        have H := H1
        clear H1
        obtain rfl := Option.some.inj H
        go_wp2
        go_ret
        exact ⟨_, by first | rfl | (simp [errW_none, errW_some] <;> rfl) | (simp [*, errW_none, errW_some] <;> rfl), by first | exact Kd.R_nil _ _ _ _ _ | exact Kd.N_nil _ _ _ _ _ | exact Kd.V_nil _ _ _ _ _ | exact Kd.Q_nil _ _ _ _ _ | exact Kd.S_nil _ _ _ _ _, by repeat (first | (with_reducible first | exact HB.out | apply below_alloc | apply pw_below_drewN | apply below_drew1) | exact HB.out)⟩
      · replace c6 := Bool.eq_false_iff.mpr c6
        subst c6
        have H1 : ((jacquardref14_Table.f kj3 a0 l1).bind fun t159 => (if 0 ≤ a0 then (if (a0 : Int).toNat ≤ 281474976710656 then (jacquardref14_Colours.l0 kj3 a0 a2 t159 (List.replicate (a0 : Int).toNat false) 0) else (none)) else (none))) = some r := by rw [if_neg (show ¬ (false = true) by decide)] at H; exact H
        clear H
        have H := H1
        clear H1
        replace H := Option.bind_eq_some_iff.mp H
        obtain ⟨t159, A70, H⟩ := H
        replace H : (if 0 ≤ a0 then (if (a0 : Int).toNat ≤ 281474976710656 then (jacquardref14_Colours.l0 kj3 a0 a2 t159 (List.replicate (a0 : Int).toNat false) 0) else (none)) else (none)) = some r := H
        have A7 := Aside0.mk A70
        clear A70
        by_cases c8 : 0 ≤ a0
        · rw [if_pos c8] at H
          have c8b0 := eq_true c8
          have c8b1 : decide (0 ≤ a0) = true := decide_eq_true c8
          clear c8
          by_cases c9 : (a0 : Int).toNat ≤ 281474976710656
          · rw [if_pos c9] at H
            have c9b0 := eq_true c9
            have c9b1 : decide ((a0 : Int).toNat ≤ 281474976710656) = true := decide_eq_true c9
            clear c9
            obtain ⟨y162, hy162⟩ : ∃ y_ : List Bool, y_ = (List.replicate (a0 : Int).toNat false) := ⟨_, rfl⟩
            replace H : (jacquardref14_Colours.l0 kj3 a0 a2 t159 y162 0) = some r := by first | (rw [hy162]; with_reducible exact H) | (have H2_ := (Option.bind_some _ _).symm.trans H; rw [hy162]; with_reducible exact H2_) | (have H2_ := (Option.bind_some _ _).symm.trans H; with_reducible exact H2_) | with_reducible exact H | (rw [hy162]; exact H) | exact H
            have Ny162 := Aside0.mk hy162
            clear hy162
            have H' := Aside0.mk H
            clear H
            go_wp2_with (first | ((with_reducible refine gate_callee (f := 14) rfl ?_); refine goesL_ (some 30) rfl rfl Try.func14 (by kernel_rfl) rfl #[.int .i64 a0, .slice A1 l1.length c1] rfl (by (try simp only [List.map_toArray, List.map_cons, List.map_nil]); first | done | rfl | (simp only [List.length_drop, List.length_take]; rfl)) ?_; (with_reducible refine (jacquardref14_Table.calls kj3 a0 _ _ l1 t159 _ ?side1 ?side2 A7.out).mono ?_); (case side1 => repeat (first | exact (Kd.C_below HR1.out HB.out) | (with_reducible refine Kd.C_alloc ?_ _) | (with_reducible refine Kd.C_drewN ?_ _) | (with_reducible refine Kd.C_drew ?_))); (case side2 => exact HC1.out); rintro e w10 ⟨v160, rfl, ho0, hb⟩; refine ⟨_, rfl, ?_⟩; have n0_ := Aside0.mk (Kd.S_lower ho0 (below_size (by repeat (first | (with_reducible first | exact HB.out | apply below_alloc | apply pw_below_drewN | apply below_drew1) | exact HB.out)))); have n1_ := Aside0.mk (below_step (by repeat (first | (with_reducible first | exact HB.out | apply below_alloc | apply pw_below_drewN | apply below_drew1) | exact HB.out)) hb); clear HB; have HO161 := n0_; have HB := n1_; clear n0_ n1_; (try clear hb); (try clear hb2); (try clear hk); (try clear hi); (try clear ho0)) | ((with_reducible refine gate_dst (N := 32) rfl ?_); refine Kd.R_make Kd.bool _ 4 rfl (N := 32) rfl 36 _ _ rfl a0 rfl rfl Try.underlying36 (.bool false) 1 info4 rfl (by decide) (by omega) false (ok := fun _ => True) (okp := fun _ => True) rfl (fun _ hk => hk) trivial (of_decide_eq_true (by first | (with_reducible assumption) | assumption)) (Nat.le_trans (Nat.mul_le_mul_right _ (of_decide_eq_true (by first | (with_reducible assumption) | assumption) : a0.toNat ≤ 281474976710656)) (by omega)) (Below.refl _ _) (Nat.le_refl _) ?_; intro v163 w11 ho12 hb hg_ hnew_; clear hg_ hnew_; (first | rw [← Ny162.out] at ho12 | (simp only [Int.reduceToNat] at ho12; rw [← Ny162.out] at ho12)); have n0_ := Aside0.mk (Kd.S_elder' (by (with_reducible repeat (first | apply Kd.S_alloc | apply Kd.S_drewN | apply Kd.S_drew)); exact HO161.out) (Kd.R_base ho12) hb); have n1_ := Aside0.mk (Kd.R_lower ho12 (below_size (by repeat (first | (with_reducible first | exact HB.out | apply below_alloc | apply pw_below_drewN | apply below_drew1) | exact HB.out)))); have n2_ := Aside0.mk (below_step (by repeat (first | (with_reducible first | exact HB.out | apply below_alloc | apply pw_below_drewN | apply below_drew1) | exact HB.out)) hb); clear HO161; clear HB; have HO161 := n0_; have HO164 := n1_; have HB := n2_; clear n0_ n1_ n2_; clear hb ho12))
            go_loopg [9] kj3 (fun kq v9 w' => ∃ (x8_2 : List Bool) (x9_2 : Int), v9 = .int .i64 x9_2 ∧ Aside0 (jacquardref14_Colours.l0 kq a0 a2 t159 x8_2 x9_2 = some r) ∧ Aside0 (kq ≤ kj3) ∧ Aside0 (Kd.S (Kd.slice 4 Kd.bool) 36 w' w.heap.size (fun k_ => some k_ ≠ (v163 : Value).ownBlock) v160 t159) ∧ Aside0 (Kd.R Kd.bool 4 w' w.heap.size (fun _ => True) v163 x8_2) ∧ Aside0 (Below w.heap.size w w'))
            case atStart => exact ⟨(y162), (0), (by first | rfl | (simp; done) | (simp [*]; done)), H', ⟨Nat.le_refl _⟩, ⟨by (with_reducible repeat (first | apply Kd.S_alloc | apply Kd.S_drewN | apply Kd.S_drew)); exact Kd.S_mono HO161.out (fun _ hk => hk.2)⟩, ⟨by (with_reducible repeat (first | apply Kd.R_alloc | apply Kd.R_drewN | apply Kd.R_drew)); exact HO164.out⟩, ⟨by repeat (first | (with_reducible first | exact HB.out | apply below_alloc | apply pw_below_drewN | apply below_drew1) | exact HB.out)⟩⟩
            case round =>
              clear H'
              try clear c1
              try clear p2
              try clear c5
              try clear c5b0
              try clear c6
              try clear c8
              try clear c8b0
              try clear c8b1
              try clear c9
              try clear c9b0
              try clear c9b1
              try clear c12
              try clear p2
              obtain ⟨x8_2, x9_2, rfl, HA, HK2, HO_7, HO_8, HB⟩ := hrel
              cases gk with
              | zero => exact absurd HA.out (by simp [jacquardref14_Colours.l0])
              | succ k2 =>
                have H := HA.out
                clear HA
                simp only [jacquardref14_Colours.l0] at H
                by_cases c13 : x9_2 < a0
                · rw [if_pos c13] at H
                  have c13b0 : decide (x9_2 < a0) = true := decide_eq_true c13
                  clear c13
                  by_cases c14 : 0 ≤ x9_2
                  · rw [if_pos c14] at H
                    have c14b0 : decide (0 ≤ x9_2) = true := decide_eq_true c14
                    clear c14
                    by_cases c15 : x9_2 < (x8_2.length : Int)
                    · rw [if_pos c15] at H
                      have c15b0 : decide (x9_2 < (x8_2.length : Int)) = true := decide_eq_true c15
                      clear c15
                      obtain ⟨y165, hy165⟩ : ∃ y_ : List Bool, y_ = (x8_2.set (x9_2 : Int).toNat true) := ⟨_, rfl⟩
                      replace H : (jacquardref14_Colours.l0 k2 a0 a2 t159 y165 (wrap64 (x9_2 + 1))) = some r := by first | (rw [hy165]; with_reducible exact H) | (have H2_ := (Option.bind_some _ _).symm.trans H; rw [hy165]; with_reducible exact H2_) | (have H2_ := (Option.bind_some _ _).symm.trans H; with_reducible exact H2_) | with_reducible exact H | (rw [hy165]; exact H) | exact H
                      have Ny165 := Aside0.mk hy165
                      clear hy165
                      have H' := Aside0.mk H
                      clear H
                      have p16 : 0 ≤ (x9_2 : Int) := of_decide_eq_true (by first | (with_reducible assumption) | assumption)
                      have q16 : (x9_2 : Int) < ((x8_2.length : Int) : Int) := of_decide_eq_true (by first | (with_reducible assumption) | assumption)
                      obtain ⟨go16, co16, eo16, gb16, gl16, cl16, HG16⟩ := Kd.R_form HO_8.out (by omega)
                      (first | cases eo16 | (injection eo16 with ea_ en_ ec_; (first | subst ea_ | (injection ea_ with ea_; subst ea_)); subst ec_; clear en_))
                      have GB16 := Aside0.mk gb16
                      have GG16 := Aside0.mk HG16
                      clear gb16 gl16 HG16
                      obtain ⟨hx16_0, hf16_0⟩ := Kd.R_celln false HO_8.out (x9_2 : Int) p16 q16
                      replace p16 := eq_true p16
                      replace q16 := eq_true q16
                      have HP17 := Kd.R_putg HO_8.out (x9_2 : Int) true
                      go_wp2_with (first | ((with_reducible refine gate_store (t := 4) (p := 40) rfl ?_); refine store_event (t := 4) (p := 40) (v := ?vo_w18) (w1 := (wr.setCell ⟨go16, (x9_2 : Int).toNat, none⟩ (.bool true))) ?hg ?ho ?hn ?hr ?_; (case ho => rfl); (case hg => rfl); (case hn => rfl); (case hr => first | (go_simp; done) | (go_simp; rfl)); intro w18 hw; have hg : wr.grownBy w18 (some go16) := (by rw [hw]; exact HP17.2); have hp_ : Kd.R Kd.bool 4 w18 w.heap.size (fun _ => True) (.slice (some ⟨go16, 0, none⟩) x8_2.length co16) y165 := (by rw [hw, Ny165.out]; exact HP17.1); clear HP17; have n0_ := Aside0.mk (Kd.S_after (v := (.slice (some ⟨go16, 0, none⟩) x8_2.length co16)) (v1 := (.slice (some ⟨go16, 0, none⟩) x8_2.length co16)) (ok := (fun _ => True)) (by (with_reducible repeat (first | apply Kd.S_alloc | apply Kd.S_drewN | apply Kd.S_drew)); exact Kd.S_mono HO_7.out (fun _ hk => ⟨trivial, hk⟩)) hg (.inl rfl)); have n1_ := Aside0.mk (hp_); have n2_ := Aside0.mk ((by rw [hw]; exact below_set (HB.out) GB16.out : Below w.heap.size w w18)); clear HO_7; clear HO_8; clear HB; have HO_7 := n0_; have HO_8 := n1_; have HB := n2_; clear n0_ n1_ n2_; clear hg hw hp_))
                      go_roundg k2
                      case measure => have := HJ3.out; have := HK2.out; omega
                      case rel => exact ⟨(y165), (wrap64 (x9_2 + 1)), (by first | rfl | (simp; done) | (simp [*]; done)), H', ⟨by have := HJ3.out; have := HK2.out; omega⟩, ⟨by (with_reducible repeat (first | apply Kd.S_alloc | apply Kd.S_drewN | apply Kd.S_drew)); exact Kd.S_mono HO_7.out (fun _ hk => hk.2)⟩, ⟨by (with_reducible repeat (first | apply Kd.R_alloc | apply Kd.R_drewN | apply Kd.R_drew)); exact HO_8.out⟩, ⟨by repeat (first | (with_reducible first | exact HB.out | apply below_alloc | apply pw_below_drewN | apply below_drew1) | exact HB.out)⟩⟩
                    · rw [if_neg c15] at H
                      exact absurd H (by simp)
                  · rw [if_neg c14] at H
                    exact absurd H (by simp)
                · rw [if_neg c13] at H
                  have c13b0 : decide (x9_2 < a0) = false := decide_eq_false c13
                  clear c13
                  have H' := Aside0.mk H
                  clear H
                  go_wp2
                  go_loopg [10] k2 (fun kq v10 w' => ∃ (x8_3 : List Bool) (x10_3 : List Int), Aside0 (jacquardref14_Colours.l1 kq a0 a2 t159 x8_3 x10_3 = some r) ∧ Aside0 (kq ≤ k2) ∧ Aside0 (Kd.S (Kd.slice 4 Kd.bool) 36 w' w.heap.size (fun k_ => some k_ ≠ (v163 : Value).ownBlock) v160 t159) ∧ Aside0 (Kd.R Kd.bool 4 w' w.heap.size (fun _ => True) v163 x8_3) ∧ Aside0 (Kd.R (Kd.int .i64) 3 w' w.heap.size (fun _ => True) v10 x10_3) ∧ Aside0 (Below w.heap.size w w'))
                  case atStart => exact ⟨(x8_2), (([] : List Int)), H', ⟨Nat.le_refl _⟩, ⟨by (with_reducible repeat (first | apply Kd.S_alloc | apply Kd.S_drewN | apply Kd.S_drew)); exact HO_7.out⟩, ⟨by (with_reducible repeat (first | apply Kd.R_alloc | apply Kd.R_drewN | apply Kd.R_drew)); exact HO_8.out⟩, ⟨by first | exact Kd.R_nil _ _ _ _ _ | exact Kd.N_nil _ _ _ _ _ | exact Kd.V_nil _ _ _ _ _ | exact Kd.Q_nil _ _ _ _ _ | exact Kd.S_nil _ _ _ _ _⟩, ⟨by repeat (first | (with_reducible first | exact HB.out | apply below_alloc | apply pw_below_drewN | apply below_drew1) | exact HB.out)⟩⟩
                  case round =>
                    clear H'
                    try clear c1
                    try clear p1
                    try clear q1
                    try clear hx1
                    try clear p2
                    try clear c5
                    try clear c5b0
                    try clear c6
                    try clear p6
                    try clear c8
                    try clear c8b0
                    try clear c8b1
                    try clear c9
                    try clear c9b0
                    try clear c9b1
                    try clear c12
                    try clear c13
                    try clear c13b0
                    try clear c14
                    try clear c14b0
                    try clear c15
                    try clear c15b0
                    try clear p16
                    try clear q16
                    try clear hx16
                    try clear hf16
                    try clear hx16_0
                    try clear p16
                    try clear p2
                    try clear q16
                    obtain ⟨x8_3, x10_3, HA, HK3, HO_7, HO_8, HO_10, HB⟩ := hrel
                    cases gk with
                    | zero => exact absurd HA.out (by simp [jacquardref14_Colours.l1])
                    | succ k3 =>
                      have H := HA.out
                      clear HA
                      simp only [jacquardref14_Colours.l1] at H
                      by_cases c19 : (x10_3.length : Int) < a0
                      · rw [if_pos c19] at H
                        have c19b0 : decide ((x10_3.length : Int) < a0) = true := decide_eq_true c19
                        clear c19
                        have H' := Aside0.mk H
                        clear H
                        obtain ⟨Ao20, co20, eo20⟩ := Kd.R_slice HO_10.out
                        subst eo20
                        go_wp2
                        go_loopg [11, 12, 13] k3 (fun kq v11 v12 v13 w' => ∃ (x11_4 : Int) (x12_4 : Int) (x13_4 : Int), v11 = .int .i64 x11_4 ∧ v12 = .int .i64 x12_4 ∧ v13 = .int .i64 x13_4 ∧ Aside0 (jacquardref14_Colours.l2 kq a0 a2 t159 x8_3 x10_3 x11_4 x12_4 x13_4 = some r) ∧ Aside0 (kq ≤ k3) ∧ Aside0 (Kd.S (Kd.slice 4 Kd.bool) 36 w' w.heap.size (fun k_ => some k_ ≠ (v163 : Value).ownBlock) v160 t159) ∧ Aside0 (Kd.R Kd.bool 4 w' w.heap.size (fun _ => True) v163 x8_3) ∧ Aside0 (Kd.R (Kd.int .i64) 3 w' w.heap.size (fun _ => True) (.slice Ao20 x10_3.length co20) x10_3) ∧ Aside0 (Below w.heap.size w w'))
                        case atStart => exact ⟨((-1)), ((-1)), (0), (by first | rfl | (simp; done) | (simp [*]; done)), (by first | rfl | (simp; done) | (simp [*]; done)), (by first | rfl | (simp; done) | (simp [*]; done)), H', ⟨Nat.le_refl _⟩, ⟨by (with_reducible repeat (first | apply Kd.S_alloc | apply Kd.S_drewN | apply Kd.S_drew)); exact HO_7.out⟩, ⟨by (with_reducible repeat (first | apply Kd.R_alloc | apply Kd.R_drewN | apply Kd.R_drew)); exact HO_8.out⟩, ⟨by (with_reducible repeat (first | apply Kd.R_alloc | apply Kd.R_drewN | apply Kd.R_drew)); exact HO_10.out⟩, ⟨by repeat (first | (with_reducible first | exact HB.out | apply below_alloc | apply pw_below_drewN | apply below_drew1) | exact HB.out)⟩⟩
                        case round =>
                          clear H'
                          try clear c1
                          try clear p1
                          try clear q1
                          try clear hx1
                          try clear p2
                          try clear c5
                          try clear c5b0
                          try clear c6
                          try clear p6
                          try clear c8
                          try clear c8b0
                          try clear c8b1
                          try clear c9
                          try clear c9b0
                          try clear c9b1
                          try clear c12
                          try clear c13
                          try clear c13b0
                          try clear c14
                          try clear c14b0
                          try clear c15
                          try clear c15b0
                          try clear p16
                          try clear q16
                          try clear hx16
                          try clear hf16
                          try clear c19
                          try clear c19b0
                          try clear hx16_0
                          try clear p1
                          try clear p16
                          try clear p2
                          try clear p6
                          try clear q1
                          try clear q16
                          obtain ⟨x11_4, x12_4, x13_4, rfl, rfl, rfl, HA, HK4, HO_7, HO_8, HO_10, HB⟩ := hrel
                          cases gk with
                          | zero => exact absurd HA.out (by simp [jacquardref14_Colours.l2])
                          | succ k4 =>
                            have H := HA.out
                            clear HA
                            simp only [jacquardref14_Colours.l2] at H
                            by_cases c21 : x13_4 < a0
                            · rw [if_pos c21] at H
                              have c21b0 : decide (x13_4 < a0) = true := decide_eq_true c21
                              clear c21
                              by_cases c22 : 0 ≤ x13_4
                              · rw [if_pos c22] at H
                                have c22b0 : decide (0 ≤ x13_4) = true := decide_eq_true c22
                                clear c22
                                by_cases c23 : x13_4 < (x8_3.length : Int)
                                · rw [if_pos c23] at H
                                  have c23b0 : decide (x13_4 < (x8_3.length : Int)) = true := decide_eq_true c23
                                  clear c23
                                  obtain ⟨bq24, hbq24⟩ : ∃ b_ : Bool, b_ = (rdOf false x8_3 x13_4) := ⟨_, rfl⟩
                                  replace H : (if bq24 = true then ((jacquardref14_degree.f k4 t159 x8_3 x13_4).bind fun t171 => (if t171 < a2 then (if x10_3.length < 17592186044416 then (jacquardref14_Colours.l1 k4 a0 a2 t159 (x8_3.set (x13_4 : Int).toNat false) (x10_3 ++ [x13_4])) else (none)) else (if t171 > x12_4 then (jacquardref14_Colours.l2 k4 a0 a2 t159 x8_3 x10_3 x13_4 t171 (wrap64 (x13_4 + 1))) else (jacquardref14_Colours.l2 k4 a0 a2 t159 x8_3 x10_3 x11_4 x12_4 (wrap64 (x13_4 + 1)))))) else (jacquardref14_Colours.l2 k4 a0 a2 t159 x8_3 x10_3 x11_4 x12_4 (wrap64 (x13_4 + 1)))) = some r := by rw [← hbq24] at H; exact H
                                  have Nbq24 := Aside0.mk hbq24
                                  clear hbq24
                                  by_cases c25 : bq24 = true
                                  · subst c25
                                    have H1 : ((jacquardref14_degree.f k4 t159 x8_3 x13_4).bind fun t171 => (if t171 < a2 then (if x10_3.length < 17592186044416 then (jacquardref14_Colours.l1 k4 a0 a2 t159 (x8_3.set (x13_4 : Int).toNat false) (x10_3 ++ [x13_4])) else (none)) else (if t171 > x12_4 then (jacquardref14_Colours.l2 k4 a0 a2 t159 x8_3 x10_3 x13_4 t171 (wrap64 (x13_4 + 1))) else (jacquardref14_Colours.l2 k4 a0 a2 t159 x8_3 x10_3 x11_4 x12_4 (wrap64 (x13_4 + 1)))))) = some r := by rw [if_pos rfl] at H; exact H
                                    clear H
                                    have H := H1
                                    clear H1
                                    replace H := Option.bind_eq_some_iff.mp H
                                    obtain ⟨t171, A260, H⟩ := H
                                    replace H : (if t171 < a2 then (if x10_3.length < 17592186044416 then (jacquardref14_Colours.l1 k4 a0 a2 t159 (x8_3.set (x13_4 : Int).toNat false) (x10_3 ++ [x13_4])) else (none)) else (if t171 > x12_4 then (jacquardref14_Colours.l2 k4 a0 a2 t159 x8_3 x10_3 x13_4 t171 (wrap64 (x13_4 + 1))) else (jacquardref14_Colours.l2 k4 a0 a2 t159 x8_3 x10_3 x11_4 x12_4 (wrap64 (x13_4 + 1))))) = some r := H
                                    have A26 := Aside0.mk A260
                                    clear A260
                                    by_cases c27 : t171 < a2
                                    · rw [if_pos c27] at H
                                      have c27b0 : decide (t171 < a2) = true := decide_eq_true c27
                                      clear c27
                                      obtain ⟨y172, hy172⟩ : ∃ y_ : List Bool, y_ = (x8_3.set (x13_4 : Int).toNat false) := ⟨_, rfl⟩
                                      replace H : (if x10_3.length < 17592186044416 then (jacquardref14_Colours.l1 k4 a0 a2 t159 y172 (x10_3 ++ [x13_4])) else (none)) = some r := by first | (rw [hy172]; with_reducible exact H) | (have H2_ := (Option.bind_some _ _).symm.trans H; rw [hy172]; with_reducible exact H2_) | (have H2_ := (Option.bind_some _ _).symm.trans H; with_reducible exact H2_) | with_reducible exact H | (rw [hy172]; exact H) | exact H
                                      have Ny172 := Aside0.mk hy172
                                      clear hy172
                                      by_cases c29 : x10_3.length < 17592186044416
                                      · rw [if_pos c29] at H
                                        have LMc29 := Aside0.mk c29
                                        clear c29
                                        obtain ⟨y173, hy173⟩ : ∃ y_ : List Int, y_ = (x10_3 ++ [x13_4]) := ⟨_, rfl⟩
                                        replace H : (jacquardref14_Colours.l1 k4 a0 a2 t159 y172 y173) = some r := by first | (rw [hy173]; with_reducible exact H) | (have H2_ := (Option.bind_some _ _).symm.trans H; rw [hy173]; with_reducible exact H2_) | (have H2_ := (Option.bind_some _ _).symm.trans H; with_reducible exact H2_) | with_reducible exact H | (rw [hy173]; exact H) | exact H
                                        have Ny173 := Aside0.mk hy173
                                        clear hy173
                                        have H' := Aside0.mk H
                                        clear H
                                        obtain ⟨Ao30, co30, eo30⟩ := Kd.R_slice HO_8.out
                                        subst eo30
                                        have p170 : 0 ≤ (x13_4 : Int) := of_decide_eq_true (by first | (with_reducible assumption) | assumption)
                                        have q170 : x13_4 < (x8_3.length : Int) := of_decide_eq_true (by first | (with_reducible assumption) | assumption)
                                        obtain ⟨ad170, e170, hx170_0⟩ := Kd.at_bool (Kd.R_reads' HO_8.out).2.2 x13_4 p170 q170
                                        (try rw [← Nbq24.out] at hx170_0)
                                        cases e170
                                        replace p170 := eq_true p170
                                        replace q170 := eq_true q170
                                        obtain ⟨Ao31, co31, eo31⟩ := Kd.S_slice HO_7.out
                                        subst eo31
                                        go_wp2_with (first | ((with_reducible refine gate_callee (f := 21) rfl ?_); refine goesL_ (some 58) rfl rfl Try.func21 (by kernel_rfl) rfl #[.slice Ao31 t159.length co31, .slice (some ad170) x8_3.length co30, .int .i64 x13_4] rfl (by (try simp only [List.map_toArray, List.map_cons, List.map_nil]); first | done | rfl | (simp only [List.length_drop, List.length_take]; rfl)) ?_; (with_reducible refine (jacquardref14_degree.calls k4 _ _ t159 _ _ x8_3 x13_4 t171 _ ?side1 ?side2 ?side3 ?side4 A26.out).mono ?_); (case side1 => repeat (first | exact (Kd.S_reads' HO_7.out).2.2 | (with_reducible refine Kd.C_alloc ?_ _) | (with_reducible refine Kd.C_drewN ?_ _) | (with_reducible refine Kd.C_drew ?_))); (case side2 => exact (Kd.S_reads' HO_7.out).2.1); (case side3 => repeat (first | exact (Kd.R_reads' HO_8.out).2.2 | (with_reducible refine Kd.C_alloc ?_ _) | (with_reducible refine Kd.C_drewN ?_ _) | (with_reducible refine Kd.C_drew ?_))); (case side4 => exact (Kd.R_reads' HO_8.out).2.1); rintro e w' ⟨rfl, ⟨nd, rfl⟩⟩; refine ⟨_, rfl, ?_⟩; (try (rw [drewN_self wr]; generalize hq_ : World.drewN wr _ = wr; have n0_ : Aside0 (Kd.R (Kd.int .i64) 3 wr w.heap.size (fun _ => True) (.slice Ao20 x10_3.length co20) x10_3) := ⟨by rw [← hq_]; exact (by (with_reducible repeat (first | apply Kd.R_alloc | apply Kd.R_drewN | apply Kd.R_drew)); exact HO_10.out)⟩; have n1_ : Aside0 (Kd.S (Kd.slice 4 Kd.bool) 36 wr w.heap.size (fun k_ => some k_ ≠ (.slice (some ad170) x8_3.length co30 : Value).ownBlock) (.slice Ao31 t159.length co31) t159) := ⟨by rw [← hq_]; exact (by (with_reducible repeat (first | apply Kd.S_alloc | apply Kd.S_drewN | apply Kd.S_drew)); exact HO_7.out)⟩; have n2_ : Aside0 (Kd.R Kd.bool 4 wr w.heap.size (fun _ => True) (.slice (some ad170) x8_3.length co30) x8_3) := ⟨by rw [← hq_]; exact (by (with_reducible repeat (first | apply Kd.R_alloc | apply Kd.R_drewN | apply Kd.R_drew)); exact HO_8.out)⟩; have n3_ : Aside0 (Below w.heap.size w wr) := ⟨by rw [← hq_]; exact (by repeat (first | (with_reducible first | exact HB.out | apply below_alloc | apply pw_below_drewN | apply below_drew1) | exact HB.out))⟩; clear HO_10 HO_7 HO_8 HB hq_; have HO_10 := n0_; have HO_7 := n1_; have HO_8 := n2_; have HB := n3_; clear n0_ n1_ n2_ n3_)); have p28 : 0 ≤ (x13_4 : Int) := of_decide_eq_true (by first | (with_reducible assumption) | assumption); have q28 : (x13_4 : Int) < ((x8_3.length : Int) : Int) := of_decide_eq_true (by first | (with_reducible assumption) | assumption); obtain ⟨go28, co28, eo28, gb28, gl28, cl28, HG28⟩ := Kd.R_form HO_8.out (by omega); (first | cases eo28 | (injection eo28 with ea_ en_ ec_; (first | subst ea_ | (injection ea_ with ea_; subst ea_)); subst ec_; clear en_)); have GB28 := Aside0.mk gb28; have GG28 := Aside0.mk HG28; clear gb28 gl28 HG28; (first | simp only [add_plain] at hx170_0 | skip); obtain ⟨hx28_0, hf28_0⟩ := Kd.R_celln false HO_8.out (x13_4 : Int) p28 q28; replace p28 := eq_true p28; replace q28 := eq_true q28; obtain ⟨hy32_, hz32_⟩ := Kd.R_celln false HO_8.out (x13_4 : Int) (of_decide_eq_true (by first | (with_reducible assumption) | assumption)) (of_decide_eq_true (by first | (with_reducible assumption) | assumption)); have HP32 := Kd.R_putg HO_8.out (x13_4 : Int) false) | ((with_reducible refine gate_store (t := 4) (p := 70) rfl ?_); refine store_event (t := 4) (p := 70) (v := ?vo_w33) (w1 := (wr.setCell ⟨go28, (x13_4 : Int).toNat, none⟩ (.bool false))) ?hg ?ho ?hn ?hr ?_; (case ho => rfl); (case hg => rfl); (case hn => rfl); (case hr => first | (go_simp; done) | (go_simp; rfl)); intro w33 hw; have hg : wr.grownBy w33 (some go28) := (by rw [hw]; exact HP32.2); have hp_ : Kd.R Kd.bool 4 w33 w.heap.size (fun _ => True) (.slice (some ⟨go28, 0, none⟩) x8_3.length co30) y172 := (by rw [hw, Ny172.out]; exact HP32.1); clear HP32; have n0_ := Aside0.mk (Kd.S_after (v := (.slice (some ⟨go28, 0, none⟩) x8_3.length co30)) (v1 := (.slice (some ⟨go28, 0, none⟩) x8_3.length co30)) (ok := (fun _ => True)) (by (with_reducible repeat (first | apply Kd.S_alloc | apply Kd.S_drewN | apply Kd.S_drew)); exact Kd.S_mono HO_7.out (fun _ hk => ⟨trivial, hk⟩)) hg (.inl rfl)); have n1_ := Aside0.mk (hp_); have n2_ := Aside0.mk (Kd.R_over' (v := (.slice (some ⟨go28, 0, none⟩) x8_3.length co30)) (by (with_reducible repeat (first | apply Kd.R_alloc | apply Kd.R_drewN | apply Kd.R_drew)); exact HO_10.out) (Kd.R_typed HO_8.out) (by decide) hg); have n3_ := Aside0.mk ((by rw [hw]; exact below_set (HB.out) GB28.out : Below w.heap.size w w33)); clear HO_7; clear HO_8; clear HO_10; clear HB; have HO_7 := n0_; have HO_8 := n1_; have HO_10 := n2_; have HB := n3_; clear n0_ n1_ n2_ n3_; clear hg hw hp_) | ((with_reducible refine gate_builtin (b := .append) (xs := #[.tmp 71, .tmp 73]) rfl ?_); at_builtin; refine Kd.R_append (Kd.int .i64) (w0 := w) w.heap.size rfl (.tmp 71) (.tmp 73) 22 3 (.int .i64 0) 8 rfl Try.underlying22 info3 rfl (by decide) (by omega) (.slice Ao20 x10_3.length co20) x10_3 x13_4 [.int .i64 x13_4] (fun _ => True) (fun _ => False) rfl rfl ?aP (fun _ hk => hk.elim) ?aF ?aO ?aB ?aS ?aL ?_; (case aP => exact rfl); (case aB => exact (by repeat (first | (with_reducible first | exact HB.out | apply below_alloc | apply pw_below_drewN | apply below_drew1) | exact HB.out))); (case aF => exact (fun _ _ => trivial)); (case aO => exact (by (with_reducible repeat (first | apply Kd.R_alloc | apply Kd.R_drewN | apply Kd.R_drew)); exact HO_10.out)); (case aS => exact (below_size (by repeat (first | (with_reducible first | exact HB.out | apply below_alloc | apply pw_below_drewN | apply below_drew1) | exact HB.out)))); (case aL => have := LMc29.out; omega); intro v174 w34 ho hb hg hat; rw [← Ny173.out] at ho; have n0_ := Aside0.mk (Kd.S_over' (by (with_reducible repeat (first | apply Kd.S_alloc | apply Kd.S_drewN | apply Kd.S_drew)); exact HO_7.out) (Kd.R_typed (by (with_reducible repeat (first | apply Kd.R_alloc | apply Kd.R_drewN | apply Kd.R_drew)); exact HO_10.out)) (by decide) hg); have n1_ := Aside0.mk (Kd.R_over' (by (with_reducible repeat (first | apply Kd.R_alloc | apply Kd.R_drewN | apply Kd.R_drew)); exact HO_8.out) (Kd.R_typed (by (with_reducible repeat (first | apply Kd.R_alloc | apply Kd.R_drewN | apply Kd.R_drew)); exact HO_10.out)) (by decide) hg); have n2_ := Aside0.mk (hb); have n3_ := Aside0.mk (ho); clear HO_7; clear HO_8; clear HB; clear HO_10; have HO_7 := n0_; have HO_8 := n1_; have HB := n2_; have HO175 := n3_; clear n0_ n1_ n2_ n3_; clear ho hb hg hat))
                                        go_roundg k4
                                        case measure => have := HJ3.out; have := HK2.out; have := HK3.out; have := HK4.out; omega
                                        case rel => exact ⟨(y172), (y173), H', ⟨by have := HJ3.out; have := HK2.out; have := HK3.out; have := HK4.out; omega⟩, ⟨by (with_reducible repeat (first | apply Kd.S_alloc | apply Kd.S_drewN | apply Kd.S_drew)); exact Kd.S_mono HO_7.out (fun _ hk => hk.2)⟩, ⟨by (with_reducible repeat (first | apply Kd.R_alloc | apply Kd.R_drewN | apply Kd.R_drew)); exact HO_8.out⟩, ⟨by (with_reducible repeat (first | apply Kd.R_alloc | apply Kd.R_drewN | apply Kd.R_drew)); exact HO175.out⟩, ⟨by repeat (first | (with_reducible first | exact HB.out | apply below_alloc | apply pw_below_drewN | apply below_drew1) | exact HB.out)⟩⟩
                                      · rw [if_neg c29] at H
                                        exact absurd H (by simp)
                                    · rw [if_neg c27] at H
                                      have c27b0 : decide (t171 < a2) = false := decide_eq_false c27
                                      clear c27
                                      by_cases c35 : t171 > x12_4
                                      · rw [if_pos c35] at H
                                        have c35b0 : decide (x12_4 < t171) = true := decide_eq_true c35
                                        clear c35
                                        have H' := Aside0.mk H
                                        clear H
                                        obtain ⟨Ao36, co36, eo36⟩ := Kd.R_slice HO_8.out
                                        subst eo36
                                        have p170 : 0 ≤ (x13_4 : Int) := of_decide_eq_true (by first | (with_reducible assumption) | assumption)
                                        have q170 : x13_4 < (x8_3.length : Int) := of_decide_eq_true (by first | (with_reducible assumption) | assumption)
                                        obtain ⟨ad170, e170, hx170_0⟩ := Kd.at_bool (Kd.R_reads' HO_8.out).2.2 x13_4 p170 q170
                                        (try rw [← Nbq24.out] at hx170_0)
                                        cases e170
                                        replace p170 := eq_true p170
                                        replace q170 := eq_true q170
                                        obtain ⟨Ao37, co37, eo37⟩ := Kd.S_slice HO_7.out
                                        subst eo37
                                        go_wp2_with (first | ((with_reducible refine gate_callee (f := 21) rfl ?_); refine goesL_ (some 58) rfl rfl Try.func21 (by kernel_rfl) rfl #[.slice Ao37 t159.length co37, .slice (some ad170) x8_3.length co36, .int .i64 x13_4] rfl (by (try simp only [List.map_toArray, List.map_cons, List.map_nil]); first | done | rfl | (simp only [List.length_drop, List.length_take]; rfl)) ?_; (with_reducible refine (jacquardref14_degree.calls k4 _ _ t159 _ _ x8_3 x13_4 t171 _ ?side1 ?side2 ?side3 ?side4 A26.out).mono ?_); (case side1 => repeat (first | exact (Kd.S_reads' HO_7.out).2.2 | (with_reducible refine Kd.C_alloc ?_ _) | (with_reducible refine Kd.C_drewN ?_ _) | (with_reducible refine Kd.C_drew ?_))); (case side2 => exact (Kd.S_reads' HO_7.out).2.1); (case side3 => repeat (first | exact (Kd.R_reads' HO_8.out).2.2 | (with_reducible refine Kd.C_alloc ?_ _) | (with_reducible refine Kd.C_drewN ?_ _) | (with_reducible refine Kd.C_drew ?_))); (case side4 => exact (Kd.R_reads' HO_8.out).2.1); rintro e w' ⟨rfl, ⟨nd, rfl⟩⟩; refine ⟨_, rfl, ?_⟩))
                                        go_roundg k4
                                        case measure => have := HJ3.out; have := HK2.out; have := HK3.out; have := HK4.out; omega
                                        case rel => exact ⟨(x13_4), (t171), (wrap64 (x13_4 + 1)), (by first | rfl | (simp; done) | (simp [*]; done)), (by first | rfl | (simp; done) | (simp [*]; done)), (by first | rfl | (simp; done) | (simp [*]; done)), H', ⟨by have := HJ3.out; have := HK2.out; have := HK3.out; have := HK4.out; omega⟩, ⟨by (with_reducible repeat (first | apply Kd.S_alloc | apply Kd.S_drewN | apply Kd.S_drew)); exact HO_7.out⟩, ⟨by (with_reducible repeat (first | apply Kd.R_alloc | apply Kd.R_drewN | apply Kd.R_drew)); exact HO_8.out⟩, ⟨by (with_reducible repeat (first | apply Kd.R_alloc | apply Kd.R_drewN | apply Kd.R_drew)); exact HO_10.out⟩, ⟨by repeat (first | (with_reducible first | exact HB.out | apply below_alloc | apply pw_below_drewN | apply below_drew1) | exact HB.out)⟩⟩
                                      · rw [if_neg c35] at H
                                        have c35b0 : decide (x12_4 < t171) = false := decide_eq_false c35
                                        clear c35
                                        have H' := Aside0.mk H
                                        clear H
                                        obtain ⟨Ao38, co38, eo38⟩ := Kd.R_slice HO_8.out
                                        subst eo38
                                        have p170 : 0 ≤ (x13_4 : Int) := of_decide_eq_true (by first | (with_reducible assumption) | assumption)
                                        have q170 : x13_4 < (x8_3.length : Int) := of_decide_eq_true (by first | (with_reducible assumption) | assumption)
                                        obtain ⟨ad170, e170, hx170_0⟩ := Kd.at_bool (Kd.R_reads' HO_8.out).2.2 x13_4 p170 q170
                                        (try rw [← Nbq24.out] at hx170_0)
                                        cases e170
                                        replace p170 := eq_true p170
                                        replace q170 := eq_true q170
                                        obtain ⟨Ao39, co39, eo39⟩ := Kd.S_slice HO_7.out
                                        subst eo39
                                        go_wp2_with (first | ((with_reducible refine gate_callee (f := 21) rfl ?_); refine goesL_ (some 58) rfl rfl Try.func21 (by kernel_rfl) rfl #[.slice Ao39 t159.length co39, .slice (some ad170) x8_3.length co38, .int .i64 x13_4] rfl (by (try simp only [List.map_toArray, List.map_cons, List.map_nil]); first | done | rfl | (simp only [List.length_drop, List.length_take]; rfl)) ?_; (with_reducible refine (jacquardref14_degree.calls k4 _ _ t159 _ _ x8_3 x13_4 t171 _ ?side1 ?side2 ?side3 ?side4 A26.out).mono ?_); (case side1 => repeat (first | exact (Kd.S_reads' HO_7.out).2.2 | (with_reducible refine Kd.C_alloc ?_ _) | (with_reducible refine Kd.C_drewN ?_ _) | (with_reducible refine Kd.C_drew ?_))); (case side2 => exact (Kd.S_reads' HO_7.out).2.1); (case side3 => repeat (first | exact (Kd.R_reads' HO_8.out).2.2 | (with_reducible refine Kd.C_alloc ?_ _) | (with_reducible refine Kd.C_drewN ?_ _) | (with_reducible refine Kd.C_drew ?_))); (case side4 => exact (Kd.R_reads' HO_8.out).2.1); rintro e w' ⟨rfl, ⟨nd, rfl⟩⟩; refine ⟨_, rfl, ?_⟩))
                                        go_roundg k4
                                        case measure => have := HJ3.out; have := HK2.out; have := HK3.out; have := HK4.out; omega
                                        case rel => exact ⟨(x11_4), (x12_4), (wrap64 (x13_4 + 1)), (by first | rfl | (simp; done) | (simp [*]; done)), (by first | rfl | (simp; done) | (simp [*]; done)), (by first | rfl | (simp; done) | (simp [*]; done)), H', ⟨by have := HJ3.out; have := HK2.out; have := HK3.out; have := HK4.out; omega⟩, ⟨by (with_reducible repeat (first | apply Kd.S_alloc | apply Kd.S_drewN | apply Kd.S_drew)); exact HO_7.out⟩, ⟨by (with_reducible repeat (first | apply Kd.R_alloc | apply Kd.R_drewN | apply Kd.R_drew)); exact HO_8.out⟩, ⟨by (with_reducible repeat (first | apply Kd.R_alloc | apply Kd.R_drewN | apply Kd.R_drew)); exact HO_10.out⟩, ⟨by repeat (first | (with_reducible first | exact HB.out | apply below_alloc | apply pw_below_drewN | apply below_drew1) | exact HB.out)⟩⟩
                                  · replace c25 := Bool.eq_false_iff.mpr c25
                                    subst c25
                                    have H1 : (jacquardref14_Colours.l2 k4 a0 a2 t159 x8_3 x10_3 x11_4 x12_4 (wrap64 (x13_4 + 1))) = some r := by rw [if_neg (show ¬ (false = true) by decide)] at H; exact H
                                    clear H
                                    have H := H1
                                    clear H1
                                    have H' := Aside0.mk H
                                    clear H
                                    obtain ⟨Ao40, co40, eo40⟩ := Kd.R_slice HO_8.out
                                    subst eo40
                                    have p170 : 0 ≤ (x13_4 : Int) := of_decide_eq_true (by first | (with_reducible assumption) | assumption)
                                    have q170 : x13_4 < (x8_3.length : Int) := of_decide_eq_true (by first | (with_reducible assumption) | assumption)
                                    obtain ⟨ad170, e170, hx170_0⟩ := Kd.at_bool (Kd.R_reads' HO_8.out).2.2 x13_4 p170 q170
                                    (try rw [← Nbq24.out] at hx170_0)
                                    cases e170
                                    replace p170 := eq_true p170
                                    replace q170 := eq_true q170
                                    go_wp2
                                    go_roundg k4
                                    case measure => have := HJ3.out; have := HK2.out; have := HK3.out; have := HK4.out; omega
                                    case rel => exact ⟨(x11_4), (x12_4), (wrap64 (x13_4 + 1)), (by first | rfl | (simp; done) | (simp [*]; done)), (by first | rfl | (simp; done) | (simp [*]; done)), (by first | rfl | (simp; done) | (simp [*]; done)), H', ⟨by have := HJ3.out; have := HK2.out; have := HK3.out; have := HK4.out; omega⟩, ⟨by (with_reducible repeat (first | apply Kd.S_alloc | apply Kd.S_drewN | apply Kd.S_drew)); exact HO_7.out⟩, ⟨by (with_reducible repeat (first | apply Kd.R_alloc | apply Kd.R_drewN | apply Kd.R_drew)); exact HO_8.out⟩, ⟨by (with_reducible repeat (first | apply Kd.R_alloc | apply Kd.R_drewN | apply Kd.R_drew)); exact HO_10.out⟩, ⟨by repeat (first | (with_reducible first | exact HB.out | apply below_alloc | apply pw_below_drewN | apply below_drew1) | exact HB.out)⟩⟩
                                · rw [if_neg c23] at H
                                  exact absurd H (by simp)
                              · rw [if_neg c22] at H
                                exact absurd H (by simp)
                            · rw [if_neg c21] at H
                              have c21b0 : decide (x13_4 < a0) = false := decide_eq_false c21
                              clear c21
                              by_cases c41 : 0 ≤ x11_4
                              · rw [if_pos c41] at H
                                have c41b0 : decide (0 ≤ x11_4) = true := decide_eq_true c41
                                clear c41
                                by_cases c42 : x11_4 < (x8_3.length : Int)
                                · rw [if_pos c42] at H
                                  have c42b0 : decide (x11_4 < (x8_3.length : Int)) = true := decide_eq_true c42
                                  clear c42
                                  obtain ⟨y166, hy166⟩ : ∃ y_ : List Bool, y_ = (x8_3.set (x11_4 : Int).toNat false) := ⟨_, rfl⟩
                                  replace H : (if x10_3.length < 17592186044416 then (jacquardref14_Colours.l1 k4 a0 a2 t159 y166 (x10_3 ++ [x11_4])) else (none)) = some r := by first | (rw [hy166]; with_reducible exact H) | (have H2_ := (Option.bind_some _ _).symm.trans H; rw [hy166]; with_reducible exact H2_) | (have H2_ := (Option.bind_some _ _).symm.trans H; with_reducible exact H2_) | with_reducible exact H | (rw [hy166]; exact H) | exact H
                                  have Ny166 := Aside0.mk hy166
                                  clear hy166
                                  by_cases c44 : x10_3.length < 17592186044416
                                  · rw [if_pos c44] at H
                                    have LMc44 := Aside0.mk c44
                                    clear c44
                                    obtain ⟨y167, hy167⟩ : ∃ y_ : List Int, y_ = (x10_3 ++ [x11_4]) := ⟨_, rfl⟩
                                    replace H : (jacquardref14_Colours.l1 k4 a0 a2 t159 y166 y167) = some r := by first | (rw [hy167]; with_reducible exact H) | (have H2_ := (Option.bind_some _ _).symm.trans H; rw [hy167]; with_reducible exact H2_) | (have H2_ := (Option.bind_some _ _).symm.trans H; with_reducible exact H2_) | with_reducible exact H | (rw [hy167]; exact H) | exact H
                                    have Ny167 := Aside0.mk hy167
                                    clear hy167
                                    have H' := Aside0.mk H
                                    clear H
                                    have p43 : 0 ≤ (x11_4 : Int) := of_decide_eq_true (by first | (with_reducible assumption) | assumption)
                                    have q43 : (x11_4 : Int) < ((x8_3.length : Int) : Int) := of_decide_eq_true (by first | (with_reducible assumption) | assumption)
                                    obtain ⟨go43, co43, eo43, gb43, gl43, cl43, HG43⟩ := Kd.R_form HO_8.out (by omega)
                                    (first | cases eo43 | (injection eo43 with ea_ en_ ec_; (first | subst ea_ | (injection ea_ with ea_; subst ea_)); subst ec_; clear en_))
                                    have GB43 := Aside0.mk gb43
                                    have GG43 := Aside0.mk HG43
                                    clear gb43 gl43 HG43
                                    obtain ⟨hx43_0, hf43_0⟩ := Kd.R_celln false HO_8.out (x11_4 : Int) p43 q43
                                    replace p43 := eq_true p43
                                    replace q43 := eq_true q43
                                    have HP45 := Kd.R_putg HO_8.out (x11_4 : Int) false
                                    go_wp2_with (first | ((with_reducible refine gate_store (t := 4) (p := 70) rfl ?_); refine store_event (t := 4) (p := 70) (v := ?vo_w46) (w1 := (wr.setCell ⟨go43, (x11_4 : Int).toNat, none⟩ (.bool false))) ?hg ?ho ?hn ?hr ?_; (case ho => rfl); (case hg => rfl); (case hn => rfl); (case hr => first | (go_simp; done) | (go_simp; rfl)); intro w46 hw; have hg : wr.grownBy w46 (some go43) := (by rw [hw]; exact HP45.2); have hp_ : Kd.R Kd.bool 4 w46 w.heap.size (fun _ => True) (.slice (some ⟨go43, 0, none⟩) x8_3.length co43) y166 := (by rw [hw, Ny166.out]; exact HP45.1); clear HP45; have n0_ := Aside0.mk (Kd.S_after (v := (.slice (some ⟨go43, 0, none⟩) x8_3.length co43)) (v1 := (.slice (some ⟨go43, 0, none⟩) x8_3.length co43)) (ok := (fun _ => True)) (by (with_reducible repeat (first | apply Kd.S_alloc | apply Kd.S_drewN | apply Kd.S_drew)); exact Kd.S_mono HO_7.out (fun _ hk => ⟨trivial, hk⟩)) hg (.inl rfl)); have n1_ := Aside0.mk (hp_); have n2_ := Aside0.mk (Kd.R_over' (v := (.slice (some ⟨go43, 0, none⟩) x8_3.length co43)) (by (with_reducible repeat (first | apply Kd.R_alloc | apply Kd.R_drewN | apply Kd.R_drew)); exact HO_10.out) (Kd.R_typed HO_8.out) (by decide) hg); have n3_ := Aside0.mk ((by rw [hw]; exact below_set (HB.out) GB43.out : Below w.heap.size w w46)); clear HO_7; clear HO_8; clear HO_10; clear HB; have HO_7 := n0_; have HO_8 := n1_; have HO_10 := n2_; have HB := n3_; clear n0_ n1_ n2_ n3_; clear hg hw hp_) | ((with_reducible refine gate_builtin (b := .append) (xs := #[.tmp 71, .tmp 73]) rfl ?_); at_builtin; refine Kd.R_append (Kd.int .i64) (w0 := w) w.heap.size rfl (.tmp 71) (.tmp 73) 22 3 (.int .i64 0) 8 rfl Try.underlying22 info3 rfl (by decide) (by omega) (.slice Ao20 x10_3.length co20) x10_3 x11_4 [.int .i64 x11_4] (fun _ => True) (fun _ => False) rfl rfl ?aP (fun _ hk => hk.elim) ?aF ?aO ?aB ?aS ?aL ?_; (case aP => exact rfl); (case aB => exact (by repeat (first | (with_reducible first | exact HB.out | apply below_alloc | apply pw_below_drewN | apply below_drew1) | exact HB.out))); (case aF => exact (fun _ _ => trivial)); (case aO => exact (by (with_reducible repeat (first | apply Kd.R_alloc | apply Kd.R_drewN | apply Kd.R_drew)); exact HO_10.out)); (case aS => exact (below_size (by repeat (first | (with_reducible first | exact HB.out | apply below_alloc | apply pw_below_drewN | apply below_drew1) | exact HB.out)))); (case aL => have := LMc44.out; omega); intro v168 w47 ho hb hg hat; rw [← Ny167.out] at ho; have n0_ := Aside0.mk (Kd.S_over' (by (with_reducible repeat (first | apply Kd.S_alloc | apply Kd.S_drewN | apply Kd.S_drew)); exact HO_7.out) (Kd.R_typed (by (with_reducible repeat (first | apply Kd.R_alloc | apply Kd.R_drewN | apply Kd.R_drew)); exact HO_10.out)) (by decide) hg); have n1_ := Aside0.mk (Kd.R_over' (by (with_reducible repeat (first | apply Kd.R_alloc | apply Kd.R_drewN | apply Kd.R_drew)); exact HO_8.out) (Kd.R_typed (by (with_reducible repeat (first | apply Kd.R_alloc | apply Kd.R_drewN | apply Kd.R_drew)); exact HO_10.out)) (by decide) hg); have n2_ := Aside0.mk (hb); have n3_ := Aside0.mk (ho); clear HO_7; clear HO_8; clear HB; clear HO_10; have HO_7 := n0_; have HO_8 := n1_; have HB := n2_; have HO169 := n3_; clear n0_ n1_ n2_ n3_; clear ho hb hg hat))
                                    go_roundg k4
                                    case measure => have := HJ3.out; have := HK2.out; have := HK3.out; have := HK4.out; omega
                                    case rel => exact ⟨(y166), (y167), H', ⟨by have := HJ3.out; have := HK2.out; have := HK3.out; have := HK4.out; omega⟩, ⟨by (with_reducible repeat (first | apply Kd.S_alloc | apply Kd.S_drewN | apply Kd.S_drew)); exact Kd.S_mono HO_7.out (fun _ hk => hk.2)⟩, ⟨by (with_reducible repeat (first | apply Kd.R_alloc | apply Kd.R_drewN | apply Kd.R_drew)); exact HO_8.out⟩, ⟨by (with_reducible repeat (first | apply Kd.R_alloc | apply Kd.R_drewN | apply Kd.R_drew)); exact HO169.out⟩, ⟨by repeat (first | (with_reducible first | exact HB.out | apply below_alloc | apply pw_below_drewN | apply below_drew1) | exact HB.out)⟩⟩
                                  · rw [if_neg c44] at H
                                    exact absurd H (by simp)
                                · rw [if_neg c42] at H
                                  exact absurd H (by simp)
                              · rw [if_neg c41] at H
                                exact absurd H (by simp)
                      · rw [if_neg c19] at H
                        have c19b0 : decide ((x10_3.length : Int) < a0) = false := decide_eq_false c19
                        clear c19
                        by_cases c48 : 0 ≤ a0
                        · rw [if_pos c48] at H
                          have c48b0 := eq_true c48
                          have c48b1 : decide (0 ≤ a0) = true := decide_eq_true c48
                          clear c48
                          by_cases c49 : (a0 : Int).toNat ≤ 35184372088832
                          · rw [if_pos c49] at H
                            have c49b0 := eq_true c49
                            have c49b1 : decide ((a0 : Int).toNat ≤ 35184372088832) = true := decide_eq_true c49
                            clear c49
                            obtain ⟨y176, hy176⟩ : ∃ y_ : List Int, y_ = (List.replicate (a0 : Int).toNat 0) := ⟨_, rfl⟩
                            replace H : (jacquardref14_Colours.l3 k3 a0 a2 t159 x10_3 y176 0) = some r := by first | (rw [hy176]; with_reducible exact H) | (have H2_ := (Option.bind_some _ _).symm.trans H; rw [hy176]; with_reducible exact H2_) | (have H2_ := (Option.bind_some _ _).symm.trans H; with_reducible exact H2_) | with_reducible exact H | (rw [hy176]; exact H) | exact H
                            have Ny176 := Aside0.mk hy176
                            clear hy176
                            have H' := Aside0.mk H
                            clear H
                            obtain ⟨Ao50, co50, eo50⟩ := Kd.R_slice HO_10.out
                            subst eo50
                            go_wp2_with (first | ((with_reducible refine gate_dst (N := 76) rfl ?_); refine Kd.R_make (Kd.int .i64) _ 3 rfl (N := 76) rfl 22 _ _ rfl a0 rfl rfl Try.underlying22 (.int .i64 0) 8 info3 rfl (by decide) (by omega) 0 (ok := fun _ => True) (okp := fun _ => True) rfl (fun _ hk => hk) trivial (of_decide_eq_true (by first | (with_reducible assumption) | assumption)) (Nat.le_trans (Nat.mul_le_mul_right _ (of_decide_eq_true (by first | (with_reducible assumption) | assumption) : a0.toNat ≤ 35184372088832)) (by omega)) (Below.refl _ _) (Nat.le_refl _) ?_; intro v177 w51 ho52 hb hg_ hnew_; clear hg_ hnew_; (first | rw [← Ny176.out] at ho52 | (simp only [Int.reduceToNat] at ho52; rw [← Ny176.out] at ho52)); have n0_ := Aside0.mk (Kd.S_below (by (with_reducible repeat (first | apply Kd.S_alloc | apply Kd.S_drewN | apply Kd.S_drew)); exact HO_7.out) hb); have n1_ := Aside0.mk (Kd.R_below (by (with_reducible repeat (first | apply Kd.R_alloc | apply Kd.R_drewN | apply Kd.R_drew)); exact HO_8.out) hb); have n2_ := Aside0.mk (Kd.R_elder' (by (with_reducible repeat (first | apply Kd.R_alloc | apply Kd.R_drewN | apply Kd.R_drew)); exact HO_10.out) (Kd.R_base ho52) hb); have n3_ := Aside0.mk (Kd.R_lower (Kd.R_new' ho52 (Kd.R_lt (by (with_reducible repeat (first | apply Kd.R_alloc | apply Kd.R_drewN | apply Kd.R_drew)); exact HO_10.out))) (below_size (by repeat (first | (with_reducible first | exact HB.out | apply below_alloc | apply pw_below_drewN | apply below_drew1) | exact HB.out)))); have n4_ := Aside0.mk (below_step (by repeat (first | (with_reducible first | exact HB.out | apply below_alloc | apply pw_below_drewN | apply below_drew1) | exact HB.out)) hb); clear HO_7; clear HO_8; clear HO_10; clear HB; have HO_7 := n0_; have HO_8 := n1_; have HO_10 := n2_; have HO178 := n3_; have HB := n4_; clear n0_ n1_ n2_ n3_ n4_; clear hb ho52))
                            go_loopg [16] k3 (fun kq v16 w' => ∃ (x15_4 : List Int) (x16_4 : Int), v16 = .int .i64 x16_4 ∧ Aside0 (jacquardref14_Colours.l3 kq a0 a2 t159 x10_3 x15_4 x16_4 = some r) ∧ Aside0 (kq ≤ k3) ∧ Aside0 (Kd.S (Kd.slice 4 Kd.bool) 36 w' w.heap.size (fun _ => True) v160 t159) ∧ Aside0 (Kd.R (Kd.int .i64) 3 w' w.heap.size (fun k_ => some k_ ≠ (v177 : Value).ownBlock) (.slice Ao50 x10_3.length co50) x10_3) ∧ Aside0 (Kd.R (Kd.int .i64) 3 w' w.heap.size (fun k_ => some k_ ≠ ((.slice Ao50 x10_3.length co50) : Value).ownBlock) v177 x15_4) ∧ Aside0 (Below w.heap.size w w'))
                            case atStart => exact ⟨(y176), (0), (by first | rfl | (simp; done) | (simp [*]; done)), H', ⟨Nat.le_refl _⟩, ⟨by (with_reducible repeat (first | apply Kd.S_alloc | apply Kd.S_drewN | apply Kd.S_drew)); exact Kd.S_mono HO_7.out (fun _ hk => trivial)⟩, ⟨by (with_reducible repeat (first | apply Kd.R_alloc | apply Kd.R_drewN | apply Kd.R_drew)); exact Kd.R_mono HO_10.out (fun _ hk => hk.2)⟩, ⟨by (with_reducible repeat (first | apply Kd.R_alloc | apply Kd.R_drewN | apply Kd.R_drew)); exact Kd.R_mono HO178.out (fun _ hk => hk.2)⟩, ⟨by repeat (first | (with_reducible first | exact HB.out | apply below_alloc | apply pw_below_drewN | apply below_drew1) | exact HB.out)⟩⟩
                            case round =>
                              clear H'
                              try clear c1
                              try clear p1
                              try clear q1
                              try clear hx1
                              try clear c2
                              try clear p2
                              try clear q2
                              try clear hx2
                              try clear c3
                              try clear c4
                              try clear p4
                              try clear q4
                              try clear hx4
                              try clear hf4
                              try clear c5
                              try clear c5b0
                              try clear c6
                              try clear p6
                              try clear c8
                              try clear c8b0
                              try clear c8b1
                              try clear c9
                              try clear c9b0
                              try clear c9b1
                              try clear c12
                              try clear c13
                              try clear c13b0
                              try clear c14
                              try clear c14b0
                              try clear c15
                              try clear c15b0
                              try clear p16
                              try clear q16
                              try clear hx16
                              try clear hf16
                              try clear p17
                              try clear q17
                              try clear hx17
                              try clear c19
                              try clear c19b0
                              try clear c21
                              try clear c21b0
                              try clear c22
                              try clear c22b0
                              try clear c23
                              try clear c23b0
                              try clear q24
                              try clear c25
                              try clear c27
                              try clear c27b0
                              try clear p28
                              try clear q28
                              try clear hx28
                              try clear hf28
                              try clear c29
                              try clear c35
                              try clear c35b0
                              try clear c41
                              try clear c41b0
                              try clear c42
                              try clear c42b0
                              try clear p43
                              try clear q43
                              try clear hx43
                              try clear hf43
                              try clear c44
                              try clear c48
                              try clear c48b0
                              try clear c48b1
                              try clear c49
                              try clear c49b0
                              try clear c49b1
                              try clear hx16_0
                              try clear hx170_0
                              try clear hx28_0
                              try clear hx43_0
                              try clear p1
                              try clear p16
                              try clear p170
                              try clear p2
                              try clear p28
                              try clear p43
                              try clear p6
                              try clear q1
                              try clear q16
                              try clear q170
                              try clear q28
                              try clear q43
                              obtain ⟨x15_4, x16_4, rfl, HA, HK4, HO_7, HO_10, HO_15, HB⟩ := hrel
                              cases gk with
                              | zero => exact absurd HA.out (by simp [jacquardref14_Colours.l3])
                              | succ k4 =>
                                have H := HA.out
                                clear HA
                                simp only [jacquardref14_Colours.l3] at H
                                by_cases c53 : x16_4 < a0
                                · rw [if_pos c53] at H
                                  have c53b0 : decide (x16_4 < a0) = true := decide_eq_true c53
                                  clear c53
                                  by_cases c54 : 0 ≤ x16_4
                                  · rw [if_pos c54] at H
                                    have c54b0 : decide (0 ≤ x16_4) = true := decide_eq_true c54
                                    clear c54
                                    by_cases c55 : x16_4 < (x15_4.length : Int)
                                    · rw [if_pos c55] at H
                                      have c55b0 : decide (x16_4 < (x15_4.length : Int)) = true := decide_eq_true c55
                                      clear c55
                                      obtain ⟨y179, hy179⟩ : ∃ y_ : List Int, y_ = (x15_4.set (x16_4 : Int).toNat (-1)) := ⟨_, rfl⟩
                                      replace H : (jacquardref14_Colours.l3 k4 a0 a2 t159 x10_3 y179 (wrap64 (x16_4 + 1))) = some r := by first | (rw [hy179]; with_reducible exact H) | (have H2_ := (Option.bind_some _ _).symm.trans H; rw [hy179]; with_reducible exact H2_) | (have H2_ := (Option.bind_some _ _).symm.trans H; with_reducible exact H2_) | with_reducible exact H | (rw [hy179]; exact H) | exact H
                                      have Ny179 := Aside0.mk hy179
                                      clear hy179
                                      have H' := Aside0.mk H
                                      clear H
                                      have p56 : 0 ≤ (x16_4 : Int) := of_decide_eq_true (by first | (with_reducible assumption) | assumption)
                                      have q56 : (x16_4 : Int) < ((x15_4.length : Int) : Int) := of_decide_eq_true (by first | (with_reducible assumption) | assumption)
                                      obtain ⟨go56, co56, eo56, gb56, gl56, cl56, HG56⟩ := Kd.R_form HO_15.out (by omega)
                                      (first | cases eo56 | (injection eo56 with ea_ en_ ec_; (first | subst ea_ | (injection ea_ with ea_; subst ea_)); subst ec_; clear en_))
                                      have GB56 := Aside0.mk gb56
                                      have GG56 := Aside0.mk HG56
                                      clear gb56 gl56 HG56
                                      obtain ⟨hx56_0, hf56_0⟩ := Kd.R_celln 0 HO_15.out (x16_4 : Int) p56 q56
                                      replace p56 := eq_true p56
                                      replace q56 := eq_true q56
                                      have HP57 := Kd.R_putg HO_15.out (x16_4 : Int) (-1)
                                      go_wp2_with (first | ((with_reducible refine gate_store (t := 3) (p := 84) rfl ?_); refine store_event (t := 3) (p := 84) (v := ?vo_w58) (w1 := (wr.setCell ⟨go56, (x16_4 : Int).toNat, none⟩ (.int .i64 (-1)))) ?hg ?ho ?hn ?hr ?_; (case ho => rfl); (case hg => rfl); (case hn => rfl); (case hr => first | (go_simp; done) | (go_simp; rfl)); intro w58 hw; have hg : wr.grownBy w58 (some go56) := (by rw [hw]; exact HP57.2); have hp_ : Kd.R (Kd.int .i64) 3 w58 w.heap.size (fun k_ => some k_ ≠ (.slice Ao50 x10_3.length co50 : Value).ownBlock) (.slice (some ⟨go56, 0, none⟩) x15_4.length co56) y179 := (by rw [hw, Ny179.out]; exact HP57.1); clear HP57; have n0_ := Aside0.mk (Kd.S_over' (v := (.slice (some ⟨go56, 0, none⟩) x15_4.length co56)) (by (with_reducible repeat (first | apply Kd.S_alloc | apply Kd.S_drewN | apply Kd.S_drew)); exact HO_7.out) (Kd.R_typed HO_15.out) (by decide) hg); have n1_ := Aside0.mk (Kd.R_after (v := (.slice (some ⟨go56, 0, none⟩) x15_4.length co56)) (v1 := (.slice (some ⟨go56, 0, none⟩) x15_4.length co56)) (ok := (fun _ => True)) (by (with_reducible repeat (first | apply Kd.R_alloc | apply Kd.R_drewN | apply Kd.R_drew)); exact Kd.R_mono HO_10.out (fun _ hk => ⟨trivial, hk⟩)) hg (.inl rfl)); have n2_ := Aside0.mk (hp_); have n3_ := Aside0.mk ((by rw [hw]; exact below_set (HB.out) GB56.out : Below w.heap.size w w58)); clear HO_7; clear HO_10; clear HO_15; clear HB; have HO_7 := n0_; have HO_10 := n1_; have HO_15 := n2_; have HB := n3_; clear n0_ n1_ n2_ n3_; clear hg hw hp_))
                                      go_roundg k4
                                      case measure => have := HJ3.out; have := HK2.out; have := HK3.out; have := HK4.out; omega
                                      case rel => exact ⟨(y179), (wrap64 (x16_4 + 1)), (by first | rfl | (simp; done) | (simp [*]; done)), H', ⟨by have := HJ3.out; have := HK2.out; have := HK3.out; have := HK4.out; omega⟩, ⟨by (with_reducible repeat (first | apply Kd.S_alloc | apply Kd.S_drewN | apply Kd.S_drew)); exact HO_7.out⟩, ⟨by (with_reducible repeat (first | apply Kd.R_alloc | apply Kd.R_drewN | apply Kd.R_drew)); exact Kd.R_mono HO_10.out (fun _ hk => hk.2)⟩, ⟨by (with_reducible repeat (first | apply Kd.R_alloc | apply Kd.R_drewN | apply Kd.R_drew)); exact HO_15.out⟩, ⟨by repeat (first | (with_reducible first | exact HB.out | apply below_alloc | apply pw_below_drewN | apply below_drew1) | exact HB.out)⟩⟩
                                    · rw [if_neg c55] at H
                                      exact absurd H (by simp)
                                  · rw [if_neg c54] at H
                                    exact absurd H (by simp)
                                · rw [if_neg c53] at H
                                  have c53b0 : decide (x16_4 < a0) = false := decide_eq_false c53
                                  clear c53
                                  have H' := Aside0.mk H
                                  clear H
                                  go_wp2
                                  go_loopg [17] k4 (fun kq v17 w' => ∃ (x15_5 : List Int) (x17_5 : Int), v17 = .int .i64 x17_5 ∧ Aside0 (jacquardref14_Colours.l4 kq a0 a2 t159 x10_3 x15_5 x17_5 = some r) ∧ Aside0 (kq ≤ k4) ∧ Aside0 (Kd.S (Kd.slice 4 Kd.bool) 36 w' w.heap.size (fun _ => True) v160 t159) ∧ Aside0 (Kd.R (Kd.int .i64) 3 w' w.heap.size (fun k_ => some k_ ≠ (v177 : Value).ownBlock) (.slice Ao50 x10_3.length co50) x10_3) ∧ Aside0 (Kd.R (Kd.int .i64) 3 w' w.heap.size (fun k_ => some k_ ≠ ((.slice Ao50 x10_3.length co50) : Value).ownBlock) v177 x15_5) ∧ Aside0 (Below w.heap.size w w'))
                                  case atStart => exact ⟨(x15_4), (wrap64 (a0 - 1)), (by first | rfl | (simp; done) | (simp [*]; done)), H', ⟨Nat.le_refl _⟩, ⟨by (with_reducible repeat (first | apply Kd.S_alloc | apply Kd.S_drewN | apply Kd.S_drew)); exact HO_7.out⟩, ⟨by (with_reducible repeat (first | apply Kd.R_alloc | apply Kd.R_drewN | apply Kd.R_drew)); exact HO_10.out⟩, ⟨by (with_reducible repeat (first | apply Kd.R_alloc | apply Kd.R_drewN | apply Kd.R_drew)); exact HO_15.out⟩, ⟨by repeat (first | (with_reducible first | exact HB.out | apply below_alloc | apply pw_below_drewN | apply below_drew1) | exact HB.out)⟩⟩
                                  case round =>
                                    clear H'
                                    try clear c1
                                    try clear p1
                                    try clear q1
                                    try clear hx1
                                    try clear c2
                                    try clear p2
                                    try clear q2
                                    try clear hx2
                                    try clear c3
                                    try clear c4
                                    try clear p4
                                    try clear q4
                                    try clear hx4
                                    try clear hf4
                                    try clear c5
                                    try clear c5b0
                                    try clear p5
                                    try clear q5
                                    try clear hx5
                                    try clear hf5
                                    try clear c6
                                    try clear p6
                                    try clear c8
                                    try clear c8b0
                                    try clear c8b1
                                    try clear c9
                                    try clear c9b0
                                    try clear c9b1
                                    try clear c12
                                    try clear c13
                                    try clear c13b0
                                    try clear c14
                                    try clear c14b0
                                    try clear c15
                                    try clear c15b0
                                    try clear p16
                                    try clear q16
                                    try clear hx16
                                    try clear hf16
                                    try clear p17
                                    try clear q17
                                    try clear hx17
                                    try clear c19
                                    try clear c19b0
                                    try clear c21
                                    try clear c21b0
                                    try clear c22
                                    try clear c22b0
                                    try clear c23
                                    try clear c23b0
                                    try clear q24
                                    try clear c25
                                    try clear c27
                                    try clear c27b0
                                    try clear p28
                                    try clear q28
                                    try clear hx28
                                    try clear hf28
                                    try clear c29
                                    try clear c35
                                    try clear c35b0
                                    try clear c41
                                    try clear c41b0
                                    try clear c42
                                    try clear c42b0
                                    try clear p43
                                    try clear q43
                                    try clear hx43
                                    try clear hf43
                                    try clear c44
                                    try clear c48
                                    try clear c48b0
                                    try clear c48b1
                                    try clear c49
                                    try clear c49b0
                                    try clear c49b1
                                    try clear c53
                                    try clear c53b0
                                    try clear c54
                                    try clear c54b0
                                    try clear c55
                                    try clear c55b0
                                    try clear p56
                                    try clear q56
                                    try clear hx56
                                    try clear hf56
                                    try clear hx16_0
                                    try clear hx170_0
                                    try clear hx28_0
                                    try clear hx43_0
                                    try clear hx56_0
                                    try clear p1
                                    try clear p16
                                    try clear p17
                                    try clear p170
                                    try clear p2
                                    try clear p28
                                    try clear p4
                                    try clear p43
                                    try clear p56
                                    try clear p6
                                    try clear q1
                                    try clear q16
                                    try clear q17
                                    try clear q170
                                    try clear q2
                                    try clear q24
                                    try clear q28
                                    try clear q4
                                    try clear q43
                                    try clear q56
                                    obtain ⟨x15_5, x17_5, rfl, HA, HK5, HO_7, HO_10, HO_15, HB⟩ := hrel
                                    cases gk with
                                    | zero => exact absurd HA.out (by simp [jacquardref14_Colours.l4])
                                    | succ k5 =>
                                      have H := HA.out
                                      clear HA
                                      simp only [jacquardref14_Colours.l4] at H
                                      by_cases c59 : x17_5 ≥ 0
                                      · rw [if_pos c59] at H
                                        have c59b0 : decide (0 ≤ x17_5) = true := decide_eq_true c59
                                        clear c59
                                        by_cases c60 : 0 ≤ x17_5
                                        · rw [if_pos c60] at H
                                          have c60b0 : decide (0 ≤ x17_5) = true := decide_eq_true c60
                                          clear c60
                                          by_cases c61 : x17_5 < (x10_3.length : Int)
                                          · rw [if_pos c61] at H
                                            have c61b0 : decide (x17_5 < (x10_3.length : Int)) = true := decide_eq_true c61
                                            clear c61
                                            have H' := Aside0.mk H
                                            clear H
                                            have p180 : 0 ≤ (x17_5 : Int) := of_decide_eq_true (by first | (with_reducible assumption) | assumption)
                                            have q180 : x17_5 < (x10_3.length : Int) := of_decide_eq_true (by first | (with_reducible assumption) | assumption)
                                            obtain ⟨ad180, e180, hx180_0⟩ := Kd.at_int (Kd.R_reads' HO_10.out).2.2 x17_5 p180 q180
                                            cases e180
                                            replace p180 := eq_true p180
                                            replace q180 := eq_true q180
                                            go_wp2
                                            go_loopg [19] k5 (fun kq v19 w' => ∃ (x15_6 : List Int) (x19_6 : Int), v19 = .int .i64 x19_6 ∧ Aside0 (jacquardref14_Colours.l5 kq a0 a2 t159 x10_3 x15_6 x17_5 (rd x10_3 x17_5) x19_6 = some r) ∧ Aside0 (kq ≤ k5) ∧ Aside0 (Kd.S (Kd.slice 4 Kd.bool) 36 w' w.heap.size (fun _ => True) v160 t159) ∧ Aside0 (Kd.R (Kd.int .i64) 3 w' w.heap.size (fun k_ => some k_ ≠ (v177 : Value).ownBlock) (.slice (some ad180) x10_3.length co50) x10_3) ∧ Aside0 (Kd.R (Kd.int .i64) 3 w' w.heap.size (fun k_ => some k_ ≠ ((.slice (some ad180) x10_3.length co50) : Value).ownBlock) v177 x15_6) ∧ Aside0 (Below w.heap.size w w'))
                                            case atStart => exact ⟨(x15_5), (0), (by first | rfl | (simp; done) | (simp [*]; done)), H', ⟨Nat.le_refl _⟩, ⟨by (with_reducible repeat (first | apply Kd.S_alloc | apply Kd.S_drewN | apply Kd.S_drew)); exact HO_7.out⟩, ⟨by (with_reducible repeat (first | apply Kd.R_alloc | apply Kd.R_drewN | apply Kd.R_drew)); exact HO_10.out⟩, ⟨by (with_reducible repeat (first | apply Kd.R_alloc | apply Kd.R_drewN | apply Kd.R_drew)); exact HO_15.out⟩, ⟨by repeat (first | (with_reducible first | exact HB.out | apply below_alloc | apply pw_below_drewN | apply below_drew1) | exact HB.out)⟩⟩
                                            case round =>
                                              clear H'
                                              try clear c1
                                              try clear p1
                                              try clear q1
                                              try clear hx1
                                              try clear c2
                                              try clear p2
                                              try clear q2
                                              try clear hx2
                                              try clear c3
                                              try clear c4
                                              try clear p4
                                              try clear q4
                                              try clear hx4
                                              try clear hf4
                                              try clear c5
                                              try clear c5b0
                                              try clear p5
                                              try clear q5
                                              try clear hx5
                                              try clear hf5
                                              try clear c6
                                              try clear p6
                                              try clear c8
                                              try clear c8b0
                                              try clear c8b1
                                              try clear c9
                                              try clear c9b0
                                              try clear c9b1
                                              try clear c12
                                              try clear c13
                                              try clear c13b0
                                              try clear c14
                                              try clear c14b0
                                              try clear c15
                                              try clear c15b0
                                              try clear p16
                                              try clear q16
                                              try clear hx16
                                              try clear hf16
                                              try clear p17
                                              try clear q17
                                              try clear hx17
                                              try clear p18
                                              try clear q18
                                              try clear hx18
                                              try clear c19
                                              try clear c19b0
                                              try clear c21
                                              try clear c21b0
                                              try clear c22
                                              try clear c22b0
                                              try clear c23
                                              try clear c23b0
                                              try clear q24
                                              try clear c25
                                              try clear c27
                                              try clear c27b0
                                              try clear p28
                                              try clear q28
                                              try clear hx28
                                              try clear hf28
                                              try clear c29
                                              try clear c35
                                              try clear c35b0
                                              try clear c41
                                              try clear c41b0
                                              try clear c42
                                              try clear c42b0
                                              try clear p43
                                              try clear q43
                                              try clear hx43
                                              try clear hf43
                                              try clear c44
                                              try clear c48
                                              try clear c48b0
                                              try clear c48b1
                                              try clear c49
                                              try clear c49b0
                                              try clear c49b1
                                              try clear c53
                                              try clear c53b0
                                              try clear c54
                                              try clear c54b0
                                              try clear c55
                                              try clear c55b0
                                              try clear p56
                                              try clear q56
                                              try clear hx56
                                              try clear hf56
                                              try clear c59
                                              try clear c59b0
                                              try clear c60
                                              try clear c60b0
                                              try clear c61
                                              try clear c61b0
                                              try clear hx16_0
                                              try clear hx170_0
                                              try clear hx180_0
                                              try clear hx28_0
                                              try clear hx43_0
                                              try clear hx56_0
                                              try clear p1
                                              try clear p16
                                              try clear p17
                                              try clear p170
                                              try clear p180
                                              try clear p2
                                              try clear p28
                                              try clear p4
                                              try clear p43
                                              try clear p5
                                              try clear p56
                                              try clear p6
                                              try clear q1
                                              try clear q16
                                              try clear q17
                                              try clear q170
                                              try clear q180
                                              try clear q2
                                              try clear q24
                                              try clear q28
                                              try clear q4
                                              try clear q43
                                              try clear q5
                                              try clear q56
                                              obtain ⟨x15_6, x19_6, rfl, HA, HK6, HO_7, HO_10, HO_15, HB⟩ := hrel
                                              cases gk with
                                              | zero => exact absurd HA.out (by simp [jacquardref14_Colours.l5])
                                              | succ k6 =>
                                                have H := HA.out
                                                clear HA
                                                simp only [jacquardref14_Colours.l5] at H
                                                by_cases c62 : x19_6 < a2
                                                · rw [if_pos c62] at H
                                                  have c62b0 : decide (x19_6 < a2) = true := decide_eq_true c62
                                                  clear c62
                                                  have H' := Aside0.mk H
                                                  clear H
                                                  go_wp2
                                                  go_loopg [20, 21] k6 (fun kq v20 v21 w' => ∃ (x20_7 : Bool) (x21_7 : Int), v20 = .bool x20_7 ∧ v21 = .int .i64 x21_7 ∧ Aside0 (jacquardref14_Colours.l6 kq a0 a2 t159 x10_3 x15_6 x17_5 (rd x10_3 x17_5) x19_6 x20_7 x21_7 = some r) ∧ Aside0 (kq ≤ k6) ∧ Aside0 (Kd.S (Kd.slice 4 Kd.bool) 36 w' w.heap.size (fun _ => True) v160 t159) ∧ Aside0 (Kd.R (Kd.int .i64) 3 w' w.heap.size (fun k_ => some k_ ≠ (v177 : Value).ownBlock) (.slice (some ad180) x10_3.length co50) x10_3) ∧ Aside0 (Kd.R (Kd.int .i64) 3 w' w.heap.size (fun k_ => some k_ ≠ ((.slice (some ad180) x10_3.length co50) : Value).ownBlock) v177 x15_6) ∧ Aside0 (Below w.heap.size w w'))
                                                  case atStart => exact ⟨(false), (0), (by first | rfl | (simp; done) | (simp [*]; done)), (by first | rfl | (simp; done) | (simp [*]; done)), H', ⟨Nat.le_refl _⟩, ⟨by (with_reducible repeat (first | apply Kd.S_alloc | apply Kd.S_drewN | apply Kd.S_drew)); exact HO_7.out⟩, ⟨by (with_reducible repeat (first | apply Kd.R_alloc | apply Kd.R_drewN | apply Kd.R_drew)); exact HO_10.out⟩, ⟨by (with_reducible repeat (first | apply Kd.R_alloc | apply Kd.R_drewN | apply Kd.R_drew)); exact HO_15.out⟩, ⟨by repeat (first | (with_reducible first | exact HB.out | apply below_alloc | apply pw_below_drewN | apply below_drew1) | exact HB.out)⟩⟩
                                                  case round =>
                                                    clear H'
                                                    try clear c1
                                                    try clear p1
                                                    try clear q1
                                                    try clear hx1
                                                    try clear c2
                                                    try clear p2
                                                    try clear q2
                                                    try clear hx2
                                                    try clear c3
                                                    try clear c4
                                                    try clear p4
                                                    try clear q4
                                                    try clear hx4
                                                    try clear hf4
                                                    try clear c5
                                                    try clear c5b0
                                                    try clear p5
                                                    try clear q5
                                                    try clear hx5
                                                    try clear hf5
                                                    try clear c6
                                                    try clear p6
                                                    try clear c8
                                                    try clear c8b0
                                                    try clear c8b1
                                                    try clear c9
                                                    try clear c9b0
                                                    try clear c9b1
                                                    try clear c12
                                                    try clear c13
                                                    try clear c13b0
                                                    try clear c14
                                                    try clear c14b0
                                                    try clear c15
                                                    try clear c15b0
                                                    try clear p16
                                                    try clear q16
                                                    try clear hx16
                                                    try clear hf16
                                                    try clear p17
                                                    try clear q17
                                                    try clear hx17
                                                    try clear p18
                                                    try clear q18
                                                    try clear hx18
                                                    try clear c19
                                                    try clear c19b0
                                                    try clear c21
                                                    try clear c21b0
                                                    try clear c22
                                                    try clear c22b0
                                                    try clear c23
                                                    try clear c23b0
                                                    try clear q24
                                                    try clear c25
                                                    try clear c27
                                                    try clear c27b0
                                                    try clear p28
                                                    try clear q28
                                                    try clear hx28
                                                    try clear hf28
                                                    try clear c29
                                                    try clear c35
                                                    try clear c35b0
                                                    try clear c41
                                                    try clear c41b0
                                                    try clear c42
                                                    try clear c42b0
                                                    try clear p43
                                                    try clear q43
                                                    try clear hx43
                                                    try clear hf43
                                                    try clear c44
                                                    try clear c48
                                                    try clear c48b0
                                                    try clear c48b1
                                                    try clear c49
                                                    try clear c49b0
                                                    try clear c49b1
                                                    try clear c53
                                                    try clear c53b0
                                                    try clear c54
                                                    try clear c54b0
                                                    try clear c55
                                                    try clear c55b0
                                                    try clear p56
                                                    try clear q56
                                                    try clear hx56
                                                    try clear hf56
                                                    try clear c59
                                                    try clear c59b0
                                                    try clear c60
                                                    try clear c60b0
                                                    try clear c61
                                                    try clear c61b0
                                                    try clear c62
                                                    try clear c62b0
                                                    try clear hx16_0
                                                    try clear hx170_0
                                                    try clear hx180_0
                                                    try clear hx28_0
                                                    try clear hx43_0
                                                    try clear hx56_0
                                                    try clear p1
                                                    try clear p16
                                                    try clear p17
                                                    try clear p170
                                                    try clear p18
                                                    try clear p180
                                                    try clear p2
                                                    try clear p28
                                                    try clear p4
                                                    try clear p43
                                                    try clear p5
                                                    try clear p56
                                                    try clear p6
                                                    try clear q1
                                                    try clear q16
                                                    try clear q17
                                                    try clear q170
                                                    try clear q18
                                                    try clear q180
                                                    try clear q2
                                                    try clear q24
                                                    try clear q28
                                                    try clear q4
                                                    try clear q43
                                                    try clear q5
                                                    try clear q56
                                                    obtain ⟨x20_7, x21_7, rfl, rfl, HA, HK7, HO_7, HO_10, HO_15, HB⟩ := hrel
                                                    cases gk with
                                                    | zero => exact absurd HA.out (by simp [jacquardref14_Colours.l6])
                                                    | succ k7 =>
                                                      have H := HA.out
                                                      clear HA
                                                      simp only [jacquardref14_Colours.l6] at H
                                                      by_cases c63 : x21_7 < a0
                                                      · rw [if_pos c63] at H
                                                        have c63b0 : decide (x21_7 < a0) = true := decide_eq_true c63
                                                        clear c63
                                                        by_cases c64 : x20_7 = true
                                                        · subst c64
                                                          have H1 : (jacquardref14_Colours.l6 k7 a0 a2 t159 x10_3 x15_6 x17_5 (rd x10_3 x17_5) x19_6 true (wrap64 (x21_7 + 1))) = some r := by rw [if_pos rfl] at H; exact H
                                                          clear H
                                                          have H := H1
                                                          clear H1
                                                          have H' := Aside0.mk H
                                                          clear H
                                                          go_wp2
                                                          go_roundg k7
                                                          case measure => have := HJ3.out; have := HK2.out; have := HK3.out; have := HK4.out; have := HK5.out; have := HK6.out; have := HK7.out; omega
                                                          case rel => exact ⟨(true), (wrap64 (x21_7 + 1)), (by first | rfl | (simp; done) | (simp [*]; done)), (by first | rfl | (simp; done) | (simp [*]; done)), H', ⟨by have := HJ3.out; have := HK2.out; have := HK3.out; have := HK4.out; have := HK5.out; have := HK6.out; have := HK7.out; omega⟩, ⟨by (with_reducible repeat (first | apply Kd.S_alloc | apply Kd.S_drewN | apply Kd.S_drew)); exact HO_7.out⟩, ⟨by (with_reducible repeat (first | apply Kd.R_alloc | apply Kd.R_drewN | apply Kd.R_drew)); exact HO_10.out⟩, ⟨by (with_reducible repeat (first | apply Kd.R_alloc | apply Kd.R_drewN | apply Kd.R_drew)); exact HO_15.out⟩, ⟨by repeat (first | (with_reducible first | exact HB.out | apply below_alloc | apply pw_below_drewN | apply below_drew1) | exact HB.out)⟩⟩
                                                        · replace c64 := Bool.eq_false_iff.mpr c64
                                                          subst c64
                                                          have H1 : (if 0 ≤ (rd x10_3 x17_5) then (if (rd x10_3 x17_5) < (t159.length : Int) then (if 0 ≤ x21_7 then (if x21_7 < ((rd_L5 t159 (rd x10_3 x17_5)).length : Int) then (if rdOf false (rd_L5 t159 (rd x10_3 x17_5)) x21_7 = true then (if x21_7 < (x15_6.length : Int) then (jacquardref14_Colours.l6 k7 a0 a2 t159 x10_3 x15_6 x17_5 (rd x10_3 x17_5) x19_6 ((rd x15_6 x21_7) == x19_6) (wrap64 (x21_7 + 1))) else (none)) else (jacquardref14_Colours.l6 k7 a0 a2 t159 x10_3 x15_6 x17_5 (rd x10_3 x17_5) x19_6 false (wrap64 (x21_7 + 1)))) else (none)) else (none)) else (none)) else (none)) = some r := by rw [if_neg (show ¬ (false = true) by decide)] at H; exact H
                                                          clear H
                                                          have H := H1
                                                          clear H1
                                                          by_cases c65 : 0 ≤ (rd x10_3 x17_5)
                                                          · rw [if_pos c65] at H
                                                            have c65b0 : decide (0 ≤ (rd x10_3 x17_5)) = true := decide_eq_true c65
                                                            clear c65
                                                            by_cases c66 : (rd x10_3 x17_5) < (t159.length : Int)
                                                            · rw [if_pos c66] at H
                                                              have c66b0 : decide ((rd x10_3 x17_5) < (t159.length : Int)) = true := decide_eq_true c66
                                                              clear c66
                                                              by_cases c67 : 0 ≤ x21_7
                                                              · rw [if_pos c67] at H
                                                                have c67b0 : decide (0 ≤ x21_7) = true := decide_eq_true c67
                                                                clear c67
                                                                by_cases c68 : x21_7 < ((rd_L5 t159 (rd x10_3 x17_5)).length : Int)
                                                                · rw [if_pos c68] at H
                                                                  have c68b0 : decide (x21_7 < ((rd_L5 t159 (rd x10_3 x17_5)).length : Int)) = true := decide_eq_true c68
                                                                  clear c68
                                                                  obtain ⟨bq69, hbq69⟩ : ∃ b_ : Bool, b_ = (rdOf false (rd_L5 t159 (rd x10_3 x17_5)) x21_7) := ⟨_, rfl⟩
                                                                  replace H : (if bq69 = true then (if x21_7 < (x15_6.length : Int) then (jacquardref14_Colours.l6 k7 a0 a2 t159 x10_3 x15_6 x17_5 (rd x10_3 x17_5) x19_6 ((rd x15_6 x21_7) == x19_6) (wrap64 (x21_7 + 1))) else (none)) else (jacquardref14_Colours.l6 k7 a0 a2 t159 x10_3 x15_6 x17_5 (rd x10_3 x17_5) x19_6 false (wrap64 (x21_7 + 1)))) = some r := by rw [← hbq69] at H; exact H
                                                                  have Nbq69 := Aside0.mk hbq69
                                                                  clear hbq69
                                                                  by_cases c70 : bq69 = true
                                                                  · subst c70
                                                                    have H1 : (if x21_7 < (x15_6.length : Int) then (jacquardref14_Colours.l6 k7 a0 a2 t159 x10_3 x15_6 x17_5 (rd x10_3 x17_5) x19_6 ((rd x15_6 x21_7) == x19_6) (wrap64 (x21_7 + 1))) else (none)) = some r := by rw [if_pos rfl] at H; exact H
                                                                    clear H
                                                                    have H := H1
                                                                    clear H1
                                                                    by_cases c71 : x21_7 < (x15_6.length : Int)
                                                                    · rw [if_pos c71] at H
                                                                      have c71b0 : decide (x21_7 < (x15_6.length : Int)) = true := decide_eq_true c71
                                                                      clear c71
                                                                      have H' := Aside0.mk H
                                                                      clear H
                                                                      obtain ⟨Ao72, co72, eo72⟩ := Kd.S_slice HO_7.out
                                                                      subst eo72
                                                                      have p181 : 0 ≤ ((rd x10_3 x17_5) : Int) := of_decide_eq_true (by first | (with_reducible assumption) | assumption)
                                                                      have q181 : (rd x10_3 x17_5) < (t159.length : Int) := of_decide_eq_true (by first | (with_reducible assumption) | assumption)
                                                                      obtain ⟨ad181, A181_0, c181_0, e181, hx181_0, hl181_0, hi181_0⟩ := at_L5 (Kd.S_reads' HO_7.out).2.2 (rd x10_3 x17_5) p181 q181
                                                                      cases e181
                                                                      obtain ⟨ce181, hce181, hMe181, hcc181⟩ := Kd.S_get HO_7.out [] (rd x10_3 x17_5) p181 (by first | exact q181 | exact of_decide_eq_true (by first | (with_reducible assumption) | assumption) | (have e_ := (Kd.S_reads' HO_7.out).1; omega))
                                                                      obtain ⟨ve181_0, rfl, ge181_0⟩ := hMe181
                                                                      have hv181_0 := hcc181 0 _ rfl
                                                                      rw [Nat.add_zero, show ((Kd.slice 4 Kd.bool)).sz = 1 from rfl, Nat.mul_one] at hv181_0
                                                                      replace hv181_0 := Option.some.inj (hv181_0.symm.trans hx181_0)
                                                                      rw [hv181_0] at ge181_0
                                                                      have HL181_0 := Aside0.mk (show Kd.R Kd.bool 4 _ _ _ _ (rd_L5 t159 (rd x10_3 x17_5)) from ge181_0)
                                                                      clear hv181_0 ge181_0
                                                                      clear hcc181 hce181
                                                                      have HR181_0 := Aside0.mk hi181_0
                                                                      have HC181_0 := Aside0.mk hl181_0
                                                                      clear hi181_0 hl181_0
                                                                      replace p181 := eq_true p181
                                                                      replace q181 := eq_true q181
                                                                      have p182 : 0 ≤ (x21_7 : Int) := of_decide_eq_true (by first | (with_reducible assumption) | assumption)
                                                                      have q182 : x21_7 < ((rd_L5 t159 (rd x10_3 x17_5)).length : Int) := of_decide_eq_true (by first | (with_reducible assumption) | assumption)
                                                                      obtain ⟨ad182, e182, hx182_0⟩ := Kd.at_bool (by repeat (first | (with_reducible exact HR181_0.out) | (with_reducible refine Kd.C_alloc ?_ _) | (with_reducible refine Kd.C_drewN ?_ _) | (with_reducible refine Kd.C_drew ?_) | exact HR181_0.out)) x21_7 p182 q182
                                                                      (try rw [← Nbq69.out] at hx182_0)
                                                                      cases e182
                                                                      replace p182 := eq_true p182
                                                                      replace q182 := eq_true q182
                                                                      obtain ⟨Ao73, co73, eo73⟩ := Kd.R_slice HO_15.out
                                                                      subst eo73
                                                                      have p183 : 0 ≤ (x21_7 : Int) := of_decide_eq_true (by first | (with_reducible assumption) | assumption)
                                                                      have q183 : x21_7 < (x15_6.length : Int) := of_decide_eq_true (by first | (with_reducible assumption) | assumption)
                                                                      obtain ⟨ad183, e183, hx183_0⟩ := Kd.at_int (Kd.R_reads' HO_15.out).2.2 x21_7 p183 q183
                                                                      cases e183
                                                                      replace p183 := eq_true p183
                                                                      replace q183 := eq_true q183
                                                                      go_wp2
                                                                      go_roundg k7
                                                                      case measure => have := HJ3.out; have := HK2.out; have := HK3.out; have := HK4.out; have := HK5.out; have := HK6.out; have := HK7.out; omega
                                                                      case rel => exact ⟨(((rd x15_6 x21_7) == x19_6)), (wrap64 (x21_7 + 1)), (by first | rfl | (simp; done) | (simp [*]; done)), (by first | rfl | (simp; done) | (simp [*]; done)), H', ⟨by have := HJ3.out; have := HK2.out; have := HK3.out; have := HK4.out; have := HK5.out; have := HK6.out; have := HK7.out; omega⟩, ⟨by (with_reducible repeat (first | apply Kd.S_alloc | apply Kd.S_drewN | apply Kd.S_drew)); exact HO_7.out⟩, ⟨by (with_reducible repeat (first | apply Kd.R_alloc | apply Kd.R_drewN | apply Kd.R_drew)); exact HO_10.out⟩, ⟨by (with_reducible repeat (first | apply Kd.R_alloc | apply Kd.R_drewN | apply Kd.R_drew)); exact HO_15.out⟩, ⟨by repeat (first | (with_reducible first | exact HB.out | apply below_alloc | apply pw_below_drewN | apply below_drew1) | exact HB.out)⟩⟩
                                                                    · rw [if_neg c71] at H
                                                                      exact absurd H (by simp)
                                                                  · replace c70 := Bool.eq_false_iff.mpr c70
                                                                    subst c70
                                                                    have H1 : (jacquardref14_Colours.l6 k7 a0 a2 t159 x10_3 x15_6 x17_5 (rd x10_3 x17_5) x19_6 false (wrap64 (x21_7 + 1))) = some r := by rw [if_neg (show ¬ (false = true) by decide)] at H; exact H
                                                                    clear H
                                                                    have H := H1
                                                                    clear H1
                                                                    have H' := Aside0.mk H
                                                                    clear H
                                                                    obtain ⟨Ao74, co74, eo74⟩ := Kd.S_slice HO_7.out
                                                                    subst eo74
                                                                    have p181 : 0 ≤ ((rd x10_3 x17_5) : Int) := of_decide_eq_true (by first | (with_reducible assumption) | assumption)
                                                                    have q181 : (rd x10_3 x17_5) < (t159.length : Int) := of_decide_eq_true (by first | (with_reducible assumption) | assumption)
                                                                    obtain ⟨ad181, A181_0, c181_0, e181, hx181_0, hl181_0, hi181_0⟩ := at_L5 (Kd.S_reads' HO_7.out).2.2 (rd x10_3 x17_5) p181 q181
                                                                    cases e181
                                                                    obtain ⟨ce181, hce181, hMe181, hcc181⟩ := Kd.S_get HO_7.out [] (rd x10_3 x17_5) p181 (by first | exact q181 | exact of_decide_eq_true (by first | (with_reducible assumption) | assumption) | (have e_ := (Kd.S_reads' HO_7.out).1; omega))
                                                                    obtain ⟨ve181_0, rfl, ge181_0⟩ := hMe181
                                                                    have hv181_0 := hcc181 0 _ rfl
                                                                    rw [Nat.add_zero, show ((Kd.slice 4 Kd.bool)).sz = 1 from rfl, Nat.mul_one] at hv181_0
                                                                    replace hv181_0 := Option.some.inj (hv181_0.symm.trans hx181_0)
                                                                    rw [hv181_0] at ge181_0
                                                                    have HL181_0 := Aside0.mk (show Kd.R Kd.bool 4 _ _ _ _ (rd_L5 t159 (rd x10_3 x17_5)) from ge181_0)
                                                                    clear hv181_0 ge181_0
                                                                    clear hcc181 hce181
                                                                    have HR181_0 := Aside0.mk hi181_0
                                                                    have HC181_0 := Aside0.mk hl181_0
                                                                    clear hi181_0 hl181_0
                                                                    replace p181 := eq_true p181
                                                                    replace q181 := eq_true q181
                                                                    have p182 : 0 ≤ (x21_7 : Int) := of_decide_eq_true (by first | (with_reducible assumption) | assumption)
                                                                    have q182 : x21_7 < ((rd_L5 t159 (rd x10_3 x17_5)).length : Int) := of_decide_eq_true (by first | (with_reducible assumption) | assumption)
                                                                    obtain ⟨ad182, e182, hx182_0⟩ := Kd.at_bool (by repeat (first | (with_reducible exact HR181_0.out) | (with_reducible refine Kd.C_alloc ?_ _) | (with_reducible refine Kd.C_drewN ?_ _) | (with_reducible refine Kd.C_drew ?_) | exact HR181_0.out)) x21_7 p182 q182
                                                                    (try rw [← Nbq69.out] at hx182_0)
                                                                    cases e182
                                                                    replace p182 := eq_true p182
                                                                    replace q182 := eq_true q182
                                                                    go_wp2
                                                                    go_roundg k7
                                                                    case measure => have := HJ3.out; have := HK2.out; have := HK3.out; have := HK4.out; have := HK5.out; have := HK6.out; have := HK7.out; omega
                                                                    case rel => exact ⟨(false), (wrap64 (x21_7 + 1)), (by first | rfl | (simp; done) | (simp [*]; done)), (by first | rfl | (simp; done) | (simp [*]; done)), H', ⟨by have := HJ3.out; have := HK2.out; have := HK3.out; have := HK4.out; have := HK5.out; have := HK6.out; have := HK7.out; omega⟩, ⟨by (with_reducible repeat (first | apply Kd.S_alloc | apply Kd.S_drewN | apply Kd.S_drew)); exact HO_7.out⟩, ⟨by (with_reducible repeat (first | apply Kd.R_alloc | apply Kd.R_drewN | apply Kd.R_drew)); exact HO_10.out⟩, ⟨by (with_reducible repeat (first | apply Kd.R_alloc | apply Kd.R_drewN | apply Kd.R_drew)); exact HO_15.out⟩, ⟨by repeat (first | (with_reducible first | exact HB.out | apply below_alloc | apply pw_below_drewN | apply below_drew1) | exact HB.out)⟩⟩
                                                                · rw [if_neg c68] at H
                                                                  exact absurd H (by simp)
                                                              · rw [if_neg c67] at H
                                                                exact absurd H (by simp)
                                                            · rw [if_neg c66] at H
                                                              exact absurd H (by simp)
                                                          · rw [if_neg c65] at H
                                                            exact absurd H (by simp)
                                                      · rw [if_neg c63] at H
                                                        have c63b0 : decide (x21_7 < a0) = false := decide_eq_false c63
                                                        clear c63
                                                        by_cases c75 : x20_7 = true
                                                        · subst c75
                                                          have H1 : (jacquardref14_Colours.l5 k7 a0 a2 t159 x10_3 x15_6 x17_5 (rd x10_3 x17_5) (wrap64 (x19_6 + 1))) = some r := by rw [if_pos rfl] at H; exact H
                                                          clear H
                                                          have H := H1
                                                          clear H1
                                                          have H' := Aside0.mk H
                                                          clear H
                                                          go_wp2
                                                          go_roundg k7
                                                          case measure => have := HJ3.out; have := HK2.out; have := HK3.out; have := HK4.out; have := HK5.out; have := HK6.out; have := HK7.out; omega
                                                          case rel => exact ⟨(x15_6), (wrap64 (x19_6 + 1)), (by first | rfl | (simp; done) | (simp [*]; done)), H', ⟨by have := HJ3.out; have := HK2.out; have := HK3.out; have := HK4.out; have := HK5.out; have := HK6.out; have := HK7.out; omega⟩, ⟨by (with_reducible repeat (first | apply Kd.S_alloc | apply Kd.S_drewN | apply Kd.S_drew)); exact HO_7.out⟩, ⟨by (with_reducible repeat (first | apply Kd.R_alloc | apply Kd.R_drewN | apply Kd.R_drew)); exact HO_10.out⟩, ⟨by (with_reducible repeat (first | apply Kd.R_alloc | apply Kd.R_drewN | apply Kd.R_drew)); exact HO_15.out⟩, ⟨by repeat (first | (with_reducible first | exact HB.out | apply below_alloc | apply pw_below_drewN | apply below_drew1) | exact HB.out)⟩⟩
                                                        · replace c75 := Bool.eq_false_iff.mpr c75
                                                          subst c75
                                                          have H1 : (if 0 ≤ (rd x10_3 x17_5) then (if (rd x10_3 x17_5) < (x15_6.length : Int) then (jacquardref14_Colours.l4 k7 a0 a2 t159 x10_3 (x15_6.set ((rd x10_3 x17_5) : Int).toNat x19_6) (wrap64 (x17_5 - 1))) else (none)) else (none)) = some r := by rw [if_neg (show ¬ (false = true) by decide)] at H; exact H
                                                          clear H
                                                          have H := H1
                                                          clear H1
                                                          by_cases c76 : 0 ≤ (rd x10_3 x17_5)
                                                          · rw [if_pos c76] at H
                                                            have c76b0 : decide (0 ≤ (rd x10_3 x17_5)) = true := decide_eq_true c76
                                                            clear c76
                                                            by_cases c77 : (rd x10_3 x17_5) < (x15_6.length : Int)
                                                            · rw [if_pos c77] at H
                                                              have c77b0 : decide ((rd x10_3 x17_5) < (x15_6.length : Int)) = true := decide_eq_true c77
                                                              clear c77
                                                              obtain ⟨y184, hy184⟩ : ∃ y_ : List Int, y_ = (x15_6.set ((rd x10_3 x17_5) : Int).toNat x19_6) := ⟨_, rfl⟩
                                                              replace H : (jacquardref14_Colours.l4 k7 a0 a2 t159 x10_3 y184 (wrap64 (x17_5 - 1))) = some r := by first | (rw [hy184]; with_reducible exact H) | (have H2_ := (Option.bind_some _ _).symm.trans H; rw [hy184]; with_reducible exact H2_) | (have H2_ := (Option.bind_some _ _).symm.trans H; with_reducible exact H2_) | with_reducible exact H | (rw [hy184]; exact H) | exact H
                                                              have Ny184 := Aside0.mk hy184
                                                              clear hy184
                                                              have H' := Aside0.mk H
                                                              clear H
                                                              have p78 : 0 ≤ ((rd x10_3 x17_5) : Int) := of_decide_eq_true (by first | (with_reducible assumption) | assumption)
                                                              have q78 : ((rd x10_3 x17_5) : Int) < ((x15_6.length : Int) : Int) := of_decide_eq_true (by first | (with_reducible assumption) | assumption)
                                                              obtain ⟨go78, co78, eo78, gb78, gl78, cl78, HG78⟩ := Kd.R_form HO_15.out (by omega)
                                                              (first | cases eo78 | (injection eo78 with ea_ en_ ec_; (first | subst ea_ | (injection ea_ with ea_; subst ea_)); subst ec_; clear en_))
                                                              have GB78 := Aside0.mk gb78
                                                              have GG78 := Aside0.mk HG78
                                                              clear gb78 gl78 HG78
                                                              obtain ⟨hx78_0, hf78_0⟩ := Kd.R_celln 0 HO_15.out ((rd x10_3 x17_5) : Int) p78 q78
                                                              replace p78 := eq_true p78
                                                              replace q78 := eq_true q78
                                                              have HP79 := Kd.R_putg HO_15.out ((rd x10_3 x17_5) : Int) x19_6
                                                              go_wp2_with (first | ((with_reducible refine gate_store (t := 3) (p := 128) rfl ?_); refine store_event (t := 3) (p := 128) (v := ?vo_w80) (w1 := (wr.setCell ⟨go78, ((rd x10_3 x17_5) : Int).toNat, none⟩ (.int .i64 x19_6))) ?hg ?ho ?hn ?hr ?_; (case ho => rfl); (case hg => rfl); (case hn => rfl); (case hr => first | (go_simp; done) | (go_simp; rfl)); intro w80 hw; have hg : wr.grownBy w80 (some go78) := (by rw [hw]; exact HP79.2); have hp_ : Kd.R (Kd.int .i64) 3 w80 w.heap.size (fun k_ => some k_ ≠ (.slice (some ad180) x10_3.length co50 : Value).ownBlock) (.slice (some ⟨go78, 0, none⟩) x15_6.length co78) y184 := (by rw [hw, Ny184.out]; exact HP79.1); clear HP79; have n0_ := Aside0.mk (Kd.S_over' (v := (.slice (some ⟨go78, 0, none⟩) x15_6.length co78)) (by (with_reducible repeat (first | apply Kd.S_alloc | apply Kd.S_drewN | apply Kd.S_drew)); exact HO_7.out) (Kd.R_typed HO_15.out) (by decide) hg); have n1_ := Aside0.mk (Kd.R_after (v := (.slice (some ⟨go78, 0, none⟩) x15_6.length co78)) (v1 := (.slice (some ⟨go78, 0, none⟩) x15_6.length co78)) (ok := (fun _ => True)) (by (with_reducible repeat (first | apply Kd.R_alloc | apply Kd.R_drewN | apply Kd.R_drew)); exact Kd.R_mono HO_10.out (fun _ hk => ⟨trivial, hk⟩)) hg (.inl rfl)); have n2_ := Aside0.mk (hp_); have n3_ := Aside0.mk ((by rw [hw]; exact below_set (HB.out) GB78.out : Below w.heap.size w w80)); clear HO_7; clear HO_10; clear HO_15; clear HB; have HO_7 := n0_; have HO_10 := n1_; have HO_15 := n2_; have HB := n3_; clear n0_ n1_ n2_ n3_; clear hg hw hp_))
                                                              go_roundg k7
                                                              case measure => have := HJ3.out; have := HK2.out; have := HK3.out; have := HK4.out; have := HK5.out; have := HK6.out; have := HK7.out; omega
                                                              case rel => exact ⟨(y184), (wrap64 (x17_5 - 1)), (by first | rfl | (simp; done) | (simp [*]; done)), H', ⟨by have := HJ3.out; have := HK2.out; have := HK3.out; have := HK4.out; have := HK5.out; have := HK6.out; have := HK7.out; omega⟩, ⟨by (with_reducible repeat (first | apply Kd.S_alloc | apply Kd.S_drewN | apply Kd.S_drew)); exact HO_7.out⟩, ⟨by (with_reducible repeat (first | apply Kd.R_alloc | apply Kd.R_drewN | apply Kd.R_drew)); exact Kd.R_mono HO_10.out (fun _ hk => hk.2)⟩, ⟨by (with_reducible repeat (first | apply Kd.R_alloc | apply Kd.R_drewN | apply Kd.R_drew)); exact HO_15.out⟩, ⟨by repeat (first | (with_reducible first | exact HB.out | apply below_alloc | apply pw_below_drewN | apply below_drew1) | exact HB.out)⟩⟩
                                                            · rw [if_neg c77] at H
                                                              exact absurd H (by simp)
                                                          · rw [if_neg c76] at H
                                                            exact absurd H (by simp)
                                                · rw [if_neg c62] at H
                                                  have c62b0 : decide (x19_6 < a2) = false := decide_eq_false c62
                                                  clear c62
                                                  have H' := Aside0.mk H
                                                  clear H
                                                  go_wp2
                                                  go_roundg k6
                                                  case measure => have := HJ3.out; have := HK2.out; have := HK3.out; have := HK4.out; have := HK5.out; have := HK6.out; omega
                                                  case rel => exact ⟨(x15_6), (wrap64 (x17_5 - 1)), (by first | rfl | (simp; done) | (simp [*]; done)), H', ⟨by have := HJ3.out; have := HK2.out; have := HK3.out; have := HK4.out; have := HK5.out; have := HK6.out; omega⟩, ⟨by (with_reducible repeat (first | apply Kd.S_alloc | apply Kd.S_drewN | apply Kd.S_drew)); exact HO_7.out⟩, ⟨by (with_reducible repeat (first | apply Kd.R_alloc | apply Kd.R_drewN | apply Kd.R_drew)); exact HO_10.out⟩, ⟨by (with_reducible repeat (first | apply Kd.R_alloc | apply Kd.R_drewN | apply Kd.R_drew)); exact HO_15.out⟩, ⟨by repeat (first | (with_reducible first | exact HB.out | apply below_alloc | apply pw_below_drewN | apply below_drew1) | exact HB.out)⟩⟩
                                          · rw [if_neg c61] at H
                                            exact absurd H (by simp)
                                        · rw [if_neg c60] at H
                                          exact absurd H (by simp)
                                      · rw [if_neg c59] at H
                                        have c59b0 : decide (0 ≤ x17_5) = false := decide_eq_false c59
                                        clear c59
                                        obtain rfl := Option.some.inj H
                                        go_wp2
                                        go_ret
                                        exact ⟨_, by first | rfl | (simp [errW_none, errW_some] <;> rfl) | (simp [*, errW_none, errW_some] <;> rfl), by (with_reducible repeat (first | apply Kd.R_alloc | apply Kd.R_drewN | apply Kd.R_drew)); exact Kd.R_mono HO_15.out (fun _ hk => trivial), by repeat (first | (with_reducible first | exact HB.out | apply below_alloc | apply pw_below_drewN | apply below_drew1) | exact HB.out)⟩
                          · rw [if_neg c49] at H
                            exact absurd H (by simp)
                        · rw [if_neg c48] at H
                          exact absurd H (by simp)
          · rw [if_neg c9] at H
            exact absurd H (by simp)
        · rw [if_neg c8] at H
          exact absurd H (by simp)

end Go.Proofs.Ytgdmdgkfababeaa.M
