-- Written by a program of this session (wip/patchprint.py turns a copy of the kit's print); Lean checks it.
import Derived.Test.YtgdmdgkfababeaaM0
import Derived.Test.YtgdmdgkfababeaaM2
import Derived.Test.YtgdmdgkfababeaaM5
namespace Go.Proofs.Ytgdmdgkfababeaa.M
open Go.RowKit Go.Proofs.YtgdmdgkfababeaaW.PrintWords Go.Proofs.YtgdmdgkfababeaaW.PrintLast Go.Proofs.YtgdmdgkfababeaaW.PrintMore
attribute [local go_sem] max2_int min2_int max_two min_two max_three min_three max_four min_four   -- for this text's walks alone
set_option linter.unusedVariables false
set_option linter.unusedSimpArgs false

/-! ### jacquardref14_Easy: function 17 -/
mutual
def jacquardref14_Easy.l0 : Nat → Int → List Int → Int → List (List Bool) → List Bool → Int → Option (Bool)
  | 0, _, _, _, _, _, _ => none
  | k + 1, x0, x2, x3, x9, x10, x11 => if x11 < x0 then (if 0 ≤ x11 then (if x11 < (x2.length : Int) then (if x11 < (x10.length : Int) then (jacquardref14_Easy.l0 k x0 x2 x3 x9 (x10.set (x11 : Int).toNat ((rd x2 x11) == x11)) (wrap64 (x11 + 1))) else (none)) else (none)) else (none)) else (jacquardref14_Easy.l1 k x0 x2 x3 x9 x10 0)
def jacquardref14_Easy.l1 : Nat → Int → List Int → Int → List (List Bool) → List Bool → Int → Option (Bool)
  | 0, _, _, _, _, _, _ => none
  | k + 1, x0, x2, x3, x9, x10, x12 => if x12 < x0 then (jacquardref14_Easy.l2 k x0 x2 x3 x9 x10 x12 0) else (jacquardref14_Easy.l4 k x0 x10 0)
def jacquardref14_Easy.l2 : Nat → Int → List Int → Int → List (List Bool) → List Bool → Int → Int → Option (Bool)
  | 0, _, _, _, _, _, _, _ => none
  | k + 1, x0, x2, x3, x9, x10, x12, x13 => if x13 < x0 then (jacquardref14_Easy.l3 k x0 x2 x3 x9 x10 x12 x13 0 0) else (jacquardref14_Easy.l1 k x0 x2 x3 x9 x10 (wrap64 (x12 + 1)))
def jacquardref14_Easy.l3 : Nat → Int → List Int → Int → List (List Bool) → List Bool → Int → Int → Int → Int → Option (Bool)
  | 0, _, _, _, _, _, _, _, _, _ => none
  | k + 1, x0, x2, x3, x9, x10, x12, x13, x14, x15 => if x15 < x0 then (if 0 ≤ x13 then (if x13 < (x10.length : Int) then (if rdOf false x10 x13 = true then (if 0 ≤ x15 then (if x15 < (x10.length : Int) then (if rdOf false x10 x15 = true then (if x13 = x15 then (jacquardref14_Easy.l3 k x0 x2 x3 x9 x10 x12 x13 x14 (wrap64 (x15 + 1))) else ((jacquardref14_near.f k x9 x2 x13 x15).bind fun t340 => (if t340 = true then (jacquardref14_Easy.l3 k x0 x2 x3 x9 x10 x12 x13 (wrap64 (x14 + 1)) (wrap64 (x15 + 1))) else (jacquardref14_Easy.l3 k x0 x2 x3 x9 x10 x12 x13 x14 (wrap64 (x15 + 1)))))) else (jacquardref14_Easy.l3 k x0 x2 x3 x9 x10 x12 x13 x14 (wrap64 (x15 + 1)))) else (none)) else (none)) else (jacquardref14_Easy.l3 k x0 x2 x3 x9 x10 x12 x13 x14 (wrap64 (x15 + 1)))) else (none)) else (none)) else (if 0 ≤ x13 then (if x13 < (x10.length : Int) then (if rdOf false x10 x13 = true then (if x14 < x3 then (jacquardref14_Easy.l2 k x0 x2 x3 x9 (x10.set (x13 : Int).toNat false) x12 (wrap64 (x13 + 1))) else (jacquardref14_Easy.l2 k x0 x2 x3 x9 x10 x12 (wrap64 (x13 + 1)))) else (jacquardref14_Easy.l2 k x0 x2 x3 x9 x10 x12 (wrap64 (x13 + 1)))) else (none)) else (none))
def jacquardref14_Easy.l4 : Nat → Int → List Bool → Int → Option (Bool)
  | 0, _, _, _ => none
  | k + 1, x0, x10, x17 => if x17 < x0 then (if 0 ≤ x17 then (if x17 < (x10.length : Int) then (if rdOf false x10 x17 = true then (some false) else (jacquardref14_Easy.l4 k x0 x10 (wrap64 (x17 + 1)))) else (none)) else (none)) else (some true)
end
def jacquardref14_Easy.f (k : Nat) (a0 : Int) (l1 : List (S44)) (l2 : List Int) (a3 : Int) : Option (Bool) := (jacquardref14_Table.f k a0 l1).bind fun t330 => (if 0 ≤ a0 then (if (a0 : Int).toNat ≤ 281474976710656 then (jacquardref14_Easy.l0 k a0 l2 a3 t330 (List.replicate (a0 : Int).toNat false) 0) else (none)) else (none))
theorem jacquardref14_Easy.mono_l : ∀ k, (∀ y0 y1 y2 y3 y4 y5, LeO (jacquardref14_Easy.l0 k y0 y1 y2 y3 y4 y5) (jacquardref14_Easy.l0 (k + 1) y0 y1 y2 y3 y4 y5)) ∧ (∀ y0 y1 y2 y3 y4 y5, LeO (jacquardref14_Easy.l1 k y0 y1 y2 y3 y4 y5) (jacquardref14_Easy.l1 (k + 1) y0 y1 y2 y3 y4 y5)) ∧ (∀ y0 y1 y2 y3 y4 y5 y6, LeO (jacquardref14_Easy.l2 k y0 y1 y2 y3 y4 y5 y6) (jacquardref14_Easy.l2 (k + 1) y0 y1 y2 y3 y4 y5 y6)) ∧ (∀ y0 y1 y2 y3 y4 y5 y6 y7 y8, LeO (jacquardref14_Easy.l3 k y0 y1 y2 y3 y4 y5 y6 y7 y8) (jacquardref14_Easy.l3 (k + 1) y0 y1 y2 y3 y4 y5 y6 y7 y8)) ∧ (∀ y0 y1 y2, LeO (jacquardref14_Easy.l4 k y0 y1 y2) (jacquardref14_Easy.l4 (k + 1) y0 y1 y2))
  | 0 => ⟨fun _ _ _ _ _ _ r h => by simp [jacquardref14_Easy.l0] at h, fun _ _ _ _ _ _ r h => by simp [jacquardref14_Easy.l1] at h, fun _ _ _ _ _ _ _ r h => by simp [jacquardref14_Easy.l2] at h, fun _ _ _ _ _ _ _ _ _ r h => by simp [jacquardref14_Easy.l3] at h, fun _ _ _ r h => by simp [jacquardref14_Easy.l4] at h⟩
  | k + 1 => by
    obtain ⟨ih0, ih1, ih2, ih3, ih4⟩ := jacquardref14_Easy.mono_l k
    refine ⟨?_, ?_, ?_, ?_, ?_⟩
    · intro y0 y1 y2 y3 y4 y5
      unfold jacquardref14_Easy.l0
      repeat' first
      | (with_reducible exact ih0 _ _ _ _ _ _)
      | (with_reducible exact ih1 _ _ _ _ _ _)
      | (with_reducible exact ih2 _ _ _ _ _ _ _)
      | (with_reducible exact ih3 _ _ _ _ _ _ _ _ _)
      | (with_reducible exact ih4 _ _ _)
      | (with_reducible exact jacquardref14_Table.mono _ _ _)
      | (with_reducible exact jacquardref14_near.mono _ _ _ _ _)
      | (with_reducible exact LeO.refl _)
      | (with_reducible exact LeO.none _)
      | (with_reducible refine LeO.ite ?_ ?_)
      | (with_reducible refine LeO.bind ?_ (fun _ => ?_))
      | exact ih0 _ _ _ _ _ _
      | exact ih1 _ _ _ _ _ _
      | exact ih2 _ _ _ _ _ _ _
      | exact ih3 _ _ _ _ _ _ _ _ _
      | exact ih4 _ _ _
      | exact jacquardref14_Table.mono _ _ _
      | exact jacquardref14_near.mono _ _ _ _ _
      | exact LeO.none _
      | refine LeO.ite ?_ ?_
      | refine LeO.bind ?_ (fun _ => ?_)
    · intro y0 y1 y2 y3 y4 y5
      unfold jacquardref14_Easy.l1
      repeat' first
      | (with_reducible exact ih0 _ _ _ _ _ _)
      | (with_reducible exact ih1 _ _ _ _ _ _)
      | (with_reducible exact ih2 _ _ _ _ _ _ _)
      | (with_reducible exact ih3 _ _ _ _ _ _ _ _ _)
      | (with_reducible exact ih4 _ _ _)
      | (with_reducible exact jacquardref14_Table.mono _ _ _)
      | (with_reducible exact jacquardref14_near.mono _ _ _ _ _)
      | (with_reducible exact LeO.refl _)
      | (with_reducible exact LeO.none _)
      | (with_reducible refine LeO.ite ?_ ?_)
      | (with_reducible refine LeO.bind ?_ (fun _ => ?_))
      | exact ih0 _ _ _ _ _ _
      | exact ih1 _ _ _ _ _ _
      | exact ih2 _ _ _ _ _ _ _
      | exact ih3 _ _ _ _ _ _ _ _ _
      | exact ih4 _ _ _
      | exact jacquardref14_Table.mono _ _ _
      | exact jacquardref14_near.mono _ _ _ _ _
      | exact LeO.none _
      | refine LeO.ite ?_ ?_
      | refine LeO.bind ?_ (fun _ => ?_)
    · intro y0 y1 y2 y3 y4 y5 y6
      unfold jacquardref14_Easy.l2
      repeat' first
      | (with_reducible exact ih0 _ _ _ _ _ _)
      | (with_reducible exact ih1 _ _ _ _ _ _)
      | (with_reducible exact ih2 _ _ _ _ _ _ _)
      | (with_reducible exact ih3 _ _ _ _ _ _ _ _ _)
      | (with_reducible exact ih4 _ _ _)
      | (with_reducible exact jacquardref14_Table.mono _ _ _)
      | (with_reducible exact jacquardref14_near.mono _ _ _ _ _)
      | (with_reducible exact LeO.refl _)
      | (with_reducible exact LeO.none _)
      | (with_reducible refine LeO.ite ?_ ?_)
      | (with_reducible refine LeO.bind ?_ (fun _ => ?_))
      | exact ih0 _ _ _ _ _ _
      | exact ih1 _ _ _ _ _ _
      | exact ih2 _ _ _ _ _ _ _
      | exact ih3 _ _ _ _ _ _ _ _ _
      | exact ih4 _ _ _
      | exact jacquardref14_Table.mono _ _ _
      | exact jacquardref14_near.mono _ _ _ _ _
      | exact LeO.none _
      | refine LeO.ite ?_ ?_
      | refine LeO.bind ?_ (fun _ => ?_)
    · intro y0 y1 y2 y3 y4 y5 y6 y7 y8
      unfold jacquardref14_Easy.l3
      repeat' first
      | (with_reducible exact ih0 _ _ _ _ _ _)
      | (with_reducible exact ih1 _ _ _ _ _ _)
      | (with_reducible exact ih2 _ _ _ _ _ _ _)
      | (with_reducible exact ih3 _ _ _ _ _ _ _ _ _)
      | (with_reducible exact ih4 _ _ _)
      | (with_reducible exact jacquardref14_Table.mono _ _ _)
      | (with_reducible exact jacquardref14_near.mono _ _ _ _ _)
      | (with_reducible exact LeO.refl _)
      | (with_reducible exact LeO.none _)
      | (with_reducible refine LeO.ite ?_ ?_)
      | (with_reducible refine LeO.bind ?_ (fun _ => ?_))
      | exact ih0 _ _ _ _ _ _
      | exact ih1 _ _ _ _ _ _
      | exact ih2 _ _ _ _ _ _ _
      | exact ih3 _ _ _ _ _ _ _ _ _
      | exact ih4 _ _ _
      | exact jacquardref14_Table.mono _ _ _
      | exact jacquardref14_near.mono _ _ _ _ _
      | exact LeO.none _
      | refine LeO.ite ?_ ?_
      | refine LeO.bind ?_ (fun _ => ?_)
    · intro y0 y1 y2
      unfold jacquardref14_Easy.l4
      repeat' first
      | (with_reducible exact ih0 _ _ _ _ _ _)
      | (with_reducible exact ih1 _ _ _ _ _ _)
      | (with_reducible exact ih2 _ _ _ _ _ _ _)
      | (with_reducible exact ih3 _ _ _ _ _ _ _ _ _)
      | (with_reducible exact ih4 _ _ _)
      | (with_reducible exact jacquardref14_Table.mono _ _ _)
      | (with_reducible exact jacquardref14_near.mono _ _ _ _ _)
      | (with_reducible exact LeO.refl _)
      | (with_reducible exact LeO.none _)
      | (with_reducible refine LeO.ite ?_ ?_)
      | (with_reducible refine LeO.bind ?_ (fun _ => ?_))
      | exact ih0 _ _ _ _ _ _
      | exact ih1 _ _ _ _ _ _
      | exact ih2 _ _ _ _ _ _ _
      | exact ih3 _ _ _ _ _ _ _ _ _
      | exact ih4 _ _ _
      | exact jacquardref14_Table.mono _ _ _
      | exact jacquardref14_near.mono _ _ _ _ _
      | exact LeO.none _
      | refine LeO.ite ?_ ?_
      | refine LeO.bind ?_ (fun _ => ?_)
theorem jacquardref14_Easy.mono : ∀ a0 a1 a2 a3 k, LeO (jacquardref14_Easy.f k a0 a1 a2 a3) (jacquardref14_Easy.f (k + 1) a0 a1 a2 a3) := by
  intro a0 a1 a2 a3 k
  obtain ⟨ih0, ih1, ih2, ih3, ih4⟩ := jacquardref14_Easy.mono_l k
  unfold jacquardref14_Easy.f
  repeat' first
      | (with_reducible exact ih0 _ _ _ _ _ _)
      | (with_reducible exact ih1 _ _ _ _ _ _)
      | (with_reducible exact ih2 _ _ _ _ _ _ _)
      | (with_reducible exact ih3 _ _ _ _ _ _ _ _ _)
      | (with_reducible exact ih4 _ _ _)
      | (with_reducible exact jacquardref14_Table.mono _ _ _)
      | (with_reducible exact jacquardref14_near.mono _ _ _ _ _)
      | (with_reducible exact LeO.refl _)
      | (with_reducible exact LeO.none _)
      | (with_reducible refine LeO.ite ?_ ?_)
      | (with_reducible refine LeO.bind ?_ (fun _ => ?_))
      | exact ih0 _ _ _ _ _ _
      | exact ih1 _ _ _ _ _ _
      | exact ih2 _ _ _ _ _ _ _
      | exact ih3 _ _ _ _ _ _ _ _ _
      | exact ih4 _ _ _
      | exact jacquardref14_Table.mono _ _ _
      | exact jacquardref14_near.mono _ _ _ _ _
      | exact LeO.none _
      | refine LeO.ite ?_ ?_
      | refine LeO.bind ?_ (fun _ => ?_)
set_option maxHeartbeats 8000000 in
set_option maxRecDepth 100000 in
theorem jacquardref14_Easy.calls (k : Nat) (a0 : Int) (A1 : Option Addr) (c1 : Nat) (l1 : List (S44)) (A2 : Option Addr) (c2 : Nat) (l2 : List Int) (a3 : Int) (r : Bool) (w : World) (hr1 : Kd.C k44 w A1 l1.length l1) (hc1 : l1.length ≤ c1) (hr2 : Kd.C (Kd.int .i64) w A2 l2.length l2) (hc2 : l2.length ≤ c2) (h : jacquardref14_Easy.f k a0 l1 l2 a3 = some r) :
    Calls Try.prog 17 #[.int .i64 a0, .slice A1 l1.length c1, .slice A2 l2.length c2, .int .i64 a3] w fun e w' => e = .returned (.bool r) ∧ Below w.heap.size w w' := by
  have HR1 := Aside0.mk hr1
  have HC1 := Aside0.mk hc1
  clear hr1 hc1
  have HR2 := Aside0.mk hr2
  have HC2 := Aside0.mk hc2
  clear hr2 hc2
  have HB := Aside0.mk (Below.refl w.heap.size w)
  have H : ((jacquardref14_Table.f k a0 l1).bind fun t330 => (if 0 ≤ a0 then (if (a0 : Int).toNat ≤ 281474976710656 then (jacquardref14_Easy.l0 k a0 l2 a3 t330 (List.replicate (a0 : Int).toNat false) 0) else (none)) else (none))) = some r := h
  clear h
  replace H := Option.bind_eq_some_iff.mp H
  obtain ⟨t330, A50, H⟩ := H
  replace H : (if 0 ≤ a0 then (if (a0 : Int).toNat ≤ 281474976710656 then (jacquardref14_Easy.l0 k a0 l2 a3 t330 (List.replicate (a0 : Int).toNat false) 0) else (none)) else (none)) = some r := H
  have A5 := Aside0.mk A50
  clear A50
  by_cases c6 : 0 ≤ a0
  · rw [if_pos c6] at H
    have c6b0 := eq_true c6
    have c6b1 : decide (0 ≤ a0) = true := decide_eq_true c6
    clear c6
    by_cases c7 : (a0 : Int).toNat ≤ 281474976710656
    · rw [if_pos c7] at H
      have c7b0 := eq_true c7
      have c7b1 : decide ((a0 : Int).toNat ≤ 281474976710656) = true := decide_eq_true c7
      clear c7
      obtain ⟨y333, hy333⟩ : ∃ y_ : List Bool, y_ = (List.replicate (a0 : Int).toNat false) := ⟨_, rfl⟩
      replace H : (jacquardref14_Easy.l0 k a0 l2 a3 t330 y333 0) = some r := by first | (rw [hy333]; with_reducible exact H) | (have H2_ := (Option.bind_some _ _).symm.trans H; rw [hy333]; with_reducible exact H2_) | (have H2_ := (Option.bind_some _ _).symm.trans H; with_reducible exact H2_) | with_reducible exact H | (rw [hy333]; exact H) | exact H
      have Ny333 := Aside0.mk hy333
      clear hy333
      have H' := Aside0.mk H
      clear H
      go_enter Try.func17, Try.ntmps17
      go_wp2_with (first | ((with_reducible refine gate_callee (f := 14) rfl ?_); refine goesL_ (some 20) rfl rfl Try.func14 (by kernel_rfl) rfl #[.int .i64 a0, .slice A1 l1.length c1] rfl (by (try simp only [List.map_toArray, List.map_cons, List.map_nil]); first | done | rfl | (simp only [List.length_drop, List.length_take]; rfl)) ?_; (with_reducible refine (jacquardref14_Table.calls k a0 _ _ l1 t330 _ ?side1 ?side2 A5.out).mono ?_); (case side1 => repeat (first | exact HR1.out | (with_reducible refine Kd.C_alloc ?_ _) | (with_reducible refine Kd.C_drewN ?_ _) | (with_reducible refine Kd.C_drew ?_))); (case side2 => exact HC1.out); rintro e w8 ⟨v331, rfl, ho0, hb⟩; refine ⟨_, rfl, ?_⟩; have n0_ := Aside0.mk (Kd.S_lower ho0 (below_size (by repeat (first | (with_reducible first | exact HB.out | apply below_alloc | apply pw_below_drewN | apply below_drew1) | exact HB.out)))); have n1_ := Aside0.mk (below_step (by repeat (first | (with_reducible first | exact HB.out | apply below_alloc | apply pw_below_drewN | apply below_drew1) | exact HB.out)) hb); clear HB; have HO332 := n0_; have HB := n1_; clear n0_ n1_; (try clear hb); (try clear hb2); (try clear hk); (try clear hi); (try clear ho0)) | ((with_reducible refine gate_dst (N := 22) rfl ?_); refine Kd.R_make Kd.bool _ 4 rfl (N := 22) rfl 36 _ _ rfl a0 rfl rfl Try.underlying36 (.bool false) 1 info4 rfl (by decide) (by omega) false (ok := fun _ => True) (okp := fun _ => True) rfl (fun _ hk => hk) trivial (of_decide_eq_true (by first | (with_reducible assumption) | assumption)) (Nat.le_trans (Nat.mul_le_mul_right _ (of_decide_eq_true (by first | (with_reducible assumption) | assumption) : a0.toNat ≤ 281474976710656)) (by omega)) (Below.refl _ _) (Nat.le_refl _) ?_; intro v334 w9 ho10 hb hg_ hnew_; clear hg_ hnew_; (first | rw [← Ny333.out] at ho10 | (simp only [Int.reduceToNat] at ho10; rw [← Ny333.out] at ho10)); have n0_ := Aside0.mk (Kd.S_elder' (by (with_reducible repeat (first | apply Kd.S_alloc | apply Kd.S_drewN | apply Kd.S_drew)); exact HO332.out) (Kd.R_base ho10) hb); have n1_ := Aside0.mk (Kd.R_lower ho10 (below_size (by repeat (first | (with_reducible first | exact HB.out | apply below_alloc | apply pw_below_drewN | apply below_drew1) | exact HB.out)))); have n2_ := Aside0.mk (below_step (by repeat (first | (with_reducible first | exact HB.out | apply below_alloc | apply pw_below_drewN | apply below_drew1) | exact HB.out)) hb); clear HO332; clear HB; have HO332 := n0_; have HO335 := n1_; have HB := n2_; clear n0_ n1_ n2_; clear hb ho10))
      go_loopg [11] k (fun kq v11 w' => ∃ (x10_1 : List Bool) (x11_1 : Int), v11 = .int .i64 x11_1 ∧ Aside0 (jacquardref14_Easy.l0 kq a0 l2 a3 t330 x10_1 x11_1 = some r) ∧ Aside0 (kq ≤ k) ∧ Aside0 (Kd.S (Kd.slice 4 Kd.bool) 36 w' w.heap.size (fun k_ => some k_ ≠ (v334 : Value).ownBlock) v331 t330) ∧ Aside0 (Kd.R Kd.bool 4 w' w.heap.size (fun _ => True) v334 x10_1) ∧ Aside0 (Below w.heap.size w w'))
      case atStart => exact ⟨(y333), (0), (by first | rfl | (simp; done) | (simp [*]; done)), H', ⟨Nat.le_refl _⟩, ⟨by (with_reducible repeat (first | apply Kd.S_alloc | apply Kd.S_drewN | apply Kd.S_drew)); exact Kd.S_mono HO332.out (fun _ hk => hk.2)⟩, ⟨by (with_reducible repeat (first | apply Kd.R_alloc | apply Kd.R_drewN | apply Kd.R_drew)); exact HO335.out⟩, ⟨by repeat (first | (with_reducible first | exact HB.out | apply below_alloc | apply pw_below_drewN | apply below_drew1) | exact HB.out)⟩⟩
      case round =>
        clear H'
        try clear c1
        try clear c2
        try clear p2
        try clear c6
        try clear c6b0
        try clear c6b1
        try clear c7
        try clear c7b0
        try clear c7b1
        obtain ⟨x10_1, x11_1, rfl, HA, HK1, HO_9, HO_10, HB⟩ := hrel
        cases gk with
        | zero => exact absurd HA.out (by simp [jacquardref14_Easy.l0])
        | succ k1 =>
          have H := HA.out
          clear HA
          simp only [jacquardref14_Easy.l0] at H
          by_cases c11 : x11_1 < a0
          · rw [if_pos c11] at H
            have c11b0 : decide (x11_1 < a0) = true := decide_eq_true c11
            clear c11
            by_cases c12 : 0 ≤ x11_1
            · rw [if_pos c12] at H
              have c12b0 : decide (0 ≤ x11_1) = true := decide_eq_true c12
              clear c12
              by_cases c13 : x11_1 < (l2.length : Int)
              · rw [if_pos c13] at H
                have c13b0 : decide (x11_1 < (l2.length : Int)) = true := decide_eq_true c13
                clear c13
                by_cases c14 : x11_1 < (x10_1.length : Int)
                · rw [if_pos c14] at H
                  have c14b0 : decide (x11_1 < (x10_1.length : Int)) = true := decide_eq_true c14
                  clear c14
                  obtain ⟨y337, hy337⟩ : ∃ y_ : List Bool, y_ = (x10_1.set (x11_1 : Int).toNat ((rd l2 x11_1) == x11_1)) := ⟨_, rfl⟩
                  replace H : (jacquardref14_Easy.l0 k1 a0 l2 a3 t330 y337 (wrap64 (x11_1 + 1))) = some r := by first | (rw [hy337]; with_reducible exact H) | (have H2_ := (Option.bind_some _ _).symm.trans H; rw [hy337]; with_reducible exact H2_) | (have H2_ := (Option.bind_some _ _).symm.trans H; with_reducible exact H2_) | with_reducible exact H | (rw [hy337]; exact H) | exact H
                  have Ny337 := Aside0.mk hy337
                  clear hy337
                  have H' := Aside0.mk H
                  clear H
                  have p336 : 0 ≤ (x11_1 : Int) := of_decide_eq_true (by first | (with_reducible assumption) | assumption)
                  have q336 : x11_1 < (l2.length : Int) := of_decide_eq_true (by first | (with_reducible assumption) | assumption)
                  obtain ⟨ad336, e336, hx336_0⟩ := Kd.at_int HR2.out x11_1 p336 q336
                  cases e336
                  replace hx336_0 := (HB.out.cell (World.block_lt_of_cell? w _ hx336_0)).trans hx336_0
                  replace p336 := eq_true p336
                  replace q336 := eq_true q336
                  have p15 : 0 ≤ (x11_1 : Int) := of_decide_eq_true (by first | (with_reducible assumption) | assumption)
                  have q15 : (x11_1 : Int) < ((x10_1.length : Int) : Int) := of_decide_eq_true (by first | (with_reducible assumption) | assumption)
                  obtain ⟨go15, co15, eo15, gb15, gl15, cl15, HG15⟩ := Kd.R_form HO_10.out (by omega)
                  (first | cases eo15 | (injection eo15 with ea_ en_ ec_; (first | subst ea_ | (injection ea_ with ea_; subst ea_)); subst ec_; clear en_))
                  have GB15 := Aside0.mk gb15
                  have GG15 := Aside0.mk HG15
                  clear gb15 gl15 HG15
                  obtain ⟨hx15_0, hf15_0⟩ := Kd.R_celln false HO_10.out (x11_1 : Int) p15 q15
                  replace p15 := eq_true p15
                  replace q15 := eq_true q15
                  have HP16 := Kd.R_putg HO_10.out (x11_1 : Int) ((rd l2 x11_1) == x11_1)
                  go_wp2_with (first | ((with_reducible refine gate_store (t := 4) (p := 36) rfl ?_); refine store_event (t := 4) (p := 36) (v := ?vo_w17) (w1 := (wr.setCell ⟨go15, (x11_1 : Int).toNat, none⟩ (.bool ((rd l2 x11_1) == x11_1)))) ?hg ?ho ?hn ?hr ?_; (case ho => rfl); (case hg => rfl); (case hn => rfl); (case hr => first | (go_simp; done) | (go_simp; rfl)); intro w17 hw; have hg : wr.grownBy w17 (some go15) := (by rw [hw]; exact HP16.2); have hp_ : Kd.R Kd.bool 4 w17 w.heap.size (fun _ => True) (.slice (some ⟨go15, 0, none⟩) x10_1.length co15) y337 := (by rw [hw, Ny337.out]; exact HP16.1); clear HP16; have n0_ := Aside0.mk (Kd.S_after (v := (.slice (some ⟨go15, 0, none⟩) x10_1.length co15)) (v1 := (.slice (some ⟨go15, 0, none⟩) x10_1.length co15)) (ok := (fun _ => True)) (by (with_reducible repeat (first | apply Kd.S_alloc | apply Kd.S_drewN | apply Kd.S_drew)); exact Kd.S_mono HO_9.out (fun _ hk => ⟨trivial, hk⟩)) hg (.inl rfl)); have n1_ := Aside0.mk (hp_); have n2_ := Aside0.mk ((by rw [hw]; exact below_set (HB.out) GB15.out : Below w.heap.size w w17)); clear HO_9; clear HO_10; clear HB; have HO_9 := n0_; have HO_10 := n1_; have HB := n2_; clear n0_ n1_ n2_; clear hg hw hp_))
                  go_roundg k1
                  case measure => have := HK1.out; omega
                  case rel => exact ⟨(y337), (wrap64 (x11_1 + 1)), (by first | rfl | (simp; done) | (simp [*]; done)), H', ⟨by have := HK1.out; omega⟩, ⟨by (with_reducible repeat (first | apply Kd.S_alloc | apply Kd.S_drewN | apply Kd.S_drew)); exact Kd.S_mono HO_9.out (fun _ hk => hk.2)⟩, ⟨by (with_reducible repeat (first | apply Kd.R_alloc | apply Kd.R_drewN | apply Kd.R_drew)); exact HO_10.out⟩, ⟨by repeat (first | (with_reducible first | exact HB.out | apply below_alloc | apply pw_below_drewN | apply below_drew1) | exact HB.out)⟩⟩
                · rw [if_neg c14] at H
                  exact absurd H (by simp)
              · rw [if_neg c13] at H
                exact absurd H (by simp)
            · rw [if_neg c12] at H
              exact absurd H (by simp)
          · rw [if_neg c11] at H
            have c11b0 : decide (x11_1 < a0) = false := decide_eq_false c11
            clear c11
            have H' := Aside0.mk H
            clear H
            go_wp2
            go_loopg [12] k1 (fun kq v12 w' => ∃ (x10_2 : List Bool) (x12_2 : Int), v12 = .int .i64 x12_2 ∧ Aside0 (jacquardref14_Easy.l1 kq a0 l2 a3 t330 x10_2 x12_2 = some r) ∧ Aside0 (kq ≤ k1) ∧ Aside0 (Kd.S (Kd.slice 4 Kd.bool) 36 w' w.heap.size (fun k_ => some k_ ≠ (v334 : Value).ownBlock) v331 t330) ∧ Aside0 (Kd.R Kd.bool 4 w' w.heap.size (fun _ => True) v334 x10_2) ∧ Aside0 (Below w.heap.size w w'))
            case atStart => exact ⟨(x10_1), (0), (by first | rfl | (simp; done) | (simp [*]; done)), H', ⟨Nat.le_refl _⟩, ⟨by (with_reducible repeat (first | apply Kd.S_alloc | apply Kd.S_drewN | apply Kd.S_drew)); exact HO_9.out⟩, ⟨by (with_reducible repeat (first | apply Kd.R_alloc | apply Kd.R_drewN | apply Kd.R_drew)); exact HO_10.out⟩, ⟨by repeat (first | (with_reducible first | exact HB.out | apply below_alloc | apply pw_below_drewN | apply below_drew1) | exact HB.out)⟩⟩
            case round =>
              clear H'
              try clear c1
              try clear p1
              try clear q1
              try clear hx1
              try clear c2
              try clear p2
              try clear p3
              try clear q3
              try clear hx3
              try clear c6
              try clear c6b0
              try clear c6b1
              try clear p6
              try clear c7
              try clear c7b0
              try clear c7b1
              try clear c11
              try clear c11b0
              try clear c12
              try clear c12b0
              try clear c13
              try clear c13b0
              try clear c14
              try clear c14b0
              try clear p15
              try clear q15
              try clear hx15
              try clear hf15
              try clear c17
              try clear hx15_0
              try clear hx336_0
              try clear p15
              try clear p2
              try clear p336
              try clear q15
              try clear q336
              obtain ⟨x10_2, x12_2, rfl, HA, HK2, HO_9, HO_10, HB⟩ := hrel
              cases gk with
              | zero => exact absurd HA.out (by simp [jacquardref14_Easy.l1])
              | succ k2 =>
                have H := HA.out
                clear HA
                simp only [jacquardref14_Easy.l1] at H
                by_cases c18 : x12_2 < a0
                · rw [if_pos c18] at H
                  have c18b0 : decide (x12_2 < a0) = true := decide_eq_true c18
                  clear c18
                  have H' := Aside0.mk H
                  clear H
                  go_wp2
                  go_loopg [13] k2 (fun kq v13 w' => ∃ (x10_3 : List Bool) (x13_3 : Int), v13 = .int .i64 x13_3 ∧ Aside0 (jacquardref14_Easy.l2 kq a0 l2 a3 t330 x10_3 x12_2 x13_3 = some r) ∧ Aside0 (kq ≤ k2) ∧ Aside0 (Kd.S (Kd.slice 4 Kd.bool) 36 w' w.heap.size (fun k_ => some k_ ≠ (v334 : Value).ownBlock) v331 t330) ∧ Aside0 (Kd.R Kd.bool 4 w' w.heap.size (fun _ => True) v334 x10_3) ∧ Aside0 (Below w.heap.size w w'))
                  case atStart => exact ⟨(x10_2), (0), (by first | rfl | (simp; done) | (simp [*]; done)), H', ⟨Nat.le_refl _⟩, ⟨by (with_reducible repeat (first | apply Kd.S_alloc | apply Kd.S_drewN | apply Kd.S_drew)); exact HO_9.out⟩, ⟨by (with_reducible repeat (first | apply Kd.R_alloc | apply Kd.R_drewN | apply Kd.R_drew)); exact HO_10.out⟩, ⟨by repeat (first | (with_reducible first | exact HB.out | apply below_alloc | apply pw_below_drewN | apply below_drew1) | exact HB.out)⟩⟩
                  case round =>
                    clear H'
                    try clear c1
                    try clear p1
                    try clear q1
                    try clear hx1
                    try clear c2
                    try clear p2
                    try clear p3
                    try clear q3
                    try clear hx3
                    try clear c6
                    try clear c6b0
                    try clear c6b1
                    try clear p6
                    try clear c7
                    try clear c7b0
                    try clear c7b1
                    try clear c11
                    try clear c11b0
                    try clear c12
                    try clear c12b0
                    try clear c13
                    try clear c13b0
                    try clear c14
                    try clear c14b0
                    try clear p15
                    try clear q15
                    try clear hx15
                    try clear hf15
                    try clear c17
                    try clear c18
                    try clear c18b0
                    try clear hx15_0
                    try clear hx336_0
                    try clear p1
                    try clear p15
                    try clear p2
                    try clear p3
                    try clear p336
                    try clear p6
                    try clear q1
                    try clear q15
                    try clear q3
                    try clear q336
                    obtain ⟨x10_3, x13_3, rfl, HA, HK3, HO_9, HO_10, HB⟩ := hrel
                    cases gk with
                    | zero => exact absurd HA.out (by simp [jacquardref14_Easy.l2])
                    | succ k3 =>
                      have H := HA.out
                      clear HA
                      simp only [jacquardref14_Easy.l2] at H
                      by_cases c19 : x13_3 < a0
                      · rw [if_pos c19] at H
                        have c19b0 : decide (x13_3 < a0) = true := decide_eq_true c19
                        clear c19
                        have H' := Aside0.mk H
                        clear H
                        go_wp2
                        go_loopg [14, 15] k3 (fun kq v14 v15 w' => ∃ (x14_4 : Int) (x15_4 : Int), v14 = .int .i64 x14_4 ∧ v15 = .int .i64 x15_4 ∧ Aside0 (jacquardref14_Easy.l3 kq a0 l2 a3 t330 x10_3 x12_2 x13_3 x14_4 x15_4 = some r) ∧ Aside0 (kq ≤ k3) ∧ Aside0 (Kd.S (Kd.slice 4 Kd.bool) 36 w' w.heap.size (fun k_ => some k_ ≠ (v334 : Value).ownBlock) v331 t330) ∧ Aside0 (Kd.R Kd.bool 4 w' w.heap.size (fun _ => True) v334 x10_3) ∧ Aside0 (Below w.heap.size w w'))
                        case atStart => exact ⟨(0), (0), (by first | rfl | (simp; done) | (simp [*]; done)), (by first | rfl | (simp; done) | (simp [*]; done)), H', ⟨Nat.le_refl _⟩, ⟨by (with_reducible repeat (first | apply Kd.S_alloc | apply Kd.S_drewN | apply Kd.S_drew)); exact HO_9.out⟩, ⟨by (with_reducible repeat (first | apply Kd.R_alloc | apply Kd.R_drewN | apply Kd.R_drew)); exact HO_10.out⟩, ⟨by repeat (first | (with_reducible first | exact HB.out | apply below_alloc | apply pw_below_drewN | apply below_drew1) | exact HB.out)⟩⟩
                        case round =>
                          clear H'
                          try clear c1
                          try clear p1
                          try clear q1
                          try clear hx1
                          try clear c2
                          try clear p2
                          try clear p3
                          try clear q3
                          try clear hx3
                          try clear c6
                          try clear c6b0
                          try clear c6b1
                          try clear p6
                          try clear c7
                          try clear c7b0
                          try clear c7b1
                          try clear c11
                          try clear c11b0
                          try clear c12
                          try clear c12b0
                          try clear c13
                          try clear c13b0
                          try clear c14
                          try clear c14b0
                          try clear p15
                          try clear q15
                          try clear hx15
                          try clear hf15
                          try clear c17
                          try clear c18
                          try clear c18b0
                          try clear c19
                          try clear c19b0
                          try clear hx15_0
                          try clear hx336_0
                          try clear p1
                          try clear p15
                          try clear p2
                          try clear p3
                          try clear p336
                          try clear p6
                          try clear q1
                          try clear q15
                          try clear q3
                          try clear q336
                          obtain ⟨x14_4, x15_4, rfl, rfl, HA, HK4, HO_9, HO_10, HB⟩ := hrel
                          cases gk with
                          | zero => exact absurd HA.out (by simp [jacquardref14_Easy.l3])
                          | succ k4 =>
                            have H := HA.out
                            clear HA
                            simp only [jacquardref14_Easy.l3] at H
                            by_cases c20 : x15_4 < a0
                            · rw [if_pos c20] at H
                              have c20b0 : decide (x15_4 < a0) = true := decide_eq_true c20
                              clear c20
                              by_cases c21 : 0 ≤ x13_3
                              · rw [if_pos c21] at H
                                have c21b0 : decide (0 ≤ x13_3) = true := decide_eq_true c21
                                clear c21
                                by_cases c22 : x13_3 < (x10_3.length : Int)
                                · rw [if_pos c22] at H
                                  have c22b0 : decide (x13_3 < (x10_3.length : Int)) = true := decide_eq_true c22
                                  clear c22
                                  obtain ⟨bq23, hbq23⟩ : ∃ b_ : Bool, b_ = (rdOf false x10_3 x13_3) := ⟨_, rfl⟩
                                  replace H : (if bq23 = true then (if 0 ≤ x15_4 then (if x15_4 < (x10_3.length : Int) then (if rdOf false x10_3 x15_4 = true then (if x13_3 = x15_4 then (jacquardref14_Easy.l3 k4 a0 l2 a3 t330 x10_3 x12_2 x13_3 x14_4 (wrap64 (x15_4 + 1))) else ((jacquardref14_near.f k4 t330 l2 x13_3 x15_4).bind fun t340 => (if t340 = true then (jacquardref14_Easy.l3 k4 a0 l2 a3 t330 x10_3 x12_2 x13_3 (wrap64 (x14_4 + 1)) (wrap64 (x15_4 + 1))) else (jacquardref14_Easy.l3 k4 a0 l2 a3 t330 x10_3 x12_2 x13_3 x14_4 (wrap64 (x15_4 + 1)))))) else (jacquardref14_Easy.l3 k4 a0 l2 a3 t330 x10_3 x12_2 x13_3 x14_4 (wrap64 (x15_4 + 1)))) else (none)) else (none)) else (jacquardref14_Easy.l3 k4 a0 l2 a3 t330 x10_3 x12_2 x13_3 x14_4 (wrap64 (x15_4 + 1)))) = some r := by rw [← hbq23] at H; exact H
                                  have Nbq23 := Aside0.mk hbq23
                                  clear hbq23
                                  by_cases c24 : bq23 = true
                                  · subst c24
                                    have H1 : (if 0 ≤ x15_4 then (if x15_4 < (x10_3.length : Int) then (if rdOf false x10_3 x15_4 = true then (if x13_3 = x15_4 then (jacquardref14_Easy.l3 k4 a0 l2 a3 t330 x10_3 x12_2 x13_3 x14_4 (wrap64 (x15_4 + 1))) else ((jacquardref14_near.f k4 t330 l2 x13_3 x15_4).bind fun t340 => (if t340 = true then (jacquardref14_Easy.l3 k4 a0 l2 a3 t330 x10_3 x12_2 x13_3 (wrap64 (x14_4 + 1)) (wrap64 (x15_4 + 1))) else (jacquardref14_Easy.l3 k4 a0 l2 a3 t330 x10_3 x12_2 x13_3 x14_4 (wrap64 (x15_4 + 1)))))) else (jacquardref14_Easy.l3 k4 a0 l2 a3 t330 x10_3 x12_2 x13_3 x14_4 (wrap64 (x15_4 + 1)))) else (none)) else (none)) = some r := by rw [if_pos rfl] at H; exact H
                                    clear H
                                    have H := H1
                                    clear H1
                                    by_cases c25 : 0 ≤ x15_4
                                    · rw [if_pos c25] at H
                                      have c25b0 : decide (0 ≤ x15_4) = true := decide_eq_true c25
                                      clear c25
                                      by_cases c26 : x15_4 < (x10_3.length : Int)
                                      · rw [if_pos c26] at H
                                        have c26b0 : decide (x15_4 < (x10_3.length : Int)) = true := decide_eq_true c26
                                        clear c26
                                        obtain ⟨bq27, hbq27⟩ : ∃ b_ : Bool, b_ = (rdOf false x10_3 x15_4) := ⟨_, rfl⟩
                                        replace H : (if bq27 = true then (if x13_3 = x15_4 then (jacquardref14_Easy.l3 k4 a0 l2 a3 t330 x10_3 x12_2 x13_3 x14_4 (wrap64 (x15_4 + 1))) else ((jacquardref14_near.f k4 t330 l2 x13_3 x15_4).bind fun t340 => (if t340 = true then (jacquardref14_Easy.l3 k4 a0 l2 a3 t330 x10_3 x12_2 x13_3 (wrap64 (x14_4 + 1)) (wrap64 (x15_4 + 1))) else (jacquardref14_Easy.l3 k4 a0 l2 a3 t330 x10_3 x12_2 x13_3 x14_4 (wrap64 (x15_4 + 1)))))) else (jacquardref14_Easy.l3 k4 a0 l2 a3 t330 x10_3 x12_2 x13_3 x14_4 (wrap64 (x15_4 + 1)))) = some r := by rw [← hbq27] at H; exact H
                                        have Nbq27 := Aside0.mk hbq27
                                        clear hbq27
                                        by_cases c28 : bq27 = true
                                        · subst c28
                                          have H1 : (if x13_3 = x15_4 then (jacquardref14_Easy.l3 k4 a0 l2 a3 t330 x10_3 x12_2 x13_3 x14_4 (wrap64 (x15_4 + 1))) else ((jacquardref14_near.f k4 t330 l2 x13_3 x15_4).bind fun t340 => (if t340 = true then (jacquardref14_Easy.l3 k4 a0 l2 a3 t330 x10_3 x12_2 x13_3 (wrap64 (x14_4 + 1)) (wrap64 (x15_4 + 1))) else (jacquardref14_Easy.l3 k4 a0 l2 a3 t330 x10_3 x12_2 x13_3 x14_4 (wrap64 (x15_4 + 1)))))) = some r := by rw [if_pos rfl] at H; exact H
                                          clear H
                                          have H := H1
                                          clear H1
                                          by_cases c29 : x13_3 = x15_4
                                          · rw [if_pos c29] at H
                                            have c29b0 : (x13_3 == x15_4) = true := beq_iff_eq.mpr c29
                                            have c29b1 : (x13_3 != x15_4) = false := bne_eq_false_iff_eq.mpr c29
                                            clear c29
                                            have H' := Aside0.mk H
                                            clear H
                                            obtain ⟨Ao30, co30, eo30⟩ := Kd.R_slice HO_10.out
                                            subst eo30
                                            have p338 : 0 ≤ (x13_3 : Int) := of_decide_eq_true (by first | (with_reducible assumption) | assumption)
                                            have q338 : x13_3 < (x10_3.length : Int) := of_decide_eq_true (by first | (with_reducible assumption) | assumption)
                                            obtain ⟨ad338, e338, hx338_0⟩ := Kd.at_bool (Kd.R_reads' HO_10.out).2.2 x13_3 p338 q338
                                            (try rw [← Nbq23.out] at hx338_0)
                                            (try rw [← Nbq27.out] at hx338_0)
                                            cases e338
                                            replace p338 := eq_true p338
                                            replace q338 := eq_true q338
                                            have p339 : 0 ≤ (x15_4 : Int) := of_decide_eq_true (by first | (with_reducible assumption) | assumption)
                                            have q339 : x15_4 < (x10_3.length : Int) := of_decide_eq_true (by first | (with_reducible assumption) | assumption)
                                            obtain ⟨ad339, e339, hx339_0⟩ := Kd.at_bool (Kd.R_reads' HO_10.out).2.2 x15_4 p339 q339
                                            (try rw [← Nbq23.out] at hx339_0)
                                            (try rw [← Nbq27.out] at hx339_0)
                                            obtain rfl : ad338 = ad339 := (by injection e339)
                                            replace p339 := eq_true p339
                                            replace q339 := eq_true q339
                                            go_wp2
                                            go_roundg k4
                                            case measure => have := HK1.out; have := HK2.out; have := HK3.out; have := HK4.out; omega
                                            case rel => exact ⟨(x14_4), (wrap64 (x15_4 + 1)), (by first | rfl | (simp; done) | (simp [*]; done)), (by first | rfl | (simp; done) | (simp [*]; done)), H', ⟨by have := HK1.out; have := HK2.out; have := HK3.out; have := HK4.out; omega⟩, ⟨by (with_reducible repeat (first | apply Kd.S_alloc | apply Kd.S_drewN | apply Kd.S_drew)); exact HO_9.out⟩, ⟨by (with_reducible repeat (first | apply Kd.R_alloc | apply Kd.R_drewN | apply Kd.R_drew)); exact HO_10.out⟩, ⟨by repeat (first | (with_reducible first | exact HB.out | apply below_alloc | apply pw_below_drewN | apply below_drew1) | exact HB.out)⟩⟩
                                          · rw [if_neg c29] at H
                                            have c29b0 : (x13_3 == x15_4) = false := beq_eq_false_iff_ne.mpr c29
                                            have c29b1 : (x13_3 != x15_4) = true := bne_iff_ne.mpr c29
                                            replace H := Option.bind_eq_some_iff.mp H
                                            obtain ⟨t340, A310, H⟩ := H
                                            replace H : (if t340 = true then (jacquardref14_Easy.l3 k4 a0 l2 a3 t330 x10_3 x12_2 x13_3 (wrap64 (x14_4 + 1)) (wrap64 (x15_4 + 1))) else (jacquardref14_Easy.l3 k4 a0 l2 a3 t330 x10_3 x12_2 x13_3 x14_4 (wrap64 (x15_4 + 1)))) = some r := H
                                            have A31 := Aside0.mk A310
                                            clear A310
                                            by_cases c32 : t340 = true
                                            · subst c32
                                              have H1 : (jacquardref14_Easy.l3 k4 a0 l2 a3 t330 x10_3 x12_2 x13_3 (wrap64 (x14_4 + 1)) (wrap64 (x15_4 + 1))) = some r := by rw [if_pos rfl] at H; exact H
                                              clear H
                                              have H := H1
                                              clear H1
                                              have H' := Aside0.mk H
                                              clear H
                                              obtain ⟨Ao33, co33, eo33⟩ := Kd.R_slice HO_10.out
                                              subst eo33
                                              have p338 : 0 ≤ (x13_3 : Int) := of_decide_eq_true (by first | (with_reducible assumption) | assumption)
                                              have q338 : x13_3 < (x10_3.length : Int) := of_decide_eq_true (by first | (with_reducible assumption) | assumption)
                                              obtain ⟨ad338, e338, hx338_0⟩ := Kd.at_bool (Kd.R_reads' HO_10.out).2.2 x13_3 p338 q338
                                              (try rw [← Nbq23.out] at hx338_0)
                                              (try rw [← Nbq27.out] at hx338_0)
                                              cases e338
                                              replace p338 := eq_true p338
                                              replace q338 := eq_true q338
                                              have p339 : 0 ≤ (x15_4 : Int) := of_decide_eq_true (by first | (with_reducible assumption) | assumption)
                                              have q339 : x15_4 < (x10_3.length : Int) := of_decide_eq_true (by first | (with_reducible assumption) | assumption)
                                              obtain ⟨ad339, e339, hx339_0⟩ := Kd.at_bool (Kd.R_reads' HO_10.out).2.2 x15_4 p339 q339
                                              (try rw [← Nbq23.out] at hx339_0)
                                              (try rw [← Nbq27.out] at hx339_0)
                                              obtain rfl : ad338 = ad339 := (by injection e339)
                                              replace p339 := eq_true p339
                                              replace q339 := eq_true q339
                                              obtain ⟨Ao34, co34, eo34⟩ := Kd.S_slice HO_9.out
                                              subst eo34
                                              go_wp2_with (first | (go_at_call 28; (with_reducible refine (jacquardref14_near.calls k4 _ _ t330 _ _ l2 x13_3 x15_4 true _ ?side1 ?side2 ?side3 ?side4 A31.out).mono ?_); (case side1 => repeat (first | exact (Kd.S_reads' HO_9.out).2.2 | (with_reducible refine Kd.C_alloc ?_ _) | (with_reducible refine Kd.C_drewN ?_ _) | (with_reducible refine Kd.C_drew ?_))); (case side2 => exact (Kd.S_reads' HO_9.out).2.1); (case side3 => repeat (first | exact (Kd.C_below HR2.out HB.out) | (with_reducible refine Kd.C_alloc ?_ _) | (with_reducible refine Kd.C_drewN ?_ _) | (with_reducible refine Kd.C_drew ?_))); (case side4 => exact HC2.out); rintro e w' ⟨rfl, ⟨nd, rfl⟩⟩))
                                              go_roundg k4
                                              case measure => have := HK1.out; have := HK2.out; have := HK3.out; have := HK4.out; omega
                                              case rel => exact ⟨(wrap64 (x14_4 + 1)), (wrap64 (x15_4 + 1)), (by first | rfl | (simp; done) | (simp [*]; done)), (by first | rfl | (simp; done) | (simp [*]; done)), H', ⟨by have := HK1.out; have := HK2.out; have := HK3.out; have := HK4.out; omega⟩, ⟨by (with_reducible repeat (first | apply Kd.S_alloc | apply Kd.S_drewN | apply Kd.S_drew)); exact HO_9.out⟩, ⟨by (with_reducible repeat (first | apply Kd.R_alloc | apply Kd.R_drewN | apply Kd.R_drew)); exact HO_10.out⟩, ⟨by repeat (first | (with_reducible first | exact HB.out | apply below_alloc | apply pw_below_drewN | apply below_drew1) | exact HB.out)⟩⟩
                                            · replace c32 := Bool.eq_false_iff.mpr c32
                                              subst c32
                                              have H1 : (jacquardref14_Easy.l3 k4 a0 l2 a3 t330 x10_3 x12_2 x13_3 x14_4 (wrap64 (x15_4 + 1))) = some r := by rw [if_neg (show ¬ (false = true) by decide)] at H; exact H
                                              clear H
                                              have H := H1
                                              clear H1
                                              have H' := Aside0.mk H
                                              clear H
                                              obtain ⟨Ao35, co35, eo35⟩ := Kd.R_slice HO_10.out
                                              subst eo35
                                              have p338 : 0 ≤ (x13_3 : Int) := of_decide_eq_true (by first | (with_reducible assumption) | assumption)
                                              have q338 : x13_3 < (x10_3.length : Int) := of_decide_eq_true (by first | (with_reducible assumption) | assumption)
                                              obtain ⟨ad338, e338, hx338_0⟩ := Kd.at_bool (Kd.R_reads' HO_10.out).2.2 x13_3 p338 q338
                                              (try rw [← Nbq23.out] at hx338_0)
                                              (try rw [← Nbq27.out] at hx338_0)
                                              cases e338
                                              replace p338 := eq_true p338
                                              replace q338 := eq_true q338
                                              have p339 : 0 ≤ (x15_4 : Int) := of_decide_eq_true (by first | (with_reducible assumption) | assumption)
                                              have q339 : x15_4 < (x10_3.length : Int) := of_decide_eq_true (by first | (with_reducible assumption) | assumption)
                                              obtain ⟨ad339, e339, hx339_0⟩ := Kd.at_bool (Kd.R_reads' HO_10.out).2.2 x15_4 p339 q339
                                              (try rw [← Nbq23.out] at hx339_0)
                                              (try rw [← Nbq27.out] at hx339_0)
                                              obtain rfl : ad338 = ad339 := (by injection e339)
                                              replace p339 := eq_true p339
                                              replace q339 := eq_true q339
                                              obtain ⟨Ao36, co36, eo36⟩ := Kd.S_slice HO_9.out
                                              subst eo36
                                              go_wp2_with (first | (go_at_call 28; (with_reducible refine (jacquardref14_near.calls k4 _ _ t330 _ _ l2 x13_3 x15_4 false _ ?side1 ?side2 ?side3 ?side4 A31.out).mono ?_); (case side1 => repeat (first | exact (Kd.S_reads' HO_9.out).2.2 | (with_reducible refine Kd.C_alloc ?_ _) | (with_reducible refine Kd.C_drewN ?_ _) | (with_reducible refine Kd.C_drew ?_))); (case side2 => exact (Kd.S_reads' HO_9.out).2.1); (case side3 => repeat (first | exact (Kd.C_below HR2.out HB.out) | (with_reducible refine Kd.C_alloc ?_ _) | (with_reducible refine Kd.C_drewN ?_ _) | (with_reducible refine Kd.C_drew ?_))); (case side4 => exact HC2.out); rintro e w' ⟨rfl, ⟨nd, rfl⟩⟩))
                                              go_roundg k4
                                              case measure => have := HK1.out; have := HK2.out; have := HK3.out; have := HK4.out; omega
                                              case rel => exact ⟨(x14_4), (wrap64 (x15_4 + 1)), (by first | rfl | (simp; done) | (simp [*]; done)), (by first | rfl | (simp; done) | (simp [*]; done)), H', ⟨by have := HK1.out; have := HK2.out; have := HK3.out; have := HK4.out; omega⟩, ⟨by (with_reducible repeat (first | apply Kd.S_alloc | apply Kd.S_drewN | apply Kd.S_drew)); exact HO_9.out⟩, ⟨by (with_reducible repeat (first | apply Kd.R_alloc | apply Kd.R_drewN | apply Kd.R_drew)); exact HO_10.out⟩, ⟨by repeat (first | (with_reducible first | exact HB.out | apply below_alloc | apply pw_below_drewN | apply below_drew1) | exact HB.out)⟩⟩
                                        · replace c28 := Bool.eq_false_iff.mpr c28
                                          subst c28
                                          have H1 : (jacquardref14_Easy.l3 k4 a0 l2 a3 t330 x10_3 x12_2 x13_3 x14_4 (wrap64 (x15_4 + 1))) = some r := by rw [if_neg (show ¬ (false = true) by decide)] at H; exact H
                                          clear H
                                          have H := H1
                                          clear H1
                                          have H' := Aside0.mk H
                                          clear H
                                          obtain ⟨Ao37, co37, eo37⟩ := Kd.R_slice HO_10.out
                                          subst eo37
                                          have p338 : 0 ≤ (x13_3 : Int) := of_decide_eq_true (by first | (with_reducible assumption) | assumption)
                                          have q338 : x13_3 < (x10_3.length : Int) := of_decide_eq_true (by first | (with_reducible assumption) | assumption)
                                          obtain ⟨ad338, e338, hx338_0⟩ := Kd.at_bool (Kd.R_reads' HO_10.out).2.2 x13_3 p338 q338
                                          (try rw [← Nbq23.out] at hx338_0)
                                          (try rw [← Nbq27.out] at hx338_0)
                                          cases e338
                                          replace p338 := eq_true p338
                                          replace q338 := eq_true q338
                                          have p339 : 0 ≤ (x15_4 : Int) := of_decide_eq_true (by first | (with_reducible assumption) | assumption)
                                          have q339 : x15_4 < (x10_3.length : Int) := of_decide_eq_true (by first | (with_reducible assumption) | assumption)
                                          obtain ⟨ad339, e339, hx339_0⟩ := Kd.at_bool (Kd.R_reads' HO_10.out).2.2 x15_4 p339 q339
                                          (try rw [← Nbq23.out] at hx339_0)
                                          (try rw [← Nbq27.out] at hx339_0)
                                          obtain rfl : ad338 = ad339 := (by injection e339)
                                          replace p339 := eq_true p339
                                          replace q339 := eq_true q339
                                          go_wp2
                                          go_roundg k4
                                          case measure => have := HK1.out; have := HK2.out; have := HK3.out; have := HK4.out; omega
                                          case rel => exact ⟨(x14_4), (wrap64 (x15_4 + 1)), (by first | rfl | (simp; done) | (simp [*]; done)), (by first | rfl | (simp; done) | (simp [*]; done)), H', ⟨by have := HK1.out; have := HK2.out; have := HK3.out; have := HK4.out; omega⟩, ⟨by (with_reducible repeat (first | apply Kd.S_alloc | apply Kd.S_drewN | apply Kd.S_drew)); exact HO_9.out⟩, ⟨by (with_reducible repeat (first | apply Kd.R_alloc | apply Kd.R_drewN | apply Kd.R_drew)); exact HO_10.out⟩, ⟨by repeat (first | (with_reducible first | exact HB.out | apply below_alloc | apply pw_below_drewN | apply below_drew1) | exact HB.out)⟩⟩
                                      · rw [if_neg c26] at H
                                        exact absurd H (by simp)
                                    · rw [if_neg c25] at H
                                      exact absurd H (by simp)
                                  · replace c24 := Bool.eq_false_iff.mpr c24
                                    subst c24
                                    have H1 : (jacquardref14_Easy.l3 k4 a0 l2 a3 t330 x10_3 x12_2 x13_3 x14_4 (wrap64 (x15_4 + 1))) = some r := by rw [if_neg (show ¬ (false = true) by decide)] at H; exact H
                                    clear H
                                    have H := H1
                                    clear H1
                                    have H' := Aside0.mk H
                                    clear H
                                    obtain ⟨Ao38, co38, eo38⟩ := Kd.R_slice HO_10.out
                                    subst eo38
                                    have p338 : 0 ≤ (x13_3 : Int) := of_decide_eq_true (by first | (with_reducible assumption) | assumption)
                                    have q338 : x13_3 < (x10_3.length : Int) := of_decide_eq_true (by first | (with_reducible assumption) | assumption)
                                    obtain ⟨ad338, e338, hx338_0⟩ := Kd.at_bool (Kd.R_reads' HO_10.out).2.2 x13_3 p338 q338
                                    (try rw [← Nbq23.out] at hx338_0)
                                    cases e338
                                    replace p338 := eq_true p338
                                    replace q338 := eq_true q338
                                    go_wp2
                                    go_roundg k4
                                    case measure => have := HK1.out; have := HK2.out; have := HK3.out; have := HK4.out; omega
                                    case rel => exact ⟨(x14_4), (wrap64 (x15_4 + 1)), (by first | rfl | (simp; done) | (simp [*]; done)), (by first | rfl | (simp; done) | (simp [*]; done)), H', ⟨by have := HK1.out; have := HK2.out; have := HK3.out; have := HK4.out; omega⟩, ⟨by (with_reducible repeat (first | apply Kd.S_alloc | apply Kd.S_drewN | apply Kd.S_drew)); exact HO_9.out⟩, ⟨by (with_reducible repeat (first | apply Kd.R_alloc | apply Kd.R_drewN | apply Kd.R_drew)); exact HO_10.out⟩, ⟨by repeat (first | (with_reducible first | exact HB.out | apply below_alloc | apply pw_below_drewN | apply below_drew1) | exact HB.out)⟩⟩
                                · rw [if_neg c22] at H
                                  exact absurd H (by simp)
                              · rw [if_neg c21] at H
                                exact absurd H (by simp)
                            · rw [if_neg c20] at H
                              have c20b0 : decide (x15_4 < a0) = false := decide_eq_false c20
                              clear c20
                              by_cases c39 : 0 ≤ x13_3
                              · rw [if_pos c39] at H
                                have c39b0 : decide (0 ≤ x13_3) = true := decide_eq_true c39
                                clear c39
                                by_cases c40 : x13_3 < (x10_3.length : Int)
                                · rw [if_pos c40] at H
                                  have c40b0 : decide (x13_3 < (x10_3.length : Int)) = true := decide_eq_true c40
                                  clear c40
                                  obtain ⟨bq41, hbq41⟩ : ∃ b_ : Bool, b_ = (rdOf false x10_3 x13_3) := ⟨_, rfl⟩
                                  replace H : (if bq41 = true then (if x14_4 < a3 then (jacquardref14_Easy.l2 k4 a0 l2 a3 t330 (x10_3.set (x13_3 : Int).toNat false) x12_2 (wrap64 (x13_3 + 1))) else (jacquardref14_Easy.l2 k4 a0 l2 a3 t330 x10_3 x12_2 (wrap64 (x13_3 + 1)))) else (jacquardref14_Easy.l2 k4 a0 l2 a3 t330 x10_3 x12_2 (wrap64 (x13_3 + 1)))) = some r := by rw [← hbq41] at H; exact H
                                  have Nbq41 := Aside0.mk hbq41
                                  clear hbq41
                                  by_cases c42 : bq41 = true
                                  · subst c42
                                    have H1 : (if x14_4 < a3 then (jacquardref14_Easy.l2 k4 a0 l2 a3 t330 (x10_3.set (x13_3 : Int).toNat false) x12_2 (wrap64 (x13_3 + 1))) else (jacquardref14_Easy.l2 k4 a0 l2 a3 t330 x10_3 x12_2 (wrap64 (x13_3 + 1)))) = some r := by rw [if_pos rfl] at H; exact H
                                    clear H
                                    have H := H1
                                    clear H1
                                    by_cases c43 : x14_4 < a3
                                    · rw [if_pos c43] at H
                                      have c43b0 : decide (x14_4 < a3) = true := decide_eq_true c43
                                      clear c43
                                      obtain ⟨y342, hy342⟩ : ∃ y_ : List Bool, y_ = (x10_3.set (x13_3 : Int).toNat false) := ⟨_, rfl⟩
                                      replace H : (jacquardref14_Easy.l2 k4 a0 l2 a3 t330 y342 x12_2 (wrap64 (x13_3 + 1))) = some r := by first | (rw [hy342]; with_reducible exact H) | (have H2_ := (Option.bind_some _ _).symm.trans H; rw [hy342]; with_reducible exact H2_) | (have H2_ := (Option.bind_some _ _).symm.trans H; with_reducible exact H2_) | with_reducible exact H | (rw [hy342]; exact H) | exact H
                                      have Ny342 := Aside0.mk hy342
                                      clear hy342
                                      have H' := Aside0.mk H
                                      clear H
                                      obtain ⟨Ao45, co45, eo45⟩ := Kd.R_slice HO_10.out
                                      subst eo45
                                      have p341 : 0 ≤ (x13_3 : Int) := of_decide_eq_true (by first | (with_reducible assumption) | assumption)
                                      have q341 : x13_3 < (x10_3.length : Int) := of_decide_eq_true (by first | (with_reducible assumption) | assumption)
                                      obtain ⟨ad341, e341, hx341_0⟩ := Kd.at_bool (Kd.R_reads' HO_10.out).2.2 x13_3 p341 q341
                                      (try rw [← Nbq41.out] at hx341_0)
                                      cases e341
                                      replace p341 := eq_true p341
                                      replace q341 := eq_true q341
                                      have p44 : 0 ≤ (x13_3 : Int) := of_decide_eq_true (by first | (with_reducible assumption) | assumption)
                                      have q44 : (x13_3 : Int) < ((x10_3.length : Int) : Int) := of_decide_eq_true (by first | (with_reducible assumption) | assumption)
                                      obtain ⟨go44, co44, eo44, gb44, gl44, cl44, HG44⟩ := Kd.R_form HO_10.out (by omega)
                                      (first | cases eo44 | (injection eo44 with ea_ en_ ec_; (first | subst ea_ | (injection ea_ with ea_; subst ea_)); subst ec_; clear en_))
                                      have GB44 := Aside0.mk gb44
                                      have GG44 := Aside0.mk HG44
                                      clear gb44 gl44 HG44
                                      (first | simp only [add_plain] at hx341_0 | skip)
                                      obtain ⟨hx44_0, hf44_0⟩ := Kd.R_celln false HO_10.out (x13_3 : Int) p44 q44
                                      replace p44 := eq_true p44
                                      replace q44 := eq_true q44
                                      have HP46 := Kd.R_putg HO_10.out (x13_3 : Int) false
                                      go_wp2_with (first | ((with_reducible refine gate_store (t := 4) (p := 88) rfl ?_); refine store_event (t := 4) (p := 88) (v := ?vo_w47) (w1 := (wr.setCell ⟨go44, (x13_3 : Int).toNat, none⟩ (.bool false))) ?hg ?ho ?hn ?hr ?_; (case ho => rfl); (case hg => rfl); (case hn => rfl); (case hr => first | (go_simp; done) | (go_simp; rfl)); intro w47 hw; have hg : wr.grownBy w47 (some go44) := (by rw [hw]; exact HP46.2); have hp_ : Kd.R Kd.bool 4 w47 w.heap.size (fun _ => True) (.slice (some ⟨go44, 0, none⟩) x10_3.length co45) y342 := (by rw [hw, Ny342.out]; exact HP46.1); clear HP46; have n0_ := Aside0.mk (Kd.S_after (v := (.slice (some ⟨go44, 0, none⟩) x10_3.length co45)) (v1 := (.slice (some ⟨go44, 0, none⟩) x10_3.length co45)) (ok := (fun _ => True)) (by (with_reducible repeat (first | apply Kd.S_alloc | apply Kd.S_drewN | apply Kd.S_drew)); exact Kd.S_mono HO_9.out (fun _ hk => ⟨trivial, hk⟩)) hg (.inl rfl)); have n1_ := Aside0.mk (hp_); have n2_ := Aside0.mk ((by rw [hw]; exact below_set (HB.out) GB44.out : Below w.heap.size w w47)); clear HO_9; clear HO_10; clear HB; have HO_9 := n0_; have HO_10 := n1_; have HB := n2_; clear n0_ n1_ n2_; clear hg hw hp_))
                                      go_roundg k4
                                      case measure => have := HK1.out; have := HK2.out; have := HK3.out; have := HK4.out; omega
                                      case rel => exact ⟨(y342), (wrap64 (x13_3 + 1)), (by first | rfl | (simp; done) | (simp [*]; done)), H', ⟨by have := HK1.out; have := HK2.out; have := HK3.out; have := HK4.out; omega⟩, ⟨by (with_reducible repeat (first | apply Kd.S_alloc | apply Kd.S_drewN | apply Kd.S_drew)); exact Kd.S_mono HO_9.out (fun _ hk => hk.2)⟩, ⟨by (with_reducible repeat (first | apply Kd.R_alloc | apply Kd.R_drewN | apply Kd.R_drew)); exact HO_10.out⟩, ⟨by repeat (first | (with_reducible first | exact HB.out | apply below_alloc | apply pw_below_drewN | apply below_drew1) | exact HB.out)⟩⟩
                                    · rw [if_neg c43] at H
                                      have c43b0 : decide (x14_4 < a3) = false := decide_eq_false c43
                                      clear c43
                                      have H' := Aside0.mk H
                                      clear H
                                      obtain ⟨Ao48, co48, eo48⟩ := Kd.R_slice HO_10.out
                                      subst eo48
                                      have p341 : 0 ≤ (x13_3 : Int) := of_decide_eq_true (by first | (with_reducible assumption) | assumption)
                                      have q341 : x13_3 < (x10_3.length : Int) := of_decide_eq_true (by first | (with_reducible assumption) | assumption)
                                      obtain ⟨ad341, e341, hx341_0⟩ := Kd.at_bool (Kd.R_reads' HO_10.out).2.2 x13_3 p341 q341
                                      (try rw [← Nbq41.out] at hx341_0)
                                      cases e341
                                      replace p341 := eq_true p341
                                      replace q341 := eq_true q341
                                      go_wp2
                                      go_roundg k4
                                      case measure => have := HK1.out; have := HK2.out; have := HK3.out; have := HK4.out; omega
                                      case rel => exact ⟨(x10_3), (wrap64 (x13_3 + 1)), (by first | rfl | (simp; done) | (simp [*]; done)), H', ⟨by have := HK1.out; have := HK2.out; have := HK3.out; have := HK4.out; omega⟩, ⟨by (with_reducible repeat (first | apply Kd.S_alloc | apply Kd.S_drewN | apply Kd.S_drew)); exact HO_9.out⟩, ⟨by (with_reducible repeat (first | apply Kd.R_alloc | apply Kd.R_drewN | apply Kd.R_drew)); exact HO_10.out⟩, ⟨by repeat (first | (with_reducible first | exact HB.out | apply below_alloc | apply pw_below_drewN | apply below_drew1) | exact HB.out)⟩⟩
                                  · replace c42 := Bool.eq_false_iff.mpr c42
                                    subst c42
                                    have H1 : (jacquardref14_Easy.l2 k4 a0 l2 a3 t330 x10_3 x12_2 (wrap64 (x13_3 + 1))) = some r := by rw [if_neg (show ¬ (false = true) by decide)] at H; exact H
                                    clear H
                                    have H := H1
                                    clear H1
                                    have H' := Aside0.mk H
                                    clear H
                                    obtain ⟨Ao49, co49, eo49⟩ := Kd.R_slice HO_10.out
                                    subst eo49
                                    have p341 : 0 ≤ (x13_3 : Int) := of_decide_eq_true (by first | (with_reducible assumption) | assumption)
                                    have q341 : x13_3 < (x10_3.length : Int) := of_decide_eq_true (by first | (with_reducible assumption) | assumption)
                                    obtain ⟨ad341, e341, hx341_0⟩ := Kd.at_bool (Kd.R_reads' HO_10.out).2.2 x13_3 p341 q341
                                    (try rw [← Nbq41.out] at hx341_0)
                                    cases e341
                                    replace p341 := eq_true p341
                                    replace q341 := eq_true q341
                                    go_wp2
                                    go_roundg k4
                                    case measure => have := HK1.out; have := HK2.out; have := HK3.out; have := HK4.out; omega
                                    case rel => exact ⟨(x10_3), (wrap64 (x13_3 + 1)), (by first | rfl | (simp; done) | (simp [*]; done)), H', ⟨by have := HK1.out; have := HK2.out; have := HK3.out; have := HK4.out; omega⟩, ⟨by (with_reducible repeat (first | apply Kd.S_alloc | apply Kd.S_drewN | apply Kd.S_drew)); exact HO_9.out⟩, ⟨by (with_reducible repeat (first | apply Kd.R_alloc | apply Kd.R_drewN | apply Kd.R_drew)); exact HO_10.out⟩, ⟨by repeat (first | (with_reducible first | exact HB.out | apply below_alloc | apply pw_below_drewN | apply below_drew1) | exact HB.out)⟩⟩
                                · rw [if_neg c40] at H
                                  exact absurd H (by simp)
                              · rw [if_neg c39] at H
                                exact absurd H (by simp)
                      · rw [if_neg c19] at H
                        have c19b0 : decide (x13_3 < a0) = false := decide_eq_false c19
                        clear c19
                        have H' := Aside0.mk H
                        clear H
                        go_wp2
                        go_roundg k3
                        case measure => have := HK1.out; have := HK2.out; have := HK3.out; omega
                        case rel => exact ⟨(x10_3), (wrap64 (x12_2 + 1)), (by first | rfl | (simp; done) | (simp [*]; done)), H', ⟨by have := HK1.out; have := HK2.out; have := HK3.out; omega⟩, ⟨by (with_reducible repeat (first | apply Kd.S_alloc | apply Kd.S_drewN | apply Kd.S_drew)); exact HO_9.out⟩, ⟨by (with_reducible repeat (first | apply Kd.R_alloc | apply Kd.R_drewN | apply Kd.R_drew)); exact HO_10.out⟩, ⟨by repeat (first | (with_reducible first | exact HB.out | apply below_alloc | apply pw_below_drewN | apply below_drew1) | exact HB.out)⟩⟩
                · rw [if_neg c18] at H
                  have c18b0 : decide (x12_2 < a0) = false := decide_eq_false c18
                  clear c18
                  have H' := Aside0.mk H
                  clear H
                  go_wp2
                  go_loopg [17] k2 (fun kq v17 w' => ∃ (x17_3 : Int), v17 = .int .i64 x17_3 ∧ Aside0 (jacquardref14_Easy.l4 kq a0 x10_2 x17_3 = some r) ∧ Aside0 (kq ≤ k2) ∧ Aside0 (Kd.R Kd.bool 4 w' w.heap.size (fun _ => True) v334 x10_2) ∧ Aside0 (Below w.heap.size w w'))
                  case atStart => exact ⟨(0), (by first | rfl | (simp; done) | (simp [*]; done)), H', ⟨Nat.le_refl _⟩, ⟨by (with_reducible repeat (first | apply Kd.R_alloc | apply Kd.R_drewN | apply Kd.R_drew)); exact HO_10.out⟩, ⟨by repeat (first | (with_reducible first | exact HB.out | apply below_alloc | apply pw_below_drewN | apply below_drew1) | exact HB.out)⟩⟩
                  case round =>
                    clear H'
                    try clear c1
                    try clear p1
                    try clear q1
                    try clear hx1
                    try clear c2
                    try clear p2
                    try clear q2
                    try clear c3
                    try clear p3
                    try clear q3
                    try clear hx3
                    try clear c4
                    try clear p4
                    try clear q4
                    try clear hx4
                    try clear hf4
                    try clear c6
                    try clear c6b0
                    try clear c6b1
                    try clear p6
                    try clear c7
                    try clear c7b0
                    try clear c7b1
                    try clear c11
                    try clear c11b0
                    try clear c12
                    try clear c12b0
                    try clear c13
                    try clear c13b0
                    try clear c14
                    try clear c14b0
                    try clear p15
                    try clear q15
                    try clear hx15
                    try clear hf15
                    try clear c17
                    try clear c18
                    try clear c18b0
                    try clear c19
                    try clear c19b0
                    try clear c20
                    try clear c20b0
                    try clear c21
                    try clear c21b0
                    try clear c22
                    try clear c22b0
                    try clear q23
                    try clear c24
                    try clear c25
                    try clear c25b0
                    try clear c26
                    try clear c26b0
                    try clear q27
                    try clear c28
                    try clear c29
                    try clear c29b0
                    try clear c29b1
                    try clear c32
                    try clear p33
                    try clear q33
                    try clear hx33
                    try clear p34
                    try clear q34
                    try clear hx34
                    try clear c39
                    try clear c39b0
                    try clear c40
                    try clear c40b0
                    try clear q41
                    try clear c42
                    try clear c43
                    try clear c43b0
                    try clear p44
                    try clear q44
                    try clear hx44
                    try clear hf44
                    try clear hx15_0
                    try clear hx336_0
                    try clear hx338_0
                    try clear hx339_0
                    try clear hx341_0
                    try clear hx44_0
                    try clear p1
                    try clear p15
                    try clear p2
                    try clear p3
                    try clear p336
                    try clear p338
                    try clear p339
                    try clear p341
                    try clear p44
                    try clear p6
                    try clear q1
                    try clear q15
                    try clear q3
                    try clear q336
                    try clear q338
                    try clear q339
                    try clear q341
                    try clear q44
                    obtain ⟨x17_3, rfl, HA, HK3, HO_10, HB⟩ := hrel
                    cases gk with
                    | zero => exact absurd HA.out (by simp [jacquardref14_Easy.l4])
                    | succ k3 =>
                      have H := HA.out
                      clear HA
                      simp only [jacquardref14_Easy.l4] at H
                      by_cases c50 : x17_3 < a0
                      · rw [if_pos c50] at H
                        have c50b0 : decide (x17_3 < a0) = true := decide_eq_true c50
                        clear c50
                        by_cases c51 : 0 ≤ x17_3
                        · rw [if_pos c51] at H
                          have c51b0 : decide (0 ≤ x17_3) = true := decide_eq_true c51
                          clear c51
                          by_cases c52 : x17_3 < (x10_2.length : Int)
                          · rw [if_pos c52] at H
                            have c52b0 : decide (x17_3 < (x10_2.length : Int)) = true := decide_eq_true c52
                            clear c52
                            obtain ⟨bq53, hbq53⟩ : ∃ b_ : Bool, b_ = (rdOf false x10_2 x17_3) := ⟨_, rfl⟩
                            replace H : (if bq53 = true then (some false) else (jacquardref14_Easy.l4 k3 a0 x10_2 (wrap64 (x17_3 + 1)))) = some r := by rw [← hbq53] at H; exact H
                            have Nbq53 := Aside0.mk hbq53
                            clear hbq53
                            by_cases c54 : bq53 = true
                            · subst c54
                              have H1 : (some false) = some r := by rw [if_pos rfl] at H; exact H
                              clear H
                              have H := H1
                              clear H1
                              obtain rfl := Option.some.inj H
                              obtain ⟨Ao55, co55, eo55⟩ := Kd.R_slice HO_10.out
                              subst eo55
                              have p343 : 0 ≤ (x17_3 : Int) := of_decide_eq_true (by first | (with_reducible assumption) | assumption)
                              have q343 : x17_3 < (x10_2.length : Int) := of_decide_eq_true (by first | (with_reducible assumption) | assumption)
                              obtain ⟨ad343, e343, hx343_0⟩ := Kd.at_bool (Kd.R_reads' HO_10.out).2.2 x17_3 p343 q343
                              (try rw [← Nbq53.out] at hx343_0)
                              cases e343
                              replace p343 := eq_true p343
                              replace q343 := eq_true q343
                              go_wp2
                              go_ret
                              exact ⟨by first | rfl | (simp [errW_none, errW_some] <;> rfl) | (simp [*, errW_none, errW_some] <;> rfl), by repeat (first | (with_reducible first | exact HB.out | apply below_alloc | apply pw_below_drewN | apply below_drew1) | exact HB.out)⟩
                            · replace c54 := Bool.eq_false_iff.mpr c54
                              subst c54
                              have H1 : (jacquardref14_Easy.l4 k3 a0 x10_2 (wrap64 (x17_3 + 1))) = some r := by rw [if_neg (show ¬ (false = true) by decide)] at H; exact H
                              clear H
                              have H := H1
                              clear H1
                              have H' := Aside0.mk H
                              clear H
                              obtain ⟨Ao56, co56, eo56⟩ := Kd.R_slice HO_10.out
                              subst eo56
                              have p343 : 0 ≤ (x17_3 : Int) := of_decide_eq_true (by first | (with_reducible assumption) | assumption)
                              have q343 : x17_3 < (x10_2.length : Int) := of_decide_eq_true (by first | (with_reducible assumption) | assumption)
                              obtain ⟨ad343, e343, hx343_0⟩ := Kd.at_bool (Kd.R_reads' HO_10.out).2.2 x17_3 p343 q343
                              (try rw [← Nbq53.out] at hx343_0)
                              cases e343
                              replace p343 := eq_true p343
                              replace q343 := eq_true q343
                              go_wp2
                              go_roundg k3
                              case measure => have := HK1.out; have := HK2.out; have := HK3.out; omega
                              case rel => exact ⟨(wrap64 (x17_3 + 1)), (by first | rfl | (simp; done) | (simp [*]; done)), H', ⟨by have := HK1.out; have := HK2.out; have := HK3.out; omega⟩, ⟨by (with_reducible repeat (first | apply Kd.R_alloc | apply Kd.R_drewN | apply Kd.R_drew)); exact HO_10.out⟩, ⟨by repeat (first | (with_reducible first | exact HB.out | apply below_alloc | apply pw_below_drewN | apply below_drew1) | exact HB.out)⟩⟩
                          · rw [if_neg c52] at H
                            exact absurd H (by simp)
                        · rw [if_neg c51] at H
                          exact absurd H (by simp)
                      · rw [if_neg c50] at H
                        have c50b0 : decide (x17_3 < a0) = false := decide_eq_false c50
                        clear c50
                        obtain rfl := Option.some.inj H
                        go_wp2
                        go_ret
                        exact ⟨by first | rfl | (simp [errW_none, errW_some] <;> rfl) | (simp [*, errW_none, errW_some] <;> rfl), by repeat (first | (with_reducible first | exact HB.out | apply below_alloc | apply pw_below_drewN | apply below_drew1) | exact HB.out)⟩
    · rw [if_neg c7] at H
      exact absurd H (by simp)
  · rw [if_neg c6] at H
    exact absurd H (by simp)

end Go.Proofs.Ytgdmdgkfababeaa.M
