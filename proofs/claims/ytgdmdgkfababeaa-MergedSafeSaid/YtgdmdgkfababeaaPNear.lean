/-
  Are two classes neighbours: what the document's function answers. Own work.
-/
import Derived.Test.YtgdmdgkfababeaaPMer
import Derived.Test.YtgdmdgkfababeaaEv
import Derived.Test.YtgdmdgkfababeaaM5
namespace Go.Proofs.YtgdmdgkfababeaaEv
open Go Go.RowKit Go.Proofs.YtgdmdgkfababeaaCol Go.Proofs.Ytgdmdgkfababeaa.M Go.Proofs.YtgdmdgkfababeaaW.PrintWords Go.Proofs.YtgdmdgkfababeaaW.PrintMore
open Go.Proofs.YtgdmdgkfababeaaH (pairs)

section
variable {N : Nat} {t : Int → Int → Bool} {L : List Int}

theorem near_l1 (hN : N ≤ 8192) (hL : L.length = N) (a b : Int) (i : Nat) (hi : i < N) {v : Bool} (hrest : Ev (fun f => jacquardref14_near.l0 f (tab N t) L a b ((i + 1 : Nat) : Int)) v) : ∀ (m j : Nat), j + m = N →
    Ev (fun f => jacquardref14_near.l1 f (tab N t) L a b i j) ((List.range' j m).any (fun j : Nat => decide (L.getD i 0 = a) && decide (L.getD j 0 = b) && t i j) || v)
  | 0, j, hj => by
    refine Ev.succ (hrest.congr fun f => ?_)
    rw [jacquardref14_near.l1, if_neg (by omega), up64 i (by omega)]
  | m + 1, j, hj => by
    have ih := near_l1 hN hL a b i hi hrest m (j + 1) (by omega)
    have hjN : j < N := by omega
    rw [List.range'_succ, List.any_cons]
    have hu := up64 j (by omega)
    by_cases e1 : L.getD i 0 = a
    · by_cases e2 : L.getD j 0 = b
      · cases e3 : t (i : Int) (j : Int) with
        | true =>
          refine Ev.succ (Ev.of fun f => ?_)
          rw [jacquardref14_near.l1, if_pos (by omega), if_pos (by omega), if_pos (by omega), rd_nat, if_pos e1, if_pos (by omega), rd_nat, if_pos e2, if_pos (by rw [tab_length]; omega), if_pos (by rw [tab_row_length i hi]; omega), tab_at i j hi hjN, e3, if_pos rfl, decide_eq_true e1, decide_eq_true e2]
          simp
        | false =>
          rw [decide_eq_true e1, decide_eq_true e2]
          simp only [Bool.and_true, Bool.and_false, Bool.false_or]
          rw [decide_eq_true e1] at ih
          refine Ev.succ (ih.congr fun f => ?_)
          rw [jacquardref14_near.l1, if_pos (by omega), if_pos (by omega), if_pos (by omega), rd_nat, if_pos e1, if_pos (by omega), rd_nat, if_pos e2, if_pos (by rw [tab_length]; omega), if_pos (by rw [tab_row_length i hi]; omega), tab_at i j hi hjN, e3, if_neg (by simp), hu]
      · rw [decide_eq_false e2]
        simp only [Bool.and_false, Bool.false_and, Bool.false_or]
        refine Ev.succ (ih.congr fun f => ?_)
        rw [jacquardref14_near.l1, if_pos (by omega), if_pos (by omega), if_pos (by omega), rd_nat, if_pos e1, if_pos (by omega), rd_nat, if_neg e2, hu]
    · rw [decide_eq_false e1] at ih ⊢
      simp only [Bool.false_and, Bool.false_or] at ih ⊢
      refine Ev.succ (ih.congr fun f => ?_)
      rw [jacquardref14_near.l1, if_pos (by omega), if_pos (by omega), if_pos (by omega), rd_nat, if_neg e1, hu]

theorem near_l0 (hN : N ≤ 8192) (hL : L.length = N) (a b : Int) : ∀ (m i : Nat), i + m = N →
    Ev (fun f => jacquardref14_near.l0 f (tab N t) L a b i) ((List.range' i m).any (fun i : Nat => (List.range N).any fun j : Nat => decide (L.getD i 0 = a) && decide (L.getD j 0 = b) && t i j))
  | 0, i, hi => by
    refine Ev.succ (Ev.of fun f => ?_)
    rw [jacquardref14_near.l0, if_neg (by omega)]
    rfl
  | m + 1, i, hi => by
    have ih := near_l0 hN hL a b m (i + 1) (by omega)
    have h1 := near_l1 (t := t) hN hL a b i (by omega) ih N 0 (by omega)
    rw [← List.range_eq_range'] at h1
    rw [List.range'_succ, List.any_cons]
    refine Ev.succ (h1.congr fun f => ?_)
    rw [jacquardref14_near.l0, if_pos (by omega)]
    rfl
theorem near_ev (hN : N ≤ 8192) (hL : L.length = N) (a b : Int) : Ev (fun f => jacquardref14_near.f f (tab N t) L a b) (nearB N t L a b) := by
  have := near_l0 (t := t) hN hL a b N 0 (by omega)
  rw [← List.range_eq_range'] at this
  exact this


/-- Of so many from i on. -/
def cnt (p : Int → Bool) (i m : Nat) : Nat := ((List.range' i m).filter fun x : Nat => p (x : Int)).length
theorem cnt_succ (p : Int → Bool) (i m : Nat) : cnt p i (m + 1) = (p (i : Int)).toNat + cnt p (i + 1) m := card_from_succ p m i
theorem cnt_all (p : Int → Bool) (N : Nat) : cnt p 0 N = card N p := by unfold cnt card; rw [← List.range_eq_range']
theorem cnt_le (p : Int → Bool) (i m : Nat) : cnt p i m ≤ m := by unfold cnt; exact Nat.le_trans (List.length_filter_le _ _) (by simp)

end
end Go.Proofs.YtgdmdgkfababeaaEv
