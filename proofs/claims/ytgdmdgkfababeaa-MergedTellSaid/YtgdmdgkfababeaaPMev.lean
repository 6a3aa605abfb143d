/-
  The document's answer for classes: what its functions answer. Own work.
-/
import Derived.Test.YtgdmdgkfababeaaPMer
import Derived.Test.YtgdmdgkfababeaaPCol
import Derived.Test.YtgdmdgkfababeaaM6
namespace Go.Proofs.YtgdmdgkfababeaaEv
open Go Go.RowKit Go.Proofs.YtgdmdgkfababeaaCol Go.Proofs.Ytgdmdgkfababeaa.M Go.Proofs.YtgdmdgkfababeaaW.PrintWords Go.Proofs.YtgdmdgkfababeaaW.PrintMore
open Go.Proofs.YtgdmdgkfababeaaH (pairs)

section
variable {N : Nat} {t : Int → Int → Bool} {L : List Int}

theorem near_l1 (hN : N ≤ 8192) (hL : L.length = N) (a b : Int) (i : Nat) (hi : i < N) {v : Bool} (hrest : Ev (fun f => jacquardref14_near.l0 f (tab N t) L a b ((i + 1 : Nat) : Int)) v) : ∀ (m j : Nat), j + m = N →
    Ev (fun f => jacquardref14_near.l1 f (tab N t) L a b i j) ((List.range' j m).any (fun j : Nat => decide (L.getD i 0 = a) && decide (L.getD j 0 = b) && t i j) || v)
  | 0, j, hj => by
    refine Ev.succ (hrest.congr fun f => ?_)
    rw [jacquardref14_near.l1, if_neg (by omega), up64 i (by omega)]
  | m + 1, j, hj => by
    have ih := near_l1 hN hL a b i hi hrest m (j + 1) (by omega)
    have hjN : j < N := by omega
    rw [List.range'_succ, List.any_cons]
    have hu := up64 j (by omega)
    by_cases e1 : L.getD i 0 = a
    · by_cases e2 : L.getD j 0 = b
      · cases e3 : t (i : Int) (j : Int) with
        | true =>
          refine Ev.succ (Ev.of fun f => ?_)
          rw [jacquardref14_near.l1, if_pos (by omega), if_pos (by omega), if_pos (by omega), rd_nat, if_pos e1, if_pos (by omega), rd_nat, if_pos e2, if_pos (by rw [tab_length]; omega), if_pos (by rw [tab_row_length i hi]; omega), tab_at i j hi hjN, e3, if_pos rfl, decide_eq_true e1, decide_eq_true e2]
          simp
        | false =>
          rw [decide_eq_true e1, decide_eq_true e2]
          simp only [Bool.and_true, Bool.and_false, Bool.false_or]
          rw [decide_eq_true e1] at ih
          refine Ev.succ (ih.congr fun f => ?_)
          rw [jacquardref14_near.l1, if_pos (by omega), if_pos (by omega), if_pos (by omega), rd_nat, if_pos e1, if_pos (by omega), rd_nat, if_pos e2, if_pos (by rw [tab_length]; omega), if_pos (by rw [tab_row_length i hi]; omega), tab_at i j hi hjN, e3, if_neg (by simp), hu]
      · rw [decide_eq_false e2]
        simp only [Bool.and_false, Bool.false_and, Bool.false_or]
        refine Ev.succ (ih.congr fun f => ?_)
        rw [jacquardref14_near.l1, if_pos (by omega), if_pos (by omega), if_pos (by omega), rd_nat, if_pos e1, if_pos (by omega), rd_nat, if_neg e2, hu]
    · rw [decide_eq_false e1] at ih ⊢
      simp only [Bool.false_and, Bool.false_or] at ih ⊢
      refine Ev.succ (ih.congr fun f => ?_)
      rw [jacquardref14_near.l1, if_pos (by omega), if_pos (by omega), if_pos (by omega), rd_nat, if_neg e1, hu]

theorem near_l0 (hN : N ≤ 8192) (hL : L.length = N) (a b : Int) : ∀ (m i : Nat), i + m = N →
    Ev (fun f => jacquardref14_near.l0 f (tab N t) L a b i) ((List.range' i m).any (fun i : Nat => (List.range N).any fun j : Nat => decide (L.getD i 0 = a) && decide (L.getD j 0 = b) && t i j))
  | 0, i, hi => by
    refine Ev.succ (Ev.of fun f => ?_)
    rw [jacquardref14_near.l0, if_neg (by omega)]
    rfl
  | m + 1, i, hi => by
    have ih := near_l0 hN hL a b m (i + 1) (by omega)
    have h1 := near_l1 (t := t) hN hL a b i (by omega) ih N 0 (by omega)
    rw [← List.range_eq_range'] at h1
    rw [List.range'_succ, List.any_cons]
    refine Ev.succ (h1.congr fun f => ?_)
    rw [jacquardref14_near.l0, if_pos (by omega)]
    rfl
theorem near_ev (hN : N ≤ 8192) (hL : L.length = N) (a b : Int) : Ev (fun f => jacquardref14_near.f f (tab N t) L a b) (nearB N t L a b) := by
  have := near_l0 (t := t) hN hL a b N 0 (by omega)
  rw [← List.range_eq_range'] at this
  exact this

theorem joined_l0 (hL : L.length ≤ 8192) (a b : Int) : ∀ (m i : Nat) (out : List Int), i + m = L.length → out = (L.take i).map (fun v => if v = a ∨ v = b then (if b < a then b else a) else v) →
    Ev (fun f => jacquardref14_joined.l0 f L a b out i) (joinL L a b)
  | 0, i, out, hi, ho => by
    refine Ev.succ (Ev.of fun f => ?_)
    rw [jacquardref14_joined.l0, if_neg (by omega), ho, List.take_of_length_le (by omega)]
    rfl
  | m + 1, i, out, hi, ho => by
    have hil : i < L.length := by omega
    have hol : out.length = i := by rw [ho]; simp; omega
    have e1 : rd L (i : Int) = L[i] := by rw [rd_nat, List.getD_eq_getElem?_getD, List.getElem?_eq_getElem hil]; rfl
    have ih := joined_l0 hL a b m (i + 1) (out ++ [if L[i] = a ∨ L[i] = b then (if b < a then b else a) else L[i]]) (by omega) (by rw [List.take_succ_eq_append_getElem hil, List.map_append, ← ho]; rfl)
    refine Ev.succ (ih.congr fun f => ?_)
    rw [jacquardref14_joined.l0, if_pos (by omega), if_pos (by omega), e1, up64 i (by omega)]
    by_cases h1 : L[i] = a
    · rw [if_pos h1, if_pos (by omega), if_pos (.inl h1)]; rfl
    · rw [if_neg h1]
      by_cases h2 : L[i] = b
      · rw [if_pos h2, if_pos (by omega), if_pos (.inr h2)]; rfl
      · rw [if_neg h2, if_pos (by omega), if_neg (by omega)]
theorem joined_ev (hL : L.length ≤ 8192) (a b : Int) : Ev (fun f => jacquardref14_joined.f f L a b) (joinL L a b) := joined_l0 hL a b L.length 0 [] (by omega) (by simp)

/-- Of so many from i on. -/
def cnt (p : Int → Bool) (i m : Nat) : Nat := ((List.range' i m).filter fun x : Nat => p (x : Int)).length
theorem cnt_succ (p : Int → Bool) (i m : Nat) : cnt p i (m + 1) = (p (i : Int)).toNat + cnt p (i + 1) m := card_from_succ p m i
theorem cnt_all (p : Int → Bool) (N : Nat) : cnt p 0 N = card N p := by unfold cnt card; rw [← List.range_eq_range']
theorem cnt_le (p : Int → Bool) (i m : Nat) : cnt p i m ≤ m := by unfold cnt; exact Nat.le_trans (List.length_filter_le _ _) (by simp)

def big (k : Int) (n : Nat) : Bool := decide (k ≤ (n : Int))
def small (k : Int) (n : Nat) : Bool := decide ((n : Int) < k)
/-- The count of a class's neighbours. -/
theorem joins_l1 (hN : N ≤ 8192) (k : Int) (m : List Int) (hm : m.length = N) (c : Int) (many : Int) (x : Nat) (hx : x < N) {v : Bool} : ∀ (r y d : Nat), y + r = N → d ≤ y →
    Ev (fun f => cond (big k (d + cnt (fun y => decide (m.getD y.toNat 0 = y) && !decide (y = (x : Int)) && nearB N t m x y) y r)) (jacquardref14_joins.l0 f (tab N t) k m c (wrap64 (many + 1)) (wrap64 ((x : Int) + 1))) (jacquardref14_joins.l0 f (tab N t) k m c many (wrap64 ((x : Int) + 1)))) v →
    Ev (fun f => jacquardref14_joins.l1 f (tab N t) k m c many x d y) v
  | 0, y, d, hy, hd, h => by
    refine Ev.succ (h.congr fun f => ?_)
    rw [jacquardref14_joins.l1, if_neg (by omega)]
    show _ = cond (decide (k ≤ (d : Int))) _ _
    by_cases e : k ≤ (d : Int)
    · rw [if_pos e, decide_eq_true e]; rfl
    · rw [if_neg e, decide_eq_false e]; rfl
  | r + 1, y, d, hy, hd, h => by
    have hyN : y < N := by omega
    have hu := up64 y (by omega)
    have hud := up64 d (by omega)
    rw [cnt_succ] at h
    simp only [Int.toNat_natCast] at h
    by_cases e1 : m.getD y 0 = y
    · by_cases e2 : (y : Int) = (x : Int)
      · have e0 : (decide (m.getD y 0 = (y : Int)) && !decide ((y : Int) = (x : Int)) && nearB N t m x y) = false := by rw [decide_eq_true e2]; simp
        rw [e0] at h
        simp only [Bool.toNat_false, Nat.zero_add] at h
        refine Ev.succ ((joins_l1 hN k m hm c many x hx r (y + 1) d (by omega) (by omega) h).congr fun f => ?_)
        rw [jacquardref14_joins.l1, if_pos (by omega), if_pos (by omega), rd_nat, if_pos e1, if_pos e2, hu]
      · have hnear := near_ev (t := t) hN hm (x : Int) (y : Int)
        have e0 : (decide (m.getD y 0 = (y : Int)) && !decide ((y : Int) = (x : Int)) && nearB N t m x y) = nearB N t m x y := by rw [decide_eq_true e1, decide_eq_false e2]; simp
        rw [e0] at h
        cases hn : nearB N t m x y with
        | true =>
          rw [hn] at h hnear
          simp only [Bool.toNat_true] at h
          rw [show d + (1 + cnt (fun y => decide (m.getD y.toNat 0 = y) && !decide (y = (x : Int)) && nearB N t m x y) (y + 1) r) = (d + 1) + cnt (fun y => decide (m.getD y.toNat 0 = y) && !decide (y = (x : Int)) && nearB N t m x y) (y + 1) r by omega] at h
          have ih := joins_l1 hN k m hm c many x hx r (y + 1) (d + 1) (by omega) (by omega) h
          refine Ev.succ ((Ev.bind hnear (q := fun f t265 => (if t265 = true then (jacquardref14_joins.l1 f (tab N t) k m c many x (wrap64 ((d : Int) + 1)) (wrap64 ((y : Int) + 1))) else (jacquardref14_joins.l1 f (tab N t) k m c many x d (wrap64 ((y : Int) + 1))))) (ih.congr fun f => by rw [if_pos rfl, hu, hud])).congr fun f => ?_)
          rw [jacquardref14_joins.l1, if_pos (by omega), if_pos (by omega), rd_nat, if_pos e1, if_neg e2]
        | false =>
          rw [hn] at h hnear
          simp only [Bool.toNat_false, Nat.zero_add] at h
          have ih := joins_l1 hN k m hm c many x hx r (y + 1) d (by omega) (by omega) h
          refine Ev.succ ((Ev.bind hnear (q := fun f t265 => (if t265 = true then (jacquardref14_joins.l1 f (tab N t) k m c many x (wrap64 ((d : Int) + 1)) (wrap64 ((y : Int) + 1))) else (jacquardref14_joins.l1 f (tab N t) k m c many x d (wrap64 ((y : Int) + 1))))) (ih.congr fun f => by rw [if_neg (by simp), hu])).congr fun f => ?_)
          rw [jacquardref14_joins.l1, if_pos (by omega), if_pos (by omega), rd_nat, if_pos e1, if_neg e2]
    · have e0 : (decide (m.getD y 0 = (y : Int)) && !decide ((y : Int) = (x : Int)) && nearB N t m x y) = false := by rw [decide_eq_false e1]; simp
      rw [e0] at h
      simp only [Bool.toNat_false, Nat.zero_add] at h
      refine Ev.succ ((joins_l1 hN k m hm c many x hx r (y + 1) d (by omega) (by omega) h).congr fun f => ?_)
      rw [jacquardref14_joins.l1, if_pos (by omega), if_pos (by omega), rd_nat, if_neg e1, hu]

/-- The count of what is made hard. -/
def hardJ (N : Nat) (t : Int → Int → Bool) (m : List Int) (c k : Int) (x : Int) : Bool := decide (m.getD x.toNat 0 = x) && !decide (x = c) && nearB N t m x c && decide (k ≤ (degJ N t m x : Int))
theorem joins_l0 (hN : N ≤ 8192) (k : Int) (m : List Int) (hm : m.length = N) (c : Int) : ∀ (r x many : Nat), x + r = N → many ≤ x →
    Ev (fun f => jacquardref14_joins.l0 f (tab N t) k m c many x) (small k (many + cnt (hardJ N t m c k) x r))
  | 0, x, many, hx, hmy => by
    refine Ev.succ (Ev.of fun f => ?_)
    rw [jacquardref14_joins.l0, if_neg (by omega)]
    rfl
  | r + 1, x, many, hx, hmy => by
    have hxN : x < N := by omega
    have hu := up64 x (by omega)
    have hum := up64 many (by omega)
    rw [cnt_succ]
    have ih0 := joins_l0 hN k m hm c r (x + 1) many (by omega) (by omega)
    have hj1 : hardJ N t m c k x = false → Ev (fun f => jacquardref14_joins.j1 f (tab N t) k m c many x false) (small k (many + ((hardJ N t m c k x).toNat + cnt (hardJ N t m c k) (x + 1) r))) := fun e => by
      rw [e, Bool.toNat_false, Nat.zero_add]
      refine Ev.succ (ih0.congr fun f => ?_)
      rw [jacquardref14_joins.j1, if_neg (by simp), hu]
    by_cases e1 : m.getD x 0 = x
    · by_cases e2 : (x : Int) = c
      · refine Ev.succ ((hj1 (by unfold hardJ; rw [Int.toNat_natCast, decide_eq_true e2]; simp)).congr fun f => ?_)
        rw [jacquardref14_joins.l0, if_pos (by omega), if_pos (by omega), rd_nat, if_pos e1, if_pos e2]
      · have hnear := near_ev (t := t) hN hm (x : Int) c
        refine Ev.succ ((Ev.bind hnear (q := fun f t263 => jacquardref14_joins.j1 f (tab N t) k m c many x t263) ?_).congr fun f => ?_)
        · cases hn : nearB N t m x c with
          | false => exact hj1 (by unfold hardJ; rw [hn]; simp)
          | true =>
            have eh : hardJ N t m c k x = decide (k ≤ (degJ N t m x : Int)) := by unfold hardJ; rw [Int.toNat_natCast, decide_eq_true e1, decide_eq_false e2, hn]; simp
            have hl1 := joins_l1 (t := t) hN k m hm c many x hxN (v := small k (many + ((hardJ N t m c k x).toNat + cnt (hardJ N t m c k) (x + 1) r))) N 0 0 (by omega) (by omega)
            rw [cnt_all, Nat.zero_add] at hl1
            refine Ev.succ ((hl1 ?_).congr fun f => ?_)
            · rw [eh]
              by_cases hk : k ≤ (degJ N t m x : Int)
              · have ih1 := joins_l0 hN k m hm c r (x + 1) (many + 1) (by omega) (by omega)
                rw [decide_eq_true hk, Bool.toNat_true, show many + (1 + cnt (hardJ N t m c k) (x + 1) r) = many + 1 + cnt (hardJ N t m c k) (x + 1) r by omega]
                refine ih1.congr fun f => ?_
                show cond (decide (k ≤ (degJ N t m x : Int))) _ _ = _
                rw [decide_eq_true hk, cond_true, hu, hum]
              · rw [decide_eq_false hk, Bool.toNat_false, Nat.zero_add]
                refine ih0.congr fun f => ?_
                show cond (decide (k ≤ (degJ N t m x : Int))) _ _ = _
                rw [decide_eq_false hk, cond_false, hu]
            · rw [jacquardref14_joins.j1, if_pos rfl]
              rfl
        · rw [jacquardref14_joins.l0, if_pos (by omega), if_pos (by omega), rd_nat, if_pos e1, if_neg e2]
    · refine Ev.succ ((hj1 (by unfold hardJ; rw [Int.toNat_natCast, decide_eq_false e1]; simp)).congr fun f => ?_)
      rw [jacquardref14_joins.l0, if_pos (by omega), if_pos (by omega), rd_nat, if_neg e1]

theorem joins_ev (hN : N ≤ 8192) (hL : L.length = N) (a b k : Int) : Ev (fun f => jacquardref14_joins.f f (tab N t) L a b k) (joinsB N t L a b k) := by
  unfold joinsB
  by_cases e : a = b
  · refine Ev.of fun f => ?_
    rw [jacquardref14_joins.f, if_pos e, decide_eq_true e]; rfl
  · have hnear := near_ev (t := t) hN hL a b
    refine (Ev.bind hnear (q := fun f t258 => (if t258 = true then (some false) else ((jacquardref14_joined.f f L a b).bind fun t259 => (jacquardref14_joins.l0 f (tab N t) k t259 (mn a b) 0 0)))) ?_).congr fun f => ?_
    · rw [decide_eq_false e]
      cases hn : nearB N t L a b with
      | true => exact Ev.of fun f => by rw [if_pos rfl]; rfl
      | false =>
        have hj := joined_ev (L := L) (by omega) a b
        have h0 := joins_l0 (t := t) hN k (joinL L a b) (by rw [joinL_length]; exact hL) (if b < a then b else a) N 0 0 (by omega) (by omega)
        rw [cnt_all, Nat.zero_add] at h0
        refine (Ev.bind hj (q := fun f t259 => jacquardref14_joins.l0 f (tab N t) k t259 (mn a b) 0 0) (h0.congr fun f => rfl)).congr fun f => ?_
        rw [if_neg (by simp)]
    · rw [jacquardref14_joins.f, if_neg e]
end
end Go.Proofs.YtgdmdgkfababeaaEv
