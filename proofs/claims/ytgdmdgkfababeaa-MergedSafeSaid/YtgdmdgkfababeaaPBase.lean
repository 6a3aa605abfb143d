/-
  What the laws' own helpers answer. Own work.
-/
import Derived.Test.YtgdmdgkfababeaaEv
import Derived.Test.YtgdmdgkfababeaaM1
namespace Go.Proofs.YtgdmdgkfababeaaEv
open Go Go.RowKit Go.Proofs.YtgdmdgkfababeaaCol Go.Proofs.Ytgdmdgkfababeaa.M Go.Proofs.YtgdmdgkfababeaaW.PrintWords Go.Proofs.YtgdmdgkfababeaaW.PrintMore
open Go.Proofs.YtgdmdgkfababeaaH (pairs)

theorem nums_l0 (a b : List Int) (hl : a.length = b.length) (hb : a.length ≤ 1000000) : ∀ (m i : Nat), i + m = a.length → Ev (fun f => jacquardref14_Nums.l0 f a b i) (decide (a.drop i = b.drop i))
  | 0, i, hi => by
    refine Ev.succ (Ev.of fun f => ?_)
    rw [jacquardref14_Nums.l0, if_neg (by omega), List.drop_of_length_le (by omega), List.drop_of_length_le (by omega)]
    simp
  | m + 1, i, hi => by
    refine Ev.succ ?_
    have h1 : i < a.length := by omega
    have h2 : i < b.length := by omega
    have e1 : rd a (i : Int) = a[i] := by rw [rd_nat, List.getD_eq_getElem?_getD, List.getElem?_eq_getElem h1]; rfl
    have e2 : rd b (i : Int) = b[i] := by rw [rd_nat, List.getD_eq_getElem?_getD, List.getElem?_eq_getElem h2]; rfl
    rw [List.drop_eq_getElem_cons h1, List.drop_eq_getElem_cons h2]
    by_cases e : a[i] = b[i]
    · have ih := nums_l0 a b hl hb m (i + 1) (by omega)
      have : decide (a[i] :: a.drop (i + 1) = b[i] :: b.drop (i + 1)) = decide (a.drop (i + 1) = b.drop (i + 1)) := by congr 1; apply propext; exact ⟨fun h => (List.cons.inj h).2, fun h => by rw [e, h]⟩
      rw [this]
      exact ih.congr (fun f => by rw [jacquardref14_Nums.l0, if_pos (by omega), if_pos (by omega), if_pos (by omega), e1, e2, if_pos e, up64 i (by omega)])
    · refine Ev.of (fun f => ?_)
      rw [jacquardref14_Nums.l0, if_pos (by omega), if_pos (by omega), if_pos (by omega), e1, e2, if_neg e, decide_eq_false (fun h => e (List.cons.inj h).1)]
theorem nums_ev (a b : List Int) (hb : a.length ≤ 1000000) : Ev (fun f => jacquardref14_Nums.f f a b) (decide (a = b)) := by
  by_cases hl : a.length = b.length
  · have := nums_l0 a b hl hb a.length 0 (by omega)
    simp only [List.drop_zero] at this
    exact this.congr (fun f => by rw [jacquardref14_Nums.f, if_pos (by omega)]; rfl)
  · refine Ev.of (fun f => ?_)
    rw [jacquardref14_Nums.f, if_neg (by omega), decide_eq_false (fun h => hl (by rw [h]))]

/-- The number's rest, from 0 on. -/
def rst (x n : Int) : Int := Int.tmod (wrap64 (Int.tmod x n + n)) n
theorem rst_in (x n : Int) (h : 0 < n) (hn : n ≤ 1000000) : 0 ≤ rst x n ∧ rst x n < n := by
  have h1 : Int.tmod x n < n := Int.tmod_lt_of_pos x h
  have h2 : -n < Int.tmod x n := by
    have := Int.tmod_lt_of_pos (-x) h
    rw [Int.neg_tmod] at this
    omega
  unfold rst
  rw [w64 (by omega) (by omega)]
  exact ⟨Int.tmod_nonneg _ (by omega), Int.tmod_lt_of_pos _ h⟩
theorem rest_ev (x n : Int) (h : 0 < n) : Ev (fun _ => jacquardlaw14_rest.f x n) (rst x n) := Ev.of (fun _ => by rw [jacquardlaw14_rest.f, if_neg (by omega)]; rfl)

/-- Pairs of nodes below n. -/
def Inside (n : Int) (l : List S44) : Prop := l.length ≤ 30 ∧ ∀ p ∈ l, (0 ≤ p.f0 ∧ p.f0 < n) ∧ 0 ≤ p.f1 ∧ p.f1 < n

theorem made_l0 (n : Int) (h : 0 < n) (hn : n ≤ 8192) (s : List Int) : ∀ (m j : Nat) (out : List S44), j + m = 30 → out.length = j → Inside n out → ∃ l, Ev (fun f => jacquardref14_Made.l0 f n s out ((2 * j : Nat) : Int)) l ∧ Inside n l
  | 0, j, out, hj, ho, hi => by
    refine ⟨out, Ev.succ (Ev.of fun f => ?_), hi⟩
    rw [jacquardref14_Made.l0, w64 (by omega) (by omega)]
    split
    · rw [if_neg (by omega)]
    · rfl
  | m + 1, j, out, hj, ho, hi => by
    have hw1 : wrap64 (((2 * j : Nat) : Int) + 1) = ((2 * j : Nat) : Int) + 1 := w64 (by omega) (by omega)
    have hw2 : wrap64 (((2 * j : Nat) : Int) + 2) = ((2 * (j + 1) : Nat) : Int) := by rw [w64 (by omega) (by omega)]; omega
    by_cases hlt : ((2 * j : Nat) : Int) + 1 < (s.length : Int)
    · obtain ⟨l, hl, hli⟩ := made_l0 n h hn s m (j + 1) (out ++ [(⟨Int.tmod (wrap64 ((Int.tmod (rd s ((2 * j : Nat) : Int)) n) + n)) n, Int.tmod (wrap64 ((Int.tmod (rd s (((2 * j : Nat) : Int) + 1)) n) + n)) n⟩ : S44)]) (by omega) (by simp [ho]) (by
        refine ⟨by simp; omega, fun p hp => ?_⟩
        rcases List.mem_append.1 hp with hp | hp
        · exact hi.2 p hp
        · rw [List.mem_singleton] at hp
          subst hp
          exact ⟨rst_in _ n h (by omega), rst_in _ n h (by omega)⟩)
      refine ⟨l, Ev.succ (hl.congr fun f => ?_), hli⟩
      rw [jacquardref14_Made.l0, hw1, if_pos hlt, if_pos (by omega), if_pos (by omega), if_pos (by omega), if_neg (by omega), if_pos (by omega), if_pos (by omega), hw2]
    · refine ⟨out, Ev.succ (Ev.of fun f => ?_), hi⟩
      rw [jacquardref14_Made.l0, hw1, if_neg hlt]
theorem made_ev (n : Int) (h : 0 < n) (hn : n ≤ 8192) (s : List Int) : ∃ l, Ev (fun f => jacquardref14_Made.f f n s) l ∧ Inside n l :=
  made_l0 n h hn s 30 0 [] (by omega) rfl ⟨by simp, fun p hp => by simp at hp⟩

theorem colour_ev (n k : Int) (hk : k ≤ 1000000) (l : List S44) (hl : l.length ≤ 1000000) : Ev (fun _ => colour_Colours.f n l k) (colours n k (pairs l)) := Ev.of (fun _ => by rw [colour_Colours.f, if_pos ⟨hl, hk⟩])
theorem merged_ev (n k : Int) (l ms : List S44) (hl : l.length ≤ 1000000) (hm : ms.length ≤ 1000000) : Ev (fun _ => colour_Merged.f n l ms k) (merged n k (pairs l) (pairs ms)) := Ev.of (fun _ => by rw [colour_Merged.f, if_pos ⟨hl, hm⟩])

theorem awake_ev : Ev (fun f => jacquardlaw14_awake.f f) true := by
  unfold jacquardlaw14_awake.f
  refine Ev.bind (Ev.pure _) ?_
  refine Ev.bind (colour_ev 3 3 (by omega) _ (by simp)) ?_
  refine Ev.bind (nums_ev _ _ (by decide)) ?_
  refine Ev.bind (colour_ev 3 2 (by omega) _ (by simp)) ?_
  refine Ev.bind (nums_ev _ _ (by decide)) ?_
  refine Ev.bind (merged_ev 3 2 _ _ (by simp) (by simp)) ?_
  refine Ev.bind (nums_ev _ _ (by decide)) ?_
  exact Ev.of (fun f => by decide)

end Go.Proofs.YtgdmdgkfababeaaEv
