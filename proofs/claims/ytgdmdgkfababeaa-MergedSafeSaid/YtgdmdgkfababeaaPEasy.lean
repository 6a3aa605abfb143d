/-
  Can all classes be taken away: what the document's function answers. Own work.
-/
import Derived.Test.YtgdmdgkfababeaaPNear
import Derived.Test.YtgdmdgkfababeaaPSafe
import Derived.Test.YtgdmdgkfababeaaM8
namespace Go.Proofs.YtgdmdgkfababeaaEv
open Go Go.RowKit Go.Proofs.YtgdmdgkfababeaaCol Go.Proofs.Ytgdmdgkfababeaa.M Go.Proofs.YtgdmdgkfababeaaW.PrintWords Go.Proofs.YtgdmdgkfababeaaW.PrintMore
open Go.Proofs.YtgdmdgkfababeaaH (pairs)

section
variable {N : Nat} {t : Int → Int → Bool} {L : List Int}

theorem easy_l3 (hN : N ≤ 8192) (hL : L.length = N) (kk : Int) (rd_ : Int) {there : List Bool} (hl : there.length = N) (a : Nat) (ha : a < N) {v : Bool} (h : Ev (fun f => jacquardref14_Easy.l2 f N L kk (tab N t) (sweepAt N (fun a b => nearB N t L a b) kk there a) rd_ ((a + 1 : Nat) : Int)) v) : ∀ (m b d : Nat), b + m = N → d ≤ b →
    (there.getD a false = true → d + cnt (fun b => there.getD b.toNat false && !decide (b = (a : Int)) && nearB N t L a b) b m = degE N (fun a b => nearB N t L a b) there a) →
    Ev (fun f => jacquardref14_Easy.l3 f N L kk (tab N t) there rd_ a d b) v
  | 0, b, d, hb, hd, hc => by
    refine Ev.succ (h.congr fun f => ?_)
    rw [jacquardref14_Easy.l3, if_neg (by omega), if_pos (by omega), if_pos (by omega), rdb_nat, up64 a (by omega)]
    unfold sweepAt
    cases hta : there.getD a false with
    | false => rw [if_neg (by simp), if_neg (by simp)]
    | true =>
      have hc' := hc hta
      have hde : d = degE N (fun a b => nearB N t L a b) there a := by
        have : cnt (fun b => there.getD b.toNat false && !decide (b = (a : Int)) && nearB N t L a b) b 0 = 0 := rfl
        omega
      rw [if_pos rfl, Int.toNat_natCast]
      by_cases hk : (d : Int) < kk
      · rw [if_pos hk, if_pos ⟨rfl, by rw [← hde]; exact hk⟩]
      · rw [if_neg hk, if_neg (fun h => hk (by rw [hde]; exact h.2))]
  | m + 1, b, d, hb, hd, hc => by
    have hbN : b < N := by omega
    have hu := up64 b (by omega)
    have hud := up64 d (by omega)
    cases hta : there.getD a false with
    | false =>
      refine Ev.succ ((easy_l3 hN hL kk rd_ hl a ha h m (b + 1) d (by omega) (by omega) (fun e => by rw [hta] at e; cases e)).congr fun f => ?_)
      rw [jacquardref14_Easy.l3, if_pos (by omega), if_pos (by omega), if_pos (by omega), rdb_nat, hta, if_neg (by simp), hu]
    | true =>
      have hc' := hc hta
      rw [cnt_succ] at hc'
      simp only [Int.toNat_natCast] at hc'
      cases htb : there.getD b false with
      | false =>
        rw [htb] at hc'
        simp only [Bool.false_and, Bool.toNat_false, Nat.zero_add] at hc'
        refine Ev.succ ((easy_l3 hN hL kk rd_ hl a ha h m (b + 1) d (by omega) (by omega) (fun _ => hc')).congr fun f => ?_)
        rw [jacquardref14_Easy.l3, if_pos (by omega), if_pos (by omega), if_pos (by omega), rdb_nat, hta, if_pos rfl, if_pos (by omega), if_pos (by omega), rdb_nat, htb, if_neg (by simp), hu]
      | true =>
        rw [htb] at hc'
        by_cases eab : a = b
        · subst eab
          simp only [decide_true, Bool.not_true, Bool.and_false, Bool.false_and, Bool.toNat_false, Nat.zero_add] at hc'
          refine Ev.succ ((easy_l3 hN hL kk rd_ hl a ha h m (a + 1) d (by omega) (by omega) (fun _ => hc')).congr fun f => ?_)
          rw [jacquardref14_Easy.l3, if_pos (by omega), if_pos (by omega), if_pos (by omega), rdb_nat, hta, if_pos rfl, if_pos (by omega), if_pos (by omega), if_pos rfl, if_pos rfl, hu]
        · have n1 : decide ((b : Int) = (a : Int)) = false := decide_eq_false (by omega)
          rw [n1] at hc'
          simp only [Bool.not_false, Bool.and_true, Bool.true_and] at hc'
          have hnear := near_ev (t := t) hN hL (a : Int) (b : Int)
          cases hn : nearB N t L a b with
          | true =>
            rw [hn] at hc' hnear
            simp only [Bool.toNat_true] at hc'
            have ih := easy_l3 hN hL kk rd_ hl a ha h m (b + 1) (d + 1) (by omega) (by omega) (fun _ => by omega)
            refine Ev.succ ((Ev.bind hnear (q := fun f t340 => (if t340 = true then (jacquardref14_Easy.l3 f N L kk (tab N t) there rd_ a (wrap64 ((d : Int) + 1)) (wrap64 ((b : Int) + 1))) else (jacquardref14_Easy.l3 f N L kk (tab N t) there rd_ a d (wrap64 ((b : Int) + 1))))) (ih.congr fun f => by rw [if_pos rfl, hu, hud])).congr fun f => ?_)
            rw [jacquardref14_Easy.l3, if_pos (by omega), if_pos (by omega), if_pos (by omega), rdb_nat, hta, if_pos rfl, if_pos (by omega), if_pos (by omega), rdb_nat, htb, if_pos rfl, if_neg (by omega)]
          | false =>
            rw [hn] at hc' hnear
            simp only [Bool.toNat_false, Nat.zero_add] at hc'
            have ih := easy_l3 hN hL kk rd_ hl a ha h m (b + 1) d (by omega) (by omega) (fun _ => hc')
            refine Ev.succ ((Ev.bind hnear (q := fun f t340 => (if t340 = true then (jacquardref14_Easy.l3 f N L kk (tab N t) there rd_ a (wrap64 ((d : Int) + 1)) (wrap64 ((b : Int) + 1))) else (jacquardref14_Easy.l3 f N L kk (tab N t) there rd_ a d (wrap64 ((b : Int) + 1))))) (ih.congr fun f => by rw [if_neg (by simp), hu])).congr fun f => ?_)
            rw [jacquardref14_Easy.l3, if_pos (by omega), if_pos (by omega), if_pos (by omega), rdb_nat, hta, if_pos rfl, if_pos (by omega), if_pos (by omega), rdb_nat, htb, if_pos rfl, if_neg (by omega)]

theorem easy_l2 (hN : N ≤ 8192) (hL : L.length = N) (kk : Int) (r : Nat) (hr : r ≤ 8192) {v : Bool} : ∀ (m i : Nat) (there : List Bool), there.length = N → i + m = N →
    Ev (fun f => jacquardref14_Easy.l1 f N L kk (tab N t) (sweepFrom N (fun a b => nearB N t L a b) kk there i m) ((r + 1 : Nat) : Int)) v → Ev (fun f => jacquardref14_Easy.l2 f N L kk (tab N t) there r i) v
  | 0, i, there, hl, hi, h => by
    refine Ev.succ (h.congr fun f => ?_)
    rw [jacquardref14_Easy.l2, if_neg (by omega), up64 r (by omega)]
    rfl
  | m + 1, i, there, hl, hi, h => by
    rw [sweepFrom_succ] at h
    have ih := easy_l2 hN hL kk r hr m (i + 1) _ (by rw [sweepAt_length]; exact hl) (by omega) h
    have h3 := easy_l3 (t := t) hN hL kk r hl i (by omega) ih N 0 0 (by omega) (by omega) (fun _ => by rw [cnt_all, Nat.zero_add]; rfl)
    refine Ev.succ (h3.congr fun f => ?_)
    rw [jacquardref14_Easy.l2, if_pos (by omega)]
    rfl

theorem easy_l4 (hN : N ≤ 8192) {there : List Bool} (hl : there.length = N) : ∀ (m i : Nat), i + m = N → Ev (fun f => jacquardref14_Easy.l4 f N there i) ((List.range' i m).all fun i : Nat => !(there.getD i false))
  | 0, i, hi => by
    refine Ev.succ (Ev.of fun f => ?_)
    rw [jacquardref14_Easy.l4, if_neg (by omega)]
    rfl
  | m + 1, i, hi => by
    rw [List.range'_succ, List.all_cons]
    cases ht : there.getD i false with
    | true =>
      refine Ev.succ (Ev.of fun f => ?_)
      rw [jacquardref14_Easy.l4, if_pos (by omega), if_pos (by omega), if_pos (by omega), rdb_nat, ht, if_pos rfl]
      rfl
    | false =>
      have ih := easy_l4 hN hl m (i + 1) (by omega)
      simp only [Bool.not_false, Bool.true_and]
      refine Ev.succ (ih.congr fun f => ?_)
      rw [jacquardref14_Easy.l4, if_pos (by omega), if_pos (by omega), if_pos (by omega), rdb_nat, ht, if_neg (by simp), up64 i (by omega)]

theorem easy_l1 (hN : N ≤ 8192) (hL : L.length = N) (kk : Int) : ∀ (m r : Nat) (there : List Bool), there.length = N → r + m = N →
    Ev (fun f => jacquardref14_Easy.l1 f N L kk (tab N t) there r) ((List.range N).all fun i : Nat => !((roundsE N (fun a b => nearB N t L a b) kk m there).getD i false))
  | 0, r, there, hl, hr => by
    have h4 := easy_l4 hN hl N 0 (by omega)
    rw [← List.range_eq_range'] at h4
    refine Ev.succ (h4.congr fun f => ?_)
    rw [jacquardref14_Easy.l1, if_neg (by omega)]
    rfl
  | m + 1, r, there, hl, hr => by
    have ih := easy_l1 hN hL kk m (r + 1) (sweepFrom N (fun a b => nearB N t L a b) kk there 0 N) (by rw [sweepFrom_length]; exact hl) (by omega)
    have h2 := easy_l2 (t := t) hN hL kk r (by omega) N 0 there hl (by omega) ih
    refine Ev.succ (h2.congr fun f => ?_)
    rw [jacquardref14_Easy.l1, if_pos (by omega)]
    rfl

def rootsB (N : Nat) (L : List Int) : List Bool := (List.range N).map fun i : Nat => decide (L.getD i 0 = (i : Int))
theorem easy_l0 (hN : N ≤ 8192) (hL : L.length = N) (kk : Int) {v : Bool} (h : Ev (fun f => jacquardref14_Easy.l1 f N L kk (tab N t) (rootsB N L) 0) v) : ∀ (m i : Nat) (there : List Bool), i + m = N → there = (List.range N).map (fun j : Nat => if j < i then decide (L.getD j 0 = (j : Int)) else false) →
    Ev (fun f => jacquardref14_Easy.l0 f N L kk (tab N t) there i) v
  | 0, i, there, hi, ht => by
    have e : there = rootsB N L := by
      rw [ht]
      apply List.map_congr_left
      intro j hj
      rw [if_pos (by have := List.mem_range.1 hj; omega)]
    refine Ev.succ (h.congr fun f => ?_)
    rw [jacquardref14_Easy.l0, if_neg (by omega), e]
  | m + 1, i, there, hi, ht => by
    have hl : there.length = N := by rw [ht]; simp
    refine Ev.succ ((easy_l0 hN hL kk h m (i + 1) (there.set i (decide (L.getD i 0 = (i : Int)))) (by omega) ?_).congr fun f => ?_)
    · rw [ht]
      apply List.ext_getElem
      · simp
      · intro j h1 h2
        simp only [List.getElem_set, List.getElem_map, List.getElem_range]
        by_cases e : i = j
        · subst e; simp
        · rw [if_neg e]
          by_cases h : j < i
          · rw [if_pos h, if_pos (by omega)]
          · rw [if_neg h, if_neg (by omega)]
    · rw [jacquardref14_Easy.l0, if_pos (by omega), if_pos (by omega), if_pos (by omega), if_pos (by omega), Int.toNat_natCast, up64 i (by omega), rd_nat]
      rfl
end

theorem easy_ev (N : Nat) (hN : N ≤ 8192) (l : List S44) (hl : l.length ≤ 1000000) (L : List Int) (hL : L.length = N) (kk : Int) : Ev (fun f => jacquardref14_Easy.f f N l L kk) (easyB N (fun a b => nearB N (adjOf N (pairs l)) L a b) kk (rootsB N L)) := by
  have h1 := easy_l1 (t := adjOf N (pairs l)) hN hL kk N 0 (rootsB N L) (by simp [rootsB]) (by omega)
  have h0 := easy_l0 (t := adjOf N (pairs l)) hN hL kk h1 N 0 (List.replicate N false) (by omega) (by apply List.ext_getElem <;> simp)
  refine (Ev.bind (table_ev N hN l hl) (q := fun f t330 => (if 0 ≤ (N : Int) then (if ((N : Int) : Int).toNat ≤ 281474976710656 then (jacquardref14_Easy.l0 f N L kk t330 (List.replicate ((N : Int) : Int).toNat false) 0) else (none)) else (none))) (h0.congr fun f => ?_)).congr fun f => ?_
  · rw [if_pos (by omega), if_pos (by omega), Int.toNat_natCast]; rfl
  · rw [jacquardref14_Easy.f]
end Go.Proofs.YtgdmdgkfababeaaEv
