/-
  MergedSafe, in plain Lean. Own work.
-/
import Derived.Test.YtgdmdgkfababeaaPEasy
import Derived.Test.YtgdmdgkfababeaaPSafe
import Derived.Test.YtgdmdgkfababeaaPTops
import Derived.Test.YtgdmdgkfababeaaPBase
import Derived.Test.YtgdmdgkfababeaaM9
namespace Go.Proofs.YtgdmdgkfababeaaEv
open Go Go.RowKit Go.Proofs.YtgdmdgkfababeaaCol Go.Proofs.Ytgdmdgkfababeaa.M Go.Proofs.YtgdmdgkfababeaaW.PrintWords Go.Proofs.YtgdmdgkfababeaaW.PrintMore
open Go.Proofs.YtgdmdgkfababeaaH (pairs colours_length)

section
variable {N : Nat} {t : Int → Int → Bool} {L : List Int} {k : Int} {e : List S44} {up : Bool}

theorem safe_l3 (hN : N ≤ 8192) (is : Bool) {got : List Int} (hg : got.length = N) (hpos : ∀ i : Nat, i < N → 0 ≤ got.getD i 0) : ∀ (m i : Nat), i + m = N → Ev (fun f => jacquardlaw14_MergedSafe.l3 f up N is got i) (up && is)
  | 0, i, hi => by
    refine Ev.succ (Ev.of fun f => ?_)
    rw [jacquardlaw14_MergedSafe.l3, if_neg (by omega), hg]
    cases up <;> cases is <;> simp
  | m + 1, i, hi => by
    refine Ev.succ ((safe_l3 hN is hg hpos m (i + 1) (by omega)).congr fun f => ?_)
    have := hpos i (by omega)
    rw [jacquardlaw14_MergedSafe.l3, if_pos (by omega), if_pos (by omega), rd_nat, if_neg (by omega), up64 i (by omega)]

theorem safe_l2 (hN : N ≤ 8192) (hL : L.length = N) (hk : k ≤ 1000000) (is : Bool) (hin : Inside N e) (hcol : ∀ i : Nat, i < N → 0 ≤ (colours N k (classed L (pairs e))).getD i 0) : ∀ (m i : Nat) (out : List S44), i + m = e.length → out = (e.take i).map (fun p => (⟨L.getD p.f0.toNat 0, L.getD p.f1.toNat 0⟩ : S44)) →
    Ev (fun f => jacquardlaw14_MergedSafe.l2 f up N e k L is out i) (up && is)
  | 0, i, out, hi, ho => by
    have hpe : pairs out = classed L (pairs e) := by
      rw [ho, List.take_of_length_le (by omega)]
      unfold pairs classed
      rw [List.map_map, List.map_map]
      rfl
    have hol : out.length ≤ 1000000 := by rw [ho]; have := hin.1; simp; omega
    have h3 := safe_l3 (up := up) hN is (colours_length N hN k (classed L (pairs e))) hcol N 0 (by omega)
    have hc := colour_ev (N : Int) k hk out hol
    rw [hpe] at hc
    refine Ev.succ ((Ev.bind hc (q := fun f t381 => jacquardlaw14_MergedSafe.l3 f up N is t381 0) h3).congr fun f => ?_)
    rw [jacquardlaw14_MergedSafe.l2, if_neg (by omega)]
  | m + 1, i, out, hi, ho => by
    have hil : i < e.length := by omega
    have hlen := hin.1
    have hol : out.length = i := by rw [ho]; simp; omega
    have hp : rd_T44 e (i : Int) = e[i] := by unfold rd_T44; rw [Int.toNat_natCast, List.getD_eq_getElem?_getD, List.getElem?_eq_getElem hil]; rfl
    obtain ⟨h1, h2⟩ := hin.2 e[i] (List.getElem_mem hil)
    have ih := safe_l2 hN hL hk is hin hcol m (i + 1) (out ++ [(⟨L.getD e[i].f0.toNat 0, L.getD e[i].f1.toNat 0⟩ : S44)]) (by omega) (by rw [List.take_succ_eq_append_getElem hil, List.map_append, ← ho]; rfl)
    refine Ev.succ (ih.congr fun f => ?_)
    rw [jacquardlaw14_MergedSafe.l2, if_pos (by omega), if_pos (by omega), hp, if_pos h1.1, if_pos (by omega), if_pos h2.1, if_pos (by omega), if_pos (by omega), up64 i (by omega)]
    rfl

theorem safe_l1 (hN : N ≤ 8192) (hL : L.length = N) (own : List Int) (a : Nat) (ha : a < N) (hap : ∀ b : Nat, b < N → t a b = true → L.getD a 0 ≠ L.getD b 0) {v : Bool} (h : Ev (fun f => jacquardlaw14_MergedSafe.l0 f up N e k (tab N t) L own ((a + 1 : Nat) : Int)) v) : ∀ (m b : Nat), b + m = N →
    Ev (fun f => jacquardlaw14_MergedSafe.l1 f up N e k (tab N t) L own a b) v
  | 0, b, hb => by
    refine Ev.succ (h.congr fun f => ?_)
    rw [jacquardlaw14_MergedSafe.l1, if_neg (by omega), up64 a (by omega)]
  | m + 1, b, hb => by
    have hbN : b < N := by omega
    have hu := up64 b (by omega)
    refine Ev.succ ((safe_l1 hN hL own a ha hap h m (b + 1) (by omega)).congr fun f => ?_)
    cases hab : t (a : Int) (b : Int) with
    | true => rw [jacquardlaw14_MergedSafe.l1, if_pos (by omega), if_pos (by omega), if_pos (by rw [tab_length]; omega), if_pos (by omega), if_pos (by rw [tab_row_length a ha]; omega), tab_at a b ha hbN, hab, if_pos rfl, if_pos (by omega), if_pos (by omega), rd_nat, rd_nat, if_neg (hap b hbN hab), hu]
    | false => rw [jacquardlaw14_MergedSafe.l1, if_pos (by omega), if_pos (by omega), if_pos (by rw [tab_length]; omega), if_pos (by omega), if_pos (by rw [tab_row_length a ha]; omega), tab_at a b ha hbN, hab, if_neg (by simp), hu]

theorem safe_l0 (hN : N ≤ 8192) (hL : L.length = N) (hge : ∀ a : Nat, a < N → 0 ≤ L.getD a 0 ∧ L.getD a 0 ≤ a ∧ L.getD (L.getD a 0).toNat 0 = L.getD a 0) (hap : ∀ a b : Nat, a < N → b < N → t a b = true → L.getD a 0 ≠ L.getD b 0)
    {v : Bool} (h : Ev (fun f => (jacquardref14_Easy.f f N e ((List.range N).map fun i : Nat => (i : Int)) k).bind fun t372 => ((jacquardref14_Easy.f f N e L k).bind fun t373 => (if t372 = true then (jacquardlaw14_MergedSafe.l2 f up N e k L t373 ([] : List S44) 0) else (some up)))) v) : ∀ (m a : Nat) (own : List Int), a + m = N → own = (List.range a).map (fun i : Nat => (i : Int)) →
    Ev (fun f => jacquardlaw14_MergedSafe.l0 f up N e k (tab N t) L own a) v
  | 0, a, own, ha, ho => by
    have : a = N := by omega
    subst this
    refine Ev.succ (h.congr fun f => ?_)
    rw [jacquardlaw14_MergedSafe.l0, if_neg (by omega), ho]
  | m + 1, a, own, ha, ho => by
    have haN : a < N := by omega
    have hol : own.length = a := by rw [ho]; simp
    obtain ⟨g1, g2, g3⟩ := hge a haN
    obtain ⟨r, hr⟩ : ∃ r : Nat, L.getD a 0 = (r : Int) := ⟨(L.getD a 0).toNat, by omega⟩
    rw [hr] at g1 g2 g3
    rw [Int.toNat_natCast] at g3
    have ih := safe_l0 hN hL hge hap h m (a + 1) (own ++ [(a : Int)]) (by omega) (by rw [ho, List.range_succ, List.map_append]; rfl)
    have h1 := safe_l1 (t := t) hN hL (own ++ [(a : Int)]) a haN (fun b hb hab => hap a b haN hb hab) ih N 0 (by omega)
    have hj : Ev (fun f => jacquardlaw14_MergedSafe.j1 f up N e k (tab N t) L (own ++ [(a : Int)]) a false) v := by
      refine Ev.succ (h1.congr fun f => ?_)
      rw [jacquardlaw14_MergedSafe.j1, if_neg (by simp)]
      rfl
    refine Ev.succ (hj.congr fun f => ?_)
    rw [jacquardlaw14_MergedSafe.l0, if_pos (by omega), if_pos (by omega), Option.bind_some, if_pos (by omega), if_pos (by omega), rd_nat, hr, if_neg (by omega), if_neg (by omega), if_pos (by omega), if_pos (by omega), rd_nat, g3]
    simp
end

theorem inside_in {N : Nat} {e : List S44} (h : Inside N e) : ∀ p ∈ pairs e, (0 ≤ p.1 ∧ p.1 < N) ∧ 0 ≤ p.2 ∧ p.2 < N := fun p hp => by
  unfold pairs at hp
  obtain ⟨q, hq, rfl⟩ := List.mem_map.1 hp
  exact h.2 q hq

theorem ident_getD {N : Nat} (i : Nat) (hi : i < N) : ((List.range N).map (fun i : Nat => (i : Int))).getD i 0 = i := by
  rw [List.getD_eq_getElem?_getD, List.getElem?_map, List.getElem?_range hi]; rfl

theorem mergedSafe_pure (a0 : Int) (l1 l2 : List Int) (a2 : Int) : ∃ f, jacquardlaw14_MergedSafe.f f a0 l1 l2 a2 = some true := by
  refine Ev.some ?_
  unfold jacquardlaw14_MergedSafe.f
  refine Ev.bind awake_ev ?_
  refine Ev.bind (rest_ev a0 10 (by omega)) ?_
  have h10 := rst_in a0 10 (by omega) (by omega)
  have h6 := rst_in a2 6 (by omega) (by omega)
  generalize rst a0 10 = n at *
  rw [w64 (n := 1 + n) (by omega) (by omega)]
  obtain ⟨N, hNe⟩ : ∃ N : Nat, 1 + n = (N : Int) := ⟨(1 + n).toNat, by omega⟩
  rw [hNe]
  have hN : N ≤ 8192 := by omega
  obtain ⟨e, he, hein⟩ := made_ev (N : Int) (by omega) (by omega) l1
  obtain ⟨m, hm, hmin⟩ := made_ev (N : Int) (by omega) (by omega) l2
  have hel : e.length ≤ 1000000 := by have := hein.1; omega
  have hml : m.length ≤ 1000000 := by have := hmin.1; omega
  refine Ev.bind he ?_
  refine Ev.bind hm ?_
  refine Ev.bind (rest_ev a2 6 (by omega)) ?_
  generalize rst a2 6 = c at *
  rw [w64 (n := 1 + c) (by omega) (by omega)]
  refine Ev.bind (table_ev N hN e hel) ?_
  refine Ev.bind (merged_ev (N : Int) (1 + c) e m hel hml) ?_
  have hk1 : 1 ≤ 1 + c := by omega
  have hk2 : 1 + c ≤ 1000000 := by omega
  generalize 1 + c = k at *
  have hlen := Go.Proofs.YtgdmdgkfababeaaH.merged_length N hN k (pairs e) (pairs m)
  rw [hlen]
  simp only [if_true]
  have htops := merged_tops N hN k (pairs e) (pairs m)
  -- what merging kept
  have hS0 := same_start N (pairs e)
  have hsafe0 : Go.Proofs.YtgdmdgkfababeaaCol.Safe N (adjOf N (pairs e)) k (NoCore N (adjOf N (pairs e)) k) (merStart N (adjOf N (pairs e))) := by
    refine ⟨⟨_, hS0⟩, fun i j hi hj ht => ?_, fun h => h⟩
    rw [← hS0.top i hi, ← hS0.top j hj, ident_getD i hi, ident_getD j hj]
    intro e3
    rw [e3] at ht
    rw [adjOf_irr] at ht; cases ht
  have hsafe := hsafe0.go (adjOf_symm N (pairs e)) hk1 (pairs m) (N + 1)
  generalize mergeGo N k (pairs m) (N + 1) (merStart N (adjOf N (pairs e))) = s at htops hsafe
  obtain ⟨L, hS⟩ := hsafe.same
  have hLt := same_tops hS
  rw [← hLt] at htops
  rw [htops]
  have hge : ∀ a : Nat, a < N → 0 ≤ L.getD a 0 ∧ L.getD a 0 ≤ a ∧ L.getD (L.getD a 0).toNat 0 = L.getD a 0 := fun a ha => by
    obtain ⟨r0, r1, r2⟩ := find_root hS.ok.le a ha
    rw [hS.top a ha]
    obtain ⟨r, hr⟩ : ∃ r : Nat, find s.cls a = (r : Int) := ⟨(find s.cls a).toNat, by omega⟩
    rw [hr] at r0 r1 r2 ⊢
    rw [Int.toNat_natCast] at r2 ⊢
    exact ⟨r0, r1, (hS.root (by omega)).2 r2⟩
  have hap : ∀ a b : Nat, a < N → b < N → adjOf N (pairs e) a b = true → L.getD a 0 ≠ L.getD b 0 := fun a b ha hb hab => by
    rw [hS.top a ha, hS.top b hb]
    exact hsafe.apart a b ha hb hab
  refine safe_l0 hN hS.len hge hap ?_ N 0 [] (by omega) rfl
  have hw := easy_ev N hN e hel ((List.range N).map fun i : Nat => (i : Int)) (by simp) k
  have hi := easy_ev N hN e hel L hS.len k
  refine Ev.bind hw ?_
  refine Ev.bind hi ?_
  cases hwas : easyB N (fun a b => nearB N (adjOf N (pairs e)) ((List.range N).map fun i : Nat => (i : Int)) a b) k (rootsB N ((List.range N).map fun i : Nat => (i : Int))) with
  | false => exact Ev.of fun f => by rw [if_neg (by simp)]
  | true =>
    have hr : rootsB N ((List.range N).map fun i : Nat => (i : Int)) = List.replicate N true := by
      apply List.ext_getElem
      · simp [rootsB]
      · intro i h1 h2
        have hi : i < N := by simpa using h2
        simp only [rootsB, List.getElem_map, List.getElem_range, List.getElem_replicate]
        exact decide_eq_true (ident_getD i hi)
    rw [hr] at hwas
    have hno := easy_noCore hwas
    have hno1 : NoCore N (adjOf N (pairs e)) k := noCore_sub hno (fun a b ha hb _ hab => nearB_true.2 ⟨a, b, ha, hb, ident_getD a ha, ident_getD b hb, hab⟩)
    have hcore := hsafe.core hno1
    have hnoL : NoCore N (fun a b => nearB N (adjOf N (pairs e)) L a b) k := noCore_sub hcore (fun a b ha hb hab hn => hS.near_root ha hb hab hn)
    have hnoC : NoCore N (adjOf N (classed L (pairs e))) k := noCore_sub hnoL (fun a b _ _ _ h => classed_near (inside_in hein) h)
    have his := noCore_easy hnoL (there := rootsB N L) (by simp [rootsB])
    rw [his]
    have h2 := safe_l2 (up := true) (L := L) hN hS.len hk2 true hein (fun i hi => colours_all N hN k hk1 _ hnoC i hi) e.length 0 [] (by omega) rfl
    exact h2.congr fun f => by rw [if_pos rfl]; rfl
end Go.Proofs.YtgdmdgkfababeaaEv
