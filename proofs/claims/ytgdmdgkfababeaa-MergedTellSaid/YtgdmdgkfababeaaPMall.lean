/-
  The document's answer for classes is the program's. Own work.
-/
import Derived.Test.YtgdmdgkfababeaaPMev
import Derived.Test.YtgdmdgkfababeaaHMerged
namespace Go.Proofs.YtgdmdgkfababeaaEv
open Go Go.RowKit Go.Proofs.YtgdmdgkfababeaaCol Go.Proofs.Ytgdmdgkfababeaa.M Go.Proofs.YtgdmdgkfababeaaW.PrintWords Go.Proofs.YtgdmdgkfababeaaW.PrintMore
open Go.Proofs.YtgdmdgkfababeaaH (pairs pairs_drop mergeRound_none mergeRound_some mergeOne_out mergeOne_in mergeGo_ok mergedOf_ok)

section
variable {N : Nat} {t : Int → Int → Bool}

def tops (N : Nat) (s : Mer) : List Int := (List.range N).map fun i : Nat => find s.cls (i : Int)
theorem same_tops {s : Mer} {L : List Int} (h : Same N t s L) : L = tops N s := by
  apply List.ext_getElem
  · rw [h.len]; simp [tops]
  · intro i h1 h2
    have hi : i < N := by simpa [tops] using h2
    have := h.top i hi
    rw [List.getD_eq_getElem?_getD, List.getElem?_eq_getElem h1] at this
    simp only [tops, List.getElem_map, List.getElem_range]
    exact this

theorem ml2 (hN : N ≤ 8192) (k : Int) (ms : List S44) (hms : ms.length ≤ 1000000) {v : List Int} : ∀ (r j : Nat) (st : Mer) (L : List Int) (ag : Bool), j + r = ms.length → Same N t st L →
    (∀ L', Same N t (mergeRound N k st ag (pairs (ms.drop j))).1 L' → Ev (fun f => jacquardref14_Merged.l1 f N ms k (tab N t) L' (mergeRound N k st ag (pairs (ms.drop j))).2) v) →
    Ev (fun f => jacquardref14_Merged.l2 f N ms k (tab N t) L ag j) v
  | 0, j, st, L, ag, hj, hS, h => by
    have e : pairs (ms.drop j) = [] := by rw [List.drop_of_length_le (by omega)]; rfl
    rw [e] at h
    refine Ev.succ ((h L hS).congr fun f => ?_)
    rw [jacquardref14_Merged.l2, if_neg (by omega)]
    rfl
  | r + 1, j, st, L, ag, hj, hS, h => by
    have hjl : j < ms.length := by omega
    have hu := up64 j (by omega)
    rw [pairs_drop ms j hjl] at h
    generalize hx : (rd_T44 ms (j : Int)).f0 = x at h
    generalize hy : (rd_T44 ms (j : Int)).f1 = y at h
    have hout : (x < 0 ∨ x ≥ N ∨ y < 0 ∨ y ≥ N) → Ev (fun f => jacquardref14_Merged.j4 f N ms k (tab N t) L ag j x y true) v := fun ho => by
      rw [mergeRound_none (mergeOne_out ho)] at h
      refine Ev.succ ((ml2 hN k ms hms r (j + 1) st L ag (by omega) hS h).congr fun f => ?_)
      rw [jacquardref14_Merged.j4, if_pos rfl, hu]
    by_cases c1 : x < 0
    · refine Ev.succ ((hout (.inl c1)).congr fun f => ?_)
      rw [jacquardref14_Merged.l2, if_pos (by omega), if_pos (by omega), hx, hy, if_pos c1]
    · by_cases c2 : x ≥ N
      · refine Ev.succ ((hout (.inr (.inl c2))).congr fun f => ?_)
        rw [jacquardref14_Merged.l2, if_pos (by omega), if_pos (by omega), hx, hy, if_neg c1, if_pos c2]
      · by_cases c3 : y < 0
        · refine Ev.succ ((hout (.inr (.inr (.inl c3)))).congr fun f => ?_)
          rw [jacquardref14_Merged.l2, if_pos (by omega), if_pos (by omega), hx, hy, if_neg c1, if_neg c2, if_pos c3]
        · by_cases c4 : y ≥ N
          · refine Ev.succ ((hout (.inr (.inr (.inr c4)))).congr fun f => ?_)
            rw [jacquardref14_Merged.l2, if_pos (by omega), if_pos (by omega), hx, hy, if_neg c1, if_neg c2, if_neg c3, decide_eq_true c4]
          · obtain ⟨x, rfl⟩ : ∃ x' : Nat, x = (x' : Int) := ⟨x.toNat, by omega⟩
            obtain ⟨y, rfl⟩ : ∃ y' : Nat, y = (y' : Int) := ⟨y.toNat, by omega⟩
            have hxN : x < N := by omega
            have hyN : y < N := by omega
            have hone := mergeOne_in (s := st) (k := k) hxN hyN
            obtain ⟨p0, p1, p2⟩ := find_root hS.ok.le x hxN
            obtain ⟨q0, q1, q2⟩ := find_root hS.ok.le y hyN
            have tx := hS.top x hxN
            have ty := hS.top y hyN
            generalize find st.cls (x : Int) = p at *
            generalize find st.cls (y : Int) = q at *
            obtain ⟨p, rfl⟩ : ∃ p' : Nat, p = (p' : Int) := ⟨p.toNat, by omega⟩
            obtain ⟨q, rfl⟩ : ∃ q' : Nat, q = (q' : Int) := ⟨q.toNat, by omega⟩
            rw [Int.toNat_natCast] at p2 q2
            have hj := hS.joins (by omega) (by omega) p2 q2 k (a := p) (b := q)
            have hje := joins_ev (t := t) (L := L) hN hS.len (p : Int) (q : Int) k
            have key : Ev (fun f => jacquardref14_Merged.j4 f N ms k (tab N t) L ag j (x : Int) (y : Int) false) v := by
              refine Ev.succ ((Ev.bind hje (q := fun f t277 => (if t277 = true then ((jacquardref14_joined.f f L (p : Int) (q : Int)).bind fun t280 => (jacquardref14_Merged.l2 f N ms k (tab N t) t280 true (wrap64 ((j : Int) + 1)))) else (jacquardref14_Merged.l2 f N ms k (tab N t) L ag (wrap64 ((j : Int) + 1))))) ?_).congr fun f => ?_)
              · cases hb : (decide ((p : Int) = (q : Int)) || st.adj p q || harder st.adj N k p q) with
                | true =>
                  have e1 : mergeOne N k st ((x : Int), (y : Int)) = none := by
                    rw [hone, if_pos]
                    simp only [Bool.or_eq_true, decide_eq_true_eq] at hb
                    rcases hb with (hb | hb) | hb
                    · exact .inl hb
                    · exact .inr (.inl hb)
                    · exact .inr (.inr hb)
                  rw [mergeRound_none e1] at h
                  rw [hj, hb]
                  exact (ml2 hN k ms hms r (j + 1) st L ag (by omega) hS h).congr fun f => by rw [if_neg (by simp), hu]
                | false =>
                  have hb' := hb
                  simp only [Bool.or_eq_false_iff, decide_eq_false_iff_not] at hb'
                  obtain ⟨⟨hpq, hadj⟩, hh⟩ := hb'
                  have e1 : mergeOne N k st ((x : Int), (y : Int)) = some (st.join (min (p : Int) (q : Int)) (max (p : Int) (q : Int))) := by
                    rw [hone, if_neg]
                    rintro (h1 | h1 | h1)
                    · exact hpq h1
                    · rw [hadj] at h1; cases h1
                    · rw [hh] at h1; cases h1
                  rw [mergeRound_some e1] at h
                  have hS' : Same N t (st.join (min (p : Int) (q : Int)) (max (p : Int) (q : Int))) (joinL L p q) := by
                    by_cases hlt : p < q
                    · rw [show min (p : Int) (q : Int) = (p : Int) by omega, show max (p : Int) (q : Int) = (q : Int) by omega]
                      refine hS.join hlt (by omega) p2 q2 hadj _ (by rw [joinL_length]; exact hS.len) (fun i hi => ?_)
                      rw [joinL_getD hS.len _ _ i hi, if_neg (by omega : ¬ (q : Int) < (p : Int))]
                    · rw [show min (p : Int) (q : Int) = (q : Int) by omega, show max (p : Int) (q : Int) = (p : Int) by omega]
                      refine hS.join (by omega) (by omega) q2 p2 (by rw [hS.ok.symm]; exact hadj) _ (by rw [joinL_length]; exact hS.len) (fun i hi => ?_)
                      rw [joinL_getD hS.len _ _ i hi, if_pos (by omega : (q : Int) < (p : Int))]
                      by_cases e : L.getD i 0 = p ∨ L.getD i 0 = q
                      · rw [if_pos e, if_pos e.symm]
                      · rw [if_neg e, if_neg (fun h => e h.symm)]
                  rw [hj, hb]
                  have hjo := joined_ev (L := L) (by rw [hS.len]; exact hN) (p : Int) (q : Int)
                  exact (Ev.bind hjo (q := fun f t280 => jacquardref14_Merged.l2 f N ms k (tab N t) t280 true (wrap64 ((j : Int) + 1))) ((ml2 hN k ms hms r (j + 1) _ _ true (by omega) hS' h).congr fun f => by rw [hu])).congr fun f => by rw [if_pos (by rfl)]
              · rw [jacquardref14_Merged.j4, if_neg (by simp), if_pos (by omega), if_pos (by rw [hS.len]; omega), if_pos (by omega), if_pos (by rw [hS.len]; omega), rd_nat, rd_nat, tx, ty]
            refine Ev.succ (key.congr fun f => ?_)
            rw [jacquardref14_Merged.l2, if_pos (by omega), if_pos (by omega), hx, hy, if_neg c1, if_neg c2, if_neg c3, decide_eq_false c4]

theorem ml1 (hN : N ≤ 8192) (k : Int) (ms : List S44) (hms : ms.length ≤ 1000000) : ∀ (u : Nat) (st : Mer) (L : List Int), Same N t st L → roots N st.cls < u →
    Ev (fun f => jacquardref14_Merged.l1 f N ms k (tab N t) L true) (tops N (mergeGo N k (pairs ms) u st))
  | 0, st, L, hS, hr => by omega
  | u + 1, st, L, hS, hr => by
    have hok := mergeRound_ok (k := k) (pairs ms) st false hS.ok
    have h2 := ml2 (t := t) hN k ms hms (v := tops N (mergeGo N k (pairs ms) (u + 1) st)) ms.length 0 st L false (by omega) hS (by
      rw [List.drop_zero]
      intro L' hS'
      cases hag : (mergeRound N k st false (pairs ms)).2 with
      | true =>
        have := ml1 hN k ms hms u _ L' hS' (by
          rcases hok.2.2 hag with h | h
          · cases h
          · omega)
        unfold mergeGo
        rw [if_pos hag]
        exact this
      | false =>
        unfold mergeGo
        rw [if_neg (by rw [hag]; simp)]
        refine Ev.succ (Ev.of fun f => ?_)
        rw [jacquardref14_Merged.l1, if_neg (by simp), same_tops hS'])
    refine Ev.succ (h2.congr fun f => ?_)
    rw [jacquardref14_Merged.l1, if_pos rfl]
    rfl

theorem ml0 (hN : N ≤ 8192) (k : Int) (ms : List S44) {v : List Int} (h1 : Ev (fun f => jacquardref14_Merged.l1 f N ms k (tab N t) ((List.range N).map fun i : Nat => (i : Int)) true) v) : ∀ (m i : Nat) (out : List Int), i + m = N → out = (List.range N).map (fun j : Nat => if j < i then (j : Int) else 0) →
    Ev (fun f => jacquardref14_Merged.l0 f N ms k (tab N t) out i) v
  | 0, i, out, hi, ho => by
    have e : out = (List.range N).map fun i : Nat => (i : Int) := by
      rw [ho]
      apply List.map_congr_left
      intro j hj
      rw [if_pos (by have := List.mem_range.1 hj; omega)]
    refine Ev.succ (h1.congr fun f => ?_)
    rw [jacquardref14_Merged.l0, if_neg (by omega), e]
  | m + 1, i, out, hi, ho => by
    have hl : out.length = N := by rw [ho]; simp
    refine Ev.succ ((ml0 hN k ms h1 m (i + 1) (out.set i (i : Int)) (by omega) ?_).congr fun f => ?_)
    · rw [ho]
      apply List.ext_getElem
      · simp
      · intro j h1 h2
        simp only [List.getElem_set, List.getElem_map, List.getElem_range]
        by_cases e : i = j
        · subst e; simp
        · rw [if_neg e]
          by_cases h : j < i
          · rw [if_pos h, if_pos (by omega)]
          · rw [if_neg h, if_neg (by omega)]
    · rw [jacquardref14_Merged.l0, if_pos (by omega), if_pos (by omega), if_pos (by omega), Int.toNat_natCast, up64 i (by omega)]
end

theorem same_start (N : Nat) (l : List (Int × Int)) : Same N (adjOf N l) (merStart N (adjOf N l)) ((List.range N).map fun i : Nat => (i : Int)) := by
  have hok := merStart_ok (n := (N : Int)) (by omega) l
  rw [Int.toNat_natCast] at hok
  have hget : ∀ i : Nat, i < N → ((List.range N).map (fun i : Nat => (i : Int))).getD i 0 = i := fun i hi => by
    rw [List.getD_eq_getElem?_getD, List.getElem?_map, List.getElem?_range hi]; rfl
  refine ⟨hok, by simp, fun i hi => ?_, fun x y hx hy _ _ _ => ?_⟩
  · rw [find_of_root hok.le hi (hget i hi)]; exact hget i hi
  · rw [Bool.eq_iff_iff, nearB_true]
    constructor
    · intro h; exact ⟨x, y, hx, hy, hget x hx, hget y hy, h⟩
    · rintro ⟨i, j, hi, hj, h1, h2, h3⟩
      rw [hget i hi] at h1
      rw [hget j hj] at h2
      have e1 : i = x := by omega
      have e2 : j = y := by omega
      subst e1 e2
      exact h3

theorem merged_tops (N : Nat) (hN : N ≤ 8192) (k : Int) (l ms : List (Int × Int)) : merged N k l ms = tops N (mergeGo N k ms (N + 1) (merStart N (adjOf N l))) := by
  have hok := mergedOf_ok (n := (N : Int)) (k := k) (by omega) l ms
  unfold merged mergedOf at *
  rw [Int.toNat_natCast] at *
  rw [if_neg (by omega)]
  obtain ⟨_, h2⟩ := finish_find hok.le N (Nat.le_refl _)
  have hfl := (finish_ok hok.le N (Nat.le_refl _)).len
  apply List.ext_getElem
  · rw [hfl]; simp [tops]
  · intro i h1 h3
    have hi : i < N := by simpa [tops] using h3
    have := h2 i hi
    rw [List.getD_eq_getElem?_getD, List.getElem?_eq_getElem h1] at this
    simp only [tops, List.getElem_map, List.getElem_range]
    exact this

theorem mergedRef_ev (n k : Int) (l ms : List S44) (hl : l.length ≤ 1000000) (hms : ms.length ≤ 1000000) : Ev (fun f => jacquardref14_Merged.f f n l ms k) (merged n k (pairs l) (pairs ms)) := by
  by_cases h0 : n < 0
  · unfold merged
    rw [if_pos (.inl h0)]
    refine Ev.succ (Ev.of fun f => ?_)
    rw [jacquardref14_Merged.f, if_pos h0, jacquardref14_Merged.j0, if_pos rfl]
  · by_cases h1 : n > 8192
    · unfold merged
      rw [if_pos (.inr h1)]
      refine Ev.succ (Ev.of fun f => ?_)
      rw [jacquardref14_Merged.f, if_neg h0, decide_eq_true h1, jacquardref14_Merged.j0, if_pos rfl]
    · obtain ⟨N, rfl⟩ : ∃ N : Nat, n = (N : Int) := ⟨n.toNat, by omega⟩
      have hN : N ≤ 8192 := by omega
      rw [merged_tops N hN]
      have hS := same_start N (pairs l)
      have h1' := ml1 (t := adjOf N (pairs l)) hN k ms hms (N + 1) _ _ hS (Nat.lt_succ_of_le (card_le _ _))
      have h0' := ml0 (t := adjOf N (pairs l)) hN k ms h1' N 0 (List.replicate N 0) (by omega) (by apply List.ext_getElem <;> simp)
      refine Ev.succ ((Ev.bind (table_ev N hN l hl) (q := fun f t266 => (if 0 ≤ (N : Int) then (if ((N : Int) : Int).toNat ≤ 35184372088832 then (jacquardref14_Merged.l0 f N ms k t266 (List.replicate ((N : Int) : Int).toNat 0) 0) else (none)) else (none))) (h0'.congr fun f => ?_)).congr fun f => ?_)
      · rw [if_pos (by omega), if_pos (by omega), Int.toNat_natCast]; rfl
      · rw [jacquardref14_Merged.f, if_neg h0, decide_eq_false h1, jacquardref14_Merged.j0, if_neg (by simp)]

theorem merged_le (n k : Int) (l ms : List (Int × Int)) : (merged n k l ms).length ≤ 1000000 := by
  by_cases h : n < 0 ∨ n > 8192
  · unfold merged; rw [if_pos h]; simp
  · obtain ⟨N, rfl⟩ : ∃ N : Nat, n = (N : Int) := ⟨n.toNat, by omega⟩
    rw [Go.Proofs.YtgdmdgkfababeaaH.merged_length N (by omega)]; omega
end Go.Proofs.YtgdmdgkfababeaaEv
