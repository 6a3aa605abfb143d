/-
  What functions with fuel answer, when there is enough of it; who are neighbours, and how many: the document's tables. Own work.
-/
import Derived.Test.YtgdmdgkfababeaaM2
import Derived.Test.YtgdmdgkfababeaaCol
import Derived.Test.YtgdmdgkfababeaaHNeigh
namespace Go.Proofs.YtgdmdgkfababeaaEv
open Go Go.RowKit Go.Proofs.YtgdmdgkfababeaaCol Go.Proofs.Ytgdmdgkfababeaa.M Go.Proofs.YtgdmdgkfababeaaW.PrintWords
open Go.Proofs.YtgdmdgkfababeaaH (pairs adjOf_snoc take_pairs)

/-- With enough fuel, the answer. -/
def Ev {α : Type} (p : Nat → Option α) (v : α) : Prop := ∃ K, ∀ k, K ≤ k → p k = some v
theorem Ev.pure {α : Type} (v : α) : Ev (fun _ => some v) v := ⟨0, fun _ _ => rfl⟩
theorem Ev.of {α : Type} {p : Nat → Option α} {v : α} (h : ∀ k, p k = some v) : Ev p v := ⟨0, fun k _ => h k⟩
theorem Ev.bind {α β : Type} {p : Nat → Option α} {q : Nat → α → Option β} {v : α} {u : β} (h : Ev p v) (hq : Ev (fun k => q k v) u) : Ev (fun k => (p k).bind (q k)) u := by
  obtain ⟨K, hK⟩ := h
  obtain ⟨K', hK'⟩ := hq
  exact ⟨max K K', fun k hk => by show (p k).bind (q k) = _; rw [hK k (by omega), Option.bind_some]; exact hK' k (by omega)⟩
theorem Ev.succ {α : Type} {p : Nat → Option α} {v : α} (h : Ev (fun k => p (k + 1)) v) : Ev p v := by
  obtain ⟨K, hK⟩ := h
  refine ⟨K + 1, fun k hk => ?_⟩
  obtain ⟨m, rfl⟩ : ∃ m, k = m + 1 := ⟨k - 1, by omega⟩
  exact hK m (by omega)
theorem Ev.congr {α : Type} {p q : Nat → Option α} {v : α} (h : Ev p v) (e : ∀ k, q k = p k) : Ev q v := by
  obtain ⟨K, hK⟩ := h
  exact ⟨K, fun k hk => by rw [e]; exact hK k hk⟩
theorem Ev.some {α : Type} {p : Nat → Option α} {v : α} (h : Ev p v) : ∃ k, p k = some v := by
  obtain ⟨K, hK⟩ := h
  exact ⟨K, hK K (Nat.le_refl _)⟩

theorem w64 {n : Int} (h1 : -9000000000 ≤ n) (h2 : n ≤ 9000000000) : wrap64 n = n := by unfold wrap64; omega

theorem rd_nat (l : List Int) (i : Nat) : rd l (i : Int) = l.getD i 0 := by unfold rd; rw [Int.toNat_natCast]
theorem rdb_nat (l : List Bool) (i : Nat) : rdOf false l (i : Int) = l.getD i false := by unfold rdOf; rw [Int.toNat_natCast]
theorem up64 (i : Nat) (h : i ≤ 1000000000) : wrap64 ((i : Int) + 1) = ((i + 1 : Nat) : Int) := by rw [w64 (by omega) (by omega)]; rfl

/-- The table of neighbours. -/
def tab (N : Nat) (adj : Int → Int → Bool) : List (List Bool) := (List.range N).map fun i : Nat => (List.range N).map fun j : Nat => adj (i : Int) (j : Int)
theorem tab_length (N : Nat) (adj : Int → Int → Bool) : (tab N adj).length = N := by simp [tab]
theorem tab_row {N : Nat} {adj : Int → Int → Bool} (i : Nat) (hi : i < N) : rd_L5 (tab N adj) (i : Int) = (List.range N).map fun j : Nat => adj (i : Int) (j : Int) := by
  unfold rd_L5 tab
  rw [Int.toNat_natCast, List.getD_eq_getElem?_getD, List.getElem?_map, List.getElem?_range hi]; rfl
theorem tab_at {N : Nat} {adj : Int → Int → Bool} (i j : Nat) (hi : i < N) (hj : j < N) : rdOf false (rd_L5 (tab N adj) (i : Int)) (j : Int) = adj (i : Int) (j : Int) := by
  rw [tab_row i hi]
  unfold rdOf
  rw [Int.toNat_natCast, List.getD_eq_getElem?_getD, List.getElem?_map, List.getElem?_range hj]; rfl
theorem tab_row_length {N : Nat} {adj : Int → Int → Bool} (i : Nat) (hi : i < N) : (rd_L5 (tab N adj) (i : Int)).length = N := by rw [tab_row i hi]; simp

theorem tab_put {N : Nat} {adj adj' : Int → Int → Bool} {x y : Nat} (hx : x < N) (_hy : y < N) (h : ∀ i j : Nat, i < N → j < N → adj' (i : Int) (j : Int) = (adj (i : Int) (j : Int) || (decide (i = x) && decide (j = y)))) :
    (tab N adj).set x ((rd_L5 (tab N adj) (x : Int)).set y true) = tab N adj' := by
  rw [tab_row x hx]
  apply List.ext_getElem
  · simp [tab]
  · intro i h1 h2
    have hi : i < N := by simpa [tab] using h2
    rw [List.getElem_set]
    simp only [tab, List.getElem_map, List.getElem_range]
    by_cases e : x = i
    · subst e
      rw [if_pos rfl]
      apply List.ext_getElem
      · simp
      · intro j h3 h4
        have hj : j < N := by simpa using h4
        rw [List.getElem_set]
        simp only [List.getElem_map, List.getElem_range]
        rw [h x j hx hj]
        by_cases e : y = j
        · subst e; simp
        · have : decide (j = y) = false := decide_eq_false (fun h => e h.symm)
          rw [if_neg e, this]; simp
    · rw [if_neg e]
      apply List.map_congr_left
      intro j hj
      have : decide (i = x) = false := decide_eq_false (fun h => e h.symm)
      rw [h i j hi (List.mem_range.1 hj), this]; simp

theorem table_l0 (N : Nat) (hN : N ≤ 8192) (l : List S44) {v : List (List Bool)} : ∀ (m i : Nat), i + m = N → Ev (fun k => jacquardref14_Table.l1 k N l (List.replicate N (List.replicate N false)) 0) v →
    Ev (fun k => jacquardref14_Table.l0 k N l (List.replicate i (List.replicate N false)) i) v
  | 0, i, hi, h => by
    refine Ev.succ ?_
    have : i = N := by omega
    subst this
    refine h.congr (fun k => ?_)
    rw [jacquardref14_Table.l0, if_neg (by omega)]
  | m + 1, i, hi, h => by
    refine Ev.succ ?_
    refine (table_l0 N hN l m (i + 1) (by omega) h).congr (fun k => ?_)
    rw [jacquardref14_Table.l0, if_pos (by omega), if_pos (by omega), if_pos (by simp; omega), if_pos (by simp; omega), w64 (by omega) (by omega), Int.toNat_natCast, ← List.replicate_succ']
    rfl

theorem touches_sym (n a b : Int) (e : Int × Int) : touches n a b e = touches n b a e := by
  unfold touches
  congr 1
  apply propext
  constructor <;> intro h <;> omega

theorem table_l1 (N : Nat) (hN : N ≤ 8192) (l : List S44) (hl : l.length ≤ 1000000) : ∀ (m j : Nat), j + m = l.length → Ev (fun k => jacquardref14_Table.l1 k N l (tab N (adjOf N (pairs (l.take j)))) j) (tab N (adjOf N (pairs l)))
  | 0, j, hj => by
    refine Ev.succ ?_
    have : j = l.length := by omega
    subst this
    rw [List.take_length]
    refine Ev.of (fun k => ?_)
    rw [jacquardref14_Table.l1, if_neg (by omega)]
  | m + 1, j, hj => by
    refine Ev.succ ?_
    have ih := table_l1 N hN l hl m (j + 1) (by omega)
    have hjl : j < l.length := by omega
    have hw : wrap64 ((j : Int) + 1) = ((j + 1 : Nat) : Int) := by rw [w64 (by omega) (by omega)]; rfl
    rw [take_pairs l j hjl] at ih
    have hskip : (∀ a b, touches N a b ((rd_T44 l j).f0, (rd_T44 l j).f1) = false) → adjOf N (pairs (l.take j) ++ [((rd_T44 l j).f0, (rd_T44 l j).f1)]) = adjOf N (pairs (l.take j)) := fun h => by
      funext a b
      rw [adjOf_snoc, h]; simp
    generalize hx : (rd_T44 l (j : Int)).f0 = x at ih hskip
    generalize hy : (rd_T44 l (j : Int)).f1 = y at ih hskip
    by_cases c1 : x ≥ 0
    · by_cases c2 : x < (N : Int)
      · by_cases c3 : y ≥ 0
        · by_cases c4 : y < (N : Int)
          · by_cases c5 : x = y
            · rw [hskip (fun a b => by unfold touches; exact decide_eq_false (by dsimp only; omega))] at ih
              refine ih.congr (fun k => ?_)
              rw [jacquardref14_Table.l1, hx, hy, if_pos (by omega), if_pos (by omega), if_pos c1, if_pos c2, if_pos c3, if_pos c4, if_pos c5, hw]
            · obtain ⟨x, rfl⟩ : ∃ x' : Nat, x = (x' : Int) := ⟨x.toNat, by omega⟩
              obtain ⟨y, rfl⟩ : ∃ y' : Nat, y = (y' : Int) := ⟨y.toNat, by omega⟩
              have hxN : x < N := by omega
              have hyN : y < N := by omega
              have h1 := tab_put (adj := adjOf N (pairs (l.take j))) (adj' := fun a b => adjOf N (pairs (l.take j)) a b || (decide (a = (x : Int)) && decide (b = (y : Int)))) hxN hyN (fun i j _ _ => by
                have e1 : decide ((i : Int) = (x : Int)) = decide (i = x) := by congr 1; apply propext; omega
                have e2 : decide ((j : Int) = (y : Int)) = decide (j = y) := by congr 1; apply propext; omega
                rw [e1, e2])
              have h2 := tab_put (adj := fun a b => adjOf N (pairs (l.take j)) a b || (decide (a = (x : Int)) && decide (b = (y : Int)))) (adj' := adjOf N (pairs (l.take j) ++ [((x : Int), (y : Int))])) hyN hxN (fun i j' hi hj' => by
                rw [adjOf_snoc]
                unfold touches
                rw [Bool.eq_iff_iff]
                simp only [Bool.or_eq_true, Bool.and_eq_true, decide_eq_true_eq]
                constructor
                · rintro (h | h)
                  · exact .inl (.inl h)
                  · rcases h.2.2.2.2.2 with ⟨e1, e2⟩ | ⟨e1, e2⟩
                    · exact .inl (.inr ⟨e1.symm, e2.symm⟩)
                    · exact .inr ⟨by omega, by omega⟩
                · rintro ((h | h) | h)
                  · exact .inl h
                  · exact .inr ⟨by omega, by omega, by omega, by omega, by omega, .inl ⟨h.1.symm, h.2.symm⟩⟩
                  · exact .inr ⟨by omega, by omega, by omega, by omega, by omega, .inr ⟨by omega, by omega⟩⟩)
              refine ih.congr (fun k => ?_)
              rw [jacquardref14_Table.l1, hx, hy, if_pos (by omega), if_pos (by omega), if_pos c1, if_pos c2, if_pos c3, if_pos c4, if_neg c5, if_pos (by omega), if_pos (by rw [tab_length]; exact c2), if_pos (by omega), if_pos (by rw [tab_row_length x hxN]; exact c4), Option.bind_some, Int.toNat_natCast, Int.toNat_natCast, h1,
                if_pos (by rw [tab_length]; exact c4), if_pos (by rw [tab_row_length y hyN]; exact c2), h2, hw]
          · rw [hskip (fun a b => by unfold touches; exact decide_eq_false (by dsimp only; omega))] at ih
            refine ih.congr (fun k => ?_)
            rw [jacquardref14_Table.l1, hx, hy, if_pos (by omega), if_pos (by omega), if_pos c1, if_pos c2, if_pos c3, if_neg c4, hw]
        · rw [hskip (fun a b => by unfold touches; exact decide_eq_false (by dsimp only; omega))] at ih
          refine ih.congr (fun k => ?_)
          rw [jacquardref14_Table.l1, hx, hy, if_pos (by omega), if_pos (by omega), if_pos c1, if_pos c2, if_neg c3, hw]
      · rw [hskip (fun a b => by unfold touches; exact decide_eq_false (by dsimp only; omega))] at ih
        refine ih.congr (fun k => ?_)
        rw [jacquardref14_Table.l1, hx, if_pos (by omega), if_pos (by omega), if_pos c1, if_neg c2, hw]
    · rw [hskip (fun a b => by unfold touches; exact decide_eq_false (by dsimp only; omega))] at ih
      refine ih.congr (fun k => ?_)
      rw [jacquardref14_Table.l1, hx, if_pos (by omega), if_pos (by omega), if_neg c1, hw]

theorem table_ev (N : Nat) (hN : N ≤ 8192) (l : List S44) (hl : l.length ≤ 1000000) : Ev (fun k => jacquardref14_Table.f k N l) (tab N (adjOf N (pairs l))) := by
  have h1 := table_l1 N hN l hl l.length 0 (by omega)
  have e : tab N (adjOf N (pairs (l.take 0))) = List.replicate N (List.replicate N false) := by
    apply List.ext_getElem
    · simp [tab]
    · intro i h1 h2
      simp only [tab, List.getElem_map, List.getElem_range, List.getElem_replicate]
      apply List.ext_getElem
      · simp
      · intro j h3 h4
        simp [adjOf, pairs]
  rw [e] at h1
  exact table_l0 N hN l N 0 (by omega) h1

/-! ### how many neighbours that are still there -/
theorem card_from_succ (S : Int → Bool) (m a : Nat) : ((List.range' a (m + 1)).filter fun i : Nat => S (i : Int)).length = (S (a : Int)).toNat + ((List.range' (a + 1) m).filter fun i : Nat => S (i : Int)).length := by
  rw [List.range'_succ, List.filter_cons]
  cases S (a : Int) <;> simp; omega
theorem degree_l0 (N : Nat) (hN : N ≤ 8192) (adj : Int → Int → Bool) (there : List Bool) (ht : there.length = N) (a : Nat) (ha : a < N) : ∀ (m b n : Nat), b + m = N → n ≤ b →
    Ev (fun k => jacquardref14_degree.l0 k (tab N adj) there a n b) ((n + ((List.range' b m).filter fun i : Nat => there.getD i false && adj a (i : Int)).length : Nat) : Int)
  | 0, b, n, hb, hn => by
    refine Ev.succ (Ev.of fun k => ?_)
    rw [jacquardref14_degree.l0, if_neg (by rw [tab_length]; omega)]
    simp
  | m + 1, b, n, hb, hn => by
    refine Ev.succ ?_
    have hbN : b < N := by omega
    have e1 : rdOf false there (b : Int) = there.getD b false := by unfold rdOf; rw [Int.toNat_natCast]
    have hw : wrap64 ((b : Int) + 1) = ((b + 1 : Nat) : Int) := by rw [w64 (by omega) (by omega)]; rfl
    have hwn : wrap64 ((n : Int) + 1) = ((n + 1 : Nat) : Int) := by rw [w64 (by omega) (by omega)]; rfl
    have hcs := card_from_succ (fun i => there.getD i.toNat false && adj a i) m b
    simp only [Int.toNat_natCast] at hcs
    cases h1 : there.getD b false with
    | false =>
      rw [h1] at e1 hcs
      have ih := degree_l0 N hN adj there ht a ha m (b + 1) n (by omega) (by omega)
      rw [hcs]
      have e : n + ((false && adj (a : Int) (b : Int)).toNat + ((List.range' (b + 1) m).filter fun i : Nat => there.getD i false && adj a (i : Int)).length) = n + ((List.range' (b + 1) m).filter fun i : Nat => there.getD i false && adj a (i : Int)).length := by simp
      rw [e]
      exact ih.congr (fun k => by rw [jacquardref14_degree.l0, if_pos (by rw [tab_length]; omega), if_pos (by omega), if_pos (by omega), e1, if_neg (by simp), hw])
    | true =>
      rw [h1] at e1 hcs
      cases h2 : adj (a : Int) (b : Int) with
      | false =>
        rw [h2] at hcs
        have ih := degree_l0 N hN adj there ht a ha m (b + 1) n (by omega) (by omega)
        rw [hcs]
        have e : n + ((true && false).toNat + ((List.range' (b + 1) m).filter fun i : Nat => there.getD i false && adj a (i : Int)).length) = n + ((List.range' (b + 1) m).filter fun i : Nat => there.getD i false && adj a (i : Int)).length := by simp
        rw [e]
        exact ih.congr (fun k => by rw [jacquardref14_degree.l0, if_pos (by rw [tab_length]; omega), if_pos (by omega), if_pos (by omega), e1, if_pos rfl, if_pos (by omega), if_pos (by rw [tab_length]; omega), if_pos (by rw [tab_row_length a ha]; omega), tab_at a b ha hbN, h2, if_neg (by simp), hw])
      | true =>
        rw [h2] at hcs
        have ih := degree_l0 N hN adj there ht a ha m (b + 1) (n + 1) (by omega) (by omega)
        rw [hcs]
        have e : n + ((true && true).toNat + ((List.range' (b + 1) m).filter fun i : Nat => there.getD i false && adj a (i : Int)).length) = n + 1 + ((List.range' (b + 1) m).filter fun i : Nat => there.getD i false && adj a (i : Int)).length := by simp only [Bool.and_self, Bool.toNat_true]; omega
        rw [e]
        exact ih.congr (fun k => by rw [jacquardref14_degree.l0, if_pos (by rw [tab_length]; omega), if_pos (by omega), if_pos (by omega), e1, if_pos rfl, if_pos (by omega), if_pos (by rw [tab_length]; omega), if_pos (by rw [tab_row_length a ha]; omega), tab_at a b ha hbN, h2, if_pos rfl, hwn, hw])
theorem degree_ev (N : Nat) (hN : N ≤ 8192) (adj : Int → Int → Bool) (there : List Bool) (ht : there.length = N) (a : Nat) (ha : a < N) :
    Ev (fun k => jacquardref14_degree.f k (tab N adj) there a) ((card N (fun i => there.getD i.toNat false && adj a i) : Nat) : Int) := by
  have := degree_l0 N hN adj there ht a ha N 0 0 (by omega) (by omega)
  rw [Nat.zero_add, ← List.range_eq_range'] at this
  unfold card
  simp only [Int.toNat_natCast]
  exact this
end Go.Proofs.YtgdmdgkfababeaaEv
