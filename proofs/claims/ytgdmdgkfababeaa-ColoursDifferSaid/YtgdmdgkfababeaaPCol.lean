/-
  The document's answer for colours is the program's. Own work.
-/
import Derived.Test.YtgdmdgkfababeaaEv
namespace Go.Proofs.YtgdmdgkfababeaaEv
open Go Go.RowKit Go.Proofs.YtgdmdgkfababeaaCol Go.Proofs.Ytgdmdgkfababeaa.M Go.Proofs.YtgdmdgkfababeaaW.PrintWords
open Go.Proofs.YtgdmdgkfababeaaH (pairs)

theorem rd_nat (l : List Int) (i : Nat) : rd l (i : Int) = l.getD i 0 := by unfold rd; rw [Int.toNat_natCast]
theorem rdb_nat (l : List Bool) (i : Nat) : rdOf false l (i : Int) = l.getD i false := by unfold rdOf; rw [Int.toNat_natCast]
theorem up64 (i : Nat) (h : i ≤ 1000000000) : wrap64 ((i : Int) + 1) = ((i + 1 : Nat) : Int) := by rw [w64 (by omega) (by omega)]; rfl

section
variable {N : Nat} {adj : Int → Int → Bool} {k : Int}

/-- The inner loop: is the colour used? -/
theorem cl6 (hN : N ≤ 8192) (gn out : List Int) (ho : out.length = N) (i : Int) (a : Nat) (ha : a < N) (c : Int) {v : List Int} : ∀ (m b : Nat) (u : Bool), b + m = N →
    Ev (fun f => cond (u || (List.range' b m).any (fun b : Nat => adj a (b : Int) && decide (out.getD b 0 = c))) (jacquardref14_Colours.l5 f N k (tab N adj) gn out i a (wrap64 (c + 1))) (jacquardref14_Colours.l4 f N k (tab N adj) gn (out.set a c) (wrap64 (i - 1)))) v →
    Ev (fun f => jacquardref14_Colours.l6 f N k (tab N adj) gn out i a c u b) v
  | 0, b, u, hb, h => by
    refine Ev.succ ?_
    cases u with
    | true => exact h.congr (fun f => by rw [jacquardref14_Colours.l6, if_neg (by omega)]; simp)
    | false => exact h.congr (fun f => by rw [jacquardref14_Colours.l6, if_neg (by omega), if_neg (by simp), if_pos (by omega), if_pos (by omega), Int.toNat_natCast]; simp)
  | m + 1, b, u, hb, h => by
    refine Ev.succ ?_
    have hbN : b < N := by omega
    rw [List.range'_succ] at h
    simp only [List.any_cons] at h
    cases u with
    | true =>
      refine (cl6 hN gn out ho i a ha c m (b + 1) true (by omega) (h.congr fun f => by simp)).congr (fun f => ?_)
      rw [jacquardref14_Colours.l6, if_pos (by omega), if_pos rfl, up64 b (by omega)]
    | false =>
      cases h2 : adj (a : Int) (b : Int) with
      | true =>
        rw [h2] at h
        refine (cl6 hN gn out ho i a ha c m (b + 1) (decide (out.getD b 0 = c)) (by omega) (h.congr fun f => by simp)).congr (fun f => ?_)
        rw [jacquardref14_Colours.l6, if_pos (by omega), if_neg (by simp), if_pos (by omega), if_pos (by rw [tab_length]; omega), if_pos (by omega), if_pos (by rw [tab_row_length a ha]; omega), tab_at a b ha hbN, h2, if_pos rfl, if_pos (by omega), up64 b (by omega), rd_nat]
        rfl
      | false =>
        rw [h2] at h
        refine (cl6 hN gn out ho i a ha c m (b + 1) false (by omega) (h.congr fun f => by simp)).congr (fun f => ?_)
        rw [jacquardref14_Colours.l6, if_pos (by omega), if_neg (by simp), if_pos (by omega), if_pos (by rw [tab_length]; omega), if_pos (by omega), if_pos (by rw [tab_row_length a ha]; omega), tab_at a b ha hbN, h2, if_neg (by simp), up64 b (by omega)]

/-- The loop over the colours. -/
theorem cl5 (hN : N ≤ 8192) (hk : k ≤ 1000000) (gn out : List Int) (ho : out.length = N) (i : Int) (a : Nat) (ha : a < N) {v : List Int} : ∀ (m c : Nat), c + m = k.toNat →
    Ev (fun f => jacquardref14_Colours.l4 f N k (tab N adj) gn (match freeGo (usedBy adj N out a) m c with | some d => out.set a d | none => out) (wrap64 (i - 1))) v →
    Ev (fun f => jacquardref14_Colours.l5 f N k (tab N adj) gn out i a c) v
  | 0, c, hc, h => by
    refine Ev.succ (h.congr fun f => ?_)
    rw [jacquardref14_Colours.l5, if_neg (by omega)]
    rfl
  | m + 1, c, hc, h => by
    refine Ev.succ ?_
    have h6 := cl6 (adj := adj) (k := k) hN gn out ho i a ha c (v := v) N 0 false (by omega)
    rw [← List.range_eq_range'] at h6
    have e : (false || (List.range N).any (fun b : Nat => adj a (b : Int) && decide (out.getD b 0 = (c : Int)))) = usedBy adj N out a c := rfl
    rw [e] at h6
    refine (h6 ?_).congr (fun f => by rw [jacquardref14_Colours.l5, if_pos (by omega)]; rfl)
    unfold freeGo at h
    cases hu : usedBy adj N out a c with
    | true =>
      rw [hu] at h
      refine (cl5 hN hk gn out ho i a ha m (c + 1) (by omega) h).congr (fun f => ?_)
      rw [cond_true, up64 c (by omega)]
    | false =>
      rw [hu] at h
      refine h.congr (fun f => ?_)
      rw [cond_false]
      rfl

/-- The loop back over the order. -/
theorem cl4 (hN : N ≤ 8192) (hk : k ≤ 1000000) (gn : List Int) (hg : ∀ x ∈ gn, 0 ≤ x ∧ x < (N : Int)) (hgl : gn.length ≤ 8192) : ∀ (j : Nat) (out : List Int), out.length = N → j ≤ gn.length →
    Ev (fun f => jacquardref14_Colours.l4 f N k (tab N adj) gn out ((j : Int) - 1)) (((gn.take j).reverse).foldl (paint adj N k) out)
  | 0, out, ho, hj => by
    refine Ev.succ (Ev.of fun f => ?_)
    rw [jacquardref14_Colours.l4, if_neg (by omega)]
    rfl
  | j + 1, out, ho, hj => by
    refine Ev.succ ?_
    have hjl : j < gn.length := by omega
    have hx := hg (gn.getD j 0) (by rw [List.getD_eq_getElem?_getD, List.getElem?_eq_getElem hjl]; exact List.getElem_mem hjl)
    obtain ⟨a, hae⟩ : ∃ a : Nat, gn.getD j 0 = (a : Int) := ⟨(gn.getD j 0).toNat, by omega⟩
    rw [hae] at hx
    have hfold : ((gn.take (j + 1)).reverse).foldl (paint adj N k) out = ((gn.take j).reverse).foldl (paint adj N k) (paint adj N k out (a : Int)) := by
      rw [List.take_succ_eq_append_getElem hjl, List.reverse_append]
      simp only [List.reverse_cons, List.reverse_nil, List.nil_append, List.cons_append, List.foldl_cons]
      have : gn[j] = (a : Int) := by rw [← hae, List.getD_eq_getElem?_getD, List.getElem?_eq_getElem hjl]; rfl
      rw [this]
    rw [hfold]
    have ih := cl4 hN hk gn hg hgl j (paint adj N k out (a : Int)) (by rw [paint_length]; exact ho) (by omega)
    have h5 := cl5 (adj := adj) hN hk gn out ho (j : Int) a (by omega) (v := ((gn.take j).reverse).foldl (paint adj N k) (paint adj N k out (a : Int))) k.toNat 0 (by omega) (ih.congr fun f => by
      rw [w64 (by omega) (by omega)]
      unfold paint
      rw [Int.toNat_natCast]
      rfl)
    refine h5.congr (fun f => ?_)
    rw [jacquardref14_Colours.l4, if_pos (by omega), if_pos (by omega), if_pos (by omega), show ((j + 1 : Nat) : Int) - 1 = (j : Int) by omega, rd_nat, hae]
    rfl

theorem cl3 (hN : N ≤ 8192) (gn : List Int) {v : List Int} : ∀ (m i : Nat) (out : List Int), i + m = N → out = (List.range N).map (fun j => if j < i then (-1 : Int) else 0) →
    Ev (fun f => jacquardref14_Colours.l4 f N k (tab N adj) gn (List.replicate N (-1)) ((N : Int) - 1)) v → Ev (fun f => jacquardref14_Colours.l3 f N k (tab N adj) gn out i) v
  | 0, i, out, hi, ho, h => by
    refine Ev.succ (h.congr fun f => ?_)
    have e : out = List.replicate N (-1) := by
      rw [ho]
      apply List.ext_getElem
      · simp
      · intro j h1 h2
        simp at h1 ⊢
        omega
    rw [jacquardref14_Colours.l3, if_neg (by omega), w64 (by omega) (by omega), e]
  | m + 1, i, out, hi, ho, h => by
    refine Ev.succ ?_
    have hl : out.length = N := by rw [ho]; simp
    refine (cl3 hN gn m (i + 1) (out.set i (-1)) (by omega) ?_ h).congr (fun f => ?_)
    · rw [ho]
      apply List.ext_getElem
      · simp
      · intro j h1 h2
        simp only [List.getElem_set, List.getElem_map, List.getElem_range]
        by_cases e : i = j
        · subst e; simp
        · rw [if_neg e]
          by_cases h : j < i
          · rw [if_pos h, if_pos (by omega)]
          · rw [if_neg h, if_neg (by omega)]
    · rw [jacquardref14_Colours.l3, if_pos (by omega), if_pos (by omega), if_pos (by omega), Int.toNat_natCast, up64 i (by omega)]

/-- The document's state is the program's. -/
structure Rel (N : Nat) (adj : Int → Int → Bool) (st : Ord) (there : List Bool) : Prop where
  len : there.length = N
  gone : ∀ i : Nat, i < N → there.getD i false = !(st.gone.getD i false)
  deg : ∀ i : Nat, i < N → there.getD i false = true → st.deg.getD i 0 = (card N (fun x => there.getD x.toNat false && adj (i : Int) x) : Int)

theorem cl2 (hN : N ≤ 8192) {st : Ord} {there : List Bool} (R : Rel N adj st there) (gn : List Int) (hgl : gn.length ≤ 8192) {v : List Int} : ∀ (m a : Nat) (best most : Int), a + m = N →
    ((best = -1 ∧ most = -1) ∨ (0 ≤ best ∧ best < N ∧ there.getD best.toNat false = true ∧ most = st.deg.getD best.toNat 0)) →
    (0 ≤ pickGo st.gone st.deg k m a best ∧ pickGo st.gone st.deg k m a best < N) →
    Ev (fun f => jacquardref14_Colours.l1 f N k (tab N adj) (there.set (pickGo st.gone st.deg k m a best).toNat false) (gn ++ [pickGo st.gone st.deg k m a best])) v →
    Ev (fun f => jacquardref14_Colours.l2 f N k (tab N adj) there gn best most a) v
  | 0, a, best, most, ha, hb, hp, h => by
    unfold pickGo at hp h
    refine Ev.succ (h.congr fun f => ?_)
    rw [jacquardref14_Colours.l2, if_neg (by omega), if_pos (by omega), if_pos (by rw [R.len]; omega), if_pos (by omega)]
  | m + 1, a, best, most, ha, hb, hp, h => by
    refine Ev.succ ?_
    have haN : a < N := by omega
    have hga := R.gone a haN
    unfold pickGo at hp h
    cases hg : st.gone.getD a false with
    | true =>
      rw [if_pos hg] at hp h
      rw [hg] at hga
      refine (cl2 hN R gn hgl m (a + 1) best most (by omega) hb hp h).congr (fun f => ?_)
      rw [jacquardref14_Colours.l2, if_pos (by omega), if_pos (by omega), if_pos (by rw [R.len]; omega), rdb_nat, hga, if_neg (by simp), up64 a (by omega)]
    | false =>
      rw [hg] at hga
      have hga : there.getD a false = true := hga
      rw [if_neg (by rw [hg]; simp)] at hp h
      have hdeg := R.deg a haN hga
      have hd := degree_ev N hN adj there R.len a haN
      rw [← hdeg] at hd
      have hnn : 0 ≤ st.deg.getD a 0 := by rw [hdeg]; omega
      have key : Ev (fun f => if st.deg.getD a 0 < k then (if gn.length < 17592186044416 then (jacquardref14_Colours.l1 f N k (tab N adj) (there.set (a : Int).toNat false) (gn ++ [(a : Int)])) else none) else (if st.deg.getD a 0 > most then (jacquardref14_Colours.l2 f N k (tab N adj) there gn a (st.deg.getD a 0) (wrap64 ((a : Int) + 1))) else (jacquardref14_Colours.l2 f N k (tab N adj) there gn best most (wrap64 ((a : Int) + 1))))) v := by
        by_cases h1 : st.deg.getD a 0 < k
        · rw [if_pos h1] at hp h
          exact h.congr (fun f => by rw [if_pos h1, if_pos (by omega)])
        · rw [if_neg h1] at hp h
          have hiff : (best < 0 ∨ st.deg.getD a 0 > st.deg.getD best.toNat 0) ↔ st.deg.getD a 0 > most := by
            rcases hb with ⟨rfl, rfl⟩ | ⟨h2, _, _, h3⟩
            · constructor
              · intro _; omega
              · intro _; exact .inl (by omega)
            · rw [h3]
              constructor
              · rintro (h | h)
                · omega
                · exact h
              · exact .inr
          by_cases h2 : st.deg.getD a 0 > most
          · rw [if_pos (hiff.2 h2)] at hp h
            exact (cl2 hN R gn hgl m (a + 1) a (st.deg.getD a 0) (by omega) (.inr ⟨by omega, by omega, by rw [Int.toNat_natCast]; exact hga, by rw [Int.toNat_natCast]⟩) hp h).congr (fun f => by rw [if_neg h1, if_pos h2, up64 a (by omega)])
          · rw [if_neg (fun h => h2 (hiff.1 h))] at hp h
            exact (cl2 hN R gn hgl m (a + 1) best most (by omega) hb hp h).congr (fun f => by rw [if_neg h1, if_neg h2, up64 a (by omega)])
      refine (Ev.bind hd (q := fun f t171 => if t171 < k then (if gn.length < 17592186044416 then (jacquardref14_Colours.l1 f N k (tab N adj) (there.set (a : Int).toNat false) (gn ++ [(a : Int)])) else none) else (if t171 > most then (jacquardref14_Colours.l2 f N k (tab N adj) there gn a t171 (wrap64 ((a : Int) + 1))) else (jacquardref14_Colours.l2 f N k (tab N adj) there gn best most (wrap64 ((a : Int) + 1))))) key).congr (fun f => ?_)
      rw [jacquardref14_Colours.l2, if_pos (by omega), if_pos (by omega), if_pos (by rw [R.len]; omega), rdb_nat, hga, if_pos rfl]

theorem filter_split {α : Type} (r p q : α → Bool) : ∀ (l : List α), (∀ x ∈ l, r x = (p x || q x)) → (∀ x ∈ l, ¬(p x = true ∧ q x = true)) → (l.filter r).length = (l.filter p).length + (l.filter q).length
  | [], _, _ => by simp
  | x :: t, h, hd => by
    have ih := filter_split r p q t (fun y hy => h y (by simp [hy])) (fun y hy => hd y (by simp [hy]))
    have h0 := h x (by simp)
    have h1 := hd x (by simp)
    rw [List.filter_cons, List.filter_cons, List.filter_cons, h0]
    cases hp : p x <;> cases hq : q x <;> simp [hp, hq] at h1 ⊢ <;> omega
theorem card_one {N : Nat} (x : Nat) (hx : x < N) (f : Int → Bool) : card N (fun y => decide (y = (x : Int)) && f y) = if f x = true then 1 else 0 := by
  have none' : ∀ (p : Int → Bool) (M : Nat), (∀ y : Nat, y < M → p y = false) → card M p = 0 := fun p M h => by
    unfold card
    rw [List.length_eq_zero_iff, List.filter_eq_nil_iff]
    intro y hy
    rw [h y (List.mem_range.1 hy)]; simp
  cases hf : f x with
  | false =>
    rw [if_neg (by simp)]
    refine none' _ _ (fun y _ => ?_)
    by_cases e : y = x
    · subst e; rw [hf]; simp
    · rw [decide_eq_false (by omega)]; rfl
  | true =>
    rw [if_pos rfl]
    induction N with
    | zero => omega
    | succ n ih =>
      unfold card at ih ⊢
      rw [List.range_succ, List.filter_append, List.length_append]
      by_cases e : x = n
      · subst e
        have : ((List.range x).filter fun i : Nat => decide ((i : Int) = (x : Int)) && f i) = [] := by
          rw [List.filter_eq_nil_iff]
          intro y hy
          have := List.mem_range.1 hy
          rw [decide_eq_false (by omega)]; simp
        rw [this]
        simp [hf]
      · rw [ih (by omega)]
        have : decide ((n : Int) = (x : Int)) = false := decide_eq_false (by omega)
        simp [this]

theorem card_less {N : Nat} {there : List Bool} {a : Nat} (ha : a < N) (hl : there.length = N) (ht : there.getD a false = true) (S : Int → Bool) :
    (card N (fun x => (there.set a false).getD x.toNat false && S x) : Int) = (card N (fun x => there.getD x.toNat false && S x) : Int) - (if S a = true then 1 else 0) := by
  have h1 : card N (fun x => there.getD x.toNat false && S x) = card N (fun x => (there.set a false).getD x.toNat false && S x) + card N (fun x => decide (x = (a : Int)) && S x) := by
    unfold card
    refine filter_split _ _ _ (List.range N) (fun x hx => ?_) (fun x hx => ?_)
    · simp only [Int.toNat_natCast]
      rw [getD_set_bool _ _ _ _ (by omega)]
      by_cases e : a = x
      · subst e; rw [if_pos rfl, ht]; simp
      · have : decide ((x : Int) = (a : Int)) = false := decide_eq_false (by omega)
        rw [if_neg e, this]; simp
    · simp only [Int.toNat_natCast]
      rw [getD_set_bool _ _ _ _ (by omega)]
      by_cases e : a = x
      · subst e; rw [if_pos rfl]; simp
      · have : ¬ (x : Int) = (a : Int) := by omega
        rw [if_neg e]; simp [this]
  have h2 : card N (fun x => decide (x = (a : Int)) && S x) = if S a = true then 1 else 0 := card_one a ha S
  rw [h1, h2]
  split <;> omega

theorem Rel.step {st : Ord} {there : List Bool} {t : Nat} (symm : ∀ x y, adj x y = adj y x) (R : Rel N adj st there) (hok : st.Ok N t) (ht : t < N) : Rel N adj (ordStep adj N k st) (there.set (pick N st.gone st.deg k).toNat false) := by
  obtain ⟨p0, p1, p2⟩ := pick_ok hok ht k
  obtain ⟨a, hpa⟩ : ∃ a : Nat, pick N st.gone st.deg k = (a : Int) := ⟨(pick N st.gone st.deg k).toNat, by omega⟩
  unfold ordStep
  rw [hpa] at p0 p1 p2 ⊢
  rw [Int.toNat_natCast] at p2 ⊢
  have haN : a < N := by omega
  have hta : there.getD a false = true := by rw [R.gone a haN, p2]; rfl
  refine ⟨by rw [List.length_set]; exact R.len, fun i hi => ?_, fun i hi hti => ?_⟩
  · dsimp only
    rw [getD_set_bool _ _ _ _ (by rw [R.len]; exact haN), getD_set_bool _ _ _ _ (by rw [hok.gl]; exact haN)]
    rw [Int.toNat_natCast]
    split
    · rfl
    · exact R.gone i hi
  · dsimp only
    rw [getD_set_bool _ _ _ _ (by rw [R.len]; exact haN)] at hti
    split at hti
    · cases hti
    · rw [card_less haN R.len hta, decr_getD _ _ _ (by rw [hok.dl]; exact hi), R.deg i hi hti, symm (a : Int) (i : Int)]
      split <;> omega

theorem cl1 (hN : N ≤ 8192) (symm : ∀ x y, adj x y = adj y x) {v : List Int} (h3 : Ev (fun f => jacquardref14_Colours.l3 f N k (tab N adj) (ordRun adj N k N).ord (List.replicate N 0) 0) v) : ∀ (m t : Nat) (there : List Bool), t + m = N → Rel N adj (ordRun adj N k t) there →
    Ev (fun f => jacquardref14_Colours.l1 f N k (tab N adj) there (ordRun adj N k t).ord) v
  | 0, t, there, ht, R => by
    have : t = N := by omega
    subst this
    have hok := ordRun_ok adj t k t (Nat.le_refl _)
    refine Ev.succ (h3.congr fun f => ?_)
    rw [jacquardref14_Colours.l1, if_neg (by rw [hok.ol]; omega), if_pos (by omega), if_pos (by omega), Int.toNat_natCast]
  | m + 1, t, there, ht, R => by
    have hok := ordRun_ok adj N k t (by omega)
    obtain ⟨p0, p1, p2⟩ := pick_ok hok (by omega) k
    refine Ev.succ ?_
    have ih := cl1 hN symm h3 m (t + 1) _ (by omega) (R.step (k := k) symm hok (by omega))
    refine (cl2 (k := k) hN R (ordRun adj N k t).ord (by rw [hok.ol]; omega) N 0 (-1) (-1) (by omega) (.inl ⟨rfl, rfl⟩) ⟨p0, p1⟩ ih).congr (fun f => ?_)
    rw [jacquardref14_Colours.l1, if_pos (by rw [hok.ol]; omega)]
    rfl

theorem cl0 (hN : N ≤ 8192) {v : List Int} (h1 : Ev (fun f => jacquardref14_Colours.l1 f N k (tab N adj) (List.replicate N true) []) v) : ∀ (m i : Nat) (there : List Bool), i + m = N → there = (List.range N).map (fun j => decide (j < i)) →
    Ev (fun f => jacquardref14_Colours.l0 f N k (tab N adj) there i) v
  | 0, i, there, hi, ht => by
    have e : there = List.replicate N true := by
      rw [ht]
      apply List.ext_getElem
      · simp
      · intro j h1 h2
        simp at h1 ⊢
        omega
    refine Ev.succ (h1.congr fun f => ?_)
    rw [jacquardref14_Colours.l0, if_neg (by omega), e]
  | m + 1, i, there, hi, ht => by
    have hl : there.length = N := by rw [ht]; simp
    refine Ev.succ ((cl0 hN h1 m (i + 1) (there.set i true) (by omega) ?_).congr fun f => ?_)
    · rw [ht]
      apply List.ext_getElem
      · simp
      · intro j h1 h2
        simp only [List.getElem_set, List.getElem_map, List.getElem_range]
        by_cases e : i = j
        · subst e; simp
        · rw [if_neg e]
          congr 1
          apply propext
          omega
    · rw [jacquardref14_Colours.l0, if_pos (by omega), if_pos (by omega), if_pos (by omega), Int.toNat_natCast, up64 i (by omega)]
end

theorem colours_ev (n k : Int) (hk : k ≤ 1000000) (l : List S44) (hl : l.length ≤ 1000000) : Ev (fun f => jacquardref14_Colours.f f n l k) (colours n k (pairs l)) := by
  unfold colours
  by_cases h0 : n < 0
  · rw [if_pos (.inl h0)]
    refine Ev.succ (Ev.of fun f => ?_)
    rw [jacquardref14_Colours.f, if_pos h0, jacquardref14_Colours.j0, if_pos rfl]
  · by_cases h1 : n > 8192
    · rw [if_pos (.inr h1)]
      refine Ev.succ (Ev.of fun f => ?_)
      rw [jacquardref14_Colours.f, if_neg h0, decide_eq_true h1, jacquardref14_Colours.j0, if_pos rfl]
    · rw [if_neg (by omega)]
      obtain ⟨N, rfl⟩ : ∃ N : Nat, n = (N : Int) := ⟨n.toNat, by omega⟩
      rw [Int.toNat_natCast]
      have hN : N ≤ 8192 := by omega
      have hok := ordRun_ok (adjOf N (pairs l)) N k N (Nat.le_refl _)
      have h4 := cl4 (adj := adjOf N (pairs l)) (N := N) hN hk (ordRun (adjOf N (pairs l)) N k N).ord hok.ob (by rw [hok.ol]; exact hN) N (List.replicate N (-1)) (by simp) (by rw [hok.ol]; exact Nat.le_refl _)
      rw [List.take_of_length_le (by rw [hok.ol]; exact Nat.le_refl _)] at h4
      have h3 := cl3 (adj := adjOf N (pairs l)) (k := k) hN (ordRun (adjOf N (pairs l)) N k N).ord N 0 (List.replicate N 0) (by omega) (by apply List.ext_getElem <;> simp) h4
      have h1' := cl1 (adj := adjOf N (pairs l)) (k := k) hN (adjOf_symm N (pairs l)) h3 N 0 (List.replicate N true) (by omega) (by
        refine ⟨by simp, fun i hi => ?_, fun i hi _ => ?_⟩
        · simp [ordRun, ordStart, hi]
        · simp only [ordRun, ordStart]
          rw [List.getD_eq_getElem?_getD, List.getElem?_map, List.getElem?_range hi]
          simp only [Option.map_some, Option.getD_some]
          congr 1
          unfold card
          congr 1
          apply List.filter_congr
          intro x hx
          have := List.mem_range.1 hx
          simp [this])
      have h0' := cl0 (adj := adjOf N (pairs l)) (k := k) hN h1' N 0 (List.replicate N false) (by omega) (by apply List.ext_getElem <;> simp)
      refine Ev.succ ((Ev.bind (table_ev N hN l hl) (q := fun f t159 => (if 0 ≤ (N : Int) then (if ((N : Int) : Int).toNat ≤ 281474976710656 then (jacquardref14_Colours.l0 f N k t159 (List.replicate ((N : Int) : Int).toNat false) 0) else (none)) else (none))) (h0'.congr fun f => ?_)).congr fun f => ?_)
      · rw [if_pos (by omega), if_pos (by omega), Int.toNat_natCast]; rfl
      · rw [jacquardref14_Colours.f, if_neg h0, decide_eq_false h1, jacquardref14_Colours.j0, if_neg (by simp)]
end Go.Proofs.YtgdmdgkfababeaaEv
