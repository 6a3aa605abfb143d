/-
  Colouring and merging, in plain Lean, step by step as the program goes. Own work; no program in sight.
-/
namespace Go.Proofs.YtgdmdgkfababeaaCol

/-- How many numbers below N are in S. -/
def card (N : Nat) (S : Int → Bool) : Nat := ((List.range N).filter fun i : Nat => S (i : Int)).length

/-- Who are neighbours, of nodes 0 to n - 1, by pairs. -/
def touches (n : Int) (a b : Int) (e : Int × Int) : Bool :=
  decide (0 ≤ e.1 ∧ e.1 < n ∧ 0 ≤ e.2 ∧ e.2 < n ∧ e.1 ≠ e.2 ∧ ((e.1 = a ∧ e.2 = b) ∨ (e.1 = b ∧ e.2 = a)))
def adjOf (n : Int) (l : List (Int × Int)) (a b : Int) : Bool := l.any (touches n a b)

/-- The first node that is not gone and has fewer than k neighbours; else the first with most. -/
def pickGo (gone : List Bool) (deg : List Int) (k : Int) : Nat → Nat → Int → Int
  | 0, _, best => best
  | m + 1, a, best =>
    if gone.getD a false = true then pickGo gone deg k m (a + 1) best
    else if deg.getD a 0 < k then (a : Int)
    else if best < 0 ∨ deg.getD a 0 > deg.getD best.toNat 0 then pickGo gone deg k m (a + 1) (a : Int)
    else pickGo gone deg k m (a + 1) best

def pick (N : Nat) (gone : List Bool) (deg : List Int) (k : Int) : Int := pickGo gone deg k N 0 (-1)

/-- Each number in S is lowered by one. -/
def decr (deg : List Int) (S : Int → Bool) : List Int := (List.range deg.length).map fun i : Nat => if S (i : Int) then deg.getD i 0 - 1 else deg.getD i 0

/-- The state behind so many rounds: who is gone, the degrees, the order. -/
structure Ord where
  gone : List Bool
  deg : List Int
  ord : List Int

def ordStep (adj : Int → Int → Bool) (N : Nat) (k : Int) (s : Ord) : Ord :=
  let a := pick N s.gone s.deg k
  { gone := s.gone.set a.toNat true, deg := decr s.deg (adj a), ord := s.ord ++ [a] }
def ordStart (adj : Int → Int → Bool) (N : Nat) : Ord := { gone := List.replicate N false, deg := (List.range N).map fun i : Nat => (card N (adj (i : Int)) : Int), ord := [] }
def ordRun (adj : Int → Int → Bool) (N : Nat) (k : Int) : Nat → Ord
  | 0 => ordStart adj N
  | t + 1 => ordStep adj N k (ordRun adj N k t)

/-- Is the colour c that of a neighbour of a? -/
def usedBy (adj : Int → Int → Bool) (N : Nat) (out : List Int) (a c : Int) : Bool := (List.range N).any fun b : Nat => adj a (b : Int) && decide (out.getD b 0 = c)

/-- The least number from c on, of m numbers, that is not used. -/
def freeGo (used : Int → Bool) : Nat → Int → Option Int
  | 0, _ => none
  | m + 1, c => if used c = true then freeGo used m (c + 1) else some c

def paint (adj : Int → Int → Bool) (N : Nat) (k : Int) (out : List Int) (a : Int) : List Int :=
  match freeGo (usedBy adj N out a) k.toNat 0 with
  | some c => out.set a.toNat c
  | none => out

def colours (n k : Int) (l : List (Int × Int)) : List Int :=
  if n < 0 ∨ n > 8192 then [] else
    ((ordRun (adjOf n l) n.toNat k n.toNat).ord.reverse).foldl (paint (adjOf n l) n.toNat k) (List.replicate n.toNat (-1))

/-! ### small laws for the walks -/
theorem adjOf_range {n : Int} {l : List (Int × Int)} {a b : Int} (h : adjOf n l a b = true) : (0 ≤ a ∧ a < n) ∧ (0 ≤ b ∧ b < n) ∧ a ≠ b := by
  obtain ⟨e, _, he⟩ := List.any_eq_true.1 h
  have := of_decide_eq_true he
  omega
theorem adjOf_symm (n : Int) (l : List (Int × Int)) (a b : Int) : adjOf n l a b = adjOf n l b a := by
  unfold adjOf
  congr 1
  funext e
  unfold touches
  congr 1
  apply propext
  constructor <;> intro h <;> omega

theorem decr_length (deg : List Int) (S : Int → Bool) : (decr deg S).length = deg.length := by simp [decr]
theorem decr_getD (deg : List Int) (S : Int → Bool) (i : Nat) (hi : i < deg.length) : (decr deg S).getD i 0 = if S (i : Int) then deg.getD i 0 - 1 else deg.getD i 0 := by
  unfold decr
  rw [List.getD_eq_getElem?_getD, List.getElem?_map, List.getElem?_range hi]
  rfl

/-- What the order's state keeps, round by round. -/
structure Ord.Ok (N : Nat) (t : Nat) (s : Ord) : Prop where
  gl : s.gone.length = N
  dl : s.deg.length = N
  ol : s.ord.length = t
  db : ∀ i, i < N → -(t : Int) ≤ s.deg.getD i 0 ∧ s.deg.getD i 0 ≤ N
  og : ∀ i : Nat, i < N → (s.gone.getD i false = true ↔ (i : Int) ∈ s.ord)
  ob : ∀ a ∈ s.ord, 0 ≤ a ∧ a < N
  on : s.ord.Nodup

theorem nodup_le {α : Type} [DecidableEq α] : ∀ (l m : List α), l.Nodup → (∀ x ∈ l, x ∈ m) → l.length ≤ m.length
  | [], _, _, _ => by simp
  | x :: r, m, hn, hs => by
    obtain ⟨h1, h2⟩ := List.nodup_cons.1 hn
    have hx : x ∈ m := hs x (by simp)
    have := nodup_le r (m.erase x) h2 (fun y hy => by
      have hne : y ≠ x := fun e => h1 (e ▸ hy)
      exact (List.mem_erase_of_ne hne).2 (hs y (by simp [hy])))
    rw [List.length_erase_of_mem hx] at this
    have h3 := List.length_pos_of_mem hx
    simp only [List.length_cons]
    omega

theorem nodup_cast : ∀ (l : List Nat), l.Nodup → (l.map (fun i : Nat => (i : Int))).Nodup
  | [], _ => by simp
  | a :: r, h => by
    obtain ⟨h1, h2⟩ := List.nodup_cons.1 h
    refine List.nodup_cons.2 ⟨fun hm => ?_, nodup_cast r h2⟩
    obtain ⟨b, hb, e⟩ := List.mem_map.1 hm
    have hba : b = a := Int.ofNat.inj e
    exact h1 (hba ▸ hb)

/-- If fewer than N are gone, one is not. -/
theorem Ord.Ok.left {N t : Nat} {s : Ord} (h : s.Ok N t) (ht : t < N) : ∃ i, i < N ∧ s.gone.getD i false = false := by
  by_cases hx : ∃ i, i < N ∧ s.gone.getD i false = false
  · exact hx
  · exfalso
    have hall : ∀ x ∈ (List.range N).map (fun i : Nat => (i : Int)), x ∈ s.ord := by
      intro x hm
      obtain ⟨i, hi, rfl⟩ := List.mem_map.1 hm
      have hi' : i < N := List.mem_range.1 hi
      refine (h.og i hi').1 ?_
      cases hg : s.gone.getD i false
      · exact absurd ⟨i, hi', hg⟩ hx
      · rfl
    have := nodup_le _ _ (nodup_cast _ (List.nodup_range (n := N))) hall
    simp [h.ol] at this
    omega

theorem pickGo_ok (gone : List Bool) (deg : List Int) (k : Int) (N : Nat) : ∀ (m a : Nat) (best : Int), a + m = N → (best = -1 ∨ (0 ≤ best ∧ best < N ∧ gone.getD best.toNat false = false)) →
    ((∃ i, a ≤ i ∧ i < N ∧ gone.getD i false = false) ∨ 0 ≤ best) →
    0 ≤ pickGo gone deg k m a best ∧ pickGo gone deg k m a best < N ∧ gone.getD (pickGo gone deg k m a best).toNat false = false
  | 0, a, best, ha, hb, hx => by
    have h0 : 0 ≤ best := by
      rcases hx with ⟨i, h1, h2, _⟩ | h
      · omega
      · exact h
    rcases hb with hb | hb
    · omega
    · exact hb
  | m + 1, a, best, ha, hb, hx => by
    unfold pickGo
    by_cases hg : gone.getD a false = true
    · rw [if_pos hg]
      refine pickGo_ok gone deg k N m (a + 1) best (by omega) hb ?_
      rcases hx with ⟨i, h1, h2, h3⟩ | h
      · refine .inl ⟨i, ?_, h2, h3⟩
        rcases Nat.lt_or_ge a i with h | h
        · exact h
        · have : i = a := by omega
          subst this
          rw [hg] at h3; cases h3
      · exact .inr h
    · rw [if_neg hg]
      have hg' : gone.getD a false = false := by simpa using hg
      by_cases h1 : deg.getD a 0 < k
      · rw [if_pos h1]; exact ⟨by omega, by omega, by simpa using hg'⟩
      · rw [if_neg h1]
        by_cases h2 : best < 0 ∨ deg.getD a 0 > deg.getD best.toNat 0
        · rw [if_pos h2]; exact pickGo_ok gone deg k N m (a + 1) a (by omega) (.inr ⟨by omega, by omega, by simpa using hg'⟩) (.inr (by omega))
        · rw [if_neg h2]
          have : 0 ≤ best := by omega
          exact pickGo_ok gone deg k N m (a + 1) best (by omega) hb (.inr this)

theorem pick_ok {N t : Nat} {s : Ord} (h : s.Ok N t) (ht : t < N) (k : Int) : 0 ≤ pick N s.gone s.deg k ∧ pick N s.gone s.deg k < N ∧ s.gone.getD (pick N s.gone s.deg k).toNat false = false := by
  obtain ⟨i, hi, hg⟩ := h.left ht
  exact pickGo_ok s.gone s.deg k N N 0 (-1) (by omega) (.inl rfl) (.inl ⟨i, Nat.zero_le _, hi, hg⟩)

theorem card_le (N : Nat) (S : Int → Bool) : card N S ≤ N := by
  unfold card
  exact Nat.le_trans (List.length_filter_le _ _) (by simp)

theorem ordStart_ok (adj : Int → Int → Bool) (N : Nat) : (ordStart adj N).Ok N 0 where
  gl := by simp [ordStart]
  dl := by simp [ordStart]
  ol := rfl
  db := fun i hi => by
    have := card_le N (adj (i : Int))
    simp [ordStart, hi]
    omega
  og := fun i hi => by simp [ordStart, hi]
  ob := fun a ha => by simp [ordStart] at ha
  on := by simp [ordStart]

theorem getD_set_bool (l : List Bool) (i j : Nat) (v : Bool) (hi : i < l.length) : (l.set i v).getD j false = if i = j then v else l.getD j false := by
  rw [List.getD_eq_getElem?_getD, List.getD_eq_getElem?_getD, List.getElem?_set]
  by_cases e : i = j
  · subst e; simp [hi]
  · simp [e]
theorem getD_set_int (l : List Int) (i j : Nat) (v : Int) (hi : i < l.length) : (l.set i v).getD j 0 = if i = j then v else l.getD j 0 := by
  rw [List.getD_eq_getElem?_getD, List.getD_eq_getElem?_getD, List.getElem?_set]
  by_cases e : i = j
  · subst e; simp [hi]
  · simp [e]

theorem ordStep_ok {adj : Int → Int → Bool} {N t : Nat} {k : Int} {s : Ord} (h : s.Ok N t) (ht : t < N) : (ordStep adj N k s).Ok N (t + 1) := by
  obtain ⟨p0, p1, p2⟩ := pick_ok h ht k
  have hpn : (pick N s.gone s.deg k).toNat < s.gone.length := by rw [h.gl]; omega
  have hnot : pick N s.gone s.deg k ∉ s.ord := by
    intro hm
    have h1 := (h.og (pick N s.gone s.deg k).toNat (by omega)).2 (by rw [Int.toNat_of_nonneg p0]; exact hm)
    rw [p2] at h1; cases h1
  refine { gl := by simp [ordStep, h.gl], dl := by simp [ordStep, decr_length, h.dl], ol := by simp [ordStep, h.ol], db := fun i hi => ?_, og := fun i hi => ?_, ob := fun a ha => ?_, on := ?_ }
  · have h1 := h.db i hi
    simp only [ordStep]
    rw [decr_getD _ _ _ (by rw [h.dl]; exact hi)]
    split <;> omega
  · simp only [ordStep]
    rw [getD_set_bool _ _ _ _ hpn, List.mem_append, List.mem_singleton]
    by_cases e : (pick N s.gone s.deg k).toNat = i
    · subst e; simp [Int.toNat_of_nonneg p0]
    · rw [if_neg e, h.og i hi]
      constructor
      · exact .inl
      · rintro (h1 | h1)
        · exact h1
        · omega
  · simp only [ordStep, List.mem_append, List.mem_singleton] at ha
    rcases ha with ha | rfl
    · exact h.ob a ha
    · exact ⟨p0, p1⟩
  · simp only [ordStep]
    refine List.nodup_append.2 ⟨h.on, by simp, fun a ha b hb e => ?_⟩
    simp only [List.mem_singleton] at hb
    exact hnot (by rw [← hb, ← e]; exact ha)

theorem ordRun_ok (adj : Int → Int → Bool) (N : Nat) (k : Int) : ∀ t, t ≤ N → (ordRun adj N k t).Ok N t
  | 0, _ => ordStart_ok adj N
  | t + 1, h => ordStep_ok (ordRun_ok adj N k t (by omega)) (by omega)

theorem paint_length (adj : Int → Int → Bool) (N : Nat) (k : Int) (out : List Int) (a : Int) : (paint adj N k out a).length = out.length := by
  unfold paint
  split <;> simp

end Go.Proofs.YtgdmdgkfababeaaCol
