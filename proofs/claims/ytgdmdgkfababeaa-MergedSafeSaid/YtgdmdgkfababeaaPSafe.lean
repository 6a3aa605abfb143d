/-
  Who is still there, and with how many neighbours: the program's state of the order. In plain Lean. Own work; no program in sight.
-/
import Derived.Test.YtgdmdgkfababeaaCol
import Derived.Test.YtgdmdgkfababeaaPMer
import Derived.Test.YtgdmdgkfababeaaPDiff
namespace Go.Proofs.YtgdmdgkfababeaaEv
open Go.Proofs.YtgdmdgkfababeaaCol

section
variable {N : Nat} {adj : Int → Int → Bool} {k : Int}
/-- The document's state is the program's. -/
structure Rel (N : Nat) (adj : Int → Int → Bool) (st : Ord) (there : List Bool) : Prop where
  len : there.length = N
  gone : ∀ i : Nat, i < N → there.getD i false = !(st.gone.getD i false)
  deg : ∀ i : Nat, i < N → there.getD i false = true → st.deg.getD i 0 = (card N (fun x => there.getD x.toNat false && adj (i : Int) x) : Int)

theorem filter_split {α : Type} (r p q : α → Bool) : ∀ (l : List α), (∀ x ∈ l, r x = (p x || q x)) → (∀ x ∈ l, ¬(p x = true ∧ q x = true)) → (l.filter r).length = (l.filter p).length + (l.filter q).length
  | [], _, _ => by simp
  | x :: t, h, hd => by
    have ih := filter_split r p q t (fun y hy => h y (by simp [hy])) (fun y hy => hd y (by simp [hy]))
    have h0 := h x (by simp)
    have h1 := hd x (by simp)
    rw [List.filter_cons, List.filter_cons, List.filter_cons, h0]
    cases hp : p x <;> cases hq : q x <;> simp [hp, hq] at h1 ⊢ <;> omega
theorem card_one {N : Nat} (x : Nat) (hx : x < N) (f : Int → Bool) : card N (fun y => decide (y = (x : Int)) && f y) = if f x = true then 1 else 0 := by
  have none' : ∀ (p : Int → Bool) (M : Nat), (∀ y : Nat, y < M → p y = false) → card M p = 0 := fun p M h => by
    unfold card
    rw [List.length_eq_zero_iff, List.filter_eq_nil_iff]
    intro y hy
    rw [h y (List.mem_range.1 hy)]; simp
  cases hf : f x with
  | false =>
    rw [if_neg (by simp)]
    refine none' _ _ (fun y _ => ?_)
    by_cases e : y = x
    · subst e; rw [hf]; simp
    · rw [decide_eq_false (by omega)]; rfl
  | true =>
    rw [if_pos rfl]
    induction N with
    | zero => omega
    | succ n ih =>
      unfold card at ih ⊢
      rw [List.range_succ, List.filter_append, List.length_append]
      by_cases e : x = n
      · subst e
        have : ((List.range x).filter fun i : Nat => decide ((i : Int) = (x : Int)) && f i) = [] := by
          rw [List.filter_eq_nil_iff]
          intro y hy
          have := List.mem_range.1 hy
          rw [decide_eq_false (by omega)]; simp
        rw [this]
        simp [hf]
      · rw [ih (by omega)]
        have : decide ((n : Int) = (x : Int)) = false := decide_eq_false (by omega)
        simp [this]

theorem card_less {N : Nat} {there : List Bool} {a : Nat} (ha : a < N) (hl : there.length = N) (ht : there.getD a false = true) (S : Int → Bool) :
    (card N (fun x => (there.set a false).getD x.toNat false && S x) : Int) = (card N (fun x => there.getD x.toNat false && S x) : Int) - (if S a = true then 1 else 0) := by
  have h1 : card N (fun x => there.getD x.toNat false && S x) = card N (fun x => (there.set a false).getD x.toNat false && S x) + card N (fun x => decide (x = (a : Int)) && S x) := by
    unfold card
    refine filter_split _ _ _ (List.range N) (fun x hx => ?_) (fun x hx => ?_)
    · simp only [Int.toNat_natCast]
      rw [getD_set_bool _ _ _ _ (by omega)]
      by_cases e : a = x
      · subst e; rw [if_pos rfl, ht]; simp
      · have : decide ((x : Int) = (a : Int)) = false := decide_eq_false (by omega)
        rw [if_neg e, this]; simp
    · simp only [Int.toNat_natCast]
      rw [getD_set_bool _ _ _ _ (by omega)]
      by_cases e : a = x
      · subst e; rw [if_pos rfl]; simp
      · have : ¬ (x : Int) = (a : Int) := by omega
        rw [if_neg e]; simp [this]
  have h2 : card N (fun x => decide (x = (a : Int)) && S x) = if S a = true then 1 else 0 := card_one a ha S
  rw [h1, h2]
  split <;> omega

theorem Rel.step {st : Ord} {there : List Bool} {t : Nat} (symm : ∀ x y, adj x y = adj y x) (R : Rel N adj st there) (hok : st.Ok N t) (ht : t < N) : Rel N adj (ordStep adj N k st) (there.set (pick N st.gone st.deg k).toNat false) := by
  obtain ⟨p0, p1, p2⟩ := pick_ok hok ht k
  obtain ⟨a, hpa⟩ : ∃ a : Nat, pick N st.gone st.deg k = (a : Int) := ⟨(pick N st.gone st.deg k).toNat, by omega⟩
  unfold ordStep
  rw [hpa] at p0 p1 p2 ⊢
  rw [Int.toNat_natCast] at p2 ⊢
  have haN : a < N := by omega
  have hta : there.getD a false = true := by rw [R.gone a haN, p2]; rfl
  refine ⟨by rw [List.length_set]; exact R.len, fun i hi => ?_, fun i hi hti => ?_⟩
  · dsimp only
    rw [getD_set_bool _ _ _ _ (by rw [R.len]; exact haN), getD_set_bool _ _ _ _ (by rw [hok.gl]; exact haN)]
    rw [Int.toNat_natCast]
    split
    · rfl
    · exact R.gone i hi
  · dsimp only
    rw [getD_set_bool _ _ _ _ (by rw [R.len]; exact haN)] at hti
    split at hti
    · cases hti
    · rw [card_less haN R.len hta, decr_getD _ _ _ (by rw [hok.dl]; exact hi), R.deg i hi hti, symm (a : Int) (i : Int)]
      split <;> omega

end
end Go.Proofs.YtgdmdgkfababeaaEv

/-
  Merging makes nothing harder: no node set in which each has k neighbours comes about; then all are taken away, and all get colours. In plain Lean. Own work; no program in sight.
-/
namespace Go.Proofs.YtgdmdgkfababeaaCol
open Go.Proofs.YtgdmdgkfababeaaH (card_congr card_none)
open Go.Proofs.YtgdmdgkfababeaaEv (Rel)

/-- Each of S has k neighbours in S. -/
def IsCore (N : Nat) (g : Int → Int → Bool) (k : Int) (S : Nat → Bool) : Prop := ∀ a : Nat, a < N → S a = true → k ≤ (card N (fun b => S b.toNat && !decide (b = (a : Int)) && g a b) : Int)
def NoCore (N : Nat) (g : Int → Int → Bool) (k : Int) : Prop := ∀ S : Nat → Bool, IsCore N g k S → ∀ a : Nat, a < N → S a = false

/-! ### taking away -/
def degE (N : Nat) (g : Int → Int → Bool) (there : List Bool) (a : Int) : Nat := card N (fun b => there.getD b.toNat false && !decide (b = a) && g a b)
def sweepAt (N : Nat) (g : Int → Int → Bool) (k : Int) (there : List Bool) (a : Nat) : List Bool := if there.getD a false = true ∧ (degE N g there a : Int) < k then there.set a false else there
def sweepFrom (N : Nat) (g : Int → Int → Bool) (k : Int) (there : List Bool) (i m : Nat) : List Bool := (List.range' i m).foldl (sweepAt N g k) there
def roundsE (N : Nat) (g : Int → Int → Bool) (k : Int) : Nat → List Bool → List Bool
  | 0, there => there
  | m + 1, there => roundsE N g k m (sweepFrom N g k there 0 N)
def easyB (N : Nat) (g : Int → Int → Bool) (k : Int) (there : List Bool) : Bool := (List.range N).all fun i : Nat => !((roundsE N g k N there).getD i false)

theorem sweepAt_length (N : Nat) (g : Int → Int → Bool) (k : Int) (there : List Bool) (a : Nat) : (sweepAt N g k there a).length = there.length := by
  unfold sweepAt; split <;> simp
theorem sweepFrom_succ (N : Nat) (g : Int → Int → Bool) (k : Int) (there : List Bool) (i m : Nat) : sweepFrom N g k there i (m + 1) = sweepFrom N g k (sweepAt N g k there i) (i + 1) m := by
  unfold sweepFrom; rw [List.range'_succ, List.foldl_cons]
theorem sweepFrom_length (N : Nat) (g : Int → Int → Bool) (k : Int) : ∀ (m i : Nat) (there : List Bool), (sweepFrom N g k there i m).length = there.length
  | 0, _, _ => rfl
  | m + 1, i, there => by rw [sweepFrom_succ, sweepFrom_length N g k m, sweepAt_length]
theorem sweepAt_sub {N : Nat} {g : Int → Int → Bool} {k : Int} {there : List Bool} (hl : there.length = N) {a : Nat} (ha : a < N) (i : Nat) (h : (sweepAt N g k there a).getD i false = true) : there.getD i false = true := by
  unfold sweepAt at h
  split at h
  · rw [getD_set_bool _ _ _ _ (by omega)] at h
    split at h
    · cases h
    · exact h
  · exact h
theorem sweepFrom_sub {N : Nat} {g : Int → Int → Bool} {k : Int} : ∀ (m i : Nat) (there : List Bool), there.length = N → i + m = N → ∀ j : Nat, (sweepFrom N g k there i m).getD j false = true → there.getD j false = true
  | 0, _, _, _, _, _, h => h
  | m + 1, i, there, hl, hi, j, h => by
    rw [sweepFrom_succ] at h
    exact sweepAt_sub hl (by omega) j (sweepFrom_sub m (i + 1) _ (by rw [sweepAt_length]; exact hl) (by omega) j h)

theorem sweepAt_core {N : Nat} {g : Int → Int → Bool} {k : Int} {S : Nat → Bool} (hS : IsCore N g k S) {there : List Bool} (hl : there.length = N) (hsub : ∀ i : Nat, i < N → S i = true → there.getD i false = true) {a : Nat} (ha : a < N) (i : Nat) (hi : i < N) (h : S i = true) : (sweepAt N g k there a).getD i false = true := by
  unfold sweepAt
  split
  · rename_i hc
    rw [getD_set_bool _ _ _ _ (by omega)]
    split
    · rename_i e
      subst e
      have h1 := hS a ha h
      have h2 : card N (fun b => S b.toNat && !decide (b = (a : Int)) && g a b) ≤ degE N g there a := card_mono (fun b hb hx => by
        simp only [Bool.and_eq_true] at hx ⊢
        rw [Int.toNat_natCast] at hx ⊢
        exact ⟨⟨hsub b hb hx.1.1, hx.1.2⟩, hx.2⟩)
      have := hc.2
      omega
    · exact hsub i hi h
  · exact hsub i hi h
theorem sweepFrom_core {N : Nat} {g : Int → Int → Bool} {k : Int} {S : Nat → Bool} (hS : IsCore N g k S) : ∀ (m i : Nat) (there : List Bool), there.length = N → i + m = N → (∀ i : Nat, i < N → S i = true → there.getD i false = true) → ∀ j : Nat, j < N → S j = true → (sweepFrom N g k there i m).getD j false = true
  | 0, _, _, _, _, h => h
  | m + 1, i, there, hl, hi, h => by
    rw [sweepFrom_succ]
    exact sweepFrom_core hS m (i + 1) _ (by rw [sweepAt_length]; exact hl) (by omega) (fun j hj hs => sweepAt_core hS hl h (by omega) j hj hs)
theorem rounds_core {N : Nat} {g : Int → Int → Bool} {k : Int} {S : Nat → Bool} (hS : IsCore N g k S) : ∀ (m : Nat) (there : List Bool), there.length = N → (∀ i : Nat, i < N → S i = true → there.getD i false = true) → ∀ j : Nat, j < N → S j = true → (roundsE N g k m there).getD j false = true
  | 0, _, _, h => h
  | m + 1, there, hl, h => rounds_core hS m _ (by rw [sweepFrom_length]; exact hl) (sweepFrom_core hS N 0 there hl (by omega) h)

/-- What can be taken away whole holds no core. -/
theorem easy_noCore {N : Nat} {g : Int → Int → Bool} {k : Int} (h : easyB N g k (List.replicate N true) = true) : NoCore N g k := fun S hS a ha => by
  cases hs : S a with
  | false => rfl
  | true =>
    have h1 := rounds_core hS N (List.replicate N true) (by simp) (fun i hi _ => by rw [List.getD_eq_getElem?_getD, List.getElem?_replicate, if_pos hi]; rfl) a ha hs
    unfold easyB at h
    rw [List.all_eq_true] at h
    have := h a (List.mem_range.2 ha)
    rw [h1] at this
    cases this

def cntE (N : Nat) (there : List Bool) : Nat := card N (fun i => there.getD i.toNat false)
theorem sweepFrom_takes {N : Nat} {g : Int → Int → Bool} {k : Int} : ∀ (m i : Nat) (there : List Bool) (a : Nat), there.length = N → i + m = N → i ≤ a → a < N → (degE N g there a : Int) < k → (sweepFrom N g k there i m).getD a false = false
  | 0, i, there, a, hl, hi, h1, h2, _ => by omega
  | m + 1, i, there, a, hl, hi, h1, h2, hd => by
    rw [sweepFrom_succ]
    have hl' : (sweepAt N g k there i).length = N := by rw [sweepAt_length]; exact hl
    by_cases e : i = a
    · subst e
      cases hx : (sweepFrom N g k (sweepAt N g k there i) (i + 1) m).getD i false with
      | false => rfl
      | true =>
        have := sweepFrom_sub m (i + 1) _ hl' (by omega) i hx
        have h3 := sweepAt_sub hl h2 i this
        unfold sweepAt at this
        rw [if_pos ⟨h3, hd⟩, getD_set_bool _ _ _ _ (by omega), if_pos rfl] at this
        cases this
    · refine sweepFrom_takes m (i + 1) _ a hl' (by omega) (by omega) h2 ?_
      have : degE N g (sweepAt N g k there i) a ≤ degE N g there a := card_mono (fun b hb hx => by
        simp only [Bool.and_eq_true] at hx ⊢
        rw [Int.toNat_natCast] at hx ⊢
        exact ⟨⟨sweepAt_sub hl (by omega) b hx.1.1, hx.1.2⟩, hx.2⟩)
      omega
theorem sweep_less {N : Nat} {g : Int → Int → Bool} {k : Int} (hN : NoCore N g k) {there : List Bool} (hl : there.length = N) (hc : 0 < cntE N there) : cntE N (sweepFrom N g k there 0 N) < cntE N there := by
  have hex : ∃ a : Nat, a < N ∧ there.getD a false = true ∧ (degE N g there a : Int) < k := by
    by_cases hx : ∃ a : Nat, a < N ∧ there.getD a false = true ∧ (degE N g there a : Int) < k
    · exact hx
    · exfalso
      have hcore : IsCore N g k (fun i => there.getD i false) := fun a ha hs => by
        by_cases h : (degE N g there a : Int) < k
        · exact absurd ⟨a, ha, hs, h⟩ hx
        · exact Int.not_lt.1 h
      have hno := hN _ hcore
      have : cntE N there = 0 := card_none (fun x hx => by rw [Int.toNat_natCast]; exact hno x hx)
      omega
  obtain ⟨a, ha, h1, h2⟩ := hex
  refine card_lt (fun i hi h => ?_) ⟨a, ha, ?_, ?_⟩
  · rw [Int.toNat_natCast] at h ⊢
    exact sweepFrom_sub N 0 there hl (by omega) i h
  · rw [Int.toNat_natCast]; exact h1
  · rw [Int.toNat_natCast]; exact sweepFrom_takes N 0 there a hl (by omega) (by omega) ha h2
theorem sweep_le {N : Nat} {g : Int → Int → Bool} {k : Int} {there : List Bool} (hl : there.length = N) : cntE N (sweepFrom N g k there 0 N) ≤ cntE N there := card_mono (fun i hi h => by
  rw [Int.toNat_natCast] at h ⊢
  exact sweepFrom_sub N 0 there hl (by omega) i h)
theorem rounds_cnt {N : Nat} {g : Int → Int → Bool} {k : Int} (hN : NoCore N g k) : ∀ (m : Nat) (there : List Bool), there.length = N → cntE N (roundsE N g k m there) ≤ cntE N there - m
  | 0, there, _ => Nat.le_refl _
  | m + 1, there, hl => by
    have ih := rounds_cnt hN m _ (show (sweepFrom N g k there 0 N).length = N by rw [sweepFrom_length]; exact hl)
    have h1 := sweep_le (g := g) (k := k) hl
    show cntE N (roundsE N g k m (sweepFrom N g k there 0 N)) ≤ _
    by_cases hc : 0 < cntE N there
    · have := sweep_less hN hl hc
      omega
    · omega
theorem noCore_easy {N : Nat} {g : Int → Int → Bool} {k : Int} (hN : NoCore N g k) {there : List Bool} (hl : there.length = N) : easyB N g k there = true := by
  have h1 := rounds_cnt hN N there hl
  have h2 : cntE N there ≤ N := card_le _ _
  have h3 : cntE N (roundsE N g k N there) = 0 := by omega
  unfold easyB
  rw [List.all_eq_true]
  intro i hi
  cases hx : (roundsE N g k N there).getD i false with
  | false => rfl
  | true =>
    exfalso
    have : 0 < cntE N (roundsE N g k N there) := by
      have : card N (fun _ => false) < cntE N (roundsE N g k N there) := card_lt (fun i hi h => by cases h) ⟨i, List.mem_range.1 hi, by rw [Int.toNat_natCast]; exact hx, rfl⟩
      omega
    omega

/-! ### merging -/
theorem join_noCore {N : Nat} {s : Mer} (h : s.Ok N) {k : Int} (hk : 1 ≤ k) {c d : Nat} (hcd : c < d) (hd : d < N) (hh : harder s.adj N k c d = false) (hN : NoCore N s.adj k) : NoCore N (joinAdj s.adj c d) k := by
  intro S hS
  have hcdI : (c : Int) ≠ (d : Int) := by omega
  have le1 : ∀ a : Nat, a < N → S a = true → k ≤ (card N (joinAdj s.adj c d a) : Int) := fun a ha hs => by
    have h1 := hS a ha hs
    have h2 : card N (fun b => S b.toNat && !decide (b = (a : Int)) && joinAdj s.adj c d a b) ≤ card N (joinAdj s.adj c d a) := card_mono (fun b hb hx => by simp only [Bool.and_eq_true] at hx; exact hx.2)
    omega
  have hSd : S d = false := by
    cases hs : S d with
    | false => rfl
    | true =>
      have := le1 d hd hs
      have h0 : card N (joinAdj s.adj c d d) = 0 := card_none (fun y _ => by unfold joinAdj; simp)
      omega
  have hSc : S c = false := by
    cases hs : S c with
    | false => rfl
    | true =>
      exfalso
      have h1 := hS c (by omega) hs
      have h2 : card N (fun b => S b.toNat && !decide (b = (c : Int)) && joinAdj s.adj c d c b) ≤ card N (fun x => (s.adj c x || s.adj d x) && hardAt s.adj N k c d x) := card_mono (fun b hb hx => by
        simp only [Bool.and_eq_true, Bool.not_eq_true', decide_eq_false_iff_not] at hx
        rw [Int.toNat_natCast] at hx
        obtain ⟨⟨hs1, hne⟩, hj⟩ := hx
        have hbd : b ≠ d := fun e => by rw [e, hSd] at hs1; cases hs1
        have hbc : b ≠ c := fun e => hne (by rw [e])
        have hadj : (s.adj c b || s.adj d b) = true := by
          unfold joinAdj at hj
          have n2 : decide ((b : Int) = (c : Int)) = false := decide_eq_false hne
          rw [n2] at hj
          simp only [Bool.and_eq_true, Bool.false_and, Bool.or_false, decide_true, Bool.true_and] at hj
          exact hj.2
        have hle := le1 b hb hs1
        have hcj := card_join h.symm (by omega : c ≠ d) (by omega) hd hbc hbd
        rw [hcj] at hle
        rw [hadj]
        unfold hardAt
        simpa using hle)
      unfold harder at hh
      have := of_decide_eq_false hh
      omega
  refine hN S (fun a ha hs => ?_)
  have hac : a ≠ c := fun e => by rw [e, hSc] at hs; cases hs
  have had : a ≠ d := fun e => by rw [e, hSd] at hs; cases hs
  have h1 := hS a ha hs
  have h2 : card N (fun b => S b.toNat && !decide (b = (a : Int)) && joinAdj s.adj c d a b) = card N (fun b => S b.toNat && !decide (b = (a : Int)) && s.adj a b) := card_congr (fun b hb => by
    rw [Int.toNat_natCast]
    cases hsb : S b with
    | false => rfl
    | true =>
      have hbc : b ≠ c := fun e => by rw [e, hSc] at hsb; cases hsb
      have hbd : b ≠ d := fun e => by rw [e, hSd] at hsb; cases hsb
      unfold joinAdj
      have n1 : decide ((a : Int) = (d : Int)) = false := decide_eq_false (by omega)
      have n2 : decide ((b : Int) = (d : Int)) = false := decide_eq_false (by omega)
      have n3 : decide ((a : Int) = (c : Int)) = false := decide_eq_false (by omega)
      have n4 : decide ((b : Int) = (c : Int)) = false := decide_eq_false (by omega)
      rw [n1, n2, n3, n4]
      simp)
  omega

/-- What merging keeps: the classes; no neighbours in one; and no core, if there was none. -/
structure Safe (N : Nat) (t : Int → Int → Bool) (k : Int) (P : Prop) (s : Mer) : Prop where
  same : ∃ L, Same N t s L
  apart : ∀ i j : Nat, i < N → j < N → t i j = true → find s.cls i ≠ find s.cls j
  core : P → NoCore N s.adj k

theorem Safe.one {N : Nat} {t : Int → Int → Bool} {k : Int} {P : Prop} {s s' : Mer} (tsymm : ∀ x y, t x y = t y x) (hk : 1 ≤ k) (h : Safe N t k P s) {m : Int × Int} (e : mergeOne N k s m = some s') : Safe N t k P s' := by
  obtain ⟨L, hS⟩ := h.same
  obtain ⟨c, d, hcd, hd, rc, rd, hadj, rfl, hh⟩ := mergeOne_some hS.ok e
  have hh' : harder s.adj N k c d = false := by
    rcases hh with hh | hh
    · exact hh
    · rw [harder_comm]; exact hh
  refine ⟨⟨joinL L c d, hS.join hcd hd rc rd hadj _ (by rw [joinL_length]; exact hS.len) (fun i hi => by rw [joinL_getD hS.len _ _ i hi, if_neg (by omega : ¬ (d : Int) < (c : Int))])⟩, fun i j hi hj ht => ?_, fun hP => join_noCore hS.ok hk hcd hd hh' (h.core hP)⟩
  show find (s.cls.set (d : Int).toNat (c : Int)) i ≠ find (s.cls.set (d : Int).toNat (c : Int)) j
  rw [Int.toNat_natCast, find_join hS.ok.le hcd hd rc rd i hi, find_join hS.ok.le hcd hd rc rd j hj]
  have hne := h.apart i j hi hj ht
  have hnear : ∀ x y : Nat, x < N → y < N → find s.cls x = c → find s.cls y = d → t x y = true → False := fun x y hx hy e1 e2 hxy => by
    have := hS.adj c d (by omega) hd (by omega) rc rd
    rw [hadj] at this
    have h2 : nearB N t L c d = true := nearB_true.2 ⟨x, y, hx, hy, by rw [hS.top x hx]; exact e1, by rw [hS.top y hy]; exact e2, hxy⟩
    rw [h2] at this; cases this
  by_cases e1 : find s.cls i = d
  · rw [if_pos e1]
    by_cases e2 : find s.cls j = d
    · exact absurd (e1.trans e2.symm) hne
    · rw [if_neg e2]
      intro e3
      exact hnear j i hj hi e3.symm e1 (by rw [tsymm]; exact ht)
  · rw [if_neg e1]
    by_cases e2 : find s.cls j = d
    · rw [if_pos e2]
      intro e3
      exact hnear i j hi hj e3 e2 ht
    · rw [if_neg e2]; exact hne
theorem Safe.round {N : Nat} {t : Int → Int → Bool} {k : Int} {P : Prop} (tsymm : ∀ x y, t x y = t y x) (hk : 1 ≤ k) : ∀ (ms : List (Int × Int)) (s : Mer) (ag : Bool), Safe N t k P s → Safe N t k P (mergeRound N k s ag ms).1
  | [], _, _, h => h
  | m :: r, s, ag, h => by
    unfold mergeRound
    cases e : mergeOne N k s m with
    | none => exact Safe.round tsymm hk r s ag h
    | some s' => exact Safe.round tsymm hk r s' true (h.one tsymm hk e)
theorem Safe.go {N : Nat} {t : Int → Int → Bool} {k : Int} {P : Prop} (tsymm : ∀ x y, t x y = t y x) (hk : 1 ≤ k) (ms : List (Int × Int)) : ∀ (u : Nat) (s : Mer), Safe N t k P s → Safe N t k P (mergeGo N k ms u s)
  | 0, _, h => h
  | u + 1, s, h => by
    unfold mergeGo
    split
    · exact Safe.go tsymm hk ms u _ (h.round tsymm hk ms s false)
    · exact h.round tsymm hk ms s false
end Go.Proofs.YtgdmdgkfababeaaCol

/-
  Where no core is, all get colours. In plain Lean. Own work; no program in sight.
-/
namespace Go.Proofs.YtgdmdgkfababeaaCol
open Go.Proofs.YtgdmdgkfababeaaH (card_congr card_none)
open Go.Proofs.YtgdmdgkfababeaaEv (Rel)

theorem pickGo_small (gone : List Bool) (deg : List Int) (k : Int) (N : Nat) : ∀ (m a : Nat) (best : Int), a + m = N → (∃ i : Nat, a ≤ i ∧ i < N ∧ gone.getD i false = false ∧ deg.getD i 0 < k) →
    0 ≤ pickGo gone deg k m a best ∧ pickGo gone deg k m a best < N ∧ gone.getD (pickGo gone deg k m a best).toNat false = false ∧ deg.getD (pickGo gone deg k m a best).toNat 0 < k
  | 0, a, best, ha, ⟨i, h1, h2, _⟩ => by omega
  | m + 1, a, best, ha, ⟨i, h1, h2, h3, h4⟩ => by
    unfold pickGo
    by_cases hg : gone.getD a false = true
    · rw [if_pos hg]
      refine pickGo_small gone deg k N m (a + 1) best (by omega) ⟨i, ?_, h2, h3, h4⟩
      rcases Nat.lt_or_ge a i with h | h
      · exact h
      · have : i = a := by omega
        subst this
        rw [hg] at h3; cases h3
    · rw [if_neg hg]
      by_cases hd : deg.getD a 0 < k
      · rw [if_pos hd]
        rw [Int.toNat_natCast]
        exact ⟨by omega, by omega, by simpa using hg, hd⟩
      · rw [if_neg hd]
        have hx : ∃ i : Nat, a + 1 ≤ i ∧ i < N ∧ gone.getD i false = false ∧ deg.getD i 0 < k := by
          rcases Nat.lt_or_ge a i with h | h
          · exact ⟨i, h, h2, h3, h4⟩
          · have : i = a := by omega
            subst this
            exact absurd h4 hd
        split
        · exact pickGo_small gone deg k N m (a + 1) a (by omega) hx
        · exact pickGo_small gone deg k N m (a + 1) best (by omega) hx

theorem rel_run {N : Nat} {adj : Int → Int → Bool} (symm : ∀ x y, adj x y = adj y x) (k : Int) : ∀ t, t ≤ N → ∃ there, Rel N adj (ordRun adj N k t) there
  | 0, _ => ⟨List.replicate N true, by simp, fun i hi => by simp [ordRun, ordStart, hi], fun i hi _ => by
    simp only [ordRun, ordStart]
    rw [List.getD_eq_getElem?_getD, List.getElem?_map, List.getElem?_range hi]
    simp only [Option.map_some, Option.getD_some]
    congr 1
    refine card_congr (fun x hx => ?_)
    simp [hx]⟩
  | t + 1, ht => by
    obtain ⟨there, hR⟩ := rel_run (N := N) (adj := adj) symm k t (by omega)
    exact ⟨_, hR.step (k := k) symm (ordRun_ok adj N k t (by omega)) (by omega)⟩

/-- Who is taken away has fewer than k neighbours that are still there. -/
theorem taken_small {N : Nat} {adj : Int → Int → Bool} (symm : ∀ x y, adj x y = adj y x) (irr : ∀ x, adj x x = false) {k : Int} (hN : NoCore N adj k) {t : Nat} (ht : t < N) :
    (card N (fun b => !((ordRun adj N k t).gone.getD b.toNat false) && adj (pick N (ordRun adj N k t).gone (ordRun adj N k t).deg k) b) : Int) < k := by
  have hok := ordRun_ok adj N k t (by omega)
  obtain ⟨there, hR⟩ := rel_run (N := N) (adj := adj) symm k t (by omega)
  generalize ordRun adj N k t = st at hok hR
  obtain ⟨i, hi, hgi⟩ := hok.left ht
  have hex : ∃ a : Nat, a < N ∧ st.gone.getD a false = false ∧ (card N (fun b => (!(st.gone.getD b.toNat false)) && !decide (b = (a : Int)) && adj a b) : Int) < k := by
    by_cases hx : ∃ a : Nat, a < N ∧ st.gone.getD a false = false ∧ (card N (fun b => (!(st.gone.getD b.toNat false)) && !decide (b = (a : Int)) && adj a b) : Int) < k
    · exact hx
    · exfalso
      have := hN (fun i => !(st.gone.getD i false)) (fun a ha hs => by
        by_cases h : (card N (fun b => (!(st.gone.getD b.toNat false)) && !decide (b = (a : Int)) && adj a b) : Int) < k
        · exact absurd ⟨a, ha, by simpa using hs, h⟩ hx
        · exact Int.not_lt.1 h) i hi
      rw [hgi] at this
      cases this
  have hcard : ∀ a : Nat, a < N → st.gone.getD a false = false → st.deg.getD a 0 = (card N (fun b => !(st.gone.getD b.toNat false) && adj a b) : Int) := fun a ha hg => by
    rw [hR.deg a ha (by rw [hR.gone a ha, hg]; rfl)]
    congr 1
    refine card_congr (fun x hx => ?_)
    rw [Int.toNat_natCast, hR.gone x hx]
  obtain ⟨a, ha, hga, hda⟩ := hex
  have hda' : st.deg.getD a 0 < k := by
    rw [hcard a ha hga]
    have : card N (fun b => !(st.gone.getD b.toNat false) && adj a b) = card N (fun b => (!(st.gone.getD b.toNat false)) && !decide (b = (a : Int)) && adj a b) := card_congr (fun x hx => by
      by_cases e : (x : Int) = (a : Int)
      · rw [e, irr]; simp
      · rw [decide_eq_false e]; simp)
    rw [this]; exact hda
  obtain ⟨p0, p1, p2, p3⟩ := pickGo_small st.gone st.deg k N N 0 (-1) (by omega) ⟨a, Nat.zero_le _, ha, hga, hda'⟩
  have hp : pickGo st.gone st.deg k N 0 (-1) = pick N st.gone st.deg k := rfl
  rw [hp] at p0 p1 p2 p3
  obtain ⟨q, hq⟩ : ∃ q : Nat, pick N st.gone st.deg k = (q : Int) := ⟨(pick N st.gone st.deg k).toNat, by omega⟩
  rw [hq] at p1 p2 p3 ⊢
  rw [Int.toNat_natCast] at p2 p3
  rw [← hcard q (by omega) p2]
  exact p3

/-- Who has been painted. -/
structure Painted (N : Nat) (gone : List Bool) (out : List Int) : Prop where
  len : out.length = N
  none : ∀ i : Nat, i < N → gone.getD i false = true → out.getD i 0 = -1
  some : ∀ i : Nat, i < N → gone.getD i false = false → 0 ≤ out.getD i 0

theorem painted_down {N : Nat} {adj : Int → Int → Bool} (symm : ∀ x y, adj x y = adj y x) (irr : ∀ x, adj x x = false) {k : Int} (hk : 1 ≤ k) (hN : NoCore N adj k) : ∀ (m t : Nat), t + m = N →
    ∃ R, (ordRun adj N k N).ord = (ordRun adj N k t).ord ++ R ∧ Painted N (ordRun adj N k t).gone (R.reverse.foldl (paint adj N k) (List.replicate N (-1)))
  | 0, t, ht => by
    have : t = N := by omega
    subst this
    refine ⟨[], by simp, by simp, fun i hi _ => by simp [hi], fun i hi hg => ?_⟩
    have hok := ordRun_ok adj t k t (Nat.le_refl _)
    have := (hok.og i hi).2 (hok.all i hi)
    rw [hg] at this; cases this
  | m + 1, t, ht => by
    obtain ⟨R, hR, hP⟩ := painted_down symm irr hk hN m (t + 1) (by omega)
    have hok := ordRun_ok adj N k t (by omega)
    obtain ⟨p0, p1, p2⟩ := pick_ok hok (by omega) k
    have hsmall := taken_small symm irr hN (show t < N by omega)
    have hstep : ordRun adj N k (t + 1) = ordStep adj N k (ordRun adj N k t) := rfl
    rw [hstep] at hR hP
    generalize ordRun adj N k t = st at *
    obtain ⟨a, hpa⟩ : ∃ a : Nat, pick N st.gone st.deg k = (a : Int) := ⟨(pick N st.gone st.deg k).toNat, by omega⟩
    unfold ordStep at hR hP
    rw [hpa] at hR hP p1 p2 hsmall
    simp only [Int.toNat_natCast] at hR hP p2
    have haN : a < N := by omega
    have hgl : a < st.gone.length := by rw [hok.gl]; exact haN
    refine ⟨(a : Int) :: R, by rw [hR]; simp, ?_⟩
    rw [List.reverse_cons, List.foldl_append]
    simp only [List.foldl_cons, List.foldl_nil]
    generalize R.reverse.foldl (paint adj N k) (List.replicate N (-1)) = out at hP
    have hna : out.getD a 0 = -1 := hP.none a haN (by rw [getD_set_bool _ _ _ _ hgl, if_pos rfl])
    unfold paint
    cases hf : freeGo (usedBy adj N out (a : Int)) k.toNat 0 with
    | none =>
      exfalso
      have hall := freeGo_none _ _ _ hf
      have := nodup_le ((List.range k.toNat).map (fun i : Nat => (i : Int))) (((List.range N).filter fun b : Nat => !(st.gone.getD (b : Int).toNat false) && adj a b).map fun b => out.getD b 0) (nodup_cast _ List.nodup_range) (fun x hx => by
        obtain ⟨c, hc, rfl⟩ := List.mem_map.1 hx
        have hc' := List.mem_range.1 hc
        obtain ⟨b, hb, hab, e⟩ := usedBy_true.1 (hall c (by omega) (by omega))
        refine List.mem_map.2 ⟨b, List.mem_filter.2 ⟨List.mem_range.2 hb, ?_⟩, e⟩
        have hba : a ≠ b := fun e' => by subst e'; rw [irr] at hab; cases hab
        have hgb : st.gone.getD b false = false := by
          cases hg : st.gone.getD b false with
          | false => rfl
          | true =>
            have := hP.none b hb (by rw [getD_set_bool _ _ _ _ hgl, if_neg hba]; exact hg)
            omega
        rw [Int.toNat_natCast, hgb, hab]; rfl)
      simp only [List.length_map, List.length_range] at this
      have hs2 : (((List.range N).filter fun b : Nat => !(st.gone.getD (b : Int).toNat false) && adj a b).length : Int) < k := hsmall
      omega
    | some c =>
      obtain ⟨_, hc0, _⟩ := freeGo_free _ _ _ _ hf
      show Painted N st.gone (out.set (a : Int).toNat c)
      rw [Int.toNat_natCast]
      have hset : ∀ j : Nat, (out.set a c).getD j 0 = if a = j then c else out.getD j 0 := fun j => getD_set_int _ _ _ _ (by rw [hP.len]; exact haN)
      refine ⟨by rw [List.length_set]; exact hP.len, fun i hi hg => ?_, fun i hi hg => ?_⟩
      · rw [hset]
        by_cases e : a = i
        · subst e; rw [p2] at hg; cases hg
        · rw [if_neg e]; exact hP.none i hi (by rw [getD_set_bool _ _ _ _ hgl, if_neg e]; exact hg)
      · rw [hset]
        by_cases e : a = i
        · rw [if_pos e]; exact hc0
        · rw [if_neg e]; exact hP.some i hi (by rw [getD_set_bool _ _ _ _ hgl, if_neg e]; exact hg)

theorem adjOf_irr (n : Int) (l : List (Int × Int)) (x : Int) : adjOf n l x x = false := by
  cases h : adjOf n l x x
  · rfl
  · exact absurd rfl (adjOf_range h).2.2

theorem colours_all (N : Nat) (hN8 : N ≤ 8192) (k : Int) (hk : 1 ≤ k) (l : List (Int × Int)) (hN : NoCore N (adjOf N l) k) (i : Nat) (hi : i < N) : 0 ≤ (colours N k l).getD i 0 := by
  obtain ⟨R, hR, hP⟩ := painted_down (adjOf_symm N l) (adjOf_irr N l) hk hN N 0 (by omega)
  have h0 : (ordRun (adjOf (N : Int) l) N k 0).ord = [] := rfl
  rw [h0, List.nil_append] at hR
  unfold colours
  rw [if_neg (by omega), Int.toNat_natCast, hR]
  exact hP.some i hi (by simp [ordRun, ordStart, hi])

/-- A core of some of the neighbours is a core. -/
theorem noCore_sub {N : Nat} {g g' : Int → Int → Bool} {k : Int} (h : NoCore N g k) (hsub : ∀ a b : Nat, a < N → b < N → a ≠ b → g' a b = true → g a b = true) : NoCore N g' k := fun S hS => h S (fun a ha hs => by
  have h1 := hS a ha hs
  have h2 : card N (fun b => S b.toNat && !decide (b = (a : Int)) && g' a b) ≤ card N (fun b => S b.toNat && !decide (b = (a : Int)) && g a b) := card_mono (fun b hb hx => by
    simp only [Bool.and_eq_true, Bool.not_eq_true', decide_eq_false_iff_not] at hx ⊢
    exact ⟨hx.1, hsub a b ha hb (fun e => hx.1.2 (by rw [e])) hx.2⟩)
  omega)

theorem Same.near_root {N : Nat} {t : Int → Int → Bool} {s : Mer} {L : List Int} (h : Same N t s L) {a b : Nat} (ha : a < N) (hb : b < N) (hab : a ≠ b) (hn : nearB N t L a b = true) : s.adj a b = true := by
  obtain ⟨i, j, hi, hj, h1, h2, h3⟩ := nearB_true.1 hn
  have root : ∀ (x i : Nat), x < N → i < N → L.getD i 0 = (x : Int) → s.cls.getD x 0 = x := fun x i hx hi e => by
    rw [h.top i hi] at e
    have := (find_root h.ok.le i hi).2.2
    rw [e, Int.toNat_natCast] at this
    exact this
  rw [h.adj a b ha hb hab (root a i ha hi h1) (root b j hb hj h2)]
  exact hn

/-- The pairs, by their classes. -/
def classed (L : List Int) (l : List (Int × Int)) : List (Int × Int) := l.map fun e => (L.getD e.1.toNat 0, L.getD e.2.toNat 0)
theorem classed_near {N : Nat} {l : List (Int × Int)} {L : List Int} (hin : ∀ e ∈ l, (0 ≤ e.1 ∧ e.1 < N) ∧ 0 ≤ e.2 ∧ e.2 < N) {a b : Nat} (h : adjOf N (classed L l) a b = true) : nearB N (adjOf N l) L a b = true := by
  unfold adjOf at h
  obtain ⟨e', he', ht⟩ := List.any_eq_true.1 h
  obtain ⟨e, he, rfl⟩ := List.mem_map.1 he'
  have ht := of_decide_eq_true ht
  obtain ⟨h1, h2⟩ := hin e he
  dsimp only at ht
  have hne : e.1 ≠ e.2 := fun h => by
    have := ht.2.2.2.2.1
    rw [h] at this
    exact this rfl
  have key : ∀ x y : Int, ((e.1 = x ∧ e.2 = y) ∨ (e.1 = y ∧ e.2 = x)) → adjOf N l x y = true := fun x y hxy => List.any_eq_true.2 ⟨e, he, decide_eq_true ⟨h1.1, h1.2, h2.1, h2.2, hne, hxy⟩⟩
  rcases ht.2.2.2.2.2 with ⟨e1, e2⟩ | ⟨e1, e2⟩
  · exact nearB_true.2 ⟨e.1.toNat, e.2.toNat, by omega, by omega, e1, e2, by rw [Int.toNat_of_nonneg h1.1, Int.toNat_of_nonneg h2.1]; exact key _ _ (.inl ⟨rfl, rfl⟩)⟩
  · exact nearB_true.2 ⟨e.2.toNat, e.1.toNat, by omega, by omega, e2, e1, by rw [Int.toNat_of_nonneg h1.1, Int.toNat_of_nonneg h2.1]; exact key _ _ (.inr ⟨rfl, rfl⟩)⟩
end Go.Proofs.YtgdmdgkfababeaaCol
