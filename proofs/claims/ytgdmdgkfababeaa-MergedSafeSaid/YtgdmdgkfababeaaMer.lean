/-
  Merging, in plain Lean, step by step as the program goes. Own work; no program in sight.
-/
import Derived.Test.YtgdmdgkfababeaaCol
namespace Go.Proofs.YtgdmdgkfababeaaCol

/-- The class at the top of a's. -/
def findGo (cls : List Int) : Nat → Int → Int
  | 0, a => a
  | m + 1, a => if cls.getD a.toNat 0 = a then a else findGo cls m (cls.getD a.toNat 0)
def find (cls : List Int) (a : Int) : Int := findGo cls cls.length a

/-- Has the neighbour x of a or b k neighbours, when these are one? -/
def hardAt (adj : Int → Int → Bool) (N : Nat) (k a b x : Int) : Bool := decide (k ≤ (card N (adj x) : Int) - (if (adj a x && adj b x) = true then 1 else 0))
def harder (adj : Int → Int → Bool) (N : Nat) (k a b : Int) : Bool := decide (k ≤ (card N (fun x => (adj a x || adj b x) && hardAt adj N k a b x) : Int))

structure Mer where
  cls : List Int
  adj : Int → Int → Bool

def joinAdj (adj : Int → Int → Bool) (a b x y : Int) : Bool := !decide (x = b) && !decide (y = b) && (adj x y || (decide (x = a) && adj b y) || (decide (y = a) && adj b x))
def Mer.join (s : Mer) (a b : Int) : Mer := ⟨s.cls.set b.toNat a, joinAdj s.adj a b⟩

def mergeOne (N : Nat) (k : Int) (s : Mer) (m : Int × Int) : Option Mer :=
  if m.1 < 0 ∨ m.1 ≥ N ∨ m.2 < 0 ∨ m.2 ≥ N then none
  else if find s.cls m.1 = find s.cls m.2 ∨ s.adj (find s.cls m.1) (find s.cls m.2) = true ∨ harder s.adj N k (find s.cls m.1) (find s.cls m.2) = true then none
  else some (s.join (min (find s.cls m.1) (find s.cls m.2)) (max (find s.cls m.1) (find s.cls m.2)))
def mergeRound (N : Nat) (k : Int) (s : Mer) (again : Bool) : List (Int × Int) → Mer × Bool
  | [] => (s, again)
  | m :: r => match mergeOne N k s m with
    | none => mergeRound N k s again r
    | some s' => mergeRound N k s' true r
def mergeGo (N : Nat) (k : Int) (ms : List (Int × Int)) : Nat → Mer → Mer
  | 0, s => s
  | t + 1, s => if (mergeRound N k s false ms).2 = true then mergeGo N k ms t (mergeRound N k s false ms).1 else (mergeRound N k s false ms).1
def finish (cls : List Int) : Nat → List Int
  | 0 => cls
  | t + 1 => (finish cls t).set t (find (finish cls t) (t : Int))
def merStart (N : Nat) (adj : Int → Int → Bool) : Mer := ⟨(List.range N).map (fun i : Nat => (i : Int)), adj⟩
def mergedOf (n k : Int) (l ms : List (Int × Int)) : Mer := mergeGo n.toNat k ms (n.toNat + 1) (merStart n.toNat (adjOf n l))
def merged (n k : Int) (l ms : List (Int × Int)) : List Int :=
  if n < 0 ∨ n > 8192 then [] else finish (mergedOf n k l ms).cls n.toNat

/-! ### small laws for the walks -/
structure LeOk (N : Nat) (cls : List Int) : Prop where
  len : cls.length = N
  ge : ∀ i : Nat, i < N → 0 ≤ cls.getD i 0
  le : ∀ i : Nat, i < N → cls.getD i 0 ≤ i

structure Mer.Ok (N : Nat) (s : Mer) : Prop where
  le : LeOk N s.cls
  symm : ∀ x y, s.adj x y = s.adj y x
  irr : ∀ x, s.adj x x = false
  supp : ∀ x y, s.adj x y = true → 0 ≤ x ∧ x < N ∧ s.cls.getD x.toNat 0 = x

theorem findGo_root {N : Nat} {cls : List Int} (h : LeOk N cls) : ∀ (m : Nat) (a : Nat), a < N → a < m → 0 ≤ findGo cls m a ∧ findGo cls m a ≤ a ∧ cls.getD (findGo cls m a).toNat 0 = findGo cls m a
  | 0, a, _, hm => by omega
  | m + 1, a, ha, hm => by
    unfold findGo
    rw [Int.toNat_natCast]
    have h1 := h.ge a ha
    have h2 := h.le a ha
    split
    · rename_i e
      exact ⟨by omega, by omega, by rw [Int.toNat_natCast]; exact e⟩
    · rename_i e
      obtain ⟨c, hc⟩ : ∃ c : Nat, cls.getD a 0 = (c : Int) := ⟨(cls.getD a 0).toNat, by omega⟩
      rw [hc]
      have := findGo_root h m c (by omega) (by omega)
      omega
theorem findGo_fuel {N : Nat} {cls : List Int} (h : LeOk N cls) : ∀ (m m' : Nat) (a : Nat), a < N → a < m → a < m' → findGo cls m a = findGo cls m' a
  | 0, _, a, _, hm, _ => by omega
  | _ + 1, 0, a, _, _, hm => by omega
  | m + 1, m' + 1, a, ha, hm, hm' => by
    unfold findGo
    rw [Int.toNat_natCast]
    have h1 := h.ge a ha
    have h2 := h.le a ha
    split
    · rfl
    · rename_i e
      obtain ⟨c, hc⟩ : ∃ c : Nat, cls.getD a 0 = (c : Int) := ⟨(cls.getD a 0).toNat, by omega⟩
      rw [hc]
      exact findGo_fuel h m m' c (by omega) (by omega) (by omega)
theorem find_root {N : Nat} {cls : List Int} (h : LeOk N cls) (a : Nat) (ha : a < N) : 0 ≤ find cls a ∧ find cls a ≤ a ∧ cls.getD (find cls a).toNat 0 = find cls a :=
  findGo_root h _ a ha (by rw [h.len]; exact ha)

theorem LeOk.set {N : Nat} {cls : List Int} (h : LeOk N cls) (b : Nat) (a : Int) (h0 : 0 ≤ a) (hb : a ≤ b) : LeOk N (cls.set b a) where
  len := by simp [h.len]
  ge := fun i hi => by
    by_cases hbN : b < cls.length
    · rw [getD_set_int _ _ _ _ hbN]; split
      · omega
      · exact h.ge i hi
    · rw [List.set_eq_of_length_le (by omega)]; exact h.ge i hi
  le := fun i hi => by
    by_cases hbN : b < cls.length
    · rw [getD_set_int _ _ _ _ hbN]; split
      · omega
      · exact h.le i hi
    · rw [List.set_eq_of_length_le (by omega)]; exact h.le i hi

theorem Mer.Ok.join {N : Nat} {s : Mer} (h : s.Ok N) {a b : Nat} (hab : a < b) (hb : b < N) (ra : s.cls.getD a 0 = a) (_rb : s.cls.getD b 0 = b) (hadj : s.adj a b = false) : (s.join a b).Ok N := by
  have hadj' : s.adj b a = false := by rw [h.symm]; exact hadj
  have hne : (a : Int) ≠ (b : Int) := by omega
  have keep : ∀ x : Int, 0 ≤ x → x ≠ b → (s.cls.set b (a : Int)).getD x.toNat 0 = s.cls.getD x.toNat 0 := fun x h0 hx => by
    rw [getD_set_int _ _ _ _ (by rw [h.le.len]; exact hb), if_neg (by omega)]
  refine { le := h.le.set b a (by omega) (by omega), symm := fun x y => ?_, irr := fun x => ?_, supp := fun x y hxy => ?_ }
  · simp only [Mer.join, joinAdj]
    rw [h.symm x y]
    cases s.adj y x <;> cases decide (x = (b : Int)) <;> cases decide (y = (b : Int)) <;> simp [Bool.or_comm]
  · simp only [Mer.join, joinAdj]
    rw [h.irr]
    by_cases e : x = a
    · subst e; rw [hadj']; simp
    · simp [e]
  · simp only [Mer.join, joinAdj] at hxy ⊢
    rw [Int.toNat_natCast]
    simp only [Bool.and_eq_true, Bool.not_eq_true', decide_eq_false_iff_not, Bool.or_eq_true, decide_eq_true_eq] at hxy
    obtain ⟨⟨hx, hy⟩, hxy⟩ := hxy
    rcases hxy with (h1 | ⟨rfl, h2⟩) | ⟨rfl, h2⟩
    · have := h.supp x y h1
      exact ⟨this.1, this.2.1, by rw [keep x this.1 hx]; exact this.2.2⟩
    · exact ⟨by omega, by omega, by rw [keep _ (by omega) hne, Int.toNat_natCast]; exact ra⟩
    · rw [h.symm] at h2
      have := h.supp x _ h2
      exact ⟨this.1, this.2.1, by rw [keep x this.1 hx]; exact this.2.2⟩

def roots (N : Nat) (cls : List Int) : Nat := card N (fun x => decide (cls.getD x.toNat 0 = x))

theorem filter_le {α : Type} (p q : α → Bool) : ∀ (l : List α), (∀ x ∈ l, p x = true → q x = true) → (l.filter p).length ≤ (l.filter q).length
  | [], _ => by simp
  | x :: r, h => by
    have := filter_le p q r (fun y hy => h y (by simp [hy]))
    have h0 := h x (by simp)
    rw [List.filter_cons, List.filter_cons]
    cases hp : p x <;> cases hq : q x <;> simp <;> first | omega | (rw [hp] at h0; simp [hq] at h0)
theorem filter_lt {α : Type} (p q : α → Bool) : ∀ (l : List α), (∀ x ∈ l, p x = true → q x = true) → (∃ x ∈ l, q x = true ∧ p x = false) → (l.filter p).length < (l.filter q).length
  | [], _, ⟨x, hx, _⟩ => by simp at hx
  | x :: r, h, ⟨z, hz, hqz, hpz⟩ => by
    have hr := filter_le p q r (fun y hy => h y (by simp [hy]))
    have h0 := h x (by simp)
    rcases List.mem_cons.1 hz with rfl | hz
    · rw [List.filter_cons, List.filter_cons, hpz, hqz]; simp; omega
    · have := filter_lt p q r (fun y hy => h y (by simp [hy])) ⟨z, hz, hqz, hpz⟩
      rw [List.filter_cons, List.filter_cons]
      cases hp : p x <;> cases hq : q x <;> simp <;> first | omega | (rw [hp] at h0; simp [hq] at h0)
theorem card_mono {N : Nat} {S T : Int → Bool} (h : ∀ i : Nat, i < N → S i = true → T i = true) : card N S ≤ card N T :=
  filter_le _ _ _ (fun x hx => h x (List.mem_range.1 hx))
theorem card_lt {N : Nat} {S T : Int → Bool} (h : ∀ i : Nat, i < N → S i = true → T i = true) (hx : ∃ i : Nat, i < N ∧ T i = true ∧ S i = false) : card N S < card N T := by
  obtain ⟨i, hi, h1, h2⟩ := hx
  exact filter_lt _ _ _ (fun x hx => h x (List.mem_range.1 hx)) ⟨i, List.mem_range.2 hi, h1, h2⟩

theorem roots_join {N : Nat} {s : Mer} (h : s.Ok N) {a b : Nat} (hab : a < b) (hb : b < N) (rb : s.cls.getD b 0 = b) : roots N (s.join a b).cls < roots N s.cls := by
  have hbl : b < s.cls.length := by rw [h.le.len]; exact hb
  have hj : ∀ i : Nat, (s.join a b).cls.getD (i : Int).toNat 0 = if b = i then (a : Int) else s.cls.getD i 0 := fun i => by
    rw [Int.toNat_natCast]
    simp only [Mer.join, Int.toNat_natCast]
    exact getD_set_int _ _ _ _ hbl
  refine card_lt (fun i hi hr => decide_eq_true ?_) ⟨b, hb, decide_eq_true ?_, decide_eq_false ?_⟩
  · have hr := of_decide_eq_true hr
    rw [hj] at hr
    rw [Int.toNat_natCast]
    split at hr
    · rename_i e; subst e; exact rb
    · exact hr
  · rw [Int.toNat_natCast]; exact rb
  · rw [hj, if_pos rfl]; omega

/-- What a move does: the two roots. -/
theorem mergeOne_some {N : Nat} {k : Int} {s s' : Mer} (h : s.Ok N) {m : Int × Int} (e : mergeOne N k s m = some s') :
    ∃ a b : Nat, a < b ∧ b < N ∧ s.cls.getD a 0 = a ∧ s.cls.getD b 0 = b ∧ s.adj a b = false ∧ s' = s.join a b ∧ (harder s.adj N k a b = false ∨ harder s.adj N k b a = false) := by
  unfold mergeOne at e
  split at e
  · cases e
  · rename_i hm
    obtain ⟨x, hx⟩ : ∃ x : Nat, m.1 = (x : Int) := ⟨m.1.toNat, by omega⟩
    obtain ⟨y, hy⟩ : ∃ y : Nat, m.2 = (y : Int) := ⟨m.2.toNat, by omega⟩
    rw [hx, hy] at e hm
    obtain ⟨x0, x1, x2⟩ := find_root h.le x (by omega)
    obtain ⟨y0, y1, y2⟩ := find_root h.le y (by omega)
    generalize find s.cls (x : Int) = p at *
    generalize find s.cls (y : Int) = q at *
    obtain ⟨p, rfl⟩ : ∃ p' : Nat, p = (p' : Int) := ⟨p.toNat, by omega⟩
    obtain ⟨q, rfl⟩ : ∃ q' : Nat, q = (q' : Int) := ⟨q.toNat, by omega⟩
    rw [Int.toNat_natCast] at x2 y2
    split at e
    · cases e
    · rename_i hn
      have hne : (p : Int) ≠ (q : Int) := fun h => hn (.inl h)
      have hadj : s.adj p q = false := by
        cases h : s.adj p q
        · rfl
        · exact absurd (.inr (.inl h)) hn
      have hh : harder s.adj N k p q = false := by
        cases h : harder s.adj N k p q
        · rfl
        · exact absurd (.inr (.inr h)) hn
      have e := (Option.some.inj e).symm
      by_cases hlt : p < q
      · rw [show min (p : Int) (q : Int) = (p : Int) by omega, show max (p : Int) (q : Int) = (q : Int) by omega] at e
        exact ⟨p, q, hlt, by omega, x2, y2, hadj, e, .inl hh⟩
      · rw [show min (p : Int) (q : Int) = (q : Int) by omega, show max (p : Int) (q : Int) = (p : Int) by omega] at e
        exact ⟨q, p, by omega, by omega, y2, x2, by rw [h.symm]; exact hadj, e, .inr hh⟩

theorem mergeOne_ok {N : Nat} {k : Int} {s s' : Mer} (h : s.Ok N) {m : Int × Int} (e : mergeOne N k s m = some s') : s'.Ok N ∧ roots N s'.cls < roots N s.cls := by
  obtain ⟨a, b, hab, hb, ra, rb, hadj, rfl, _⟩ := mergeOne_some h e
  exact ⟨h.join hab hb ra rb hadj, roots_join h hab hb rb⟩

theorem mergeRound_ok {N : Nat} {k : Int} : ∀ (ms : List (Int × Int)) (s : Mer) (ag : Bool), s.Ok N → (mergeRound N k s ag ms).1.Ok N ∧ roots N (mergeRound N k s ag ms).1.cls ≤ roots N s.cls ∧ ((mergeRound N k s ag ms).2 = true → ag = true ∨ roots N (mergeRound N k s ag ms).1.cls < roots N s.cls)
  | [], s, ag, h => ⟨h, Nat.le_refl _, fun e => .inl e⟩
  | m :: r, s, ag, h => by
    unfold mergeRound
    cases e : mergeOne N k s m with
    | none => exact mergeRound_ok r s ag h
    | some s' =>
      obtain ⟨h1, h2⟩ := mergeOne_ok h e
      obtain ⟨h3, h4, h5⟩ := mergeRound_ok r s' true h1
      exact ⟨h3, Nat.le_of_lt (Nat.lt_of_le_of_lt h4 h2), fun _ => .inr (Nat.lt_of_le_of_lt h4 h2)⟩

theorem merStart_ok {n : Int} (hn : 0 ≤ n) (l : List (Int × Int)) : (merStart n.toNat (adjOf n l)).Ok n.toNat := by
  have hget : ∀ i : Nat, i < n.toNat → ((List.range n.toNat).map (fun i : Nat => (i : Int))).getD i 0 = i := fun i hi => by
    rw [List.getD_eq_getElem?_getD, List.getElem?_map, List.getElem?_range hi]; rfl
  refine { le := { len := by simp [merStart], ge := fun i hi => ?_, le := fun i hi => ?_ }, symm := fun x y => adjOf_symm n l x y, irr := fun x => ?_, supp := fun x y h => ?_ }
  · simp only [merStart]; rw [hget i hi]; omega
  · simp only [merStart]; rw [hget i hi]; exact Int.le_refl _
  · simp only [merStart]
    cases h : adjOf n l x x
    · rfl
    · exact absurd rfl (adjOf_range h).2.2
  · simp only [merStart] at h ⊢
    have := adjOf_range h
    exact ⟨this.1.1, by omega, by rw [hget _ (by omega)]; omega⟩

theorem finish_ok {N : Nat} {cls : List Int} (h : LeOk N cls) : ∀ t, t ≤ N → LeOk N (finish cls t)
  | 0, _ => h
  | t + 1, ht => by
    have := finish_ok h t (by omega)
    have hr := find_root this t (by omega)
    exact this.set t _ hr.1 hr.2.1
end Go.Proofs.YtgdmdgkfababeaaCol
