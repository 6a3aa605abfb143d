/-
  The document's answer for classes is the program's: classes, and contracted neighbours, in plain Lean. Own work; no program in sight.
-/
import Derived.Test.YtgdmdgkfababeaaHMerB
namespace Go.Proofs.YtgdmdgkfababeaaCol
open Go.Proofs.YtgdmdgkfababeaaH (card_add card_single card_congr card_none)

/-- Are two classes neighbours? -/
def nearB (N : Nat) (t : Int → Int → Bool) (L : List Int) (a b : Int) : Bool := (List.range N).any fun i : Nat => (List.range N).any fun j : Nat => decide (L.getD i 0 = a) && decide (L.getD j 0 = b) && t i j
theorem nearB_true {N : Nat} {t : Int → Int → Bool} {L : List Int} {a b : Int} : nearB N t L a b = true ↔ ∃ i j : Nat, i < N ∧ j < N ∧ L.getD i 0 = a ∧ L.getD j 0 = b ∧ t i j = true := by
  unfold nearB
  simp only [List.any_eq_true, List.mem_range, Bool.and_eq_true, decide_eq_true_eq]
  constructor
  · rintro ⟨i, hi, j, hj, ⟨h1, h2⟩, h3⟩
    exact ⟨i, j, hi, hj, h1, h2, h3⟩
  · rintro ⟨i, j, hi, hj, h1, h2, h3⟩
    exact ⟨i, hi, j, hj, ⟨h1, h2⟩, h3⟩
theorem nearB_symm {N : Nat} {t : Int → Int → Bool} (symm : ∀ x y, t x y = t y x) (L : List Int) (a b : Int) : nearB N t L a b = nearB N t L b a := by
  rw [Bool.eq_iff_iff, nearB_true, nearB_true]
  constructor
  · rintro ⟨i, j, hi, hj, h1, h2, h3⟩; exact ⟨j, i, hj, hi, h2, h1, by rw [symm]; exact h3⟩
  · rintro ⟨i, j, hi, hj, h1, h2, h3⟩; exact ⟨j, i, hj, hi, h2, h1, by rw [symm]; exact h3⟩

/-- Classes, two of them one. -/
def joinL (L : List Int) (a b : Int) : List Int := L.map fun v => if v = a ∨ v = b then (if b < a then b else a) else v
theorem joinL_length (L : List Int) (a b : Int) : (joinL L a b).length = L.length := by simp [joinL]
theorem joinL_getD {N : Nat} {L : List Int} (h : L.length = N) (a b : Int) (i : Nat) (hi : i < N) : (joinL L a b).getD i 0 = if L.getD i 0 = a ∨ L.getD i 0 = b then (if b < a then b else a) else L.getD i 0 := by
  unfold joinL
  rw [List.getD_eq_getElem?_getD, List.getElem?_map, List.getD_eq_getElem?_getD, List.getElem?_eq_getElem (by omega)]
  rfl

/-- How many neighbours, when a and b are one. -/
def degJ (N : Nat) (t : Int → Int → Bool) (m : List Int) (x : Int) : Nat := card N (fun y => decide (m.getD y.toNat 0 = y) && !decide (y = x) && nearB N t m x y)
def joinsB (N : Nat) (t : Int → Int → Bool) (L : List Int) (a b k : Int) : Bool :=
  !decide (a = b) && !nearB N t L a b && decide ((card N (fun x => decide ((joinL L a b).getD x.toNat 0 = x) && !decide (x = (if b < a then b else a)) && nearB N t (joinL L a b) x (if b < a then b else a) && decide (k ≤ (degJ N t (joinL L a b) x : Int))) : Int) < k)

/-! ### classes by their tops -/
theorem find_eq {N : Nat} {cls : List Int} (h : LeOk N cls) (a : Nat) (ha : a < N) : find cls a = if cls.getD a 0 = a then (a : Int) else find cls (cls.getD a 0) := by
  unfold find
  obtain ⟨m, hm⟩ : ∃ m, cls.length = m + 1 := ⟨cls.length - 1, by rw [h.len]; omega⟩
  rw [hm]
  unfold findGo
  rw [Int.toNat_natCast]
  split
  · rfl
  · rename_i e
    have h1 := h.ge a ha
    have h2 := h.le a ha
    obtain ⟨c, hc⟩ : ∃ c : Nat, cls.getD a 0 = (c : Int) := ⟨(cls.getD a 0).toNat, by omega⟩
    rw [hc]
    have hlen := h.len
    rw [findGo_fuel h m (m + 1) c (by omega) (by omega) (by omega)]
    rfl
theorem find_of_root {N : Nat} {cls : List Int} (h : LeOk N cls) {a : Nat} (ha : a < N) (hr : cls.getD a 0 = a) : find cls a = a := by rw [find_eq h a ha, if_pos hr]

theorem find_join {N : Nat} {cls : List Int} (h : LeOk N cls) {c d : Nat} (hcd : c < d) (hd : d < N) (rc : cls.getD c 0 = c) (rd : cls.getD d 0 = d) : ∀ (i : Nat), i < N → find (cls.set d (c : Int)) i = if find cls i = d then (c : Int) else find cls i := by
  have h' : LeOk N (cls.set d (c : Int)) := h.set d c (by omega) (by omega)
  have hset : ∀ j : Nat, (cls.set d (c : Int)).getD j 0 = if d = j then (c : Int) else cls.getD j 0 := fun j => getD_set_int _ _ _ _ (by rw [h.len]; exact hd)
  intro i
  induction i using Nat.strongRecOn with
  | _ i ih =>
    intro hi
    rw [find_eq h' i hi, find_eq h i hi, hset i]
    by_cases e : d = i
    · subst e
      rw [if_pos rfl, if_pos rd, if_pos rfl, if_neg (by omega)]
      rw [find_eq h' c (by omega), if_pos (by rw [hset c, if_neg (by omega)]; exact rc)]
    · rw [if_neg e]
      by_cases r : cls.getD i 0 = i
      · rw [if_pos r, if_pos r, if_neg (by omega)]
      · rw [if_neg r, if_neg r]
        have h1 := h.ge i hi
        have h2 := h.le i hi
        obtain ⟨j, hj⟩ : ∃ j : Nat, cls.getD i 0 = (j : Int) := ⟨(cls.getD i 0).toNat, by omega⟩
        rw [hj]
        exact ih j (by omega) (by omega)

theorem find_short {N : Nat} {cls : List Int} (h : LeOk N cls) {a : Nat} (ha : a < N) : ∀ (i : Nat), i < N → find (cls.set a (find cls a)) i = find cls i := by
  obtain ⟨r0, r1, r2⟩ := find_root h a ha
  have h' : LeOk N (cls.set a (find cls a)) := h.set a _ r0 r1
  have hset : ∀ j : Nat, (cls.set a (find cls a)).getD j 0 = if a = j then find cls a else cls.getD j 0 := fun j => getD_set_int _ _ _ _ (by rw [h.len]; exact ha)
  intro i
  induction i using Nat.strongRecOn with
  | _ i ih =>
    intro hi
    rw [find_eq h' i hi, hset i]
    by_cases e : a = i
    · subst e
      rw [if_pos rfl]
      by_cases r : find cls a = a
      · rw [if_pos r, r]
      · rw [if_neg r]
        obtain ⟨p, hp⟩ : ∃ p : Nat, find cls a = (p : Int) := ⟨(find cls a).toNat, by omega⟩
        rw [hp] at r2 r r1 ⊢
        rw [Int.toNat_natCast] at r2
        have := ih p (by omega) (by omega)
        rw [hp] at this
        rw [this, find_of_root h (by omega) r2]
    · rw [if_neg e, find_eq h i hi]
      by_cases r : cls.getD i 0 = i
      · rw [if_pos r, if_pos r]
      · rw [if_neg r, if_neg r]
        have h1 := h.ge i hi
        have h2 := h.le i hi
        obtain ⟨j, hj⟩ : ∃ j : Nat, cls.getD i 0 = (j : Int) := ⟨(cls.getD i 0).toNat, by omega⟩
        rw [hj]
        exact ih j (by omega) (by omega)

theorem finish_find {N : Nat} {cls : List Int} (h : LeOk N cls) : ∀ t, t ≤ N → (∀ i : Nat, i < N → find (finish cls t) i = find cls i) ∧ ∀ i : Nat, i < t → (finish cls t).getD i 0 = find cls i
  | 0, _ => ⟨fun _ _ => rfl, fun i hi => by omega⟩
  | t + 1, ht => by
    obtain ⟨h1, h2⟩ := finish_find h t (by omega)
    have hok := finish_ok h t (by omega)
    refine ⟨fun i hi => ?_, fun i hi => ?_⟩
    · show find ((finish cls t).set t (find (finish cls t) (t : Int))) i = _
      rw [find_short hok (by omega) i hi, h1 i hi]
    · show ((finish cls t).set t (find (finish cls t) (t : Int))).getD i 0 = _
      rw [getD_set_int _ _ _ _ (by rw [hok.len]; omega)]
      by_cases e : t = i
      · subst e; rw [if_pos rfl, h1 t (by omega)]
      · rw [if_neg e, h2 i (by omega)]

/-! ### the two states are one -/
structure Same (N : Nat) (t : Int → Int → Bool) (s : Mer) (L : List Int) : Prop where
  ok : s.Ok N
  len : L.length = N
  top : ∀ i : Nat, i < N → L.getD i 0 = find s.cls i
  adj : ∀ x y : Nat, x < N → y < N → x ≠ y → s.cls.getD x 0 = x → s.cls.getD y 0 = y → s.adj x y = nearB N t L x y

theorem Same.root {N : Nat} {t : Int → Int → Bool} {s : Mer} {L : List Int} (h : Same N t s L) {x : Nat} (hx : x < N) : L.getD x 0 = x ↔ s.cls.getD x 0 = x := by
  rw [h.top x hx]
  constructor
  · intro e
    have := (find_root h.ok.le x hx).2.2
    rw [e, Int.toNat_natCast] at this
    exact this
  · exact find_of_root h.ok.le hx

theorem Same.join {N : Nat} {t : Int → Int → Bool} {s : Mer} {L : List Int} (h : Same N t s L) {c d : Nat} (hcd : c < d) (hd : d < N) (rc : s.cls.getD c 0 = c) (rd : s.cls.getD d 0 = d) (hadj : s.adj c d = false) (L' : List Int) (hl : L'.length = N) (hL : ∀ i : Nat, i < N → L'.getD i 0 = if L.getD i 0 = c ∨ L.getD i 0 = d then (c : Int) else L.getD i 0) :
    Same N t (s.join c d) L' := by
  have hcdI : (c : Int) ≠ (d : Int) := by omega
  have top' : ∀ i : Nat, i < N → L'.getD i 0 = find (s.join c d).cls i := fun i hi => by
    show _ = find (s.cls.set (d : Int).toNat (c : Int)) i
    rw [Int.toNat_natCast, find_join h.ok.le hcd hd rc rd i hi, hL i hi, h.top i hi]
    by_cases e : find s.cls i = d
    · rw [if_pos (.inr e), if_pos e]
    · rw [if_neg e]
      by_cases e' : find s.cls i = c
      · rw [if_pos (.inl e'), e']
      · rw [if_neg (by omega)]
  refine { ok := h.ok.join hcd hd rc rd hadj, len := hl, top := top', adj := fun x y hx hy hxy rx ry => ?_ }
  have hset : ∀ j : Nat, (s.join c d).cls.getD j 0 = if d = j then (c : Int) else s.cls.getD j 0 := fun j => by
    show (s.cls.set (d : Int).toNat (c : Int)).getD j 0 = _
    rw [Int.toNat_natCast]
    exact getD_set_int _ _ _ _ (by rw [h.ok.le.len]; exact hd)
  rw [hset] at rx ry
  have hxd : d ≠ x := fun e => by rw [if_pos e] at rx; omega
  have hyd : d ≠ y := fun e => by rw [if_pos e] at ry; omega
  rw [if_neg hxd] at rx
  rw [if_neg hyd] at ry
  show joinAdj s.adj c d x y = nearB N t L' x y
  have hx' : ∀ z : Nat, z ≠ d → z ≠ c → ∀ i : Nat, i < N → (L'.getD i 0 = (z : Int) ↔ L.getD i 0 = (z : Int)) := fun z hz1 hz2 i hi => by
    rw [hL i hi]
    split
    · rename_i e
      rcases e with e | e <;> rw [e] <;> omega
    · exact Iff.rfl
  have hc' : ∀ i : Nat, i < N → (L'.getD i 0 = (c : Int) ↔ L.getD i 0 = (c : Int) ∨ L.getD i 0 = (d : Int)) := fun i hi => by
    rw [hL i hi]
    split
    · rename_i e; exact ⟨fun _ => e, fun _ => rfl⟩
    · rename_i e; exact ⟨fun h => .inl h, fun h => absurd h e⟩
  have key : nearB N t L' x y = (nearB N t L x y || (decide (x = c) && nearB N t L d y) || (decide (y = c) && nearB N t L x d)) := by
    rw [Bool.eq_iff_iff]
    simp only [Bool.or_eq_true, Bool.and_eq_true, decide_eq_true_eq, nearB_true]
    constructor
    · rintro ⟨i, j, hi, hj, h1, h2, h3⟩
      by_cases ex : x = c
      · subst ex
        have e2 := (hx' y (fun e => hyd e.symm) (fun e => hxy e.symm) j hj).1 h2
        rcases (hc' i hi).1 h1 with e1 | e1
        · exact .inl (.inl ⟨i, j, hi, hj, e1, e2, h3⟩)
        · exact .inl (.inr ⟨rfl, i, j, hi, hj, e1, e2, h3⟩)
      · have e1 := (hx' x (fun e => hxd e.symm) ex i hi).1 h1
        by_cases ey : y = c
        · subst ey
          rcases (hc' j hj).1 h2 with e2 | e2
          · exact .inl (.inl ⟨i, j, hi, hj, e1, e2, h3⟩)
          · exact .inr ⟨rfl, i, j, hi, hj, e1, e2, h3⟩
        · exact .inl (.inl ⟨i, j, hi, hj, e1, (hx' y (fun e => hyd e.symm) ey j hj).1 h2, h3⟩)
    · have up : ∀ (z : Nat), z ≠ d → ∀ i : Nat, i < N → L.getD i 0 = (z : Int) → L'.getD i 0 = (z : Int) := fun z hz i hi e => by
        by_cases ez : z = c
        · subst ez; exact (hc' i hi).2 (.inl e)
        · exact (hx' z hz ez i hi).2 e
      rintro ((⟨i, j, hi, hj, h1, h2, h3⟩ | ⟨rfl, i, j, hi, hj, h1, h2, h3⟩) | ⟨rfl, i, j, hi, hj, h1, h2, h3⟩)
      · exact ⟨i, j, hi, hj, up x (fun e => hxd e.symm) i hi h1, up y (fun e => hyd e.symm) j hj h2, h3⟩
      · exact ⟨i, j, hi, hj, (hc' i hi).2 (.inr h1), up y (fun e => hyd e.symm) j hj h2, h3⟩
      · exact ⟨i, j, hi, hj, up x (fun e => hxd e.symm) i hi h1, (hc' j hj).2 (.inr h2), h3⟩
  rw [key, ← h.adj x y hx hy hxy rx ry]
  unfold joinAdj
  have n1 : decide ((x : Int) = (d : Int)) = false := decide_eq_false (by omega)
  have n2 : decide ((y : Int) = (d : Int)) = false := decide_eq_false (by omega)
  have e1 : decide ((x : Int) = (c : Int)) = decide (x = c) := by congr 1; apply propext; omega
  have e2 : decide ((y : Int) = (c : Int)) = decide (y = c) := by congr 1; apply propext; omega
  rw [n1, n2, e1, e2, h.ok.symm (d : Int) (x : Int), ← h.adj d y hd hy hyd rd ry, ← h.adj x d hx hd (fun e => hxd e.symm) rx rd]
  simp

theorem card_join {N : Nat} {adj : Int → Int → Bool} (symm : ∀ x y, adj x y = adj y x) {c d x : Nat} (hcd : c ≠ d) (hc : c < N) (hd : d < N) (hxc : x ≠ c) (hxd : x ≠ d) :
    (card N (joinAdj adj c d x) : Int) = (card N (adj x) : Int) - (if (adj c x && adj d x) = true then 1 else 0) := by
  have h1 : card N (adj x) = card N (fun y => !decide (y = (d : Int)) && adj x y) + card N (fun y => decide (y = (d : Int)) && adj x y) :=
    card_add (fun y _ => by by_cases e : (y : Int) = (d : Int) <;> simp [e]) (fun y _ => by by_cases e : (y : Int) = (d : Int) <;> simp [e])
  have h2 : card N (fun y => !decide (y = (d : Int)) && adj x y) = card N (fun y => !decide (y = (c : Int)) && (!decide (y = (d : Int)) && adj x y)) + card N (fun y => decide (y = (c : Int)) && adj x y) :=
    card_add (fun y _ => by
      by_cases e : (y : Int) = (c : Int)
      · have : ¬ (y : Int) = (d : Int) := by omega
        simp [e, show ¬ (c : Int) = (d : Int) by omega]
      · simp [e]) (fun y _ => by by_cases e : (y : Int) = (c : Int) <;> simp [e])
  have h3 : card N (joinAdj adj c d x) = card N (fun y => !decide (y = (c : Int)) && (!decide (y = (d : Int)) && adj x y)) + card N (fun y => decide (y = (c : Int)) && (adj x y || adj d x)) :=
    card_add (fun y _ => by
      unfold joinAdj
      have n1 : decide ((x : Int) = (d : Int)) = false := decide_eq_false (by omega)
      have n2 : decide ((x : Int) = (c : Int)) = false := decide_eq_false (by omega)
      rw [n1, n2]
      by_cases e : (y : Int) = (c : Int)
      · simp [e, show ¬ (c : Int) = (d : Int) by omega]
      · simp [e]) (fun y _ => by by_cases e : (y : Int) = (c : Int) <;> simp [e])
  have e1 := card_single d hd (adj x)
  have e2 := card_single c hc (adj x)
  have e3 := card_single c hc (fun y => adj x y || adj d x)
  rw [h3, h1, h2, e1, e2, e3, symm c x, symm d x]
  cases adj x c <;> cases adj x d <;> simp <;> omega

theorem harder_comm (adj : Int → Int → Bool) (N : Nat) (k a b : Int) : harder adj N k a b = harder adj N k b a := by
  unfold harder hardAt
  simp only [Bool.or_comm, Bool.and_comm (adj a _)]

theorem Same.joins {N : Nat} {t : Int → Int → Bool} {s : Mer} {L : List Int} (h : Same N t s L) {a b : Nat} (ha : a < N) (hb : b < N) (ra : s.cls.getD a 0 = a) (rb : s.cls.getD b 0 = b) (k : Int) :
    joinsB N t L a b k = !(decide ((a : Int) = (b : Int)) || s.adj a b || harder s.adj N k a b) := by
  unfold joinsB
  by_cases eab : a = b
  · subst eab; simp
  · have n0 : decide ((a : Int) = (b : Int)) = false := decide_eq_false (by omega)
    rw [n0, ← h.adj a b ha hb eab ra rb]
    cases hadj : s.adj (a : Int) (b : Int) with
    | true => simp
    | false =>
      obtain ⟨c, d, hcd, hd, hcc, hdd, hmn, hor, hpair⟩ : ∃ c d : Nat, c < d ∧ d < N ∧ s.cls.getD c 0 = c ∧ s.cls.getD d 0 = d ∧ (if (b : Int) < (a : Int) then (b : Int) else (a : Int)) = (c : Int) ∧ (∀ v : Int, (v = a ∨ v = b) ↔ (v = c ∨ v = d)) ∧ ((c = a ∧ d = b) ∨ (c = b ∧ d = a)) := by
        by_cases hlt : b < a
        · exact ⟨b, a, hlt, ha, rb, ra, by rw [if_pos (by omega)], fun v => Or.comm, .inr ⟨rfl, rfl⟩⟩
        · exact ⟨a, b, by omega, hb, ra, rb, by rw [if_neg (by omega)], fun v => Iff.rfl, .inl ⟨rfl, rfl⟩⟩
      have hadj' : s.adj c d = false := by
        rcases hpair with ⟨rfl, rfl⟩ | ⟨rfl, rfl⟩
        · exact hadj
        · rw [h.ok.symm]; exact hadj
      have hhard : harder s.adj N k a b = harder s.adj N k c d := by
        rcases hpair with ⟨rfl, rfl⟩ | ⟨rfl, rfl⟩
        · rfl
        · exact harder_comm _ _ _ _ _
      have hJ : Same N t (s.join c d) (joinL L a b) := h.join hcd hd hcc hdd hadj' _ (by rw [joinL_length]; exact h.len) (fun i hi => by
        rw [joinL_getD h.len _ _ i hi, hmn]
        by_cases e : L.getD i 0 = a ∨ L.getD i 0 = b
        · rw [if_pos e, if_pos ((hor _).1 e)]
        · rw [if_neg e, if_neg (fun h => e ((hor _).2 h))])
      rw [hhard, hmn]
      generalize joinL L a b = m at hJ
      have hset : ∀ j : Nat, (s.join c d).cls.getD j 0 = if d = j then (c : Int) else s.cls.getD j 0 := fun j => by
        show (s.cls.set (d : Int).toNat (c : Int)).getD j 0 = _
        rw [Int.toNat_natCast]
        exact getD_set_int _ _ _ _ (by rw [h.ok.le.len]; exact hd)
      have rcJ : (s.join c d).cls.getD c 0 = c := by rw [hset, if_neg (by omega)]; exact hcc
      have hdeg : ∀ x : Nat, x < N → (s.join c d).cls.getD x 0 = x → degJ N t m x = card N (joinAdj s.adj c d x) := fun x hx rx => by
        unfold degJ
        refine card_congr (fun y hy => ?_)
        rw [Int.toNat_natCast]
        show _ = (s.join c d).adj x y
        by_cases exy : y = x
        · subst exy
          have := hJ.ok.irr (y : Int)
          rw [this]; simp
        · have n1 : decide ((y : Int) = (x : Int)) = false := decide_eq_false (by omega)
          rw [n1]
          by_cases ry : m.getD y 0 = y
          · rw [hJ.adj x y hx hy (fun e => exy e.symm) rx ((hJ.root hy).1 ry), decide_eq_true ry]; simp
          · rw [decide_eq_false ry]
            cases hz : (s.join c d).adj (x : Int) (y : Int) with
            | false => simp
            | true =>
              rw [hJ.ok.symm] at hz
              have := (hJ.ok.supp _ _ hz).2.2
              rw [Int.toNat_natCast] at this
              exact absurd ((hJ.root hy).2 this) ry
      have hcard : card N (fun x => decide (m.getD x.toNat 0 = x) && !decide (x = (c : Int)) && nearB N t m x c && decide (k ≤ (degJ N t m x : Int))) = card N (fun x => (s.adj c x || s.adj d x) && hardAt s.adj N k c d x) := by
        refine card_congr (fun x hx => ?_)
        rw [Int.toNat_natCast]
        by_cases good : m.getD x 0 = x ∧ x ≠ c
        · obtain ⟨g1, g2⟩ := good
          have rx := (hJ.root hx).1 g1
          have n1 : decide ((x : Int) = (c : Int)) = false := decide_eq_false (by omega)
          have hxd : x ≠ d := fun e => by rw [hset, if_pos e.symm] at rx; omega
          rw [decide_eq_true g1, n1, ← hJ.adj x c hx (by omega) g2 rx rcJ, hdeg x hx rx, card_join h.ok.symm (by omega) (by omega) hd g2 hxd]
          have e1 : (s.join c d).adj (x : Int) (c : Int) = (s.adj c x || s.adj d x) := by
            show joinAdj s.adj c d x c = _
            unfold joinAdj
            have m1 : decide ((x : Int) = (d : Int)) = false := decide_eq_false (by omega)
            have m2 : decide ((c : Int) = (d : Int)) = false := decide_eq_false (by omega)
            rw [m1, m2, n1, h.ok.symm (c : Int) (x : Int)]
            simp
          rw [e1]
          unfold hardAt
          simp
        · have hz : (s.adj c x || s.adj d x) = false := by
            cases hz : (s.adj c x || s.adj d x) with
            | false => rfl
            | true =>
              exfalso
              apply good
              have hroot : s.cls.getD x 0 = x ∧ x ≠ c ∧ x ≠ d := by
                rw [Bool.or_eq_true] at hz
                rcases hz with hz | hz
                · have hz' := hz
                  rw [h.ok.symm] at hz'
                  have := (h.ok.supp _ _ hz').2.2
                  rw [Int.toNat_natCast] at this
                  exact ⟨this, (fun e => by rw [e, h.ok.irr] at hz; cases hz), (fun e => by rw [e, hadj'] at hz; cases hz)⟩
                · have hz' := hz
                  rw [h.ok.symm] at hz'
                  have := (h.ok.supp _ _ hz').2.2
                  rw [Int.toNat_natCast] at this
                  exact ⟨this, (fun e => by rw [e, h.ok.symm, hadj'] at hz; cases hz), (fun e => by rw [e, h.ok.irr] at hz; cases hz)⟩
              exact ⟨(hJ.root hx).2 (by rw [hset, if_neg (fun e => hroot.2.2 e.symm)]; exact hroot.1), hroot.2.1⟩
          rw [hz]
          have : (decide (m.getD x 0 = (x : Int)) && !decide ((x : Int) = (c : Int))) = false := by
            by_cases g1 : m.getD x 0 = x
            · have : x = c := by
                by_cases g2 : x = c
                · exact g2
                · exact absurd ⟨g1, g2⟩ good
              subst this; simp
            · rw [decide_eq_false g1]; rfl
          rw [this]; simp
      rw [hcard]
      unfold harder
      generalize (card N fun x => (s.adj c x || s.adj d x) && hardAt s.adj N k c d x) = q
      by_cases hq : (q : Int) < k
      · rw [decide_eq_true hq, decide_eq_false (by omega)]; rfl
      · rw [decide_eq_false hq, decide_eq_true (by omega)]; rfl
end Go.Proofs.YtgdmdgkfababeaaCol
