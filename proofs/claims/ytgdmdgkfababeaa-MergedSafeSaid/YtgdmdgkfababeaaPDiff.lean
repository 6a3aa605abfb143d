/-
  What colours do: neighbours differ; who has none has neighbours of all. In plain Lean. Own work; no program in sight.
-/
import Derived.Test.YtgdmdgkfababeaaMer
namespace Go.Proofs.YtgdmdgkfababeaaCol

theorem freeGo_none (used : Int → Bool) : ∀ (m : Nat) (c : Int), freeGo used m c = none → ∀ d, c ≤ d → d < c + m → used d = true
  | 0, c, _, d, h1, h2 => by omega
  | m + 1, c, h, d, h1, h2 => by
    unfold freeGo at h
    split at h
    · rename_i hc
      by_cases e : d = c
      · subst e; exact hc
      · exact freeGo_none used m (c + 1) h d (by omega) (by omega)
    · cases h
theorem freeGo_free (used : Int → Bool) : ∀ (m : Nat) (c d : Int), freeGo used m c = some d → used d = false ∧ c ≤ d ∧ d < c + m
  | 0, _, _, h => by cases h
  | m + 1, c, d, h => by
    unfold freeGo at h
    split at h
    · have := freeGo_free used m (c + 1) d h
      exact ⟨this.1, by omega, by omega⟩
    · rename_i hc
      have : c = d := Option.some.inj h
      subst this
      exact ⟨by simpa using hc, by omega, by omega⟩

theorem usedBy_true {adj : Int → Int → Bool} {N : Nat} {out : List Int} {a c : Int} : usedBy adj N out a c = true ↔ ∃ b : Nat, b < N ∧ adj a b = true ∧ out.getD b 0 = c := by
  unfold usedBy
  simp only [List.any_eq_true, List.mem_range, Bool.and_eq_true, decide_eq_true_eq]

structure Good (N : Nat) (adj : Int → Int → Bool) (k : Int) (done : List Int) (out : List Int) : Prop where
  len : out.length = N
  rng : ∀ a : Nat, a < N → out.getD a 0 = -1 ∨ (0 ≤ out.getD a 0 ∧ out.getD a 0 < k)
  diff : ∀ a b : Nat, a < N → b < N → adj a b = true → 0 ≤ out.getD a 0 → out.getD a 0 ≠ out.getD b 0
  full : ∀ a : Nat, a < N → (a : Int) ∈ done → out.getD a 0 = -1 → ∀ c, 0 ≤ c → c < k → usedBy adj N out a c = true
  rest : ∀ b : Nat, b < N → (b : Int) ∉ done → out.getD b 0 = -1

theorem Good.start (N : Nat) (adj : Int → Int → Bool) (k : Int) : Good N adj k [] (List.replicate N (-1)) := by
  have hg : ∀ a : Nat, a < N → (List.replicate N (-1 : Int)).getD a 0 = -1 := fun a ha => by
    rw [List.getD_eq_getElem?_getD, List.getElem?_replicate, if_pos ha]; rfl
  refine ⟨by simp, fun a ha => .inl (hg a ha), fun a b ha hb _ h => ?_, (fun a ha h => by cases h), fun b hb _ => hg b hb⟩
  rw [hg a ha] at h; omega

theorem Good.paint {N : Nat} {adj : Int → Int → Bool} {k : Int} {done out : List Int} (symm : ∀ x y, adj x y = adj y x) (irr : ∀ x, adj x x = false) (h : Good N adj k done out) {a : Nat} (ha : a < N) (hnew : (a : Int) ∉ done) :
    Good N adj k (done ++ [(a : Int)]) (paint adj N k out (a : Int)) := by
  have hna := h.rest a ha hnew
  unfold YtgdmdgkfababeaaCol.paint
  cases hf : freeGo (usedBy adj N out (a : Int)) k.toNat 0 with
  | none =>
    refine ⟨h.len, h.rng, h.diff, fun x hx hm hx1 c h0 h1 => ?_, fun b hb hn => h.rest b hb (fun hm => hn (by simp [hm]))⟩
    rcases List.mem_append.1 hm with hm | hm
    · exact h.full x hx hm hx1 c h0 h1
    · rw [List.mem_singleton] at hm
      have : x = a := by omega
      subst this
      exact freeGo_none _ _ _ hf c h0 (by omega)
  | some c =>
    obtain ⟨hu, hc0, hc1⟩ := freeGo_free _ _ _ _ hf
    have hset : ∀ j : Nat, (out.set a c).getD j 0 = if a = j then c else out.getD j 0 := fun j => getD_set_int _ _ _ _ (by rw [h.len]; exact ha)
    have hnot : ∀ b : Nat, b < N → adj (a : Int) b = true → out.getD b 0 ≠ c := fun b hb hab e => by
      have := usedBy_true.2 ⟨b, hb, hab, e⟩
      rw [hu] at this; cases this
    show Good N adj k (done ++ [(a : Int)]) (out.set (a : Int).toNat c)
    rw [Int.toNat_natCast]
    refine ⟨by rw [List.length_set]; exact h.len, fun x hx => ?_, fun x y hx hy hxy h0 => ?_, fun x hx hm hx1 d h0 h1 => ?_, fun b hb hn => ?_⟩
    · rw [hset]
      split
      · exact .inr ⟨hc0, by omega⟩
      · exact h.rng x hx
    · rw [hset] at h0
      rw [hset, hset]
      by_cases ex : a = x
      · subst ex
        rw [if_pos rfl]
        by_cases ey : a = y
        · subst ey; rw [irr] at hxy; cases hxy
        · rw [if_neg ey]; exact fun e => hnot y hy hxy e.symm
      · rw [if_neg ex] at h0 ⊢
        by_cases ey : a = y
        · subst ey
          rw [if_pos rfl]
          exact hnot x hx (by rw [symm]; exact hxy)
        · rw [if_neg ey]; exact h.diff x y hx hy hxy h0
    · rw [hset] at hx1
      by_cases ex : a = x
      · rw [if_pos ex] at hx1; omega
      · rw [if_neg ex] at hx1
        rcases List.mem_append.1 hm with hm | hm
        · obtain ⟨b, hb, hab, e⟩ := usedBy_true.1 (h.full x hx hm hx1 d h0 h1)
          refine usedBy_true.2 ⟨b, hb, hab, ?_⟩
          rw [hset]
          by_cases eb : a = b
          · subst eb; rw [hna] at e; omega
          · rw [if_neg eb]; exact e
        · rw [List.mem_singleton] at hm
          exact absurd (by omega : a = x) ex
    · rw [hset]
      by_cases eb : a = b
      · exact absurd (by rw [eb]; simp) hn
      · rw [if_neg eb]; exact h.rest b hb (fun hm => hn (by simp [hm]))

theorem Good.fold {N : Nat} {adj : Int → Int → Bool} {k : Int} (symm : ∀ x y, adj x y = adj y x) (irr : ∀ x, adj x x = false) : ∀ (l done out : List Int), Good N adj k done out → (∀ x ∈ l, 0 ≤ x ∧ x < N) → (done ++ l).Nodup →
    Good N adj k (done ++ l) (l.foldl (YtgdmdgkfababeaaCol.paint adj N k) out)
  | [], done, out, h, _, _ => by rw [List.append_nil]; exact h
  | x :: r, done, out, h, hr, hn => by
    obtain ⟨h0, h1⟩ := hr x (by simp)
    obtain ⟨a, rfl⟩ : ∃ a : Nat, x = (a : Int) := ⟨x.toNat, by omega⟩
    rw [List.foldl_cons, show done ++ (a : Int) :: r = (done ++ [(a : Int)]) ++ r by simp] at *
    refine Good.fold symm irr r _ _ (h.paint symm irr (by omega) ?_) (fun y hy => hr y (by simp [hy])) hn
    intro hm
    have := (List.nodup_append.1 (List.nodup_append.1 hn).1).2.2 _ hm (a : Int) (by simp)
    exact this rfl

theorem Ord.Ok.all {N : Nat} {s : Ord} (h : s.Ok N N) (i : Nat) (hi : i < N) : (i : Int) ∈ s.ord := by
  by_cases hm : (i : Int) ∈ s.ord
  · exact hm
  · exfalso
    have h1 : ((i : Int) :: s.ord).Nodup := List.nodup_cons.2 ⟨hm, h.on⟩
    have := nodup_le _ ((List.range N).map (fun i : Nat => (i : Int))) h1 (fun x hx => by
      rcases List.mem_cons.1 hx with rfl | hx
      · exact List.mem_map.2 ⟨i, List.mem_range.2 hi, rfl⟩
      · have := h.ob x hx
        exact List.mem_map.2 ⟨x.toNat, List.mem_range.2 (by omega), by omega⟩)
    simp [h.ol] at this
    omega

theorem colours_good (N : Nat) (hN : N ≤ 8192) (k : Int) (l : List (Int × Int)) : Good N (adjOf N l) k (ordRun (adjOf N l) N k N).ord.reverse (colours N k l) := by
  have hok := ordRun_ok (adjOf N l) N k N (Nat.le_refl _)
  have := Good.fold (k := k) (adjOf_symm N l) (fun x => by
    cases h : adjOf N l x x
    · rfl
    · exact absurd rfl (adjOf_range h).2.2) (ordRun (adjOf N l) N k N).ord.reverse [] (List.replicate N (-1)) (Good.start N _ k) (fun x hx => hok.ob x (List.mem_reverse.1 hx)) (by rw [List.nil_append]; exact (List.reverse_perm _).nodup_iff.2 hok.on)
  unfold colours
  rw [if_neg (by omega), Int.toNat_natCast]
  exact this

/-- What the law asks of each node. -/
theorem colours_law (N : Nat) (hN : N ≤ 8192) (k : Nat) (l : List (Int × Int)) (out : List Int) (ho : colours N k l = out) (a : Nat) (ha : a < N) :
    (-1 ≤ out.getD a 0 ∧ out.getD a 0 < max k 1) ∧ (∀ b : Nat, b < N → adjOf N l a b = true → 0 ≤ out.getD a 0 → out.getD a 0 ≠ out.getD b 0) ∧
      (out.getD a 0 < 0 → card k (fun c => decide (0 ≤ c) && usedBy (adjOf N l) N out a c) = k ∧ k ≤ card N (adjOf N l a)) := by
  have h := colours_good N hN k l
  rw [ho] at h
  have hok := ordRun_ok (adjOf N l) N k N (Nat.le_refl _)
  refine ⟨?_, fun b hb hab h0 => h.diff a b ha hb hab h0, fun hneg => ?_⟩
  · rcases h.rng a ha with e | e <;> omega
  · have e1 : out.getD a 0 = -1 := by rcases h.rng a ha with e | e <;> omega
    have hall : ∀ c : Nat, c < k → usedBy (adjOf N l) N out a c = true := fun c hc => h.full a ha (List.mem_reverse.2 (hok.all a ha)) e1 c (by omega) (by omega)
    constructor
    · unfold card
      rw [List.filter_eq_self.2 (fun c hc => by
        dsimp only
        rw [hall c (List.mem_range.1 hc), decide_eq_true (by omega)]; rfl)]
      simp
    · have := nodup_le ((List.range k).map (fun i : Nat => (i : Int))) (((List.range N).filter fun b : Nat => adjOf N l a b).map fun b => out.getD b 0) (nodup_cast _ List.nodup_range) (fun x hx => by
        obtain ⟨c, hc, rfl⟩ := List.mem_map.1 hx
        obtain ⟨b, hb, hab, e⟩ := usedBy_true.1 (hall c (List.mem_range.1 hc))
        exact List.mem_map.2 ⟨b, List.mem_filter.2 ⟨List.mem_range.2 hb, hab⟩, e⟩)
      simpa [card] using this
end Go.Proofs.YtgdmdgkfababeaaCol
