/-
  A map[int]bool of the machine, told as the set of the numbers at which it is true; the laws at the operations. Own work.
-/
import Derived.Maps.OwnIn
import Derived.Maps.RangeWalk
import Derived.Maps.OwnSet
import Derived.Sort.MapsRangeIn
import Derived.KernelRfl
import Derived.WalkArith
import Derived.WideKeyEntry
import Derived.Test.YtgdmdgkfababeaaCol
namespace Go.Proofs.YtgdmdgkfababeaaH
open Go Go.RowKit Go.Maps Go.Proofs.YtgdmdgkfababeaaCol
open Go.ChangeMaps Go.MapKept
open Go.WideElems (Fit rd rg pl rd_key rd_val rg_of)

def wfi (x : Int) : Prop := (Lit.int .i64 x).wf = true
theorem wfi_mk {x : Int} (h1 : -9223372036854775808 ≤ x) (h2 : x ≤ 9223372036854775807) : wfi x := WalkArith.wf_i64 (by omega)

/-- Block b of w is a map[int]bool (type numbers K, E of key and element) of at most n entries, true at just the x with S x. -/
def SetAt (P : Program) (K E : TypeId) (w : World) (b n : Nat) (S : Int → Bool) : Prop :=
  ∃ D : DataW Unit, w.ownsMap P K (plainElem P E) b n D ∧ (∀ x, wfi x → D.atKey (.int .i64 x) (.lit (.bool false)) = .lit (.bool (S x)) ∧ Maps.has D (.int .i64 x) = S x) ∧ ∀ x, S x = true → wfi x

/-- The loop over such a map is under way: L: what is still to come. -/
def RangeAt (P : Program) (K E : TypeId) (w : World) (b r n : Nat) (S L : Int → Bool) (cnt : Nat) : Prop :=
  ∃ (D : DataW Unit) (left : Lit → Bool), w.ranges P K (plainElem P E) b r n D left cnt ∧ (∀ x, wfi x → D.atKey (.int .i64 x) (.lit (.bool false)) = .lit (.bool (S x)) ∧ Maps.has D (.int .i64 x) = S x) ∧ (∀ x, S x = true → wfi x) ∧
    (∀ x, wfi x → left (.int .i64 x) = L x) ∧ (∀ x, L x = true → S x = true)

theorem plainElem_bool_inv {P : Program} {e : TypeId} (he : P.underlying e = some .bool) {v : Value} {z : DataW Unit × List MemPlace} (h : plainElem P e v = some z) : ∃ a, v = .bool a ∧ z = (.lit (.bool a), []) := by
  unfold plainElem at h
  rw [he] at h
  cases v <;> simp at h
  exact ⟨_, rfl, h.symm⟩

section
variable {P : Program} {K E : TypeId} {w w' : World} {b r n cnt : Nat} {S L : Int → Bool}

theorem SetAt.lt (h : SetAt P K E w b n S) : b < w.heap.size := by obtain ⟨D, ho, _⟩ := h; exact ho.lt
theorem SetAt.mono (h : SetAt P K E w b n S) {n' : Nat} (hn : n ≤ n') : SetAt P K E w b n' S := by obtain ⟨D, ho, h1⟩ := h; exact ⟨D, ho.mono hn, h1⟩
theorem SetAt.same (h : SetAt P K E w b n S) (hb : w'.heap[b]? = w.heap[b]?) : SetAt P K E w' b n S := by
  obtain ⟨D, ⟨es, clock, h1, h2⟩, h3⟩ := h
  exact ⟨D, ⟨es, clock, hb.trans h1, h2⟩, h3⟩
theorem SetAt.congr (h : SetAt P K E w b n S) {S' : Int → Bool} (hS : ∀ x, S x = S' x) : SetAt P K E w b n S' := by
  obtain rfl : S = S' := funext hS
  exact h
theorem SetAt.made (P : Program) (K E : TypeId) (w : World) : SetAt P K E (w.alloc (.map #[] 0)) w.heap.size 0 (fun _ => false) :=
  ⟨.map [], World.ownsMap_made _ _ _ _, fun x _ => ⟨rfl, rfl⟩, fun x h => by cases h⟩
theorem SetAt.wf (h : SetAt P K E w b n S) {x : Int} (hx : S x = true) : wfi x := by obtain ⟨D, _, _, h3⟩ := h; exact h3 x hx

theorem RangeAt.set (h : RangeAt P K E w b r n S L cnt) : SetAt P K E w b n S := by
  obtain ⟨D, left, hr, h1, h2, _⟩ := h
  exact ⟨D, hr.owns, h1, h2⟩
theorem RangeAt.lt (h : RangeAt P K E w b r n S L cnt) : r < w.heap.size := by obtain ⟨D, left, hr, _⟩ := h; exact hr.lt
theorem RangeAt.ne (h : RangeAt P K E w b r n S L cnt) : r ≠ b := by obtain ⟨D, left, hr, _⟩ := h; exact hr.ne
theorem RangeAt.left_eq (h : RangeAt P K E w b r n S L cnt) : w.rangeLeft b r = cnt := by obtain ⟨D, left, hr, _⟩ := h; exact hr.left_eq
theorem RangeAt.same (h : RangeAt P K E w b r n S L cnt) (hb : w'.heap[b]? = w.heap[b]?) (hr : w'.heap[r]? = w.heap[r]?) : RangeAt P K E w' b r n S L cnt := by
  obtain ⟨D, left, ⟨es, clock, since, seen, c0, h1, h2, h3, h4, h5, h6⟩, h7⟩ := h
  exact ⟨D, left, ⟨es, clock, since, seen, c0, hb.trans h1, h2, h3, h4, hr.trans h5, h6⟩, h7⟩

theorem int_inj {x y : Int} (h : (Lit.int .i64 x) = .int .i64 y) : x = y := by injection h

theorem isKey_int {x : Int} : WideAt.IsKeyLit (.int .i64 x) := by trivial
theorem put_facts {D : DataW Unit} (hD : IsMap D) (h1 : ∀ x, wfi x → D.atKey (.int .i64 x) (.lit (.bool false)) = .lit (.bool (S x)) ∧ Maps.has D (.int .i64 x) = S x) (y : Int) :
    ∀ x, wfi x → (D.put (.int .i64 y) (.lit (.bool true))).atKey (.int .i64 x) (.lit (.bool false)) = .lit (.bool (decide (x = y) || S x)) ∧ Maps.has (D.put (.int .i64 y) (.lit (.bool true))) (.int .i64 x) = (decide (x = y) || S x) := by
  intro x hx
  by_cases e : x = y
  · subst e
    rw [atKey_put_same hD isKey_int, has_put_same hD isKey_int]
    simp
  · have hne : (Lit.int .i64 x) ≠ .int .i64 y := fun h => e (int_inj h)
    rw [atKey_put_other hne, has_put_other hne, (h1 x hx).1, (h1 x hx).2]
    simp [e]
theorem del_facts {D : DataW Unit} (h1 : ∀ x, wfi x → D.atKey (.int .i64 x) (.lit (.bool false)) = .lit (.bool (S x)) ∧ Maps.has D (.int .i64 x) = S x) (y : Int) :
    ∀ x, wfi x → (D.del (.int .i64 y)).atKey (.int .i64 x) (.lit (.bool false)) = .lit (.bool (!decide (x = y) && S x)) ∧ Maps.has (D.del (.int .i64 y)) (.int .i64 x) = (!decide (x = y) && S x) := by
  intro x hx
  by_cases e : x = y
  · subst e
    rw [atKey_del_same, has_del_same]
    simp
  · have hne : (Lit.int .i64 x) ≠ .int .i64 y := fun h => e (int_inj h)
    rw [atKey_del_other hne, has_del_other hne, (h1 x hx).1, (h1 x hx).2]
    simp [e]

/-- 'm[x]'. -/
theorem SetAt.look {t : TypeId} (h : SetAt P K E w b n S) (hk : P.underlying K = some (.int .i64)) (ht : P.underlying t = some (.map K E)) (he : P.underlying E = some .bool)
    (hz : (zeroValue E).run P w = .ok (.bool false) w) {x : Int} (hx : wfi x) : (Instr.lookup t (.map (some b)) (.int .i64 x) false).run P w = .ok (.bool (S x)) w := by
  obtain ⟨D, ho, h1, _⟩ := h
  obtain ⟨v, ps, hrun, hv⟩ := ho.lookup (int_keyed hk) ht hz (plainElem_bool he false) (keyOf_int_mk hk hx)
  rw [(h1 x hx).1] at hv
  obtain ⟨a, rfl, e2⟩ := plainElem_bool_inv he hv
  simp only [Prod.mk.injEq, DataW.lit.injEq, Lit.bool.injEq] at e2
  rw [hrun, e2.1]

/-- 'm[x] = true'. -/
theorem SetAt.put {t : TypeId} (h : SetAt P K E w b n S) (hk : P.underlying K = some (.int .i64)) (ht : P.underlying t = some (.map K E)) (he : P.underlying E = some .bool) (hn : n < maxLen)
    {x : Int} (hx : wfi x) : ∃ w', (Instr.mapUpdate t (.map (some b)) (.int .i64 x) (.bool true)).run P w = .ok () w' ∧ SetAt P K E w' b (n + 1) (fun y => decide (y = x) || S y) ∧ w.grownBy w' (some b) ∧ w'.heap.size = w.heap.size := by
  obtain ⟨D, ho, h1, h2⟩ := h
  obtain ⟨w', hrun, ho', ht'⟩ := ho.store (int_keyed hk) ht hn (keyOf_int_mk hk hx) (plainElem_bool he true)
  refine ⟨w', hrun, ⟨_, ho', put_facts ho.isMap h1 x, fun y hy => ?_⟩, ht'.grown, ?_⟩
  · by_cases e : y = x
    · rw [e]; exact hx
    · exact h2 y (by simpa [e] using hy)
  · obtain ⟨es, clock, es', clock', _, rfl⟩ := ht'
    simp [setBlock]

/-- 'delete(m, x)'. -/
theorem SetAt.drop {t : TypeId} (h : SetAt P K E w b n S) (hk : P.underlying K = some (.int .i64)) (ht : P.underlying t = some (.map K E))
    {x : Int} (hx : wfi x) (ty : TypeId) : ∃ w', (Builtin.delete_ #[t, K] ty #[.map (some b), .int .i64 x]).run P w = .ok (.tuple #[]) w' ∧ SetAt P K E w' b n (fun y => !decide (y = x) && S y) ∧ w.grownBy w' (some b) ∧ w'.heap.size = w.heap.size := by
  obtain ⟨D, ho, h1, h2⟩ := h
  obtain ⟨w', hrun, ho', ht'⟩ := ho.drop (int_keyed hk) ht (keyOf_int_mk hk hx) ty
  refine ⟨w', hrun, ⟨_, ho', del_facts h1 x, fun y hy => h2 y (by simp at hy; exact hy.2)⟩, ht'.grown, ?_⟩
  obtain ⟨es, clock, es', clock', _, rfl⟩ := ht'
  simp [setBlock]


/-! ### how many -/
theorem entries_int {D : DataW Unit} (h : w.ownsMap P K (plainElem P E) b n D) (hk : P.underlying K = some (.int .i64)) :
    ∃ xs : List Int, Maps.size D = xs.length ∧ xs.Nodup ∧ ∀ x, Maps.has D (.int .i64 x) = decide (x ∈ xs) := by
  obtain ⟨es, clock, hb, F, hs, rfl⟩ := h
  have hkeys : ∀ p ∈ (es.toList.map (rg P K (plainElem (H := Unit) P E))).foldr DataW.insert [], ∃ x, p.1 = .int .i64 x := by
    intro p hp
    obtain ⟨e, he, rfl⟩ := List.mem_map.1 (mem_sorted.1 hp)
    obtain ⟨y, hy⟩ := F.reads e he
    obtain ⟨x, _, e2, _⟩ := Maps.keyOf_int_inv hk (rd_key hy)
    exact ⟨x, by rw [rg_of hy]; exact e2⟩
  have hnd : ((es.toList.map (rg P K (plainElem (H := Unit) P E))).foldr DataW.insert []).Pairwise (fun p q => p.1 ≠ q.1) :=
    ((WideShapes.sorted_perm _).pairwise_iff (fun {_ _} hne => Ne.symm hne)).2 (Maps.fit_apart (int_keyed hk) F)
  generalize (es.toList.map (rg P K (plainElem (H := Unit) P E))).foldr DataW.insert [] = l at hkeys hnd
  clear hb F hs
  show ∃ xs : List Int, l.length = xs.length ∧ xs.Nodup ∧ ∀ x, l.any (fun p => p.1.sameKey (.int .i64 x)) = decide (x ∈ xs)
  induction l with
  | nil => exact ⟨[], rfl, List.nodup_nil, fun x => by simp⟩
  | cons p l ih =>
    obtain ⟨h1, h2⟩ := List.pairwise_cons.1 hnd
    obtain ⟨xs, e1, e2, e3⟩ := ih (fun q hq => hkeys q (by simp [hq])) h2
    obtain ⟨x, hx⟩ := hkeys p (by simp)
    have hnx : x ∉ xs := fun hm => by
      have := e3 x
      rw [decide_eq_true hm] at this
      obtain ⟨q, hq, hs⟩ := List.any_eq_true.1 this
      exact h1 q hq (by rw [hx, WideAt.sameKey_eq hs])
    refine ⟨x :: xs, by simp [e1], List.nodup_cons.2 ⟨hnx, e2⟩, fun y => ?_⟩
    rw [List.any_cons, e3 y, hx]
    by_cases e : y = x
    · subst e; simp [Lit.sameKey]
    · have hne : (Lit.int .i64 x) ≠ .int .i64 y := fun h => e (int_inj h).symm
      rw [Maps.sameKey_ne hne]
      simp [e]

theorem mem_card {N : Nat} {x : Int} : x ∈ ((List.range N).filter fun i : Nat => S (i : Int)).map (fun i : Nat => (i : Int)) ↔ (0 ≤ x ∧ x < N ∧ S x = true) := by
  simp only [List.mem_map, List.mem_filter, List.mem_range]
  constructor
  · rintro ⟨i, ⟨h1, h2⟩, rfl⟩
    exact ⟨by omega, by omega, h2⟩
  · rintro ⟨h0, h1, h2⟩
    exact ⟨x.toNat, ⟨by omega, by rw [Int.toNat_of_nonneg h0]; exact h2⟩, Int.toNat_of_nonneg h0⟩

theorem size_card {D : DataW Unit} (h : w.ownsMap P K (plainElem P E) b n D) (hk : P.underlying K = some (.int .i64))
    (h1 : ∀ x, wfi x → D.atKey (.int .i64 x) (.lit (.bool false)) = .lit (.bool (S x)) ∧ Maps.has D (.int .i64 x) = S x) {N : Nat} (hN : N ≤ 1000000) (hS : ∀ x, S x = true → 0 ≤ x ∧ x < N)
    (hwf : ∀ x, Maps.has D (.int .i64 x) = true → wfi x) : Maps.size D = card N S := by
  obtain ⟨xs, e1, e2, e3⟩ := entries_int h hk
  have hx : ∀ x, x ∈ xs ↔ S x = true := fun x => by
    constructor
    · intro hm
      have hh : Maps.has D (.int .i64 x) = true := by rw [e3]; exact decide_eq_true hm
      rw [← (h1 x (hwf x hh)).2, hh]
    · intro hs
      have hb := hS x hs
      have hh := (h1 x (wfi_mk (by omega) (by omega))).2
      rw [hs, e3] at hh
      exact of_decide_eq_true hh
  rw [e1]
  unfold card
  apply Nat.le_antisymm
  · have := nodup_le xs (((List.range N).filter fun i : Nat => S (i : Int)).map (fun i : Nat => (i : Int))) e2 (fun x hm => mem_card.2 (by have hs := (hx x).1 hm; have := hS x hs; exact ⟨this.1, this.2, hs⟩))
    simpa using this
  · have := nodup_le (((List.range N).filter fun i : Nat => S (i : Int)).map (fun i : Nat => (i : Int))) xs (nodup_cast _ (List.nodup_range.filter _)) (fun x hm => (hx x).2 (mem_card.1 hm).2.2)
    simpa using this

/-- Every key that is there is a number of 64 bits. -/
theorem has_wf {D : DataW Unit} (h : w.ownsMap P K (plainElem P E) b n D) (hk : P.underlying K = some (.int .i64)) (x : Int) (hh : Maps.has D (.int .i64 x) = true) : wfi x := by
  obtain ⟨es, clock, hb, F, hs, rfl⟩ := h
  obtain ⟨p, hp, hpk⟩ := List.any_eq_true.1 hh
  obtain ⟨e, he, rfl⟩ := List.mem_map.1 (mem_sorted.1 hp)
  obtain ⟨y, hy⟩ := F.reads e he
  obtain ⟨z, _, e2, hz⟩ := Maps.keyOf_int_inv hk (rd_key hy)
  have := WideAt.sameKey_eq hpk
  rw [rg_of hy, e2] at this
  rw [← int_inj this]
  exact hz

/-- 'len(m)'. -/
theorem SetAt.len {t : TypeId} (h : SetAt P K E w b n S) (hk : P.underlying K = some (.int .i64)) (ht : P.underlying t = some (.map K E)) {N : Nat} (hN : N ≤ 1000000) (hS : ∀ x, S x = true → 0 ≤ x ∧ x < N) (ty : TypeId) :
    (Builtin.len_ #[t] ty #[.map (some b)]).run P w = .ok (.int .i64 (card N S)) w := by
  obtain ⟨D, ho, h1, h2⟩ := h
  rw [ho.len ht ty, size_card ho hk h1 hN hS (has_wf ho hk)]

/-- 'range m'. -/
theorem SetAt.range {t : TypeId} (h : SetAt P K E w b n S) (hk : P.underlying K = some (.int .i64)) (ht : P.underlying t = some (.map K E)) {N : Nat} (hN : N ≤ 1000000) (hS : ∀ x, S x = true → 0 ≤ x ∧ x < N) :
    ∃ w', (Instr.range t (.map (some b))).run P w = .ok (.pointer (some ⟨w.heap.size, 0, none⟩)) w' ∧ RangeAt P K E w' b w.heap.size n S S (card N S) ∧ w.grownBy w' none ∧ w'.heap.size = w.heap.size + 1 := by
  obtain ⟨D, ho, h1, h2⟩ := h
  obtain ⟨w', hrun, hr, hg, hs⟩ := ho.range (int_keyed hk) ht
  rw [size_card ho hk h1 hN hS (has_wf ho hk)] at hr
  exact ⟨w', hrun, ⟨D, _, hr, h1, h2, fun x hx => (h1 x hx).2, fun x hx => hx⟩, hg, hs⟩

/-- The step: nothing is left, or some number x of L comes. -/
theorem RangeAt.next (h : RangeAt P K E w b r n S L cnt) (hk : P.underlying K = some (.int .i64)) (he : P.underlying E = some .bool) :
    ((∀ x, L x = false) ∧ ∀ ty, (Instr.next (.pointer (some ⟨r, 0, none⟩)) false ty).run P w = .ok (.tuple #[.bool false]) w) ∨
    ∃ x w' cnt', L x = true ∧ (∀ ty, (Instr.next (.pointer (some ⟨r, 0, none⟩)) false ty).run P w = .ok (.tuple #[.bool true, .int .i64 x, .bool true]) w') ∧
      RangeAt P K E w' b r n S (fun y => !decide (y = x) && L y) cnt' ∧ cnt' < cnt ∧ w.grownBy w' (some r) ∧ w'.heap.size = w.heap.size ∧
      (Instr.entry (.pointer (some ⟨r, 0, none⟩))).run P w' = .ok (.tuple #[.int .i64 x, .bool true]) w' := by
  obtain ⟨D, left, hr, h1, h2, h3, h4⟩ := h
  rcases hr.next (int_keyed hk) 0 with ⟨h0, hl, hrun⟩ | ⟨key, v, kl, y, w', cnt', hkey, hlk, hv, hat, hrun, hrg, hlt, hgr, hsz, hen⟩
  · refine .inl ⟨fun x => ?_, fun ty => hrun⟩
    cases hx : L x
    · rfl
    · rw [← h3 x (h2 x (h4 x hx)), hl] at hx
      cases hx
  · obtain ⟨x, rfl, rfl, hwx⟩ := Maps.keyOf_int_inv hk hkey
    obtain ⟨c, rfl, rfl⟩ := plainElem_bool_inv he hv
    have hLx : L x = true := by rw [← h3 x hwx]; exact hlk
    have hc : c = true := by
      have := hat (.lit (.bool false))
      rw [(h1 x hwx).1] at this
      simp only [DataW.lit.injEq, Lit.bool.injEq] at this
      rw [← this]
      exact h4 x hLx
    subst hc
    refine .inr ⟨x, w', cnt', hLx, fun ty => hrun, ⟨D, _, hrg, h1, h2, fun z hz => ?_, fun z hz => h4 z (by simp at hz; exact hz.2)⟩, hlt, hgr, hsz, hen⟩
    by_cases e : z = x
    · subst e; simp [Lit.sameKey]
    · have hne : (Lit.int .i64 z) ≠ .int .i64 x := fun h => e (int_inj h)
      rw [Maps.sameKey_ne hne, h3 z hz]
      simp [e]

/-! ### 'm[x] = true' in two steps: an entry is found or made, and stored to later -/
theorem setAt_block {o' : Obj} {e1 e2 : Array MapEntry} {c1 c2 : Nat} (h : SetAt P K E (setBlock w b o') b n S) (hb' : w.heap[b]? = some (.map e1 c1)) {w2 : World} (hb : w2.heap[b]? = some (.map e2 c2)) : SetAt P K E (setBlock w2 b o') b n S :=
  h.same ((heap_setBlock_same hb _).trans (heap_setBlock_same hb' _).symm)

theorem SetAt.entry {t : TypeId} (h : SetAt P K E w b n S) (hk : P.underlying K = some (.int .i64)) (ht : P.underlying t = some (.map K E)) (he : P.underlying E = some .bool)
    (hz : (zeroValue E).run P w = .ok (.bool false) w) (hn : n < maxLen) {x : Int} (hx : wfi x) :
    ∃ v s w1, (Instr.mapEntry t (.map (some b)) (.int .i64 x)).run P w = .ok (.tuple #[v, .int .i64 s]) w1 ∧ w.grownBy w1 (some b) ∧ w1.heap.size = w.heap.size ∧
      ∀ w2 : World, w2.heap[b]? = w1.heap[b]? → ∃ w3, (Instr.entryStore t (.map (some b)) (.int .i64 s) (.bool true)).run P w2 = .ok () w3 ∧ SetAt P K E w3 b (n + 1) (fun y => decide (y = x) || S y) ∧ w2.grownBy w3 (some b) ∧ w3.heap.size = w2.heap.size := by
  obtain ⟨w', hrun, hset, _, _⟩ := h.put hk ht he hn hx
  obtain ⟨D, ⟨es, clock, hb, F, _, _⟩, _⟩ := h
  have Kk := int_keyed hk
  have hkey : keyOf P K (.int .i64 x) = some (.int .i64 x) := keyOf_int_mk hk hx
  obtain ⟨s1, s2, _⟩ := F.stamped
  have hgr : ∀ (u : World) (e1 : Array MapEntry) (c1 : Nat) (o' : Obj), u.heap[b]? = some (.map e1 c1) → u.grownBy (setBlock u b o') (some b) ∧ (setBlock u b o').heap.size = u.heap.size := fun u e1 c1 o' hu =>
    ⟨⟨rfl, rfl, rfl, by simp [setBlock], fun i _ hi => heap_setBlock_other hu _ (fun e => hi (by rw [e]))⟩, by simp [setBlock]⟩
  rcases Kk.find w hkey es.toList F.keys with ⟨h1, h2⟩ | ⟨j, e0, h1, h2, h3⟩
  · have r0 : (Instr.mapUpdate t (.map (some b)) (.int .i64 x) (.bool true)).run P w = .ok () (setBlock w b (.map (es.push ⟨.int .i64 x, .bool true, clock⟩) (clock + 1))) := by
      simp [Instr.mapUpdate, run_underlying ht, MapKept.run_getObj_map hb, Kk.check w false hkey, h1, MapKept.run_setObj_map _ hb, Result.andThen, setBlock]
    obtain rfl : setBlock w b (.map (es.push ⟨.int .i64 x, .bool true, clock⟩) (clock + 1)) = w' := by rw [r0] at hrun; injection hrun
    refine ⟨.bool false, clock, setBlock w b (.map (es.push ⟨.int .i64 x, .bool false, clock⟩) (clock + 1)), ?_, (hgr _ _ _ _ hb).1, (hgr _ _ _ _ hb).2, fun w2 hw2 => ?_⟩
    · simp [Instr.mapEntry, run_underlying ht, MapKept.run_getObj_map hb, Kk.check w false hkey, h1, hz, MapKept.run_setObj_map _ hb, Result.andThen, setBlock, goInt]
    · rw [heap_setBlock_same hb] at hw2
      have hidx : (es.push ⟨.int .i64 x, .bool false, clock⟩).findIdx? (fun e => ((e.born : Nat) : Int) == ((clock : Nat) : Int)) = some es.size := by
        rw [WideElems.findIdx_arr]
        exact WideElems.findIdx_born (l := (es.push ⟨.int .i64 x, .bool false, clock⟩).toList) (j := es.size) (e0 := ⟨.int .i64 x, .bool false, clock⟩) (by
          simp only [Array.toList_push, List.map_append, List.map_cons, List.map_nil]
          refine List.nodup_append.2 ⟨s2, by simp, fun a ha c hc e1 => ?_⟩
          obtain ⟨y, hy, rfl⟩ := List.mem_map.1 ha
          have hlt := s1 y hy
          simp only [List.mem_singleton] at hc
          omega) (by simp)
      have hmod : (es.push ⟨.int .i64 x, .bool false, clock⟩).modify es.size (fun e => { e with val := .bool true }) = es.push ⟨.int .i64 x, .bool true, clock⟩ := by
        apply Array.ext'
        rw [Array.toList_modify, Array.toList_push, Array.toList_push, ← Array.length_toList, WideElems.modify_last]
      refine ⟨setBlock w2 b (.map (es.push ⟨.int .i64 x, .bool true, clock⟩) (clock + 1)), ?_, setAt_block hset hb hw2, (hgr _ _ _ _ hw2).1, (hgr _ _ _ _ hw2).2⟩
      simp [Instr.entryStore, MapKept.run_getObj_map hw2, asInt, asIntOf, hidx, hmod, MapKept.run_setObj_map _ hw2, Result.andThen, setBlock]
  · have hj : es[j]? = some e0 := by simpa using h2
    have hsame : es.modify j (fun e => { e with key := .int .i64 x }) = es := by
      apply Array.ext'
      rw [Array.toList_modify, modify_eq_set _ _ _ _ h2]
      have : ({ e0 with key := .int .i64 x } : MapEntry) = e0 := by rw [← h3]
      rw [this]
      exact WideElems.set_self _ _ _ h2
    have r0 : (Instr.mapUpdate t (.map (some b)) (.int .i64 x) (.bool true)).run P w = .ok () (setBlock w b (.map (es.modify j (fun e' => { e' with key := .int .i64 x, val := .bool true })) clock)) := by
      simp [Instr.mapUpdate, run_underlying ht, MapKept.run_getObj_map hb, Kk.check w false hkey, h1, hj, h3, Kk.stays w hkey, MapKept.run_setObj_map _ hb, Result.andThen, setBlock]
    obtain rfl : setBlock w b (.map (es.modify j (fun e' => { e' with key := .int .i64 x, val := .bool true })) clock) = w' := by rw [r0] at hrun; injection hrun
    refine ⟨e0.val, e0.born, setBlock w b (.map es clock), ?_, (hgr _ _ _ _ hb).1, (hgr _ _ _ _ hb).2, fun w2 hw2 => ?_⟩
    · simp [Instr.mapEntry, run_underlying ht, MapKept.run_getObj_map hb, Kk.check w false hkey, h1, hj, h3, Kk.stays w hkey, hsame, MapKept.run_setObj_map _ hb, Result.andThen, setBlock, goInt]
    · rw [heap_setBlock_same hb] at hw2
      have hidx : es.findIdx? (fun e => ((e.born : Nat) : Int) == ((e0.born : Nat) : Int)) = some j := by
        rw [WideElems.findIdx_arr]
        exact WideElems.findIdx_born s2 h2
      have hmod : es.modify j (fun e => { e with val := .bool true }) = es.modify j (fun e' => { e' with key := .int .i64 x, val := .bool true }) := by
        apply Array.ext'
        rw [Array.toList_modify, Array.toList_modify, modify_eq_set _ _ _ _ h2, modify_eq_set _ _ _ _ h2, ← h3]
      refine ⟨setBlock w2 b (.map (es.modify j (fun e' => { e' with key := .int .i64 x, val := .bool true })) clock), ?_, setAt_block hset hb hw2, (hgr _ _ _ _ hw2).1, (hgr _ _ _ _ hw2).2⟩
      simp [Instr.entryStore, MapKept.run_getObj_map hw2, asInt, asIntOf, hidx, hmod, MapKept.run_setObj_map _ hw2, Result.andThen, setBlock]
end
end Go.Proofs.YtgdmdgkfababeaaH
