/-
  colour.Merged: what its memory holds. Own work.
-/
import Derived.Test.YtgdmdgkfababeaaMer
import Derived.Test.YtgdmdgkfababeaaHColA
namespace Go.Proofs.YtgdmdgkfababeaaH
open Go Go.RowKit Go.Proofs.YtgdmdgkfababeaaCol Go.Proofs.Ytgdmdgkfababeaa.M Go.Proofs.YtgdmdgkfababeaaW.PrintWords

structure MCells (B s N : Nat) (k : Int) (cls : List Int) (live : Nat → Bool) (adj : Int → Int → Bool) (W : World) : Prop where
  bk : W.cell? ⟨B, 0, none⟩ = some (I64 k)
  row : Row mapV 35 W (B + 2) ((List.range N).map fun i => if live i = true then some (B + 3 + i) else none)
  sets : ∀ i, i < N → live i = true → TSet W (B + 3 + i) N (adj (i : Int))
  bg : W.cell? ⟨s, 0, none⟩ = some (.slice (some ⟨B + 2, 0, none⟩) N N)
  rcls : Row I64 3 W (s + 1) cls
  bcls : W.cell? ⟨s + 2, 0, none⟩ = some (.slice (some ⟨s + 1, 0, none⟩) N N)
  size : s + 3 ≤ W.heap.size
  lc : cls.length = N
  hs : B + 3 + N ≤ s

section
variable {B s N : Nat} {k : Int} {cls : List Int} {live : Nat → Bool} {adj adj' : Int → Int → Bool} {W W' : World}
theorem MCells.same (h : MCells B s N k cls live adj W) (hz : W.heap.size ≤ W'.heap.size) (hb : ∀ j, j < s + 3 → W'.heap[j]? = W.heap[j]?) : MCells B s N k cls live adj W' :=
  have hs := h.hs
  { bk := (World.cell?_of_block (hb _ (by dsimp only; omega))).trans h.bk, row := h.row.same (hb _ (by omega)), sets := fun i hi hl => (h.sets i hi hl).same (hb _ (by omega)),
    bg := (World.cell?_of_block (hb _ (by dsimp only; omega))).trans h.bg, rcls := h.rcls.same (hb _ (by omega)), bcls := (World.cell?_of_block (hb _ (by dsimp only; omega))).trans h.bcls,
    size := Nat.le_trans h.size hz, lc := h.lc, hs := h.hs }
theorem MCells.alloc (h : MCells B s N k cls live adj W) (o : Obj) : MCells B s N k cls live adj (W.alloc o) := h.same (by simp) (fun j hj => Below.heap_alloc W o j (by have := h.size; omega))
theorem MCells.drewN (h : MCells B s N k cls live adj W) (n : Nat) : MCells B s N k cls live adj (W.drewN n) := h.same (Nat.le_refl _) (fun _ _ => rfl)
theorem MCells.drew (h : MCells B s N k cls live adj W) : MCells B s N k cls live adj W.drew := h.same (Nat.le_refl _) (fun _ _ => rfl)
theorem MCells.grown (h : MCells B s N k cls live adj W) {row : Option Nat} (hg : W.grownBy W' row) (hr : ∀ b, row = some b → s + 3 ≤ b) : MCells B s N k cls live adj W' :=
  h.same hg.size (fun j hj => hg.block j (by have := h.size; omega) (fun e => by have := hr j e.symm; omega))
theorem MCells.but (h : MCells B s N k cls live adj W) {S : List Nat} (hb : But S W W') (hS : ∀ b ∈ S, s + 3 ≤ b) : MCells B s N k cls live adj W' :=
  h.same hb.size (fun j hj => hb.block j (by have := h.size; omega) (fun e => by have := hS j e; omega))
theorem MCells.far (h : MCells B s N k cls live adj W) {p : Addr} (hp : s + 3 ≤ p.block) (u : Value) : MCells B s N k cls live adj (W.setCell p u) :=
  h.same (by simp [World.setCell]) (fun j hj => Below.heap_setCell W p u j (by omega))
theorem MCells.map_at (h : MCells B s N k cls live adj W) {a : Nat} (ha : a < N) (hl : live a = true) : W.cell? ⟨B + 2, a, none⟩ = some (.map (some (B + 3 + a))) := by
  have r := h.row.cell none a (by simp; exact ha)
  rw [range_getD _ _ _ _ ha, if_pos hl] at r
  exact r
theorem MCells.cls_at (h : MCells B s N k cls live adj W) {a : Nat} (ha : a < N) : W.cell? ⟨s + 1, a, none⟩ = some (.int .i64 (cls.getD a 0)) := h.rcls.cell 0 a (by rw [h.lc]; exact ha)
theorem MCells.congr (h : MCells B s N k cls live adj W) (he : ∀ i : Nat, i < N → live i = true → ∀ y, adj (i : Int) y = adj' (i : Int) y) : MCells B s N k cls live adj' W :=
  { h with sets := fun i hi hl => (h.sets i hi hl).congr (fun y => he i hi hl y) }
theorem MCells.setCls (h : MCells B s N k cls live adj W) (i : Nat) (v : Int) : MCells B s N k (cls.set i v) live adj (W.setCell ⟨s + 1, i, none⟩ (I64 v)) :=
  have hs := h.hs
  { bk := (cell_far (by dsimp only; omega) _).trans h.bk, row := h.row.far (by dsimp only; omega) _, sets := fun j hj hl => (h.sets j hj hl).same (Below.heap_setCell _ _ _ _ (by dsimp only; omega)),
    bg := (cell_far (by dsimp only; omega) _).trans h.bg, rcls := h.rcls.set i v, bcls := (cell_far (by dsimp only; omega) _).trans h.bcls,
    size := by simp [World.setCell]; exact h.size, lc := by rw [List.length_set]; exact h.lc, hs := h.hs }
/-- A node's map is laid aside. -/
theorem MCells.kill (h : MCells B s N k cls live adj W) (b : Nat) : MCells B s N k cls (fun i => live i && !decide (i = b)) adj (W.setCell ⟨B + 2, b, none⟩ (.map none)) :=
  have hs := h.hs
  { bk := (cell_far (by dsimp only; omega) _).trans h.bk,
    row := by
      have e : (((List.range N).map fun i => if live i = true then some (B + 3 + i) else none).set b none) = ((List.range N).map fun i => if (live i && !decide (i = b)) = true then some (B + 3 + i) else none) := by
        apply List.ext_getElem
        · simp
        · intro i h1 h2
          simp only [List.getElem_set, List.getElem_map, List.getElem_range]
          by_cases e : b = i
          · subst e; simp
          · have : decide (i = b) = false := decide_eq_false (fun e' => e e'.symm)
            rw [if_neg e, this]; simp
      rw [← e]
      exact h.row.set b none
    sets := fun j hj hl => (h.sets j hj (by simp at hl; exact hl.1)).same (Below.heap_setCell _ _ _ _ (by dsimp only; omega)),
    bg := (cell_far (by dsimp only; omega) _).trans h.bg, rcls := h.rcls.far (by dsimp only; omega) _, bcls := (cell_far (by dsimp only; omega) _).trans h.bcls,
    size := by simp [World.setCell]; exact h.size, lc := h.lc, hs := h.hs }
theorem MCells.live_congr {live' : Nat → Bool} (h : MCells B s N k cls live adj W) (he : ∀ i, i < N → live i = live' i) : MCells B s N k cls live' adj W :=
  { h with
    row := by
      have e : ((List.range N).map fun i => if live i = true then some (B + 3 + i) else none) = ((List.range N).map fun i => if live' i = true then some (B + 3 + i) else none) := by
        apply List.map_congr_left
        intro i hi
        rw [he i (List.mem_range.1 hi)]
      rw [← e]; exact h.row
    sets := fun i hi hl => h.sets i hi (by rw [he i hi]; exact hl) }
/-- A map has been turned: row i of the neighbours. -/
theorem MCells.turn (h : MCells B s N k cls live adj W) {i n : Nat} {S : Int → Bool} (hg : W.grownBy W' (some (B + 3 + i))) (hS : TSet W' (B + 3 + i) n S) (hN : N ≤ 1000000) (hSN : ∀ x, S x = true → 0 ≤ x ∧ x < N)
    (he : ∀ j : Nat, j < N → j ≠ i → live j = true → ∀ y, adj (j : Int) y = adj' (j : Int) y) (hi : ∀ y, S y = adj' (i : Int) y) (hiN : i < N) : MCells B s N k cls live adj' W' :=
  have hs := h.hs
  have hz := h.size
  have hb : ∀ j, j < s + 3 → j ≠ B + 3 + i → W'.heap[j]? = W.heap[j]? := fun j hj hn => hg.block j (by omega) (by simpa using hn)
  { bk := (World.cell?_of_block (hb _ (by dsimp only; omega) (by dsimp only; omega))).trans h.bk, row := h.row.same (hb _ (by omega) (by omega)),
    sets := fun j hj hl => by
      by_cases e : j = i
      · subst e; exact TSet.tight (hS.congr hi) hN (fun x hx => hSN x (by rw [hi]; exact hx))
      · exact ((h.sets j hj hl).congr (fun y => he j hj e hl y)).same (hb _ (by omega) (by omega))
    bg := (World.cell?_of_block (hb _ (by dsimp only; omega) (by dsimp only; omega))).trans h.bg, rcls := h.rcls.same (hb _ (by omega) (by omega)), bcls := (World.cell?_of_block (hb _ (by dsimp only; omega) (by dsimp only; omega))).trans h.bcls,
    size := Nat.le_trans hz hg.size, lc := h.lc, hs := h.hs }
end

/-- The first a classes have been numbered. -/
def clss (N a : Nat) : List Int := (List.range N).map fun i : Nat => if i < a then (i : Int) else 0
theorem clss_zero (N : Nat) : clss N 0 = List.replicate N 0 := by
  apply List.ext_getElem <;> simp [clss]
theorem clss_succ (N a : Nat) : (clss N a).set a (a : Int) = clss N (a + 1) := by
  apply List.ext_getElem
  · simp [clss]
  · intro i h1 h2
    simp only [clss, List.getElem_set, List.getElem_map, List.getElem_range]
    by_cases e : a = i
    · subst e; simp
    · rw [if_neg e]
      by_cases h : i < a
      · rw [if_pos h, if_pos (by omega)]
      · rw [if_neg h, if_neg (by omega)]
theorem clss_all (N : Nat) (adj : Int → Int → Bool) : clss N N = (merStart N adj).cls := by
  apply List.map_congr_left
  intro i hi
  rw [if_pos (List.mem_range.1 hi)]

theorem MCells.start {B N : Nat} {k : Int} {adj : Int → Int → Bool} {W : World} (hk : W.cell? ⟨B, 0, none⟩ = some (I64 k)) (hg : Graph (B + 1) N adj W) :
    MCells B W.heap.size N k (clss N 0) (fun _ => true) adj (((W.alloc (.cells #[.slice (some ⟨B + 2, 0, none⟩) N N] 46)).alloc (.cells (madeCells #[I64 0] N) 3)).alloc (.cells #[.slice (some ⟨W.heap.size + 1, 0, none⟩) N N] 22)) := by
  have hz := hg.size
  rw [made_vals, clss_zero]
  have hb : ∀ (w : World) (o : Obj) j, j < w.heap.size → (w.alloc o).heap[j]? = w.heap[j]? := fun w o j hj => Below.heap_alloc w o j hj
  have hn' : ∀ (w : World) (o : Obj) j, j = w.heap.size → (w.alloc o).heap[j]? = some o := fun w o j hj => by subst hj; exact World.alloc_heap_new w o
  have old : ∀ j, j < W.heap.size → (((W.alloc (.cells #[.slice (some ⟨B + 2, 0, none⟩) N N] 46)).alloc (.cells (vals I64 (List.replicate N 0)) 3)).alloc (.cells #[.slice (some ⟨W.heap.size + 1, 0, none⟩) N N] 22)).heap[j]? = W.heap[j]? := fun j hj => by
    rw [hb _ _ _ (by simp <;> omega), hb _ _ _ (by simp <;> omega), hb _ _ _ (by omega)]
  refine ⟨(World.cell?_of_block (old _ (by dsimp only; omega))).trans hk, ?_, fun i hi _ => ?_, cell_of_row _ _ 0 #[.slice (some ⟨B + 2, 0, none⟩) N N] 46 (0, 0) ?_, ?_, cell_of_row _ _ 0 #[.slice (some ⟨W.heap.size + 1, 0, none⟩) N N] 22 (0, 0) ?_, by simp, by simp, by omega⟩
  · have := hg.row.same (old _ (by omega))
    simp only [if_true]
    have e : B + 1 + 2 = B + 3 := by omega
    rw [e] at this
    exact this
  · have := (hg.sets i hi).same (old _ (by omega))
    have e : B + 1 + 2 + i = B + 3 + i := by omega
    rwa [e] at this
  · rw [hb _ _ _ (by simp <;> omega), hb _ _ _ (by simp)]; exact hn' _ _ _ rfl
  · unfold Row; rw [hb _ _ _ (by simp)]; exact hn' _ _ _ (by simp)
  · exact hn' _ _ _ (by simp)

/-- The neighbours when those of b that are no longer to come have been given to a. -/
def midAdj (adj : Int → Int → Bool) (a b : Int) (L : Int → Bool) (x y : Int) : Bool :=
  if x = b then adj b y
  else if x = a then adj a y || (adj b y && !L y)
  else (adj x y && !((adj b x && !L x) && decide (y = b))) || ((adj b x && !L x) && decide (y = a))

theorem midAdj_start (adj : Int → Int → Bool) (a b : Int) (x y : Int) : midAdj adj a b (adj b) x y = adj x y := by
  unfold midAdj
  by_cases e : x = b
  · subst e; simp
  · rw [if_neg e]
    by_cases e' : x = a
    · subst e'; rw [if_pos rfl]; cases adj b y <;> simp
    · rw [if_neg e']; cases adj b x <;> simp
theorem midAdj_done {adj : Int → Int → Bool} {a b : Int} {L : Int → Bool} (hL : ∀ x, L x = false) (symm : ∀ x y, adj x y = adj y x) (irr : ∀ x, adj x x = false) (hab : a ≠ b) (hadj : adj a b = false) {x : Int} (hx : x ≠ b) (y : Int) :
    midAdj adj a b L x y = joinAdj adj a b x y := by
  have h2 : adj b a = false := by rw [symm]; exact hadj
  unfold midAdj joinAdj
  rw [if_neg hx, hL, hL, decide_eq_false hx]
  by_cases e : x = a
  · subst e
    rw [if_pos rfl, h2]
    by_cases e' : y = b
    · subst e'; simp [hadj, irr]
    · simp [e']
  · rw [if_neg e, decide_eq_false e]
    by_cases e' : y = b
    · subst e'
      have : decide (y = a) = false := decide_eq_false (fun h => hab h.symm)
      rw [this, symm x y]
      cases adj y x <;> simp
    · rw [decide_eq_false e']
      by_cases e'' : y = a
      · subst e''; simp
      · simp [e'']
end Go.Proofs.YtgdmdgkfababeaaH
