/-
  colour.Colours: what memory holds on the way. Own work.
-/
import Derived.Test.YtgdmdgkfababeaaHNeigh
import Derived.Test.YtgdmdgkfababeaaHBack
namespace Go.Proofs.YtgdmdgkfababeaaH
open Go Go.RowKit Go.Proofs.YtgdmdgkfababeaaCol Go.Proofs.Ytgdmdgkfababeaa.M Go.Proofs.YtgdmdgkfababeaaW.PrintWords

abbrev I64 : Int → Value := Value.int .i64

theorem Graph.same {B N : Nat} {adj : Int → Int → Bool} {W W' : World} (h : Graph B N adj W) {n : Nat} (hn : B + 2 + N ≤ n) (hs : W.heap.size ≤ W'.heap.size) (hb : ∀ k, k < n → W'.heap[k]? = W.heap[k]?) : Graph B N adj W' where
  row := h.row.same (hb _ (by omega))
  sets := fun i hi => (h.sets i hi).same (hb _ (by omega))
  size := Nat.le_trans h.size hs

/-- The blocks of a call of Colours: B: the heap's size at its begin; s: the first block behind neighbours' own. -/
structure Cells (B s N : Nat) (k : Int) (adj : Int → Int → Bool) (deg out : List Int) (gone : List Bool) (W : World) : Prop where
  bn : W.cell? ⟨B, 0, none⟩ = some (I64 (N : Int))
  bk : W.cell? ⟨B + 1, 0, none⟩ = some (I64 k)
  graph : Graph (B + 2) N adj W
  bg : W.cell? ⟨s, 0, none⟩ = some (.slice (some ⟨B + 3, 0, none⟩) N N)
  rdeg : Row I64 3 W (s + 1) deg
  bdeg : W.cell? ⟨s + 2, 0, none⟩ = some (.slice (some ⟨s + 1, 0, none⟩) N N)
  rout : Row I64 3 W (s + 3) out
  bout : W.cell? ⟨s + 4, 0, none⟩ = some (.slice (some ⟨s + 3, 0, none⟩) N N)
  rgone : Row Value.bool 4 W (s + 5) gone
  bgone : W.cell? ⟨s + 6, 0, none⟩ = some (.slice (some ⟨s + 5, 0, none⟩) N N)
  size : s + 7 ≤ W.heap.size
  ld : deg.length = N
  lo : out.length = N
  lg : gone.length = N
  hs : B + 4 + N ≤ s

section
variable {B s N : Nat} {k : Int} {adj : Int → Int → Bool} {deg out : List Int} {gone : List Bool} {W W' : World}
theorem Cells.same (h : Cells B s N k adj deg out gone W) (hz : W.heap.size ≤ W'.heap.size) (hb : ∀ j, j < s + 7 → W'.heap[j]? = W.heap[j]?) : Cells B s N k adj deg out gone W' :=
  have hs := h.hs
  { bn := (World.cell?_of_block (hb _ (by dsimp only; omega))).trans h.bn, bk := (World.cell?_of_block (hb _ (by dsimp only; omega))).trans h.bk, graph := h.graph.same (n := s) (by omega) hz (fun j hj => hb j (by omega)),
    bg := (World.cell?_of_block (hb _ (by dsimp only; omega))).trans h.bg, rdeg := h.rdeg.same (hb _ (by omega)), bdeg := (World.cell?_of_block (hb _ (by dsimp only; omega))).trans h.bdeg,
    rout := h.rout.same (hb _ (by omega)), bout := (World.cell?_of_block (hb _ (by dsimp only; omega))).trans h.bout, rgone := h.rgone.same (hb _ (by omega)), bgone := (World.cell?_of_block (hb _ (by dsimp only; omega))).trans h.bgone,
    size := Nat.le_trans h.size hz, ld := h.ld, lo := h.lo, lg := h.lg, hs := h.hs }
theorem Cells.below (h : Cells B s N k adj deg out gone W) {b : Nat} (hb : Below b W W') (hs : s + 7 ≤ b) : Cells B s N k adj deg out gone W' := h.same hb.size (fun j hj => hb.block j (by omega))
theorem Cells.alloc (h : Cells B s N k adj deg out gone W) (o : Obj) : Cells B s N k adj deg out gone (W.alloc o) :=
  h.same (by simp) (fun j hj => Below.heap_alloc W o j (by have := h.size; omega))
theorem Cells.drewN (h : Cells B s N k adj deg out gone W) (n : Nat) : Cells B s N k adj deg out gone (W.drewN n) := h.same (Nat.le_refl _) (fun _ _ => rfl)
theorem Cells.drew (h : Cells B s N k adj deg out gone W) : Cells B s N k adj deg out gone W.drew := h.same (Nat.le_refl _) (fun _ _ => rfl)
theorem Cells.grown (h : Cells B s N k adj deg out gone W) {row : Option Nat} (hg : W.grownBy W' row) (hr : ∀ b, row = some b → s + 7 ≤ b) : Cells B s N k adj deg out gone W' :=
  h.same hg.size (fun j hj => hg.block j (by have := h.size; omega) (fun e => by have := hr j e.symm; omega))

theorem cell_far {p q : Addr} (h : p.block ≠ q.block) (u : Value) : (W.setCell q u).cell? p = W.cell? p := World.cell?_of_block (Below.heap_setCell W q u p.block h)

theorem Graph.setCell {B N : Nat} (h : Graph B N adj W) {p : Addr} (hp : B + 2 + N ≤ p.block) (u : Value) : Graph B N adj (W.setCell p u) :=
  h.same (n := B + 2 + N) (Nat.le_refl _) (by simp [World.setCell]) (fun j hj => Below.heap_setCell W p u j (by omega))

theorem Cells.setDeg (h : Cells B s N k adj deg out gone W) (i : Nat) (v : Int) : Cells B s N k adj (deg.set i v) out gone (W.setCell ⟨s + 1, i, none⟩ (I64 v)) :=
  have hs := h.hs
  { bn := (cell_far (by dsimp only; omega) _).trans h.bn, bk := (cell_far (by dsimp only; omega) _).trans h.bk, graph := h.graph.setCell (by dsimp only; omega) _,
    bg := (cell_far (by dsimp only; omega) _).trans h.bg, rdeg := h.rdeg.set i v, bdeg := (cell_far (by dsimp only; omega) _).trans h.bdeg,
    rout := h.rout.far (by dsimp only; omega) _, bout := (cell_far (by dsimp only; omega) _).trans h.bout, rgone := h.rgone.far (by dsimp only; omega) _, bgone := (cell_far (by dsimp only; omega) _).trans h.bgone,
    size := by simp [World.setCell]; exact h.size, ld := by rw [List.length_set]; exact h.ld, lo := h.lo, lg := h.lg, hs := h.hs }
theorem Cells.setOut (h : Cells B s N k adj deg out gone W) (i : Nat) (v : Int) : Cells B s N k adj deg (out.set i v) gone (W.setCell ⟨s + 3, i, none⟩ (I64 v)) :=
  have hs := h.hs
  { bn := (cell_far (by dsimp only; omega) _).trans h.bn, bk := (cell_far (by dsimp only; omega) _).trans h.bk, graph := h.graph.setCell (by dsimp only; omega) _,
    bg := (cell_far (by dsimp only; omega) _).trans h.bg, rdeg := h.rdeg.far (by dsimp only; omega) _, bdeg := (cell_far (by dsimp only; omega) _).trans h.bdeg,
    rout := h.rout.set i v, bout := (cell_far (by dsimp only; omega) _).trans h.bout, rgone := h.rgone.far (by dsimp only; omega) _, bgone := (cell_far (by dsimp only; omega) _).trans h.bgone,
    size := by simp [World.setCell]; exact h.size, ld := h.ld, lo := by rw [List.length_set]; exact h.lo, lg := h.lg, hs := h.hs }
theorem Cells.setGone (h : Cells B s N k adj deg out gone W) (i : Nat) (v : Bool) : Cells B s N k adj deg out (gone.set i v) (W.setCell ⟨s + 5, i, none⟩ (.bool v)) :=
  have hs := h.hs
  { bn := (cell_far (by dsimp only; omega) _).trans h.bn, bk := (cell_far (by dsimp only; omega) _).trans h.bk, graph := h.graph.setCell (by dsimp only; omega) _,
    bg := (cell_far (by dsimp only; omega) _).trans h.bg, rdeg := h.rdeg.far (by dsimp only; omega) _, bdeg := (cell_far (by dsimp only; omega) _).trans h.bdeg,
    rout := h.rout.far (by dsimp only; omega) _, bout := (cell_far (by dsimp only; omega) _).trans h.bout, rgone := h.rgone.set i v, bgone := (cell_far (by dsimp only; omega) _).trans h.bgone,
    size := by simp [World.setCell]; exact h.size, ld := h.ld, lo := h.lo, lg := by rw [List.length_set]; exact h.lg, hs := h.hs }
end

theorem Cells.map_at {B s N : Nat} {k : Int} {adj : Int → Int → Bool} {deg out : List Int} {gone : List Bool} {W : World} (h : Cells B s N k adj deg out gone W) (a : Nat) (ha : a < N) : W.cell? ⟨B + 3, a, none⟩ = some (.map (some (B + 4 + a))) := by
  have r := h.graph.row.cell none a (by simp; exact ha)
  rw [range_getD _ _ _ _ ha] at r
  rw [show B + 4 + a = B + 2 + 2 + a by omega]
  exact r
theorem Cells.set_at {B s N : Nat} {k : Int} {adj : Int → Int → Bool} {deg out : List Int} {gone : List Bool} {W : World} (h : Cells B s N k adj deg out gone W) (a : Nat) (ha : a < N) : TSet W (B + 4 + a) N (adj (a : Int)) := by
  have := h.graph.sets a ha
  rwa [show B + 2 + 2 + a = B + 4 + a by omega] at this

/-- What the first loop's round reads. -/
theorem Cells.r1 {B s N : Nat} {k : Int} {adj : Int → Int → Bool} {deg out : List Int} {gone : List Bool} {W : World} (h : Cells B s N k adj deg out gone W) (a : Nat) (ha : a < N) :
    W.cell? ⟨s + 2, 0, none⟩ = some (.slice (some ⟨s + 1, 0, none⟩) N N) ∧ W.cell? ⟨s + 4, 0, none⟩ = some (.slice (some ⟨s + 3, 0, none⟩) N N) ∧ W.cell? ⟨s, 0, none⟩ = some (.slice (some ⟨B + 3, 0, none⟩) N N) ∧ W.cell? ⟨B + 3, a, none⟩ = some (.map (some (B + 4 + a))) :=
  ⟨h.bdeg, h.bout, h.bg, h.map_at a ha⟩

def degs (N : Nat) (adj : Int → Int → Bool) (a : Nat) : List Int := (List.range N).map fun i : Nat => if i < a then (card N (adj (i : Int)) : Int) else 0
def outs (N a : Nat) : List Int := (List.range N).map fun i : Nat => if i < a then -1 else 0
theorem degs_zero (N : Nat) (adj : Int → Int → Bool) : degs N adj 0 = List.replicate N 0 := by
  apply List.ext_getElem <;> simp [degs]
theorem outs_zero (N : Nat) : outs N 0 = List.replicate N 0 := by
  apply List.ext_getElem <;> simp [outs]
theorem degs_succ (N : Nat) (adj : Int → Int → Bool) (a : Nat) : (degs N adj a).set a (card N (adj (a : Int)) : Int) = degs N adj (a + 1) := by
  apply List.ext_getElem
  · simp [degs]
  · intro i h1 h2
    simp only [degs, List.getElem_set, List.getElem_map, List.getElem_range]
    by_cases e : a = i
    · subst e; simp
    · rw [if_neg e]
      by_cases h : i < a
      · rw [if_pos h, if_pos (by omega)]
      · rw [if_neg h, if_neg (by omega)]
theorem outs_succ (N a : Nat) : (outs N a).set a (-1) = outs N (a + 1) := by
  apply List.ext_getElem
  · simp [outs]
  · intro i h1 h2
    simp only [outs, List.getElem_set, List.getElem_map, List.getElem_range]
    by_cases e : a = i
    · subst e; simp
    · rw [if_neg e]
      by_cases h : i < a
      · rw [if_pos h, if_pos (by omega)]
      · rw [if_neg h, if_neg (by omega)]
theorem degs_all (N : Nat) (adj : Int → Int → Bool) (k : Int) : degs N adj N = (ordRun adj N k 0).deg := by
  apply List.map_congr_left
  intro i hi
  rw [if_pos (List.mem_range.1 hi)]
theorem outs_all (N : Nat) : outs N N = List.replicate N (-1) := by
  apply List.ext_getElem
  · simp [outs]
  · intro i h1 h2
    simp [outs] at h1 ⊢
    omega

/-- Where the boxes and rows have been laid. -/
theorem Cells.start {B N : Nat} {k : Int} {adj : Int → Int → Bool} {W : World} (hn : W.cell? ⟨B, 0, none⟩ = some (I64 (N : Int))) (hk : W.cell? ⟨B + 1, 0, none⟩ = some (I64 k)) (hg : Graph (B + 2) N adj W) :
    Cells B W.heap.size N k adj (degs N adj 0) (outs N 0) (List.replicate N false)
      (((((((W.alloc (.cells #[.slice (some ⟨B + 3, 0, none⟩) N N] 46)).alloc (.cells (madeCells #[I64 0] N) 3)).alloc (.cells #[.slice (some ⟨W.heap.size + 1, 0, none⟩) N N] 22)).alloc (.cells (madeCells #[I64 0] N) 3)).alloc (.cells #[.slice (some ⟨W.heap.size + 3, 0, none⟩) N N] 22)).alloc
        (.cells (madeCells #[Value.bool false] N) 4)).alloc (.cells #[.slice (some ⟨W.heap.size + 5, 0, none⟩) N N] 36)) := by
  have hz := hg.size
  rw [made_vals, made_vals, degs_zero, outs_zero]
  have hb : ∀ (w : World) (o : Obj) j, j < w.heap.size → (w.alloc o).heap[j]? = w.heap[j]? := fun w o j hj => Below.heap_alloc w o j hj
  have hn' : ∀ (w : World) (o : Obj) j, j = w.heap.size → (w.alloc o).heap[j]? = some o := fun w o j hj => by subst hj; exact World.alloc_heap_new w o
  have old : ∀ j, j < W.heap.size → (((((((W.alloc (.cells #[.slice (some ⟨B + 3, 0, none⟩) N N] 46)).alloc (.cells (vals I64 (List.replicate N 0)) 3)).alloc (.cells #[.slice (some ⟨W.heap.size + 1, 0, none⟩) N N] 22)).alloc (.cells (vals I64 (List.replicate N 0)) 3)).alloc (.cells #[.slice (some ⟨W.heap.size + 3, 0, none⟩) N N] 22)).alloc
        (.cells (vals Value.bool (List.replicate N false)) 4)).alloc (.cells #[.slice (some ⟨W.heap.size + 5, 0, none⟩) N N] 36)).heap[j]? = W.heap[j]? := fun j hj => by
    rw [hb _ _ _ (by simp <;> omega), hb _ _ _ (by simp <;> omega), hb _ _ _ (by simp <;> omega), hb _ _ _ (by simp <;> omega), hb _ _ _ (by simp <;> omega), hb _ _ _ (by simp <;> omega), hb _ _ _ (by omega)]
  refine ⟨(World.cell?_of_block (old _ (by dsimp only; omega))).trans hn, (World.cell?_of_block (old _ (by dsimp only; omega))).trans hk, hg.same (n := W.heap.size) hz (by simp <;> omega) old, cell_of_row _ _ 0 #[.slice (some ⟨B + 3, 0, none⟩) N N] 46 (0, 0) ?_, ?_, cell_of_row _ _ 0 #[.slice (some ⟨W.heap.size + 1, 0, none⟩) N N] 22 (0, 0) ?_, ?_, cell_of_row _ _ 0 #[.slice (some ⟨W.heap.size + 3, 0, none⟩) N N] 22 (0, 0) ?_, ?_, cell_of_row _ _ 0 #[.slice (some ⟨W.heap.size + 5, 0, none⟩) N N] 36 (0, 0) ?_, by simp, by simp, by simp, by simp, by omega⟩
  · rw [hb _ _ _ (by simp <;> omega), hb _ _ _ (by simp <;> omega), hb _ _ _ (by simp <;> omega), hb _ _ _ (by simp <;> omega), hb _ _ _ (by simp <;> omega), hb _ _ _ (by simp)]; exact hn' _ _ _ rfl
  · unfold Row; rw [hb _ _ _ (by simp <;> omega), hb _ _ _ (by simp <;> omega), hb _ _ _ (by simp <;> omega), hb _ _ _ (by simp <;> omega), hb _ _ _ (by simp)]; exact hn' _ _ _ (by simp)
  · rw [hb _ _ _ (by simp <;> omega), hb _ _ _ (by simp <;> omega), hb _ _ _ (by simp <;> omega), hb _ _ _ (by simp)]; exact hn' _ _ _ (by simp)
  · unfold Row; rw [hb _ _ _ (by simp <;> omega), hb _ _ _ (by simp <;> omega), hb _ _ _ (by simp)]; exact hn' _ _ _ (by simp)
  · rw [hb _ _ _ (by simp <;> omega), hb _ _ _ (by simp)]; exact hn' _ _ _ (by simp)
  · unfold Row; rw [hb _ _ _ (by simp)]; exact hn' _ _ _ (by simp)
  · exact hn' _ _ _ (by simp)

set_option maxRecDepth 100000 in
set_option maxHeartbeats 1000000 in
/-- Of a number of nodes that may not be nothing comes. -/
theorem colours_none (n k : Int) (v : Value) (w : World) (hn : n < 0 ∨ 8192 < n) :
    Calls Try.prog 11 #[.int .i64 n, v, .int .i64 k] w fun e w' => e = .returned (.slice none 0 0) ∧ Below w.heap.size w w' := by
  by_cases h : n < 0
  · clear hn
    go_enter Try.func11, Try.ntmps11
    go_wp2
    go_ret
    exact ⟨rfl, ((Below.refl _ w).alloc (Nat.le_refl _) _).alloc (by simp) _⟩
  · have h2 : 8192 < n := by omega
    have h3 : decide (n < 0) = false := decide_eq_false h
    clear hn
    go_enter Try.func11, Try.ntmps11
    go_wp2
    go_ret
    exact ⟨rfl, ((Below.refl _ w).alloc (Nat.le_refl _) _).alloc (by simp) _⟩
end Go.Proofs.YtgdmdgkfababeaaH
