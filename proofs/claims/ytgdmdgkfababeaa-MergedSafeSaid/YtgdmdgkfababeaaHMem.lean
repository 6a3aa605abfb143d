/-
  Memory told block by block: rows of values known whole; which blocks may have turned. Own work.
-/
import Derived.Below
import Derived.Deep.Draws
import Derived.Laws.MakeOwn
import Derived.WalkKit
import Derived.Maps.Range
namespace Go.Proofs.YtgdmdgkfababeaaH
open Go Go.RowKit

/-- A row of values, out of a list. -/
def vals {α : Type} (f : α → Value) (l : List α) : Array Value := (l.map f).toArray
theorem vals_size {α : Type} (f : α → Value) (l : List α) : (vals f l).size = l.length := by simp [vals]
theorem vals_get {α : Type} (f : α → Value) (l : List α) (d : α) (j : Nat) (hj : j < l.length) : (vals f l)[j]? = some (f (l.getD j d)) := by
  simp [vals, List.getD_eq_getElem?_getD, List.getElem?_eq_getElem hj]
theorem vals_set {α : Type} (f : α → Value) (l : List α) (j : Nat) (v : α) : (vals f l).setIfInBounds j (f v) = vals f (l.set j v) := by
  simp [vals, List.map_set]
theorem made_vals {α : Type} (f : α → Value) (d : α) (m : Nat) : madeCells #[f d] m = vals f (List.replicate m d) := by
  apply Array.ext
  · simp [madeCells, vals]
  · intro i h1 h2
    simp [madeCells, vals, Nat.mod_one]

/-- Block g of w is the row of these values. -/
def Row {α : Type} (f : α → Value) (t : TypeId) (w : World) (g : Nat) (l : List α) : Prop := w.heap[g]? = some (.cells (vals f l) t (0, 0))
section
variable {α : Type} {f : α → Value} {t : TypeId} {w w' : World} {g : Nat} {l : List α}
theorem Row.lt (h : Row f t w g l) : g < w.heap.size := (Array.getElem?_eq_some_iff.1 h).1
theorem Row.same (h : Row f t w g l) (hb : w'.heap[g]? = w.heap[g]?) : Row f t w' g l := hb.trans h
theorem Row.cell (h : Row f t w g l) (d : α) (j : Nat) (hj : j < l.length) : w.cell? ⟨g, j, none⟩ = some (f (l.getD j d)) := by
  rw [cell_of_row w g j _ t (0, 0) h]
  exact vals_get f l d j hj
theorem Row.frozen (h : Row f t w g l) (j : Nat) : w.frozen? ⟨g, j, none⟩ = false := by
  have h' : w.heap[g]? = some (.cells (vals f l) t (0, 0)) := h
  simp [World.frozen?, h']
theorem Row.set (h : Row f t w g l) (j : Nat) (v : α) : Row f t (w.setCell ⟨g, j, none⟩ (f v)) g (l.set j v) := by
  have h' : w.heap[g]? = some (.cells (vals f l) t (0, 0)) := h
  unfold Row
  simp only [World.setCell, Array.getElem?_modify, h', if_true, Option.map_some, Option.isSome_none, Bool.false_eq_true, if_false]
  rw [vals_set]
theorem Row.far (h : Row f t w g l) {p : Addr} (hp : g ≠ p.block) (u : Value) : Row f t (w.setCell p u) g l := h.same (Below.heap_setCell w p u g hp)
theorem Row.alloc (h : Row f t w g l) (o : Obj) : Row f t (w.alloc o) g l := h.same (Below.heap_alloc w o g h.lt)
theorem Row.new (w : World) (c : List α) (f : α → Value) (t : TypeId) : Row f t (w.alloc (.cells (vals f c) t)) w.heap.size c := heap_alloc_new w _
theorem Row.drewN (h : Row f t w g l) (n : Nat) : Row f t (w.drewN n) g l := h
theorem Row.drew (h : Row f t w g l) : Row f t w.drew g l := h
end

/-- But for the blocks S, all that was there is as it was. -/
structure But (S : List Nat) (w w' : World) : Prop where
  os : w'.os = w.os
  tape : w'.tape = w.tape
  output : w'.output = w.output
  size : w.heap.size ≤ w'.heap.size
  block : ∀ k, k < w.heap.size → k ∉ S → w'.heap[k]? = w.heap[k]?
section
variable {S : List Nat} {w w' w'' : World}
theorem But.refl (S : List Nat) (w : World) : But S w w := ⟨rfl, rfl, rfl, Nat.le_refl _, fun _ _ _ => rfl⟩
theorem But.trans (h : But S w w') (k : But S w' w'') : But S w w'' :=
  ⟨k.os.trans h.os, k.tape.trans h.tape, k.output.trans h.output, Nat.le_trans h.size k.size, fun i hi hs => (k.block i (Nat.lt_of_lt_of_le hi h.size) hs).trans (h.block i hi hs)⟩
theorem But.alloc (h : But S w w') (o : Obj) : But S w (w'.alloc o) :=
  ⟨h.os, h.tape, h.output, Nat.le_trans h.size (by simp), fun k hk hs => (Below.heap_alloc w' o k (Nat.lt_of_lt_of_le hk h.size)).trans (h.block k hk hs)⟩
theorem But.setCell (h : But S w w') {p : Addr} (hp : p.block ∈ S ∨ w.heap.size ≤ p.block) (u : Value) : But S w (w'.setCell p u) :=
  ⟨h.os, h.tape, h.output, Nat.le_trans h.size (by simp [World.setCell]), fun k hk hs => (Below.heap_setCell w' p u k (fun e => by
    rcases hp with hp | hp
    · exact hs (e ▸ hp)
    · omega)).trans (h.block k hk hs)⟩
theorem But.drewN (h : But S w w') (n : Nat) : But S w (w'.drewN n) := ⟨h.os, h.tape, h.output, h.size, h.block⟩
theorem But.drew (h : But S w w') : But S w w'.drew := ⟨h.os, h.tape, h.output, h.size, h.block⟩
theorem But.grown (h : But S w w') {row : Option Nat} (hg : w'.grownBy w'' row) (hr : ∀ k, row = some k → k ∈ S ∨ w.heap.size ≤ k) : But S w w'' :=
  ⟨hg.os.trans h.os, hg.tape.trans h.tape, hg.output.trans h.output, Nat.le_trans h.size hg.size, fun k hk hs => (hg.block k (Nat.lt_of_lt_of_le hk h.size) (fun e => by
    rcases hr k e.symm with hp | hp
    · exact hs hp
    · omega)).trans (h.block k hk hs)⟩
theorem But.below_ (h : But S w w') {B : Nat} (k : Below B w' w'') (hB : w'.heap.size ≤ B) : But S w w'' :=
  ⟨k.os.trans h.os, k.tape.trans h.tape, k.output.trans h.output, Nat.le_trans h.size k.size, fun i hi hs => (k.block i (by have := h.size; omega)).trans (h.block i hi hs)⟩
theorem But.toBelow (h : But S w w') {B : Nat} (hS : ∀ s ∈ S, B ≤ s) (hB : B ≤ w.heap.size) : Below B w w' :=
  ⟨h.os, h.tape, h.output, h.size, fun k hk => h.block k (by omega) (fun hm => by have := hS k hm; omega)⟩
theorem But.mono (h : But S w w') {S' : List Nat} (hS : ∀ s ∈ S, s ∈ S') : But S' w w' := ⟨h.os, h.tape, h.output, h.size, fun k hk hn => h.block k hk (fun hm => hn (hS k hm))⟩
theorem But.cell (h : But S w w') {p : Addr} (hp : p.block ∉ S) (hl : p.block < w.heap.size) : w'.cell? p = w.cell? p := World.cell?_of_block (h.block p.block hl hp)
end
end Go.Proofs.YtgdmdgkfababeaaH
