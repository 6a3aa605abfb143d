/-
  colour.Colours: the steps of the second loop: what they leave of memory. Own work.
-/
import Derived.Test.YtgdmdgkfababeaaHColA
namespace Go.Proofs.YtgdmdgkfababeaaH
open Go Go.RowKit Go.Proofs.YtgdmdgkfababeaaCol Go.Proofs.Ytgdmdgkfababeaa.M Go.Proofs.YtgdmdgkfababeaaW.PrintWords

/-- Degrees on the way: lowered for those neighbours of a that are no longer to come. -/
def decrL (deg : List Int) (S L : Int → Bool) : List Int := decr deg fun x => S x && !L x
theorem decrL_start (deg : List Int) (S : Int → Bool) : decrL deg S S = deg := by
  unfold decrL
  apply List.ext_getElem
  · simp [decr]
  · intro i h1 h2
    simp [decr, h2]
theorem decrL_done (deg : List Int) (S L : Int → Bool) (h : ∀ x, L x = false) : decrL deg S L = decr deg S := by
  unfold decrL
  congr 1
  funext x
  rw [h]; simp
theorem decrL_getD (deg : List Int) (S L : Int → Bool) (i : Nat) (hi : i < deg.length) : (decrL deg S L).getD i 0 = if (S (i : Int) && !L (i : Int)) then deg.getD i 0 - 1 else deg.getD i 0 := decr_getD _ _ _ hi
theorem decrL_step (deg : List Int) (S L : Int → Bool) (x : Nat) (hS : S (x : Int) = true) :
    (decrL deg S L).set x (deg.getD x 0 - 1) = decrL deg S (fun y => !decide (y = (x : Int)) && L y) := by
  apply List.ext_getElem
  · simp [decrL, decr]
  · intro i h1 h2
    have hi : i < deg.length := by simpa [decrL, decr] using h2
    have e1 : (decrL deg S (fun y => !decide (y = (x : Int)) && L y))[i] = (decrL deg S (fun y => !decide (y = (x : Int)) && L y)).getD i 0 := by
      rw [List.getD_eq_getElem?_getD, List.getElem?_eq_getElem h2]; rfl
    rw [e1, decrL_getD _ _ _ _ hi, List.getElem_set]
    by_cases e : x = i
    · subst e; simp [hS]
    · rw [if_neg e]
      have e2 : (decrL deg S L)[i]'(by simpa [decrL, decr] using hi) = (decrL deg S L).getD i 0 := by
        rw [List.getD_eq_getElem?_getD, List.getElem?_eq_getElem (by simpa [decrL, decr] using hi)]; rfl
      rw [e2, decrL_getD _ _ _ _ hi]
      have : decide ((i : Int) = (x : Int)) = false := decide_eq_false (by omega)
      rw [this]
      simp

section
variable {B s N : Nat} {k : Int} {adj : Int → Int → Bool} {deg out : List Int} {gone : List Bool} {w W W' W2 : World}

/-- Memory at the head of a round of the second loop, or behind some of its steps. -/
structure Mid (B s N : Nat) (k : Int) (adj : Int → Int → Bool) (deg out : List Int) (gone : List Bool) (ov : Value) (ord : List Int) (w W : World) : Prop where
  cells : Cells B s N k adj deg out gone W
  own : W.ownsRow (s + 7) 3 1 ov ord.length (nums .i64 ord)
  below : Below B w W
variable {ov : Value} {ord : List Int}

theorem Mid.drewN (h : Mid B s N k adj deg out gone ov ord w W) (q : Nat) : Mid B s N k adj deg out gone ov ord w (W.drewN q) := ⟨h.cells.drewN q, h.own, ⟨h.below.os, h.below.tape, h.below.output, h.below.size, h.below.block⟩⟩
theorem Mid.setGone (h : Mid B s N k adj deg out gone ov ord w W) (i : Nat) (v : Bool) : Mid B s N k adj deg out (gone.set i v) ov ord w (W.setCell ⟨s + 5, i, none⟩ (.bool v)) :=
  ⟨h.cells.setGone i v, ownsRow_setCell_below h.own (by dsimp only; omega) _, h.below.setCell (p := ⟨s + 5, i, none⟩) (by have := h.cells.hs; dsimp only; omega) _⟩
theorem Mid.setDeg (h : Mid B s N k adj deg out gone ov ord w W) (i : Nat) (v : Int) : Mid B s N k adj (deg.set i v) out gone ov ord w (W.setCell ⟨s + 1, i, none⟩ (I64 v)) :=
  ⟨h.cells.setDeg i v, ownsRow_setCell_below h.own (by dsimp only; omega) _, h.below.setCell (p := ⟨s + 1, i, none⟩) (by have := h.cells.hs; dsimp only; omega) _⟩
theorem Mid.setOut (h : Mid B s N k adj deg out gone ov ord w W) (i : Nat) (v : Int) : Mid B s N k adj deg (out.set i v) gone ov ord w (W.setCell ⟨s + 3, i, none⟩ (I64 v)) :=
  ⟨h.cells.setOut i v, ownsRow_setCell_below h.own (by dsimp only; omega) _, h.below.setCell (p := ⟨s + 3, i, none⟩) (by have := h.cells.hs; dsimp only; omega) _⟩
theorem Mid.grown (h : Mid B s N k adj deg out gone ov ord w W) {row : Option Nat} (hg : W.grownBy W' row) (hr : ∀ b, row = some b → s + 7 ≤ b ∧ (ov.ownBlock = some b → False)) : Mid B s N k adj deg out gone ov ord w W' :=
  ⟨h.cells.grown hg (fun b e => (hr b e).1), h.own.kept hg (by
    cases hv : ov.ownBlock with
    | none => exact .inl rfl
    | some b => exact .inr (fun e => (hr b e.symm).2 hv)), h.below.grown hg (by have := h.cells.hs; have := h.cells.size; omega) (fun b e => by have := (hr b e).1; have := h.cells.hs; omega)⟩
theorem Mid.appended (h : Mid B s N k adj deg out gone ov ord w W) {v1 : Value} {a : Int} (hown : W'.ownsRow (s + 7) 3 1 v1 (ord ++ [a]).length (nums .i64 (ord ++ [a]))) (hg : W.grownBy W' ov.ownBlock) :
    Mid B s N k adj deg out gone v1 (ord ++ [a]) w W' :=
  ⟨h.cells.grown hg (fun b e => (h.own.lt b e).1), hown, h.below.grown hg (by have := h.cells.hs; have := h.cells.size; omega) (fun b e => by have := (h.own.lt b e).1; have := h.cells.hs; omega)⟩

theorem Mid.range (h : Mid B s N k adj deg out gone ov ord w W) (hN : N ≤ 8192) {a : Nat} (ha : a < N) (hadj : ∀ i x, adj i x = true → 0 ≤ x ∧ x < N) :
    ∃ W', (Instr.range 35 (.map (some (B + 4 + a)))).run Try.prog W = .ok (.pointer (some ⟨W.heap.size, 0, none⟩)) W' ∧ Mid B s N k adj deg out gone ov ord w W' ∧ RangeAt Try.prog 3 4 W' (B + 4 + a) W.heap.size N (adj (a : Int)) (adj (a : Int)) (card N (adj (a : Int))) := by
  obtain ⟨W', hrun, hr, hg, hz⟩ := (h.cells.set_at a ha).range Try.underlying3 Try.underlying35 (N := N) (by omega) (hadj a)
  exact ⟨W', hrun, h.grown hg (fun b e => by cases e), hr⟩

/-- A round of the loop over a's neighbours. -/
structure Inner (B s N r : Nat) (k : Int) (adj : Int → Int → Bool) (deg out : List Int) (gone : List Bool) (ov : Value) (ord : List Int) (a : Nat) (L : Int → Bool) (cnt : Nat) (w W : World) : Prop where
  mid : Mid B s N k adj (decrL deg (adj (a : Int)) L) out gone ov ord w W
  range : RangeAt Try.prog 3 4 W (B + 4 + a) r N (adj (a : Int)) L cnt

theorem Inner.start {r a cnt : Nat} (h : Mid B s N k adj deg out gone ov ord w W) (hr : RangeAt Try.prog 3 4 W (B + 4 + a) r N (adj (a : Int)) (adj (a : Int)) cnt) : Inner B s N r k adj deg out gone ov ord a (adj (a : Int)) cnt w W :=
  ⟨by rw [decrL_start]; exact h, hr⟩

theorem Inner.step {r a cnt : Nat} {L : Int → Bool} (h : Inner B s N r k adj deg out gone ov ord a L cnt w W) (ha : a < N) (hr1 : s + 7 ≤ r) (hr2 : ∀ b, ov.ownBlock = some b → b < r) (hdl : deg.length = N) (hadj : ∀ i x, adj i x = true → 0 ≤ x ∧ x < N) :
    ((∀ x, L x = false) ∧ ∀ ty, (Instr.next (.pointer (some ⟨r, 0, none⟩)) false ty).run Try.prog W = .ok (.tuple #[.bool false]) W) ∨
    ∃ (x : Nat) (W' : World) (L' : Int → Bool) (cnt' : Nat), x < N ∧ (∀ ty, (Instr.next (.pointer (some ⟨r, 0, none⟩)) false ty).run Try.prog W = .ok (.tuple #[.bool true, .int .i64 (x : Int), .bool true]) W') ∧ cnt' < cnt ∧
      (Instr.entry (.pointer (some ⟨r, 0, none⟩))).run Try.prog W' = .ok (.tuple #[.int .i64 (x : Int), .bool true]) W' ∧
      W'.cell? ⟨s + 2, 0, none⟩ = some (.slice (some ⟨s + 1, 0, none⟩) N N) ∧ W'.cell? ⟨s + 1, x, none⟩ = some (.int .i64 (deg.getD x 0)) ∧ W'.frozen? ⟨s + 1, x, none⟩ = false ∧
      Inner B s N r k adj deg out gone ov ord a L' cnt' w (W'.setCell ⟨s + 1, x, none⟩ (.int .i64 (deg.getD x 0 - 1))) := by
  have hs := h.mid.cells.hs
  rcases h.range.next Try.underlying3 Try.underlying4 with ⟨h0, hrun⟩ | ⟨x0, W', cnt', hLx, hrun, hrg, hlt, hg, hz, hen⟩
  · exact .inl ⟨h0, hrun⟩
  · have hSx : adj (a : Int) x0 = true := by obtain ⟨D, left, _, _, _, _, h4⟩ := h.range; exact h4 x0 hLx
    have hx := hadj _ _ hSx
    obtain ⟨x, rfl⟩ : ∃ x : Nat, x0 = (x : Int) := ⟨x0.toNat, by omega⟩
    have hxN : x < N := by omega
    have hM := h.mid.grown hg (fun b e => by cases e; exact ⟨hr1, fun e2 => by have := hr2 _ e2; omega⟩)
    have hc := hM.cells.rdeg.cell 0 x (by rw [hM.cells.ld]; exact hxN)
    have hd : (decrL deg (adj (a : Int)) L).getD x 0 = deg.getD x 0 := by
      rw [decrL_getD _ _ _ _ (by omega), hLx]; simp
    rw [hd] at hc
    have hM2 := hM.setDeg x (deg.getD x 0 - 1)
    rw [decrL_step _ _ _ _ hSx] at hM2
    exact .inr ⟨x, W', _, cnt', hxN, hrun, hlt, hen, hM.cells.bdeg, hc, hM.cells.rdeg.frozen x, hM2, hrg.same (Below.heap_setCell _ _ _ _ (by dsimp only; omega)) (Below.heap_setCell _ _ _ _ (by dsimp only; omega))⟩

theorem Inner.done {r a cnt : Nat} {L : Int → Bool} (h : Inner B s N r k adj deg out gone ov ord a L cnt w W) (h0 : ∀ x, L x = false) : Mid B s N k adj (decr deg (adj (a : Int))) out gone ov ord w W := by
  have := h.mid
  rwa [decrL_done _ _ _ h0] at this

theorem slice_of {base n : Nat} {v : Value} {xs : List Value} (h : W.ownsRow base 3 1 v n xs) : ∃ a n c, v = .slice a n c := by
  rcases h.2 with ⟨rfl, _⟩ | ⟨g, cap, cur, rfl, _⟩
  · exact ⟨_, _, _, rfl⟩
  · exact ⟨_, _, _, rfl⟩
theorem nums_of {base : Nat} {v : Value} {zs : List Int} (h : W.ownsRow base 3 1 v zs.length (nums .i64 zs)) (hb : base ≤ W.heap.size) (hp : 0 < W.heap.size) : ∃ g, (g < W.heap.size) ∧ base ≤ g + 1 ∧ (∀ b, v.ownBlock = some b → g = b) ∧ Nums W v g zs := by
  rcases h.2 with ⟨rfl, h0⟩ | ⟨g, cap, cur, rfl, _, hg, _⟩
  · exact ⟨W.heap.size - 1, by omega, by omega, fun b e => by simp [Value.ownBlock] at e, .inl ⟨rfl, List.eq_nil_of_length_eq_zero h0⟩⟩
  · refine ⟨g, (Array.getElem?_eq_some_iff.1 hg).1, by omega, fun b e => by simpa [Value.ownBlock] using e, .inr ⟨cap, rfl, fun j hj => ?_⟩⟩
    have := h.cells (g := g) rfl j (.int .i64 (zs[j]?.getD 0)) (by simp [nums, List.getElem?_eq_getElem hj])
    rw [Nat.zero_add]
    rwa [add_plain] at this
/-- 'xs = append(xs, y)' of a row of numbers of the call's own, at the operation. -/
theorem append_try {ops : Array Oper} {rest : List Oper} {o : Oper} {a : Act} {Q : Exit → Act → World → Prop} (base : Nat) (hgd : o.guard = none) (p x : Operand) (ho : o.op = .call { callee := .builtin .append, args := #[p, x], argTypes := #[22, 22] })
    (v : Value) (xs : List Int) (y : Int) (hs : a.eval p = v) (g : Nat) (hx : a.eval x = .slice (some ⟨g, 0, none⟩) 1 1) (hgW : g = W.heap.size) (HO : W.ownsRow base 3 1 v xs.length (nums .i64 xs)) (hbase : base ≤ W.heap.size) (hl : xs.length ≤ 1000000)
    (h : ∀ v1 w1, w1.ownsRow base 3 1 v1 (xs ++ [y]).length (nums .i64 (xs ++ [y])) → W.grownBy w1 v.ownBlock → (v1.ownBlock = v.ownBlock ∨ ∃ b, v1.ownBlock = some b ∧ W.heap.size ≤ b) → wpList Try.prog ops Q rest (a.put o.dst v1) w1) :
    wpList Try.prog ops Q (o :: rest) a (W.alloc (.cells #[.int .i64 y] 3)) := by
  subst hgW
  exact print_append_num (w0 := W) base hgd p x 22 3 .i64 8 ho Try.underlying22 info3 (by decide) v xs y hs hx HO (Below.refl _ _) hbase (by omega) (fun v1 w1 h1 _ h3 h4 => h v1 w1 h1 h3 h4)
end
end Go.Proofs.YtgdmdgkfababeaaH
