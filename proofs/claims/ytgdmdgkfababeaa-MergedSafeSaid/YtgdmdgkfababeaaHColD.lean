/-
  colour.Colours: the last loop, which gives the colours: what a round leaves of memory. Own work.
-/
import Derived.Test.YtgdmdgkfababeaaHColC
import Derived.RangeFuncNested
namespace Go.Proofs.YtgdmdgkfababeaaH
open Go Go.RowKit Go.Proofs.YtgdmdgkfababeaaCol Go.Proofs.Ytgdmdgkfababeaa.M Go.Proofs.YtgdmdgkfababeaaW.PrintWords

/-- What comes: an index, and a node. -/
abbrev El (N : Nat) : Type := { x : Int × Int // 0 ≤ x.2 ∧ x.2 < (max N 1 : Nat) }

def elAt {N : Nat} (zs : List Int) (hz : ∀ z ∈ zs, 0 ≤ z ∧ z < (N : Int)) (k : Nat) : El N :=
  ⟨(((zs.length - 1 - k : Nat) : Int), zs[zs.length - 1 - k]?.getD 0), by
    dsimp only
    cases h : zs[zs.length - 1 - k]? with
    | none => simp; omega
    | some z =>
      have := hz z (List.mem_of_getElem? h)
      simp only [Option.getD_some]
      omega⟩

theorem elAt_back {N : Nat} (zs : List Int) (hz : ∀ z ∈ zs, 0 ≤ z ∧ z < (N : Int)) : BackAt zs (elAt hz (zs := zs)) (fun x => x.1.1) (fun x => x.1.2) where
  i := fun m k h => by simp only [elAt]; omega
  v := fun m k h => by simp only [elAt]; rw [show zs.length - 1 - k = m by omega]

theorem elAt_all {N : Nat} (zs : List Int) (hz : ∀ z ∈ zs, 0 ≤ z ∧ z < (N : Int)) : (upto (elAt zs hz) zs.length).map (fun x => x.1.2) = zs.reverse := by
  apply List.ext_getElem
  · simp [upto]
  · intro i h1 h2
    have hi : i < zs.length := by simpa [upto] using h1
    have hj : zs.length - 1 - i < zs.length := by omega
    simp [upto, elAt, List.getElem_reverse, List.getElem?_eq_getElem hj]

/-- The colours when these nodes have been gone over. -/
def painted (adj : Int → Int → Bool) (N : Nat) (k : Int) (pre : List (El N)) : List Int := (pre.map (fun x => x.1.2)).foldl (paint adj N k) (List.replicate N (-1))
theorem painted_snoc (adj : Int → Int → Bool) (N : Nat) (k : Int) (pre : List (El N)) (x : El N) : painted adj N k (pre ++ [x]) = paint adj N k (painted adj N k pre) x.1.2 := by
  simp [painted]
theorem painted_length (adj : Int → Int → Bool) (N : Nat) (k : Int) (pre : List (El N)) : (painted adj N k pre).length = N := by
  unfold painted
  generalize pre.map (fun x => x.1.2) = l
  have : ∀ (l : List Int) (o : List Int), (l.foldl (paint adj N k) o).length = o.length := by
    intro l
    induction l with
    | nil => intro o; rfl
    | cons a r ih => intro o; rw [List.foldl_cons, ih, paint_length]
  rw [this]; simp

/-- The colours of those neighbours of a that are no longer to come. -/
def usedL (adj : Int → Int → Bool) (N : Nat) (out : List Int) (a : Int) (L : Int → Bool) (c : Int) : Bool := (List.range N).any fun b : Nat => adj a (b : Int) && !L (b : Int) && decide (out.getD b 0 = c)
theorem usedL_start (adj : Int → Int → Bool) (N : Nat) (out : List Int) (a c : Int) : usedL adj N out a (adj a) c = false := by
  unfold usedL
  rw [List.any_eq_false]
  intro b _
  cases adj a (b : Int) <;> simp
theorem usedL_done (adj : Int → Int → Bool) (N : Nat) (out : List Int) (a : Int) (L : Int → Bool) (h : ∀ x, L x = false) (c : Int) : usedL adj N out a L c = usedBy adj N out a c := by
  unfold usedL usedBy
  congr 1
  funext b
  rw [h]; simp
theorem usedL_step (adj : Int → Int → Bool) (N : Nat) (out : List Int) (a : Int) (L : Int → Bool) (x : Nat) (hx : x < N) (hL : L (x : Int) = true) (hS : adj a (x : Int) = true) (c : Int) :
    usedL adj N out a (fun y => !decide (y = (x : Int)) && L y) c = (decide (c = out.getD x 0) || usedL adj N out a L c) := by
  unfold usedL
  rw [Bool.eq_iff_iff]
  simp only [List.any_eq_true, List.mem_range, Bool.and_eq_true, Bool.not_eq_true', Bool.or_eq_true, decide_eq_true_eq]
  constructor
  · rintro ⟨b, hb, ⟨h1, h2⟩, h3⟩
    by_cases e : b = x
    · subst e; exact .inl h3.symm
    · have : decide ((b : Int) = (x : Int)) = false := decide_eq_false (by omega)
      rw [this] at h2
      simp at h2
      exact .inr ⟨b, hb, ⟨h1, h2⟩, h3⟩
  · rintro (h | ⟨b, hb, ⟨h1, h2⟩, h3⟩)
    · exact ⟨x, hx, ⟨hS, by simp⟩, h.symm⟩
    · refine ⟨b, hb, ⟨h1, ?_⟩, h3⟩
      by_cases e : b = x
      · subst e; rw [hL] at h2; cases h2
      · simp [h2]

theorem freeGo_some (used : Int → Bool) : ∀ (m : Nat) (c d : Int), freeGo used m c = some d → c ≤ d ∧ d < c + m
  | 0, _, _, h => by cases h
  | m + 1, c, d, h => by
    unfold freeGo at h
    split at h
    · have := freeGo_some used m (c + 1) d h; omega
    · cases h; omega
def Small (out : List Int) : Prop := ∀ b, -1 ≤ out.getD b 0 ∧ out.getD b 0 ≤ 1000000
theorem small_set {out : List Int} (h : Small out) (i : Nat) (c : Int) (h0 : 0 ≤ c) (h1 : c ≤ 1000000) : Small (out.set i c) := by
  intro b
  rw [List.getD_eq_getElem?_getD, List.getElem?_set]
  have := h b
  rw [List.getD_eq_getElem?_getD] at this
  split
  · split
    · simp; omega
    · simp
  · exact this
theorem small_paint {adj : Int → Int → Bool} {N : Nat} {k : Int} (hk : k ≤ 1000000) {out : List Int} (h : Small out) (a : Int) : Small (paint adj N k out a) := by
  unfold paint
  split
  · rename_i c hc
    have := freeGo_some _ _ _ _ hc
    exact small_set h _ _ this.1 (by omega)
  · exact h
theorem painted_small (adj : Int → Int → Bool) (N : Nat) (k : Int) (hk : k ≤ 1000000) (pre : List (El N)) : Small (painted adj N k pre) := by
  unfold painted
  generalize pre.map (fun x => x.1.2) = l
  have : ∀ (l : List Int) (o : List Int), Small o → Small (l.foldl (paint adj N k) o) := by
    intro l
    induction l with
    | nil => intro o h; exact h
    | cons a r ih => intro o h; rw [List.foldl_cons]; exact ih _ (small_paint hk h a)
  apply this
  intro b
  rw [List.getD_eq_getElem?_getD]
  cases h : (List.replicate N (-1 : Int))[b]? with
  | none => simp
  | some v =>
    have := List.mem_of_getElem? h
    rw [List.mem_replicate] at this
    simp; omega

section
variable {B s N u r : Nat} {k : Int} {adj : Int → Int → Bool} {deg out : List Int} {gone : List Bool} {w W0 W W' : World}

/-- A round of the loop over a's neighbours: u: the block of the map of used colours; W0: the world at the head of the outer round. -/
structure Paint (B s N u r : Nat) (k : Int) (adj : Int → Int → Bool) (deg out : List Int) (gone : List Bool) (a : Nat) (L : Int → Bool) (cnt : Nat) (w W0 W : World) : Prop where
  cells : Cells B s N k adj deg out gone W
  below : Below B w W
  but : But [s + 3] W0 W
  range : RangeAt Try.prog 3 4 W (B + 4 + a) r N (adj (a : Int)) L cnt
  used : ∃ n, n + cnt ≤ N ∧ TSet W u n (usedL adj N out (a : Int) L)

theorem Paint.start {a : Nat} (h : Cells B s N k adj deg out gone W) (hb : Below B w W) (hN : N ≤ 8192) (ha : a < N) (hadj : ∀ i x, adj i x = true → 0 ≤ x ∧ x < N) :
    ∃ W', (Instr.range 35 (.map (some (B + 4 + a)))).run Try.prog (W.alloc (.map #[] 0)) = .ok (.pointer (some ⟨W.heap.size + 1, 0, none⟩)) W' ∧ Paint B s N W.heap.size (W.heap.size + 1) k adj deg out gone a (adj (a : Int)) (card N (adj (a : Int))) w W W' := by
  have hz := h.size
  have hs := h.hs
  obtain ⟨W', hrun, hr, hg, hz'⟩ := ((h.alloc (.map #[] 0)).set_at a ha).range Try.underlying3 Try.underlying35 (N := N) (by omega) (hadj a)
  rw [World.size_alloc] at hrun hr
  refine ⟨W', hrun, { cells := (h.alloc _).grown hg (fun b e => by cases e), below := (hb.alloc (by omega) _).grown hg (by simp; omega) (fun b e => by cases e), but := ((But.refl _ W).alloc _).grown hg (fun b e => by cases e), range := hr, used := ⟨0, ?_, ?_⟩ }⟩
  · have := card_le N (adj (a : Int)); omega
  · refine ((SetAt.made Try.prog 3 4 W).same (hg.block _ (by simp) (by simp))).congr (fun c => ?_)
    rw [usedL_start]

theorem Paint.step {a cnt : Nat} {L : Int → Bool} (h : Paint B s N u r k adj deg out gone a L cnt w W0 W) (hN : N ≤ 8192) (ha : a < N) (hsW : s + 7 ≤ W0.heap.size) (hu : W0.heap.size ≤ u) (hr : W0.heap.size ≤ r) (hur : u ≠ r) (hadj : ∀ i x, adj i x = true → 0 ≤ x ∧ x < N) (hout : ∀ b, b < N → wfi (out.getD b 0)) :
    ((∀ x, L x = false) ∧ ∀ ty, (Instr.next (.pointer (some ⟨r, 0, none⟩)) false ty).run Try.prog W = .ok (.tuple #[.bool false]) W) ∨
    ∃ (x : Nat) (W1 W2 : World) (L' : Int → Bool) (cnt' : Nat), x < N ∧ (∀ ty, (Instr.next (.pointer (some ⟨r, 0, none⟩)) false ty).run Try.prog W = .ok (.tuple #[.bool true, .int .i64 (x : Int), .bool true]) W1) ∧ cnt' < cnt ∧
      (Instr.entry (.pointer (some ⟨r, 0, none⟩))).run Try.prog W1 = .ok (.tuple #[.int .i64 (x : Int), .bool true]) W1 ∧
      W1.cell? ⟨s + 4, 0, none⟩ = some (.slice (some ⟨s + 3, 0, none⟩) N N) ∧ W1.cell? ⟨s + 3, x, none⟩ = some (.int .i64 (out.getD x 0)) ∧
      (Instr.mapUpdate 35 (.map (some u)) (.int .i64 (out.getD x 0)) (.bool true)).run Try.prog W1 = .ok () W2 ∧ Paint B s N u r k adj deg out gone a L' cnt' w W0 W2 := by
  have hs := h.cells.hs
  rcases h.range.next Try.underlying3 Try.underlying4 with ⟨h0, hrun⟩ | ⟨x0, W1, cnt', hLx, hrun, hrg, hlt, hg, hz, hen⟩
  · exact .inl ⟨h0, hrun⟩
  · have hSx : adj (a : Int) x0 = true := by obtain ⟨D, left, _, _, _, _, h4⟩ := h.range; exact h4 x0 hLx
    have hx := hadj _ _ hSx
    obtain ⟨x, rfl⟩ : ∃ x : Nat, x0 = (x : Int) := ⟨x0.toNat, by omega⟩
    have hxN : x < N := by omega
    have hW0 := h.but.size
    have hrW : r < W.heap.size := h.range.lt
    obtain ⟨n, hn, hused⟩ := h.used
    have huW := hused.lt
    have hC1 := h.cells.grown hg (fun b e => by cases e; have := h.cells.size; omega)
    have hU1 : TSet W1 u n _ := hused.same (hg.block _ huW (by simp; omega))
    obtain ⟨W2, hput, hU2, hg2, hz2⟩ := hU1.put Try.underlying3 Try.underlying35 Try.underlying4 (by unfold maxLen; omega) (hout x hxN)
    refine .inr ⟨x, W1, W2, (fun y => !decide (y = (x : Int)) && L y), cnt', hxN, hrun, hlt, hen, hC1.bout, hC1.rout.cell 0 x (by rw [hC1.lo]; exact hxN), hput, { cells := hC1.grown hg2 (fun b e => by cases e; omega), below := ?_, but := ?_, range := ?_, used := ⟨n + 1, by omega, hU2.congr (fun c => ?_)⟩ }⟩
    · exact (h.below.grown hg (by have := h.cells.size; omega) (fun b e => by cases e; have := h.cells.size; omega)).grown hg2 (by have := hC1.size; omega) (fun b e => by cases e; omega)
    · exact (h.but.grown hg (fun b e => by cases e; exact .inr hr)).grown hg2 (fun b e => by cases e; exact .inr hu)
    · have h1 := hrg.set.lt
      have hab : B + 4 + a ≠ u := by omega
      exact hrg.same (hg2.block _ h1 (by simpa using hab)) (hg2.block _ (by omega) (by simp; omega))
    · rw [usedL_step _ _ _ _ _ _ hxN hLx hSx]
end
end Go.Proofs.YtgdmdgkfababeaaH
