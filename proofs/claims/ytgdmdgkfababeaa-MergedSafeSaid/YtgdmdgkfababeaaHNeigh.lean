/-
  colour.neighbours: for each node a map of its neighbours. Own work.
-/
import Derived.Test.YtgdmdgkfababeaaM0
import Derived.Test.YtgdmdgkfababeaaHPick
import Derived.Test.YtgdmdgkfababeaaHMem
import Derived.Deep.RegionHeld3
import Derived.Carry
import Derived.Lib.Hide
namespace Go.Proofs.YtgdmdgkfababeaaH
open Go Go.RowKit Go.Proofs.YtgdmdgkfababeaaCol Go.Proofs.Ytgdmdgkfababeaa.M Go.Proofs.YtgdmdgkfababeaaW.PrintWords

def pairs (l : List S44) : List (Int × Int) := l.map fun x => (x.f0, x.f1)

abbrev TSet (w : World) (b n : Nat) (S : Int → Bool) : Prop := SetAt Try.prog 3 4 w b n S
theorem zero4 (w : World) : (zeroValue 4).run Try.prog w = .ok (.bool false) w := by kernel_rfl
theorem info35 : (Try.prog.info? 35).map (fun i => (i.zero, i.size, i.bytes)) = some (some (.map none), 1, 8) := by kernel_rfl

def mapV (b : Option Nat) : Value := .map b

/-- What neighbours hands back, in the world W, for a call in w: a row of maps in block w.heap.size + 1, node i's map in block w.heap.size + 2 + i. -/
structure Graph (B N : Nat) (adj : Int → Int → Bool) (W : World) : Prop where
  row : Row mapV 35 W (B + 1) ((List.range N).map fun i => some (B + 2 + i))
  sets : ∀ i, i < N → TSet W (B + 2 + i) N (adj (i : Int))
  size : B + 2 + N ≤ W.heap.size

/-- The first k maps have been made. -/
structure Made1 (N k : Nat) (w W : World) : Prop where
  row : Row mapV 35 W (w.heap.size + 1) ((List.range N).map fun i => if i < k then some (w.heap.size + 2 + i) else none)
  box : W.cell? ⟨w.heap.size, 0, none⟩ = some (.int .i64 (N : Int))
  sets : ∀ i, i < k → TSet W (w.heap.size + 2 + i) N (fun _ => false)
  size : W.heap.size = w.heap.size + 2 + k
  below : Below w.heap.size w W

theorem range_getD {α : Type} (N : Nat) (f : Nat → α) (d : α) (i : Nat) (hi : i < N) : ((List.range N).map f).getD i d = f i := by
  rw [List.getD_eq_getElem?_getD, List.getElem?_map, List.getElem?_range hi]; rfl

theorem Made1.start (N : Nat) (w : World) : Made1 N 0 w ((w.alloc (.cells #[.int .i64 (N : Int)] 3)).alloc (.cells (madeCells #[.map none] N) 35)) where
  row := by
    have := Row.new (w.alloc (.cells #[.int .i64 (N : Int)] 3)) (List.replicate N none) mapV 35
    rw [World.size_alloc, ← made_vals] at this
    have e : ((List.range N).map fun i => if i < 0 then some (w.heap.size + 2 + i) else none) = List.replicate N none := by
      apply List.ext_getElem <;> simp
    rw [e]
    unfold Row at this ⊢
    rw [← made_vals] at this ⊢
    exact this
  box := by rw [World.cell?_of_block (Below.heap_alloc _ _ _ (by simp))]; exact cell_of_row _ _ 0 _ 3 (0, 0) (heap_alloc_new w _)
  sets := fun i hi => by omega
  size := by simp
  below := ((Below.refl _ w).alloc (Nat.le_refl _) _).alloc (by simp) _

theorem Made1.step {N k : Nat} {w W : World} (h : Made1 N k w W) (hk : k < N) :
    Made1 N (k + 1) w ((W.setCell ⟨w.heap.size + 1, k, none⟩ (.map (some W.heap.size))).alloc (.map #[] 0)) where
  row := by
    have h1 := (h.row.set k (some W.heap.size)).alloc (.map #[] 0)
    have e : (((List.range N).map fun i => if i < k then some (w.heap.size + 2 + i) else none).set k (some W.heap.size)) = ((List.range N).map fun i => if i < k + 1 then some (w.heap.size + 2 + i) else none) := by
      apply List.ext_getElem
      · simp
      · intro i h1 h2
        simp only [List.getElem_set, List.getElem_map, List.getElem_range]
        by_cases e : k = i
        · subst e; simp [h.size]
        · rw [if_neg e]
          by_cases h3 : i < k
          · rw [if_pos h3, if_pos (by omega)]
          · rw [if_neg h3, if_neg (by omega)]
    rw [e] at h1
    exact h1
  box := by
    rw [World.cell?_of_block (Below.heap_alloc _ _ _ (by have := h.size; simp [World.setCell]; omega)), World.cell?_of_block (Below.heap_setCell _ _ _ _ (by simp))]
    exact h.box
  sets := fun i hi => by
    by_cases e : i = k
    · subst e
      have := SetAt.made Try.prog 3 4 (W.setCell ⟨w.heap.size + 1, i, none⟩ (.map (some W.heap.size)))
      have e : (W.setCell ⟨w.heap.size + 1, i, none⟩ (.map (some W.heap.size))).heap.size = w.heap.size + 2 + i := by simp [World.setCell, h.size]
      rw [e] at this
      exact this.mono (Nat.zero_le N)
    · refine (h.sets i (by omega)).same ?_
      rw [Below.heap_alloc _ _ _ (by have := h.size; simp [World.setCell]; omega), Below.heap_setCell _ _ _ _ (by simp; omega)]
  size := by simp [World.setCell, h.size]; omega
  below := (h.below.setCell (by simp) _).alloc (by have := h.size; simp [World.setCell]; omega) _

/-- The first j pairs have been laid in. -/
structure Made2 (N j : Nat) (l : List S44) (w W : World) : Prop where
  row : Row mapV 35 W (w.heap.size + 1) ((List.range N).map fun i => some (w.heap.size + 2 + i))
  box : W.cell? ⟨w.heap.size, 0, none⟩ = some (.int .i64 (N : Int))
  sets : ∀ i, i < N → TSet W (w.heap.size + 2 + i) N (adjOf N (pairs (l.take j)) (i : Int))
  size : w.heap.size + 2 + N ≤ W.heap.size
  below : Below w.heap.size w W

theorem Made1.two {N : Nat} {w W : World} (h : Made1 N N w W) (l : List S44) : Made2 N 0 l w W where
  row := by
    have := h.row
    have e : ((List.range N).map fun i => if i < N then some (w.heap.size + 2 + i) else none) = ((List.range N).map fun i => some (w.heap.size + 2 + i)) := by
      apply List.map_congr_left
      intro i hi
      rw [if_pos (List.mem_range.1 hi)]
    rwa [e] at this
  box := h.box
  sets := fun i hi => (h.sets i hi).congr (fun x => rfl)
  size := by rw [h.size]; exact Nat.le_refl _
  below := h.below

theorem take_pairs (l : List S44) (j : Nat) (hj : j < l.length) : pairs (l.take (j + 1)) = pairs (l.take j) ++ [((rd_T44 l j).f0, (rd_T44 l j).f1)] := by
  unfold pairs rd_T44
  rw [List.take_succ_eq_append_getElem hj, List.map_append, Int.toNat_natCast, List.getD_eq_getElem?_getD, List.getElem?_eq_getElem hj]
  rfl

theorem adjOf_snoc (n : Int) (l : List (Int × Int)) (e : Int × Int) (a b : Int) : adjOf n (l ++ [e]) a b = (adjOf n l a b || touches n a b e) := by
  simp [adjOf]

theorem TSet.tight {w : World} {b n N : Nat} {S : Int → Bool} (h : TSet w b n S) (hN : N ≤ 1000000) (hS : ∀ x, S x = true → 0 ≤ x ∧ x < N) : TSet w b N S := by
  obtain ⟨D, ho, h1, h2⟩ := h
  have hs := size_card ho Try.underlying3 h1 hN hS (has_wf ho Try.underlying3)
  obtain ⟨es, clock, hb, F, _, rfl⟩ := ho
  refine ⟨_, ⟨es, clock, hb, F, ?_, rfl⟩, h1, h2⟩
  have hc := card_le N S
  rw [← hs] at hc
  simpa [Maps.size, length_sorted] using hc

theorem Made2.skip {N j : Nat} {l : List S44} {w W : World} (h : Made2 N j l w W) (hj : j < l.length) (hno : ∀ a b, touches N a b ((rd_T44 l j).f0, (rd_T44 l j).f1) = false) (o : Obj) : Made2 N (j + 1) l w (W.alloc o) where
  row := h.row.alloc o
  box := (World.cell?_of_block (Below.heap_alloc _ _ _ (by have := h.size; simp; omega))).trans h.box
  sets := fun i hi => by
    rw [take_pairs l j hj]
    refine ((h.sets i hi).same (Below.heap_alloc _ _ _ (by have := h.size; omega))).congr (fun x => ?_)
    rw [adjOf_snoc, hno]
    simp
  size := by simp; have := h.size; omega
  below := h.below.alloc (by have := h.size; omega) _

/-- The cells that the region reads. -/
def Reads (w wr : World) (xn yn : Nat) (W : World) : Prop :=
  W.cell? ⟨wr.heap.size, 0, none⟩ = some (.int .i64 (xn : Int)) ∧ W.cell? ⟨wr.heap.size, 1, none⟩ = some (.int .i64 (yn : Int)) ∧ W.cell? ⟨w.heap.size + 1, xn, none⟩ = some (.map (some (w.heap.size + 2 + xn))) ∧ W.cell? ⟨w.heap.size + 1, yn, none⟩ = some (.map (some (w.heap.size + 2 + yn)))

theorem Reads.grown {w wr W W' : World} {xn yn b : Nat} (h : Reads w wr xn yn W) (hb : w.heap.size + 2 ≤ b) (hb2 : b < wr.heap.size) (hs : wr.heap.size < W.heap.size) (hg : W.grownBy W' (some b)) : Reads w wr xn yn W' := by
  obtain ⟨h1, h2, h3, h4⟩ := h
  have c : ∀ k o, k < W.heap.size → k ≠ b → W'.cell? ⟨k, o, none⟩ = W.cell? ⟨k, o, none⟩ := fun k o hk hne => World.cell?_of_block (hg.block k hk (by simpa using hne))
  exact ⟨(c _ _ (by omega) (by omega)).trans h1, (c _ _ (by omega) (by omega)).trans h2, (c _ _ (by omega) (by omega)).trans h3, (c _ _ (by omega) (by omega)).trans h4⟩

theorem touches_true {N x y : Nat} (hx : x < N) (hy : y < N) (hne : x ≠ y) (a b : Int) : touches N a b ((x : Int), (y : Int)) = (decide (a = x) && decide (b = y) || decide (a = y) && decide (b = x)) := by
  unfold touches
  rw [Bool.eq_iff_iff]
  simp
  omega

theorem Made2.put {N j : Nat} {l : List S44} {w wr : World} (h : Made2 N j l w wr) (hN : N ≤ 8192) {x y : Nat} (hx : x < N) (hy : y < N) (hne : x ≠ y) (W0 : World) (hW0 : wr.alloc (.cells #[.int .i64 (x : Int), .int .i64 (y : Int)] 44) = W0)
    (hj : j < l.length) (ex : (rd_T44 l (j : Int)).f0 = (x : Int)) (ey : (rd_T44 l (j : Int)).f1 = (y : Int)) :
    ∃ v1 s1 w1 w2 v3 s3 w3 w4, (Instr.mapEntry 35 (.map (some (w.heap.size + 2 + x))) (.int .i64 (y : Int))).run Try.prog W0.drew = .ok (.tuple #[v1, .int .i64 s1]) w1 ∧
      (Instr.entryStore 35 (.map (some (w.heap.size + 2 + x))) (.int .i64 s1) (.bool true)).run Try.prog w1 = .ok () w2 ∧
      (Instr.mapEntry 35 (.map (some (w.heap.size + 2 + y))) (.int .i64 (x : Int))).run Try.prog w2 = .ok (.tuple #[v3, .int .i64 s3]) w3 ∧
      (Instr.entryStore 35 (.map (some (w.heap.size + 2 + y))) (.int .i64 s3) (.bool true)).run Try.prog w3 = .ok () w4 ∧
      Reads w wr x y W0.drew ∧ Reads w wr x y w1 ∧ Reads w wr x y w2 ∧ Reads w wr x y w3 ∧ Reads w wr x y w4 ∧
      Made2 N (j + 1) l w w4 := by
  have hsz := h.size
  have hs0 : W0.drew.heap.size = wr.heap.size + 1 := by rw [← hW0]; simp
  have old : ∀ k, k < wr.heap.size → W0.drew.heap[k]? = wr.heap[k]? := fun k hk => by rw [← hW0]; exact Below.heap_alloc wr _ k hk
  have wf : ∀ z : Nat, z < N → wfi (z : Int) := fun z hz => wfi_mk (by omega) (by omega)
  have S1 : TSet W0.drew (w.heap.size + 2 + x) N (adjOf N (pairs (l.take j)) (x : Int)) := (h.sets x hx).same (old _ (by omega))
  obtain ⟨v1, s1, w1, e1, g1, z1, k1⟩ := S1.entry Try.underlying3 Try.underlying35 Try.underlying4 (zero4 _) (by unfold maxLen; omega) (wf y hy)
  obtain ⟨w2, e2, t2, g2, z2⟩ := k1 w1 rfl
  have at2 : ∀ k, k < wr.heap.size → k ≠ w.heap.size + 2 + x → w2.heap[k]? = wr.heap[k]? := fun k hk hn =>
    ((g2.block k (by omega) (by simpa using hn)).trans (g1.block k (by omega) (by simpa using hn))).trans (old k hk)
  have S3 : TSet w2 (w.heap.size + 2 + y) N (adjOf N (pairs (l.take j)) (y : Int)) := (h.sets y hy).same (at2 _ (by omega) (by omega))
  obtain ⟨v3, s3, w3, e3, g3, z3, k3⟩ := S3.entry Try.underlying3 Try.underlying35 Try.underlying4 (zero4 _) (by unfold maxLen; omega) (wf x hx)
  obtain ⟨w4, e4, t4, g4, z4⟩ := k3 w3 rfl
  have at4 : ∀ k, k < wr.heap.size → k ≠ w.heap.size + 2 + x → k ≠ w.heap.size + 2 + y → w4.heap[k]? = wr.heap[k]? := fun k hk hn hn' =>
    ((g4.block k (by omega) (by simpa using hn')).trans (g3.block k (by omega) (by simpa using hn'))).trans (at2 k hk hn)
  have f0 : Reads w wr x y W0.drew := by
    have r1 := h.row.cell none x (by simp; exact hx)
    have r2 := h.row.cell none y (by simp; exact hy)
    rw [range_getD _ _ _ _ hx] at r1
    rw [range_getD _ _ _ _ hy] at r2
    have hnew : W0.drew.heap[wr.heap.size]? = some (.cells #[.int .i64 (x : Int), .int .i64 (y : Int)] 44 (0, 0)) := by rw [← hW0]; exact heap_alloc_new wr _
    exact ⟨cell_of_row _ _ 0 _ 44 (0, 0) hnew, cell_of_row _ _ 1 _ 44 (0, 0) hnew, (World.cell?_of_block (old _ (by dsimp only; omega))).trans r1, (World.cell?_of_block (old _ (by dsimp only; omega))).trans r2⟩
  have f1 := f0.grown (b := w.heap.size + 2 + x) (by omega) (by omega) (by omega) g1
  have f2 := f1.grown (b := w.heap.size + 2 + x) (by omega) (by omega) (by omega) g2
  have f3 := f2.grown (b := w.heap.size + 2 + y) (by omega) (by omega) (by omega) g3
  have f4 := f3.grown (b := w.heap.size + 2 + y) (by omega) (by omega) (by omega) g4
  refine ⟨v1, s1, w1, w2, v3, s3, w3, w4, e1, e2, e3, e4, f0, f1, f2, f3, f4, ?_⟩
  have rng : ∀ (i : Nat) (z : Int), adjOf N (pairs (l.take (j + 1))) (i : Int) z = true → 0 ≤ z ∧ z < N := fun i z hz => (adjOf_range hz).2.1
  have adj' : ∀ (i : Nat) (z : Int), adjOf N (pairs (l.take (j + 1))) (i : Int) z = (adjOf N (pairs (l.take j)) (i : Int) z || (decide ((i : Int) = x) && decide (z = y) || decide ((i : Int) = y) && decide (z = x))) := fun i z => by
    rw [take_pairs l j hj, adjOf_snoc, ex, ey, touches_true hx hy hne]
  refine { row := h.row.same (at4 _ (by omega) (by omega) (by omega)), box := (World.cell?_of_block (at4 _ (by dsimp only; omega) (by dsimp only; omega) (by dsimp only; omega))).trans h.box, sets := fun i hi => ?_, size := by omega, below := ?_ }
  · by_cases ix : i = x
    · subst ix
      have q : TSet w4 (w.heap.size + 2 + i) (N + 1) _ := t2.same ((g4.block _ (by omega) (by simp; omega)).trans (g3.block _ (by omega) (by simp; omega)))
      have q' : TSet w4 (w.heap.size + 2 + i) (N + 1) (adjOf N (pairs (l.take (j + 1))) (i : Int)) := q.congr (fun z => by have n1 : decide ((i : Int) = y) = false := decide_eq_false (by omega); rw [adj' i z, n1]; simp [Bool.or_comm])
      exact q'.tight (by omega) (rng i)
    · by_cases iy : i = y
      · subst iy
        have q' : TSet w4 (w.heap.size + 2 + i) (N + 1) (adjOf N (pairs (l.take (j + 1))) (i : Int)) := t4.congr (fun z => by have n1 : decide ((i : Int) = x) = false := decide_eq_false (by omega); rw [adj' i z, n1]; simp [Bool.or_comm])
        exact q'.tight (by omega) (rng i)
      · exact ((h.sets i hi).same (at4 _ (by omega) (by omega) (by omega))).congr (fun z => by have n1 : decide ((i : Int) = x) = false := decide_eq_false (by omega); have n2 : decide ((i : Int) = y) = false := decide_eq_false (by omega); rw [adj' i z, n1, n2]; simp)
  · refine ⟨?_, ?_, ?_, by omega, fun k hk => (at4 k (by omega) (by omega) (by omega)).trans (h.below.block k hk)⟩
    · rw [g4.os, g3.os, g2.os, g1.os, ← hW0]; exact h.below.os
    · rw [g4.tape, g3.tape, g2.tape, g1.tape, ← hW0]; exact h.below.tape
    · rw [g4.output, g3.output, g2.output, g1.output, ← hW0]; exact h.below.output

theorem Made2.done {N : Nat} {l : List S44} {w W : World} (h : Made2 N l.length l w W) : Graph w.heap.size N (adjOf N (pairs l)) W where
  row := h.row
  sets := by have := h.sets; rwa [List.take_length] at this
  size := h.size

set_option maxRecDepth 100000 in
set_option maxHeartbeats 4000000 in
theorem neigh_one (N : Nat) (hN : N ≤ 8192) (A : Option Addr) (c : Nat) (l : List S44) (w : World) (hr : Kd.C k44 w A l.length l) (hl : l.length ≤ 1000000) :
    Calls Try.prog 18 #[.int .i64 (N : Int), .slice A l.length c] w fun e w' => e = .returned (.slice (some ⟨w.heap.size + 1, 0, none⟩) N N) ∧ Graph w.heap.size N (adjOf N (pairs l)) w' ∧ Below w.heap.size w w' := by
  have HR : Hid (Kd.C k44 w A l.length l) := hr
  clear hr
  have hmk := print_make_of (P := Try.prog) 46 35 (.map none) 8 Try.underlying46 info35 rfl (by decide) N (by omega)
  have hmm := @run_makeMap Try.prog
  go_enter Try.func18, Try.ntmps18
  go_wp2
  go_loopw [14] (fun i wr => ∃ k : Nat, k ≤ N ∧ i = .int .i64 k ∧ Made1 N k w wr) (fun i _ => N - (intOf i).toNat)
  case atStart => exact ⟨0, Nat.zero_le _, rfl, Made1.start N w⟩
  case round =>
    obtain ⟨k, hk, rfl, hM⟩ := hrel
    by_cases hlt : k < N
    · have hcell := hM.row.cell none k (by simp; exact hlt)
      rw [range_getD _ _ _ _ hlt, if_neg (by omega)] at hcell
      have hfr := hM.row.frozen k
      have hst := hM.step hlt
      have hsz : w.heap.size + 1 < wr.heap.size := by have := hM.size; omega
      unfold mapV at hcell
      clear hM
      go_wp2
      go_roundw
      case rel => exact ⟨k + 1, by omega, by go_num, hst⟩
      case measure => simp [intOf]; omega
    · have hkN : N = k := by omega
      clear hk hlt
      subst hkN
      have hM2 := hM.two l
      clear hM
      go_wp2
      obtain ⟨wo, rfl⟩ : ∃ wo : World, wo = wr := ⟨_, rfl⟩
      go_loopw [25] (fun i wr => ∃ j : Nat, j ≤ l.length ∧ i = .int .i64 j ∧ Made2 N j l w wr) (fun i _ => l.length - (intOf i).toNat)
      case atStart => exact ⟨0, Nat.zero_le _, rfl, hM2⟩
      case round =>
        clear hM2
        obtain ⟨j, hj, rfl, hM⟩ := hrel
        by_cases hlt : j < l.length
        · obtain ⟨ad, rfl, hx0, hx1⟩ := at_T44 HR.out (j : Int) (by omega) (by omega)
          have hskip := hM.skip hlt
          have hb0 := World.block_lt_of_cell? w _ hx0
          replace hx0 := (hM.below.cell hb0).trans hx0
          have hb1 := World.block_lt_of_cell? w _ hx1
          replace hx1 := (hM.below.cell hb1).trans hx1
          clear hb0 hb1
          rw [Int.toNat_natCast] at hx0 hx1
          have hput := fun (xn yn : Nat) (ex : (rd_T44 l (j : Int)).f0 = (xn : Int)) (ey : (rd_T44 l (j : Int)).f1 = (yn : Int)) (hx : xn < N) (hy : yn < N) (hne : xn ≠ yn) => hM.put hN hx hy hne _ rfl hlt ex ey
          generalize (rd_T44 l (j : Int)).f0 = x at hskip hx0 hx1 hput
          generalize (rd_T44 l (j : Int)).f1 = y at hskip hx0 hx1 hput
          have hbox : ∀ o, (wr.alloc o).cell? ⟨w.heap.size, 0, none⟩ = some (.int .i64 (N : Int)) := fun o => (World.cell?_of_block (Below.heap_alloc _ _ _ (by have := hM.size; simp; omega))).trans hM.box
          by_cases h1 : inn N x = true
          · by_cases h2 : inn N y = true
            · by_cases h3 : x = y
              · have hst := hskip (fun a b => by unfold touches; exact decide_eq_false (by dsimp only; omega))
                clear hskip hM hput
                obtain rfl := h3
                go_wp2_with (go_at_call 29; refine (in_any _ _ _ _ (hbox _)).mono ?_; rintro e w' ⟨rfl, rfl⟩)
                go_roundw
                case rel => exact ⟨j + 1, by omega, by go_num, hst _⟩
                case measure => simp [intOf]; omega
              · obtain ⟨xn, rfl⟩ : ∃ xn : Nat, x = (xn : Int) := ⟨x.toNat, by have := of_decide_eq_true h1; omega⟩
                obtain ⟨yn, rfl⟩ : ∃ yn : Nat, y = (yn : Int) := ⟨y.toNat, by have := of_decide_eq_true h2; omega⟩
                have hxn : xn < N := by have := of_decide_eq_true h1; omega
                have hyn : yn < N := by have := of_decide_eq_true h2; omega
                have hne : xn ≠ yn := fun e => h3 (by rw [e])
                have h3' : ((xn : Int) != (yn : Int)) = true := by rw [bne_iff_ne]; omega
                have hpu := hput xn yn rfl rfl hxn hyn hne
                have Hsz : Hid (w.heap.size + 2 + N ≤ wr.heap.size) := hM.size
                clear hskip h3 hM hput
                obtain ⟨v1, s1, w1, w2, v3, s3, w3, w4, e1, e2, e3, e4, f0, f1, f2, f3, f4, hend⟩ := hpu
                have Hend := Lib.hid hend
                clear hend
                go_wp2_with (go_at_call 29; refine (in_any _ _ _ _ (hbox _)).mono ?_; rintro e w' ⟨rfl, rfl⟩)
                go_region_held3 (fun W => W.cell? ⟨wr.heap.size, 0, none⟩ = some (.int .i64 (xn : Int)) ∧ W.cell? ⟨wr.heap.size, 1, none⟩ = some (.int .i64 (yn : Int)) ∧ W.cell? ⟨w.heap.size + 1, xn, none⟩ = some (.map (some (w.heap.size + 2 + xn))) ∧ W.cell? ⟨w.heap.size + 1, yn, none⟩ = some (.map (some (w.heap.size + 2 + yn)))) (first | exact f0 | exact f1 | exact f2 | exact f3 | exact f4) (fail)
                go_wp2
                go_roundw
                case rel => exact ⟨j + 1, by omega, by go_num, Hend.out⟩
                case measure => simp [intOf]; omega
            · replace h2 : inn N y = false := by simpa using h2
              have hst := hskip (fun a b => by unfold touches; unfold inn at h2; have := of_decide_eq_false h2; exact decide_eq_false (by dsimp only; omega))
              clear hskip hM hput
              go_wp2_with (go_at_call 29; refine (in_any _ _ _ _ (hbox _)).mono ?_; rintro e w' ⟨rfl, rfl⟩)
              go_roundw
              case rel => exact ⟨j + 1, by omega, by go_num, hst _⟩
              case measure => simp [intOf]; omega
          · replace h1 : inn N x = false := by simpa using h1
            have hst := hskip (fun a b => by unfold touches; unfold inn at h1; have := of_decide_eq_false h1; exact decide_eq_false (by dsimp only; omega))
            clear hskip hM hput
            go_wp2_with (go_at_call 29; refine (in_any _ _ _ _ (hbox _)).mono ?_; rintro e w' ⟨rfl, rfl⟩)
            go_roundw
            case rel => exact ⟨j + 1, by omega, by go_num, hst _⟩
            case measure => simp [intOf]; omega
        · have hje : l.length = j := by omega
          clear hj hlt
          subst hje
          go_wp2
          go_ret
          exact ⟨rfl, hM.done, hM.below⟩
end Go.Proofs.YtgdmdgkfababeaaH
