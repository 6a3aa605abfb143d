/-
  colour.Merged: the closure join. Own work.
-/
import Derived.Test.YtgdmdgkfababeaaHMerC
namespace Go.Proofs.YtgdmdgkfababeaaH
open Go Go.RowKit Go.Shelf Go.Proofs.YtgdmdgkfababeaaCol Go.Proofs.Ytgdmdgkfababeaa.M Go.Proofs.YtgdmdgkfababeaaW.PrintWords

section
variable {B s N : Nat} {k : Int} {cls : List Int} {live : Nat → Bool} {adj : Int → Int → Bool} {a b r cnt : Nat} {L : Int → Bool} {w W W' : World}

/-- The round's state: what is left of b's neighbours. -/
structure JLoop (B s N : Nat) (k : Int) (cls : List Int) (live : Nat → Bool) (adj : Int → Int → Bool) (a b r : Nat) (L : Int → Bool) (cnt : Nat) (w W : World) : Prop where
  cells : MCells B s N k cls live (midAdj adj a b L) W
  rng : RangeAt Try.prog 3 4 W (B + 3 + b) r N (adj (b : Int)) L cnt
  below : Below B w W
  hr : s + 3 ≤ r
  sub : ∀ x, L x = true → adj (b : Int) x = true

/-- What the region reads. -/
def JReads (B s a x : Nat) (N : Nat) (W : World) : Prop :=
  W.cell? ⟨s, 0, none⟩ = some (.slice (some ⟨B + 2, 0, none⟩) N N) ∧ W.cell? ⟨B + 2, x, none⟩ = some (.map (some (B + 3 + x))) ∧ W.cell? ⟨B + 2, a, none⟩ = some (.map (some (B + 3 + a)))

theorem JReads.grown {x i : Nat} (h : JReads B s a x N W) (hb : B + 3 ≤ i) (hi : i < s) (hs : s < W.heap.size) (hg : W.grownBy W' (some i)) : JReads B s a x N W' := by
  obtain ⟨h1, h2, h3⟩ := h
  have c : ∀ k o, k < W.heap.size → k ≠ i → W'.cell? ⟨k, o, none⟩ = W.cell? ⟨k, o, none⟩ := fun k o hk hne => World.cell?_of_block (hg.block k hk (by simpa using hne))
  exact ⟨(c _ _ (by omega) (by omega)).trans h1, (c _ _ (by omega) (by omega)).trans h2, (c _ _ (by omega) (by omega)).trans h3⟩

theorem JLoop.step (H : JLoop B s N k cls live adj a b r L cnt w W) (hN : N ≤ 8192) (hadj : ∀ i x, adj i x = true → 0 ≤ x ∧ x < N) (symm : ∀ x y, adj x y = adj y x) (irr : ∀ x, adj x x = false) (hab : a ≠ b) (ha : a < N) (hb : b < N) (la : live a = true) (hlive : ∀ (i : Int) (x : Nat), adj i x = true → live x = true)
    (hna : adj (a : Int) (b : Int) = false) :
    ((∀ x, L x = false) ∧ ∀ ty, (Instr.next (.pointer (some ⟨r, 0, none⟩)) false ty).run Try.prog W = .ok (.tuple #[.bool false]) W) ∨
    ∃ (x : Nat) (W1 W2 : World) (cnt' : Nat), x < N ∧ x ≠ a ∧ x ≠ b ∧ (∀ ty, (Instr.next (.pointer (some ⟨r, 0, none⟩)) false ty).run Try.prog W = .ok (.tuple #[.bool true, .int .i64 (x : Int), .bool true]) W1) ∧ cnt' < cnt ∧
      (Instr.entry (.pointer (some ⟨r, 0, none⟩))).run Try.prog W1 = .ok (.tuple #[.int .i64 (x : Int), .bool true]) W1 ∧ JReads B s a x N W1 ∧
      (∀ ty, (Builtin.delete_ #[35, 3] ty #[.map (some (B + 3 + x)), .int .i64 (b : Int)]).run Try.prog W1 = .ok (.tuple #[]) W2) ∧ JReads B s a x N W2.drew ∧
      ∃ v1 s1 w1 w2 v3 s3 w3 w4, (Instr.mapEntry 35 (.map (some (B + 3 + x))) (.int .i64 (a : Int))).run Try.prog W2.drew = .ok (.tuple #[v1, .int .i64 s1]) w1 ∧
        (Instr.entryStore 35 (.map (some (B + 3 + x))) (.int .i64 s1) (.bool true)).run Try.prog w1 = .ok () w2 ∧
        (Instr.mapEntry 35 (.map (some (B + 3 + a))) (.int .i64 (x : Int))).run Try.prog w2 = .ok (.tuple #[v3, .int .i64 s3]) w3 ∧
        (Instr.entryStore 35 (.map (some (B + 3 + a))) (.int .i64 s3) (.bool true)).run Try.prog w3 = .ok () w4 ∧
        JReads B s a x N w1 ∧ JReads B s a x N w2 ∧ JReads B s a x N w3 ∧ JReads B s a x N w4 ∧
        JLoop B s N k cls live adj a b r (fun y => !decide (y = (x : Int)) && L y) cnt' w w4 := by
  have hr := H.hr
  have hs := H.cells.hs
  have hz := H.cells.size
  have hrW := H.rng.lt
  rcases H.rng.next Try.underlying3 Try.underlying4 with ⟨h0, hrun⟩ | ⟨x0, W1, cnt', hLx, hrun, hrg, hlt, hg, hz1, hen⟩
  · exact .inl ⟨h0, hrun⟩
  · have hSx := H.sub x0 hLx
    have hx := hadj _ _ hSx
    obtain ⟨x, rfl⟩ : ∃ x : Nat, x0 = (x : Int) := ⟨x0.toNat, by omega⟩
    have hxN : x < N := by omega
    have hxb : x ≠ b := fun e => by rw [e, irr] at hSx; cases hSx
    have hba : adj (b : Int) (a : Int) = false := by rw [symm]; exact hna
    have hxa : x ≠ a := fun e => by rw [e, hba] at hSx; cases hSx
    have lx := hlive _ _ hSx
    have wf : ∀ z : Nat, z < N → wfi (z : Int) := fun z hz => wfi_mk (by omega) (by omega)
    have C1 := H.cells.grown hg (fun b e => by cases e; omega)
    have hz1' := hg.size
    have R1 : JReads B s a x N W1 := ⟨C1.bg, C1.map_at hxN lx, C1.map_at ha la⟩
    have S1 := C1.sets x hxN lx
    have S1a := C1.sets a ha la
    -- the delete
    obtain ⟨W2, e0, t0, g0, z0⟩ : ∃ w', (∀ ty, (Builtin.delete_ #[35, 3] ty #[.map (some (B + 3 + x)), .int .i64 (b : Int)]).run Try.prog W1 = .ok (.tuple #[]) w') ∧ TSet w' (B + 3 + x) N (fun y => !decide (y = (b : Int)) && midAdj adj a b L x y) ∧ W1.grownBy w' (some (B + 3 + x)) ∧ w'.heap.size = W1.heap.size := by
      obtain ⟨w', h1, h2, h3, h4⟩ := S1.drop Try.underlying3 Try.underlying35 (wf b hb) 0
      refine ⟨w', fun ty => ?_, h2, h3, h4⟩
      exact h1
    have R2 : JReads B s a x N W2.drew := by
      have := R1.grown (i := B + 3 + x) (by omega) (by omega) (by omega) g0
      exact this
    have t0' : TSet W2.drew (B + 3 + x) N _ := t0
    obtain ⟨v1, s1, w1, e1, g1, z1, k1⟩ := t0'.entry Try.underlying3 Try.underlying35 Try.underlying4 (zero4 _) (by unfold maxLen; omega) (wf a ha)
    obtain ⟨w2, e2, t2, g2, z2⟩ := k1 w1 rfl
    have zd : W2.drew.heap.size = W2.heap.size := rfl
    have at2 : ∀ j, j < W1.heap.size → j ≠ B + 3 + x → w2.heap[j]? = W1.heap[j]? := fun j hj hn =>
      (((g2.block j (by omega) (by simpa using hn)).trans (g1.block j (by omega) (by simpa using hn))).trans (show W2.drew.heap[j]? = W2.heap[j]? from rfl)).trans (g0.block j hj (by simpa using hn))
    have S3 : TSet w2 (B + 3 + a) N (midAdj adj a b L a) := S1a.same (at2 _ (by omega) (by omega))
    obtain ⟨v3, s3, w3, e3, g3, z3, k3⟩ := S3.entry Try.underlying3 Try.underlying35 Try.underlying4 (zero4 _) (by unfold maxLen; omega) (wf x hxN)
    obtain ⟨w4, e4, t4, g4, z4⟩ := k3 w3 rfl
    have r1 := R2.grown (i := B + 3 + x) (by omega) (by omega) (by omega) g1
    have r2 := r1.grown (i := B + 3 + x) (by omega) (by omega) (by omega) g2
    have r3 := r2.grown (i := B + 3 + a) (by omega) (by omega) (by omega) g3
    have r4 := r3.grown (i := B + 3 + a) (by omega) (by omega) (by omega) g4
    have at4 : ∀ j, j < W1.heap.size → j ≠ B + 3 + x → j ≠ B + 3 + a → w4.heap[j]? = W1.heap[j]? := fun j hj hn hn' =>
      ((g4.block j (by omega) (by simpa using hn')).trans (g3.block j (by omega) (by simpa using hn'))).trans (at2 j hj hn)
    refine .inr ⟨x, W1, W2, cnt', hxN, hxa, hxb, hrun, hlt, hen, R1, e0, R2, v1, s1, w1, w2, v3, s3, w3, w4, e1, e2, e3, e4, r1, r2, r3, r4, ?_⟩
    have hxbI : (x : Int) ≠ (b : Int) := by omega
    have hxaI : (x : Int) ≠ (a : Int) := by omega
    have haI : (a : Int) ≠ (b : Int) := by omega
    have rng : ∀ (L' : Int → Bool) (i : Int) (z : Int), midAdj adj a b L' i z = true → 0 ≤ z ∧ z < N := fun L' i z hz => by
      unfold midAdj at hz
      split at hz
      · exact hadj _ _ hz
      · split at hz
        · simp only [Bool.or_eq_true, Bool.and_eq_true] at hz
          rcases hz with h | h
          · exact hadj _ _ h
          · exact hadj _ _ h.1
        · simp only [Bool.or_eq_true, Bool.and_eq_true, decide_eq_true_eq] at hz
          rcases hz with h | h
          · exact hadj _ _ h.1
          · omega
    refine { cells := ?_, rng := hrg.same (at4 _ (by have := hrg.set.lt; omega) (by omega) (by omega)) (at4 _ (by have := hrg.lt; omega) (by omega) (by omega)), below := ?_, hr := hr, sub := fun y hy => H.sub y (by simp at hy; exact hy.2) }
    · have hb4 : ∀ j, j < s + 3 → j ≠ B + 3 + x → j ≠ B + 3 + a → w4.heap[j]? = W1.heap[j]? := fun j hj h1 h2 => at4 j (by omega) h1 h2
      refine { bk := (World.cell?_of_block (hb4 _ (by dsimp only; omega) (by dsimp only; omega) (by dsimp only; omega))).trans C1.bk, row := C1.row.same (hb4 _ (by omega) (by omega) (by omega)), sets := fun j hj hl => ?_,
               bg := r4.1, rcls := C1.rcls.same (hb4 _ (by omega) (by omega) (by omega)), bcls := (World.cell?_of_block (hb4 _ (by dsimp only; omega) (by dsimp only; omega) (by dsimp only; omega))).trans C1.bcls, size := by omega, lc := C1.lc, hs := hs }
      by_cases jx : j = x
      · subst jx
        have q : TSet w4 (B + 3 + j) (N + 1) _ := t2.same ((g4.block _ (by omega) (by simp; omega)).trans (g3.block _ (by omega) (by simp; omega)))
        have q' : TSet w4 (B + 3 + j) (N + 1) (midAdj adj a b (fun y => !decide (y = (j : Int)) && L y) j) := q.congr (fun y => by
          unfold midAdj
          rw [if_neg hxbI, if_neg hxbI, if_neg hxaI, if_neg hxaI, hLx, hSx]
          simp
          cases adj (j : Int) y <;> by_cases e1 : y = (a : Int) <;> by_cases e2 : y = (b : Int) <;> simp [e1, e2])
        exact TSet.tight q' (by omega) (rng _ _)
      · by_cases ja : j = a
        · subst ja
          have q' : TSet w4 (B + 3 + j) (N + 1) (midAdj adj j b (fun y => !decide (y = (x : Int)) && L y) j) := t4.congr (fun y => by
            unfold midAdj
            rw [if_neg haI, if_pos rfl, if_neg haI, if_pos rfl]
            by_cases e1 : y = (x : Int)
            · subst e1; simp [hSx]
            · simp [e1])
          exact TSet.tight q' (by omega) (rng _ _)
        · refine ((C1.sets j hj hl).same (hb4 _ (by omega) (by omega) (by omega))).congr (fun y => ?_)
          unfold midAdj
          have : decide ((j : Int) = (x : Int)) = false := decide_eq_false (by omega)
          have hjaI : (j : Int) ≠ (a : Int) := by omega
          by_cases e : (j : Int) = (b : Int)
          · rw [if_pos e, if_pos e]
          · rw [if_neg e, if_neg e, if_neg hjaI, if_neg hjaI]; dsimp only; rw [this]; simp
    · have b1 := H.below.grown hg (by omega) (fun b e => by cases e; omega)
      refine ⟨?_, ?_, ?_, by have := b1.size; omega, fun j hj => (at4 j (by omega) (by omega) (by omega)).trans (b1.block j hj)⟩
      · rw [g4.os, g3.os, g2.os, g1.os, show W2.drew.os = W2.os from rfl, g0.os]; exact b1.os
      · rw [g4.tape, g3.tape, g2.tape, g1.tape, show W2.drew.tape = W2.tape from rfl, g0.tape]; exact b1.tape
      · rw [g4.output, g3.output, g2.output, g1.output, show W2.drew.output = W2.output from rfl, g0.output]; exact b1.output
end

set_option maxRecDepth 100000 in
set_option maxHeartbeats 4000000 in
theorem join_any {B s N : Nat} (hN : N ≤ 8192) {k : Int} {cls : List Int} {live : Nat → Bool} {adj : Int → Int → Bool} (hadj : ∀ i x, adj i x = true → 0 ≤ x ∧ x < N) (symm : ∀ x y, adj x y = adj y x) (irr : ∀ x, adj x x = false) (hlive : ∀ (i : Int) (x : Nat), adj i x = true → live x = true)
    {w : World} (C : MCells B s N k cls live adj w) (a b : Nat) (hab : a ≠ b) (ha : a < N) (hb : b < N) (la : live a = true) (lb : live b = true) (hna : adj (a : Int) (b : Int) = false) :
    Calls Try.prog 25 #[.int .i64 (a : Int), .int .i64 (b : Int), .pointer (some ⟨s + 2, 0, none⟩), .pointer (some ⟨s, 0, none⟩)] w fun e w' =>
      e = .returned (.tuple #[]) ∧ MCells B s N k (cls.set b (a : Int)) (fun i => live i && !decide (i = b)) (joinAdj adj a b) w' ∧ Below B w w' := by
  have C1 := C.setCls b (a : Int)
  have hbw : Below B w (w.setCell ⟨s + 1, b, none⟩ (I64 (a : Int))) := (Below.refl _ w).setCell (by have := C.hs; dsimp only; omega) _
  obtain ⟨W1, hrange, hr, hg1, hz1⟩ := (C1.sets b hb lb).range Try.underlying3 Try.underlying35 (N := N) (by omega) (hadj b)
  have hloop : JLoop B s N k (cls.set b (a : Int)) live adj a b (w.setCell ⟨s + 1, b, none⟩ (I64 (a : Int))).heap.size (adj (b : Int)) (card N (adj (b : Int))) w W1 :=
    { cells := (C1.grown hg1 (fun b e => by cases e)).congr (fun i _ _ y => (midAdj_start adj a b i y).symm), rng := hr, below := hbw.grown hg1 (by have := C1.size; have := C1.hs; omega) (fun b e => by cases e), hr := C1.size, sub := fun _ h => h }
  have HL := Lib.hid hloop
  have HA := Lib.hid hadj
  have HS := Lib.hid symm
  have HI := Lib.hid irr
  have HLv := Lib.hid hlive
  have HNa := Lib.hid hna
  have hbc := C.bcls
  have hcb := C.cls_at hb
  have hcf := C.rcls.frozen b
  have hg := C1.bg
  have hmb := C1.map_at hb lb
  unfold I64 at hg hmb hrange
  clear hadj symm irr hlive hna C C1 hbw hr hg1 hz1 hloop
  unfold I64 at HL
  go_enter Try.func25, Try.ntmps25
  go_wp2
  clear hrange hbc hcb hcf hg hmb
  have hszw : (w.setCell ⟨s + 1, b, none⟩ (.int .i64 (a : Int))).heap.size = w.heap.size := by simp [World.setCell]
  rw [hszw] at HL
  try rw [hszw]
  clear hszw
  generalize w.heap.size = r at HL ⊢
  go_loopw [6] (fun _ wr => ∃ (L : Int → Bool) (cnt : Nat), JLoop B s N k (cls.set b (a : Int)) live adj a b r L cnt w wr) (fun _ wr => wr.rangeLeft (B + 3 + b) r)
  case atStart => exact ⟨_, _, HL.out⟩
  case round =>
    clear HL
    obtain ⟨L, cnt, hI⟩ := hrel
    rcases hI.step hN HA.out HS.out HI.out hab ha hb la HLv.out HNa.out with ⟨h0, hrun⟩ | ⟨x, W2, W3, cnt', hxN, hxa, hxb, hrun, hlt6, hen, R1, hdel, R2, v1, s1, x1, x2, v3, s3, x3, x4, e1, e2, e3, e4, r1, r2, r3, r4, hI2⟩
    · have hC := hI.cells
      have hbl := hI.below
      have hg := hC.bg
      have hmb := hC.map_at hb lb
      have hfr := hC.row.frozen b
      have haI : (a : Int) ≠ (b : Int) := by omega
      have hfin := (hC.kill b).congr (adj' := joinAdj adj a b) (fun i _ hi y => midAdj_done h0 HS.out HI.out haI HNa.out (by simp at hi; omega) y)
      have hbl2 := hbl.setCell (p := ⟨B + 2, b, none⟩) (by dsimp only; omega) (.map none)
      have HF := Lib.hid hfin
      have HB := Lib.hid hbl2
      clear hI hC hbl h0 hfin hbl2 haI
      go_wp2
      go_end0
      exact ⟨rfl, HF.out, HB.out⟩
    · have HLt := Lib.hid hlt6
      have HIo := Lib.hid hI
      have HI2 := Lib.hid hI2
      obtain ⟨q1, q2, q3⟩ := R1
      clear hI hI2 hlt6
      have hxN' : (x : Int) < (N : Int) := by omega
      have hx0' : (0 : Int) ≤ (x : Int) := by omega
      go_wp2_with fail
      clear q1 q2 q3
      go_region_held3 (fun W => W.cell? ⟨s, 0, none⟩ = some (.slice (some ⟨B + 2, 0, none⟩) N N) ∧ W.cell? ⟨B + 2, x, none⟩ = some (.map (some (B + 3 + x))) ∧ W.cell? ⟨B + 2, a, none⟩ = some (.map (some (B + 3 + a)))) (first | exact R2 | exact r1 | exact r2 | exact r3 | exact r4) (fail)
      go_wp2
      go_roundw
      case rel => exact ⟨_, cnt', HI2.out⟩
      case measure => rw [HI2.out.rng.left_eq, HIo.out.rng.left_eq]; exact HLt.out
end Go.Proofs.YtgdmdgkfababeaaH
