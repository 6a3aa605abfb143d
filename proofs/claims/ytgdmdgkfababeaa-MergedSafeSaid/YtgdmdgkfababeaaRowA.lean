/-
  Arguments opened: rows of numbers, rows of pairs, as the printed walks want them. Own work.
-/
import Derived.Test.YtgdmdgkfababeaaM0
import Derived.OpenShut
import Derived.ChangeSlices
import Derived.Lib.SmallJoins
import Derived.WideShapes
namespace Go.Proofs.YtgdmdgkfababeaaRowA
open Go Go.RowKit Go.ChangeShapes Go.WideShapes Go.ChangeAt Go.Proofs.Ytgdmdgkfababeaa.M Go.Proofs.YtgdmdgkfababeaaW.PrintWords

variable {H : Type} {enc : TypeId × Value → H} {w : World} {base : Nat} {spare : Nat → Bool} {held : Bool} {fuel : Nat} {cs : List Value} {x : DataW H × List MemPlace}

theorem row_ints {v : Value} (h : DataW.trod enc Try.prog w base spare held fuel 22 [v] = some x) : ∃ (A : Option Addr) (c : Nat) (l : List Int), v = .slice A l.length c ∧ l.length ≤ c ∧ Kd.C (Kd.int .i64) w A l.length l := by
  rcases open_ints Try.underlying22 Try.underlying3 (by kernel_rfl) h with ⟨e, _⟩ | ⟨a, len, cap, zs, e, _, hl, hm, hz, _, hcell, _⟩
  · simp at e; subst e; exact ⟨none, 0, [], rfl, Nat.le_refl _, Kd.C_nil _ _⟩
  · simp at e; subst e
    have hlen : len ≤ zs.length := by rw [hz]; split <;> omega
    have htl : (zs.take len).length = len := by simp; omega
    refine ⟨some a, cap, zs.take len, by rw [htl], by rw [htl]; exact hl, ?_⟩
    refine ⟨rfl, by rw [htl]; unfold maxLen at hm; omega, fun _ => ⟨a, rfl, fun j p hj => ⟨[.int .i64 p], rfl, rfl, fun i u hu => ?_⟩⟩⟩
    obtain ⟨hjl, hp⟩ := List.getElem?_eq_some_iff.1 hj
    cases i with
    | succ i => simp at hu
    | zero =>
      simp at hu
      subst hu
      have hj' : j < zs.length := by simp at hjl; omega
      have := hcell j hj'
      have e1 : (zs.getD j 0) = p := by
        rw [← hp, List.getElem_take, List.getD_eq_getElem?_getD, List.getElem?_eq_getElem hj']; rfl
      rw [e1] at this
      show w.cell? (a.add (j * 1 + 0)) = _
      rw [Nat.mul_one, Nat.add_zero]
      exact this

theorem pair_cells {n : Nat} {y : DataW H × List MemPlace} (h : DataW.trod enc Try.prog w base spare held n 44 cs = some y) : ∃ a b : Int, cs = [.int .i64 a, .int .i64 b] := by
  obtain ⟨xs, m, _, _, hcl, hxl, hx⟩ := DataW.trod_array Try.underlying44 h
  have h44 : Try.prog.cellsOf 44 = 2 := by kernel_rfl
  have h3 : Try.prog.cellsOf 3 = 1 := by kernel_rfl
  rw [h44] at hcl
  rw [h3] at hx
  match cs, hcl with
  | [c0, c1], _ =>
    have e0 := hx 0 (by omega)
    have e1 := hx 1 (by omega)
    rw [List.getElem?_eq_getElem (by omega)] at e0 e1
    obtain ⟨m0, k0, _, _⟩ := DataW.trod_int Try.underlying3 e0
    obtain ⟨m1, k1, _, _⟩ := DataW.trod_int Try.underlying3 e1
    simp at k0 k1
    exact ⟨m0, m1, by rw [k0, k1]⟩

theorem listed {a : Addr} : ∀ (n : Nat), (∀ i, i < n → ∃ p : S44, w.cell? (a.add (i * 2)) = some (.int .i64 p.f0) ∧ w.cell? (a.add (i * 2 + 1)) = some (.int .i64 p.f1)) →
    ∃ l : List S44, l.length = n ∧ ∀ i p, l[i]? = some p → w.cell? (a.add (i * 2)) = some (.int .i64 p.f0) ∧ w.cell? (a.add (i * 2 + 1)) = some (.int .i64 p.f1)
  | 0, _ => ⟨[], rfl, fun i p hp => by simp at hp⟩
  | m + 1, key => by
    obtain ⟨l, h1, h2⟩ := listed m (fun i hi => key i (by omega))
    obtain ⟨p, hp⟩ := key m (by omega)
    refine ⟨l ++ [p], by simp [h1], fun i q hq => ?_⟩
    by_cases e : i < l.length
    · rw [List.getElem?_append_left e] at hq; exact h2 i q hq
    · rw [List.getElem?_append_right (by omega)] at hq
      have : i - l.length = 0 := by
        obtain ⟨h3, _⟩ := List.getElem?_eq_some_iff.1 hq
        simp at h3; omega
      rw [this] at hq
      simp at hq
      subst hq
      have : i = m := by omega
      subst this
      exact hp

theorem row_pairs {v : Value} (h : DataW.trod enc Try.prog w base spare held fuel 23 [v] = some x) : ∃ (A : Option Addr) (c : Nat) (l : List S44), v = .slice A l.length c ∧ l.length ≤ c ∧ Kd.C k44 w A l.length l := by
  have h44 : Try.prog.cellsOf 44 = 2 := by kernel_rfl
  rcases DataW.trod_slice Try.underlying23 h with ⟨e, _⟩ | ⟨a, len, cap, elems, rest, n, _, e, _, hb, hl, hm, hlen, hel, _, _⟩
  · simp at e; subst e; exact ⟨none, 0, [], rfl, Nat.le_refl _, Kd.C_nil _ _⟩
  · simp at e; subst e
    rw [h44] at hel
    have key : ∀ i, i < len → ∃ p : S44, w.cell? (a.add (i * 2)) = some (.int .i64 p.f0) ∧ w.cell? (a.add (i * 2 + 1)) = some (.int .i64 p.f1) := fun i hi => by
      have h1 := hel i hi
      rw [List.getElem?_eq_getElem (by omega), Option.bind_eq_some_iff] at h1
      obtain ⟨cs', hcs, hy⟩ := h1
      obtain ⟨m0, m1, rfl⟩ := pair_cells hy
      obtain ⟨_, _, hc⟩ := World.cells?_some hcs
      have c0 := hc 0 (by omega)
      have c1 := hc 1 (by omega)
      have ea : ∀ j, (a.add (i * 2)).add j = a.add (i * 2 + j) := fun j => Addr.add_add _ _ _
      rw [ea] at c0 c1
      exact ⟨⟨m0, m1⟩, by simpa using c0, by simpa using c1⟩
    obtain ⟨l, hll, hlc⟩ := listed len key
    refine ⟨some a, cap, l, by rw [hll], by rw [hll]; exact hl, rfl, by rw [hll]; unfold maxLen at hm; omega, fun _ => ⟨a, rfl, fun j p hj => ⟨[.int .i64 p.f0, .int .i64 p.f1], rfl, k44_mk w p, fun i u hu => ?_⟩⟩⟩
    obtain ⟨c0, c1⟩ := hlc j p hj
    match i, hu with
    | 0, hu => simp at hu; subst hu; exact c0
    | 1, hu => simp at hu; subst hu; exact c1
    | i + 2, hu => simp at hu
end Go.Proofs.YtgdmdgkfababeaaRowA

/-
  Arguments opened: a struct with two rows of numbers in a field; two rows of numbers. Own work.
-/
namespace Go.Proofs.YtgdmdgkfababeaaRowA
open Go Go.RowKit Go.ChangeShapes Go.WideShapes Go.ChangeAt Go.Proofs.Ytgdmdgkfababeaa.M Go.Proofs.YtgdmdgkfababeaaW.PrintWords

variable {H : Type} {enc : TypeId × Value → H} {w : World} {base : Nat} {spare : Nat → Bool} {held : Bool}

theorem two_rows {fuel : Nat} {cs : List Value} {x : DataW H × List MemPlace} (h : DataW.trod enc Try.prog w base spare held fuel 38 cs = some x) :
    ∃ (A1 : Option Addr) (c1 : Nat) (l1 : List Int) (A2 : Option Addr) (c2 : Nat) (l2 : List Int), cs = [.slice A1 l1.length c1, .slice A2 l2.length c2] ∧ l1.length ≤ c1 ∧ Kd.C (Kd.int .i64) w A1 l1.length l1 ∧ l2.length ≤ c2 ∧ Kd.C (Kd.int .i64) w A2 l2.length l2 := by
  obtain ⟨xs, m, _, _, hcl, hxl, hx⟩ := DataW.trod_array Try.underlying38 h
  have h38 : Try.prog.cellsOf 38 = 2 := by kernel_rfl
  have h22 : Try.prog.cellsOf 22 = 1 := by kernel_rfl
  rw [h38] at hcl
  rw [h22] at hx
  match cs, hcl with
  | [k0, k1], _ =>
    have e0 := hx 0 (by omega)
    have e1 := hx 1 (by omega)
    rw [List.getElem?_eq_getElem (by omega)] at e0 e1
    obtain ⟨A1, c1, l1, rfl, hc1, hr1⟩ := row_ints e0
    obtain ⟨A2, c2, l2, rfl, hc2, hr2⟩ := row_ints e1
    exact ⟨A1, c1, l1, A2, c2, l2, rfl, hc1, hr1, hc2, hr2⟩

theorem okWide_arr {n : Nat} {e t : TypeId} {r : Reach} {b0 : Nat} {v : Value} (ht : Try.prog.underlying t = some (.array n e)) (h : Value.okWide Try.prog w r b0 t v) : ∃ cs, v = .agg cs ∧ cs.size = Try.prog.cellsOf t := by
  simp only [Value.okWide, ht] at h
  obtain ⟨cs, h1, h2, _⟩ := h
  exact ⟨cs, h1, h2⟩

theorem pair_open {r : Reach} {b0 : Nat} {v : Value} {d : DataW H} {p : List MemPlace} (hv : Value.okWide Try.prog w r b0 38 v) (h : DataW.Trod enc Try.prog w base spare held 38 v d p) :
    ∃ (A1 : Option Addr) (c1 : Nat) (l1 : List Int) (A2 : Option Addr) (c2 : Nat) (l2 : List Int), v = .agg #[.slice A1 l1.length c1, .slice A2 l2.length c2] ∧ l1.length ≤ c1 ∧ Kd.C (Kd.int .i64) w A1 l1.length l1 ∧ l2.length ≤ c2 ∧ Kd.C (Kd.int .i64) w A2 l2.length l2 := by
  obtain ⟨cs, rfl, _⟩ := okWide_arr Try.underlying38 hv
  obtain ⟨fuel, hf⟩ := h
  obtain ⟨A1, c1, l1, A2, c2, l2, e, h1, h2, h3, h4⟩ := two_rows hf
  have e' : cs.toList = [.slice A1 l1.length c1, .slice A2 l2.length c2] := e
  exact ⟨A1, c1, l1, A2, c2, l2, by rw [← e'], h1, h2, h3, h4⟩

theorem asked_open {r : Reach} {b0 : Nat} {v : Value} {d : DataW H} {p : List MemPlace} (hv : Value.okWide Try.prog w r b0 40 v) (h : DataW.Trod enc Try.prog w base spare held 40 v d p) :
    ∃ (a0 : Int) (A1 : Option Addr) (c1 : Nat) (l1 : List Int) (A2 : Option Addr) (c2 : Nat) (l2 : List Int) (A3 : Option Addr) (c3 : Nat) (l3 : List S44) (a4 : Int), v = .agg #[.int .i64 a0, .slice A1 l1.length c1, .slice A2 l2.length c2, .slice A3 l3.length c3, .int .i64 a4] ∧
      l1.length ≤ c1 ∧ Kd.C (Kd.int .i64) w A1 l1.length l1 ∧ l2.length ≤ c2 ∧ Kd.C (Kd.int .i64) w A2 l2.length l2 ∧ l3.length ≤ c3 ∧ Kd.C k44 w A3 l3.length l3 := by
  obtain ⟨cs, rfl, hsz⟩ := okWide_struct Try.underlying40 hv
  obtain ⟨fuel, hf⟩ := h
  obtain ⟨xs, n, _, _, hcl, hxl, hx⟩ := DataW.trod_struct Try.underlying40 hf
  have h40 : Try.prog.cellsOf 40 = 5 := by kernel_rfl
  have h38 : Try.prog.cellsOf 38 = 2 := by kernel_rfl
  have h22 : Try.prog.cellsOf 23 = 1 := by kernel_rfl
  have h3 : Try.prog.cellsOf 3 = 1 := by kernel_rfl
  rw [h40] at hcl
  have e0 : DataW.trod enc Try.prog w base spare held n 3 (((Value.agg cs).cells.toList.drop 0).take (Try.prog.cellsOf 3)) = xs[0]? := hx 0 _ rfl
  have e1 : DataW.trod enc Try.prog w base spare held n 38 (((Value.agg cs).cells.toList.drop 1).take (Try.prog.cellsOf 38)) = xs[1]? := hx 1 _ rfl
  have e2 : DataW.trod enc Try.prog w base spare held n 23 (((Value.agg cs).cells.toList.drop 3).take (Try.prog.cellsOf 23)) = xs[2]? := hx 2 _ rfl
  have e3 : DataW.trod enc Try.prog w base spare held n 3 (((Value.agg cs).cells.toList.drop 4).take (Try.prog.cellsOf 3)) = xs[3]? := hx 3 _ rfl
  have hxl4 : xs.length = 4 := hxl
  rw [List.getElem?_eq_getElem (by omega)] at e0 e1 e2 e3
  rw [h3] at e0 e3
  rw [h38] at e1
  rw [h22] at e2
  have hcl' : cs.toList.length = 5 := hcl
  obtain ⟨k0, k1, k2, k3, k4, hcs⟩ : ∃ k0 k1 k2 k3 k4, cs.toList = [k0, k1, k2, k3, k4] := by
    generalize cs.toList = q at hcl'
    match q, hcl' with
    | [k0, k1, k2, k3, k4], _ => exact ⟨k0, k1, k2, k3, k4, rfl⟩
  have hcv : (Value.agg cs).cells.toList = [k0, k1, k2, k3, k4] := hcs
  rw [hcv] at e0 e1 e2 e3
  obtain ⟨a0, q0, _, _⟩ := DataW.trod_int Try.underlying3 e0
  obtain ⟨a4, q4, _, _⟩ := DataW.trod_int Try.underlying3 e3
  obtain ⟨A1, c1, l1, A2, c2, l2, q1, g1, g2, g3, g4⟩ := two_rows e1
  obtain ⟨A3, c3, l3, q3, g5, g6⟩ := row_pairs e2
  have q0' : k0 = .int .i64 a0 := by simpa using q0
  have q4' : k4 = .int .i64 a4 := by simpa using q4
  have q1' : k1 = .slice A1 l1.length c1 ∧ k2 = .slice A2 l2.length c2 := by simpa using q1
  have q3' : k3 = .slice A3 l3.length c3 := q3
  refine ⟨a0, A1, c1, l1, A2, c2, l2, A3, c3, l3, a4, ?_, g1, g2, g3, g4, g5, g6⟩
  rw [q0', q4', q1'.1, q1'.2, q3'] at hcs
  rw [← hcs]
end Go.Proofs.YtgdmdgkfababeaaRowA
