/-
  Arguments opened: rows of numbers, rows of pairs, as the printed walks want them. Own work.
-/
import Derived.Test.YtgdmdgkfababeaaM0
import Derived.OpenShut
import Derived.ChangeSlices
import Derived.Lib.SmallJoins
namespace Go.Proofs.YtgdmdgkfababeaaRowA
open Go Go.RowKit Go.ChangeShapes Go.WideShapes Go.ChangeAt Go.Proofs.Ytgdmdgkfababeaa.M Go.Proofs.YtgdmdgkfababeaaW.PrintWords

variable {H : Type} {enc : TypeId × Value → H} {w : World} {base : Nat} {spare : Nat → Bool} {held : Bool} {fuel : Nat} {cs : List Value} {x : DataW H × List MemPlace}

theorem row_ints {v : Value} (h : DataW.trod enc Try.prog w base spare held fuel 22 [v] = some x) : ∃ (A : Option Addr) (c : Nat) (l : List Int), v = .slice A l.length c ∧ l.length ≤ c ∧ Kd.C (Kd.int .i64) w A l.length l := by
  rcases open_ints Try.underlying22 Try.underlying3 (by kernel_rfl) h with ⟨e, _⟩ | ⟨a, len, cap, zs, e, _, hl, hm, hz, _, hcell, _⟩
  · simp at e; subst e; exact ⟨none, 0, [], rfl, Nat.le_refl _, Kd.C_nil _ _⟩
  · simp at e; subst e
    have hlen : len ≤ zs.length := by rw [hz]; split <;> omega
    have htl : (zs.take len).length = len := by simp; omega
    refine ⟨some a, cap, zs.take len, by rw [htl], by rw [htl]; exact hl, ?_⟩
    refine ⟨rfl, by rw [htl]; unfold maxLen at hm; omega, fun _ => ⟨a, rfl, fun j p hj => ⟨[.int .i64 p], rfl, rfl, fun i u hu => ?_⟩⟩⟩
    obtain ⟨hjl, hp⟩ := List.getElem?_eq_some_iff.1 hj
    cases i with
    | succ i => simp at hu
    | zero =>
      simp at hu
      subst hu
      have hj' : j < zs.length := by simp at hjl; omega
      have := hcell j hj'
      have e1 : (zs.getD j 0) = p := by
        rw [← hp, List.getElem_take, List.getD_eq_getElem?_getD, List.getElem?_eq_getElem hj']; rfl
      rw [e1] at this
      show w.cell? (a.add (j * 1 + 0)) = _
      rw [Nat.mul_one, Nat.add_zero]
      exact this

theorem pair_cells {n : Nat} {y : DataW H × List MemPlace} (h : DataW.trod enc Try.prog w base spare held n 44 cs = some y) : ∃ a b : Int, cs = [.int .i64 a, .int .i64 b] := by
  obtain ⟨xs, m, _, _, hcl, hxl, hx⟩ := DataW.trod_array Try.underlying44 h
  have h44 : Try.prog.cellsOf 44 = 2 := by kernel_rfl
  have h3 : Try.prog.cellsOf 3 = 1 := by kernel_rfl
  rw [h44] at hcl
  rw [h3] at hx
  match cs, hcl with
  | [c0, c1], _ =>
    have e0 := hx 0 (by omega)
    have e1 := hx 1 (by omega)
    rw [List.getElem?_eq_getElem (by omega)] at e0 e1
    obtain ⟨m0, k0, _, _⟩ := DataW.trod_int Try.underlying3 e0
    obtain ⟨m1, k1, _, _⟩ := DataW.trod_int Try.underlying3 e1
    simp at k0 k1
    exact ⟨m0, m1, by rw [k0, k1]⟩

theorem listed {a : Addr} : ∀ (n : Nat), (∀ i, i < n → ∃ p : S44, w.cell? (a.add (i * 2)) = some (.int .i64 p.f0) ∧ w.cell? (a.add (i * 2 + 1)) = some (.int .i64 p.f1)) →
    ∃ l : List S44, l.length = n ∧ ∀ i p, l[i]? = some p → w.cell? (a.add (i * 2)) = some (.int .i64 p.f0) ∧ w.cell? (a.add (i * 2 + 1)) = some (.int .i64 p.f1)
  | 0, _ => ⟨[], rfl, fun i p hp => by simp at hp⟩
  | m + 1, key => by
    obtain ⟨l, h1, h2⟩ := listed m (fun i hi => key i (by omega))
    obtain ⟨p, hp⟩ := key m (by omega)
    refine ⟨l ++ [p], by simp [h1], fun i q hq => ?_⟩
    by_cases e : i < l.length
    · rw [List.getElem?_append_left e] at hq; exact h2 i q hq
    · rw [List.getElem?_append_right (by omega)] at hq
      have : i - l.length = 0 := by
        obtain ⟨h3, _⟩ := List.getElem?_eq_some_iff.1 hq
        simp at h3; omega
      rw [this] at hq
      simp at hq
      subst hq
      have : i = m := by omega
      subst this
      exact hp

theorem row_pairs {v : Value} (h : DataW.trod enc Try.prog w base spare held fuel 23 [v] = some x) : ∃ (A : Option Addr) (c : Nat) (l : List S44), v = .slice A l.length c ∧ l.length ≤ c ∧ Kd.C k44 w A l.length l := by
  have h44 : Try.prog.cellsOf 44 = 2 := by kernel_rfl
  rcases DataW.trod_slice Try.underlying23 h with ⟨e, _⟩ | ⟨a, len, cap, elems, rest, n, _, e, _, hb, hl, hm, hlen, hel, _, _⟩
  · simp at e; subst e; exact ⟨none, 0, [], rfl, Nat.le_refl _, Kd.C_nil _ _⟩
  · simp at e; subst e
    rw [h44] at hel
    have key : ∀ i, i < len → ∃ p : S44, w.cell? (a.add (i * 2)) = some (.int .i64 p.f0) ∧ w.cell? (a.add (i * 2 + 1)) = some (.int .i64 p.f1) := fun i hi => by
      have h1 := hel i hi
      rw [List.getElem?_eq_getElem (by omega), Option.bind_eq_some_iff] at h1
      obtain ⟨cs', hcs, hy⟩ := h1
      obtain ⟨m0, m1, rfl⟩ := pair_cells hy
      obtain ⟨_, _, hc⟩ := World.cells?_some hcs
      have c0 := hc 0 (by omega)
      have c1 := hc 1 (by omega)
      have ea : ∀ j, (a.add (i * 2)).add j = a.add (i * 2 + j) := fun j => Addr.add_add _ _ _
      rw [ea] at c0 c1
      exact ⟨⟨m0, m1⟩, by simpa using c0, by simpa using c1⟩
    obtain ⟨l, hll, hlc⟩ := listed len key
    refine ⟨some a, cap, l, by rw [hll], by rw [hll]; exact hl, rfl, by rw [hll]; unfold maxLen at hm; omega, fun _ => ⟨a, rfl, fun j p hj => ⟨[.int .i64 p.f0, .int .i64 p.f1], rfl, k44_mk w p, fun i u hu => ?_⟩⟩⟩
    obtain ⟨c0, c1⟩ := hlc j p hj
    match i, hu with
    | 0, hu => simp at hu; subst hu; exact c0
    | 1, hu => simp at hu; subst hu; exact c1
    | i + 2, hu => simp at hu
end Go.Proofs.YtgdmdgkfababeaaRowA
