/-
  colour.Colours: the contract, in the printed walks' words. Own work.
-/
import Derived.Test.YtgdmdgkfababeaaHColB
namespace Go.Proofs.YtgdmdgkfababeaaH
open Go Go.RowKit Go.Shelf Go.Proofs.YtgdmdgkfababeaaCol Go.Proofs.YtgdmdgkfababeaaW.PrintWords

theorem colours_length (N : Nat) (hN : N ≤ 8192) (k : Int) (l : List (Int × Int)) : (colours N k l).length = N := by
  unfold colours
  rw [if_neg (by omega)]
  generalize (ordRun (adjOf (N : Int) l) (N : Int).toNat k (N : Int).toNat).ord.reverse = xs
  have : ∀ (l' : List Int) (o : List Int), (l'.foldl (paint (adjOf (N : Int) l) (N : Int).toNat k) o).length = o.length := by
    intro l'
    induction l' with
    | nil => intro o; rfl
    | cons a r ih => intro o; rw [List.foldl_cons, ih, paint_length]
  rw [this]; simp

theorem row_owned {w : World} {g base : Nat} {l : List Int} (h : Row I64 3 w g l) (hb : base ≤ g) (hl : l.length ≤ maxLen) : Kd.R (Kd.int .i64) 3 w base (fun _ => True) (.slice (some ⟨g, 0, none⟩) l.length l.length) l := by
  refine Kd.R_of_own ⟨by simp [encs], .inr ⟨g, l.length, vals I64 l, rfl, hb, h, Nat.le_refl _, hl, by simp [vals_size], ?_⟩⟩ (fun _ _ => trivial)
  rw [List.take_of_length_le (by simp [vals])]
  rfl
end Go.Proofs.YtgdmdgkfababeaaH

namespace Go.Proofs.Ytgdmdgkfababeaa.M
open Go Go.RowKit Go.Shelf Go.Proofs.YtgdmdgkfababeaaCol Go.Proofs.YtgdmdgkfababeaaW.PrintWords Go.Proofs.YtgdmdgkfababeaaH

def colour_Colours.f (a0 : Int) (l1 : List S44) (a2 : Int) : Option (List Int) := if l1.length ≤ 1000000 ∧ a2 ≤ 1000000 then some (colours a0 a2 (pairs l1)) else none

theorem colour_Colours.calls (a0 : Int) (A1 : Option Addr) (c1 : Nat) (l1 : List S44) (a2 : Int) (r : List Int) (w : World) (hr1 : Kd.C k44 w A1 l1.length l1) (_hc1 : l1.length ≤ c1) (h : colour_Colours.f a0 l1 a2 = some r) :
    Calls Try.prog 11 #[.int .i64 a0, .slice A1 l1.length c1, .int .i64 a2] w fun e w' => ∃ v0_, e = .returned v0_ ∧ Kd.R (Kd.int .i64) 3 w' w.heap.size (fun _ => True) v0_ r ∧ Below w.heap.size w w' := by
  unfold colour_Colours.f at h
  split at h
  · rename_i hb
    obtain ⟨hb1, hb2⟩ := hb
    have hr := Option.some.inj h
    by_cases hn : a0 < 0 ∨ 8192 < a0
    · refine (colours_none a0 a2 _ w hn).mono ?_
      rintro e w' ⟨rfl, hbl⟩
      refine ⟨_, rfl, ?_, hbl⟩
      have : r = [] := by rw [← hr]; unfold colours; rw [if_pos (by omega)]
      rw [this]
      exact Kd.R_nil _ _ _ _ _
    · obtain ⟨N, rfl⟩ : ∃ N : Nat, a0 = (N : Int) := ⟨a0.toNat, by omega⟩
      refine (colours_some N (by omega) a2 hb2 A1 c1 l1 w hr1 hb1).mono ?_
      rintro e w' ⟨g, rfl, hrow, hg, hbl⟩
      refine ⟨_, rfl, ?_, hbl⟩
      have hlen := colours_length N (by omega) a2 (pairs l1)
      rw [hr] at hlen hrow
      have := row_owned hrow hg (by rw [hlen]; unfold maxLen; omega)
      rw [hlen] at this
      exact this
  · cases h
end Go.Proofs.Ytgdmdgkfababeaa.M
