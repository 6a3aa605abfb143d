/-
  The classes of merging, by their tops. Own work.
-/
import Derived.Test.YtgdmdgkfababeaaPMer
import Derived.Test.YtgdmdgkfababeaaHMerged
namespace Go.Proofs.YtgdmdgkfababeaaEv
open Go.Proofs.YtgdmdgkfababeaaCol
open Go.Proofs.YtgdmdgkfababeaaH (mergedOf_ok)

section
variable {N : Nat} {t : Int → Int → Bool}
def tops (N : Nat) (s : Mer) : List Int := (List.range N).map fun i : Nat => find s.cls (i : Int)
theorem same_tops {s : Mer} {L : List Int} (h : Same N t s L) : L = tops N s := by
  apply List.ext_getElem
  · rw [h.len]; simp [tops]
  · intro i h1 h2
    have hi : i < N := by simpa [tops] using h2
    have := h.top i hi
    rw [List.getD_eq_getElem?_getD, List.getElem?_eq_getElem h1] at this
    simp only [tops, List.getElem_map, List.getElem_range]
    exact this

end

theorem same_start (N : Nat) (l : List (Int × Int)) : Same N (adjOf N l) (merStart N (adjOf N l)) ((List.range N).map fun i : Nat => (i : Int)) := by
  have hok := merStart_ok (n := (N : Int)) (by omega) l
  rw [Int.toNat_natCast] at hok
  have hget : ∀ i : Nat, i < N → ((List.range N).map (fun i : Nat => (i : Int))).getD i 0 = i := fun i hi => by
    rw [List.getD_eq_getElem?_getD, List.getElem?_map, List.getElem?_range hi]; rfl
  refine ⟨hok, by simp, fun i hi => ?_, fun x y hx hy _ _ _ => ?_⟩
  · rw [find_of_root hok.le hi (hget i hi)]; exact hget i hi
  · rw [Bool.eq_iff_iff, nearB_true]
    constructor
    · intro h; exact ⟨x, y, hx, hy, hget x hx, hget y hy, h⟩
    · rintro ⟨i, j, hi, hj, h1, h2, h3⟩
      rw [hget i hi] at h1
      rw [hget j hj] at h2
      have e1 : i = x := by omega
      have e2 : j = y := by omega
      subst e1 e2
      exact h3

theorem merged_tops (N : Nat) (hN : N ≤ 8192) (k : Int) (l ms : List (Int × Int)) : merged N k l ms = tops N (mergeGo N k ms (N + 1) (merStart N (adjOf N l))) := by
  have hok := mergedOf_ok (n := (N : Int)) (k := k) (by omega) l ms
  unfold merged mergedOf at *
  rw [Int.toNat_natCast] at *
  rw [if_neg (by omega)]
  obtain ⟨_, h2⟩ := finish_find hok.le N (Nat.le_refl _)
  have hfl := (finish_ok hok.le N (Nat.le_refl _)).len
  apply List.ext_getElem
  · rw [hfl]; simp [tops]
  · intro i h1 h3
    have hi : i < N := by simpa [tops] using h3
    have := h2 i hi
    rw [List.getD_eq_getElem?_getD, List.getElem?_eq_getElem h1] at this
    simp only [tops, List.getElem_map, List.getElem_range]
    exact this

theorem merged_le (n k : Int) (l ms : List (Int × Int)) : (merged n k l ms).length ≤ 1000000 := by
  by_cases h : n < 0 ∨ n > 8192
  · unfold merged; rw [if_pos h]; simp
  · obtain ⟨N, rfl⟩ : ∃ N : Nat, n = (N : Int) := ⟨n.toNat, by omega⟩
    rw [Go.Proofs.YtgdmdgkfababeaaH.merged_length N (by omega)]; omega
end Go.Proofs.YtgdmdgkfababeaaEv
