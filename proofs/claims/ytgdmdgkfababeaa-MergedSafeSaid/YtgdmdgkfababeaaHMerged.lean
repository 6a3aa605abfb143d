/-
  colour.Merged: the contract, in the printed walks' words. Own work.
-/
import Derived.Test.YtgdmdgkfababeaaHMerE
import Derived.Test.YtgdmdgkfababeaaHColours
namespace Go.Proofs.YtgdmdgkfababeaaH
open Go Go.RowKit Go.Shelf Go.Proofs.YtgdmdgkfababeaaCol Go.Proofs.Ytgdmdgkfababeaa.M Go.Proofs.YtgdmdgkfababeaaW.PrintWords

set_option maxRecDepth 100000 in
set_option maxHeartbeats 1000000 in
theorem merged_none (n k : Int) (v v2 : Value) (w : World) (hn : n < 0 ∨ 8192 < n) :
    Calls Try.prog 15 #[.int .i64 n, v, v2, .int .i64 k] w fun e w' => e = .returned (.slice none 0 0) ∧ Below w.heap.size w w' := by
  by_cases h : n < 0
  · clear hn
    go_enter Try.func15, Try.ntmps15
    go_wp2
    go_ret
    exact ⟨rfl, (Below.refl _ w).alloc (Nat.le_refl _) _⟩
  · have h2 : 8192 < n := by omega
    have h3 : decide (n < 0) = false := decide_eq_false h
    clear hn
    go_enter Try.func15, Try.ntmps15
    go_wp2
    go_ret
    exact ⟨rfl, (Below.refl _ w).alloc (Nat.le_refl _) _⟩

theorem finish_length (cls : List Int) : ∀ t, (finish cls t).length = cls.length
  | 0 => rfl
  | t + 1 => by unfold finish; rw [List.length_set]; exact finish_length cls t

theorem mergeGo_ok {N : Nat} {k : Int} {ms : List (Int × Int)} : ∀ (t : Nat) (s : Mer), s.Ok N → (mergeGo N k ms t s).Ok N
  | 0, _, h => h
  | t + 1, s, h => by
    have := (mergeRound_ok (k := k) ms s false h).1
    unfold mergeGo
    split
    · exact mergeGo_ok t _ this
    · exact this

theorem mergedOf_ok {n k : Int} (hn : 0 ≤ n) (l ms : List (Int × Int)) : (mergedOf n k l ms).Ok n.toNat := mergeGo_ok _ _ (merStart_ok hn l)

theorem merged_length (N : Nat) (hN : N ≤ 8192) (k : Int) (l ms : List (Int × Int)) : (merged N k l ms).length = N := by
  unfold merged
  rw [if_neg (by omega), finish_length]
  have := (mergedOf_ok (n := (N : Int)) (k := k) (by omega) l ms).le.len
  rw [this, Int.toNat_natCast]
end Go.Proofs.YtgdmdgkfababeaaH

namespace Go.Proofs.Ytgdmdgkfababeaa.M
open Go Go.RowKit Go.Shelf Go.Proofs.YtgdmdgkfababeaaCol Go.Proofs.YtgdmdgkfababeaaW.PrintWords Go.Proofs.YtgdmdgkfababeaaH

def colour_Merged.f (a0 : Int) (l1 l2 : List S44) (a3 : Int) : Option (List Int) := if l1.length ≤ 1000000 ∧ l2.length ≤ 1000000 then some (merged a0 a3 (pairs l1) (pairs l2)) else none

theorem colour_Merged.calls (a0 : Int) (A1 : Option Addr) (c1 : Nat) (l1 : List S44) (A2 : Option Addr) (c2 : Nat) (l2 : List S44) (a3 : Int) (r : List Int) (w : World) (hr1 : Kd.C k44 w A1 l1.length l1) (_hc1 : l1.length ≤ c1) (hr2 : Kd.C k44 w A2 l2.length l2) (_hc2 : l2.length ≤ c2) (h : colour_Merged.f a0 l1 l2 a3 = some r) :
    Calls Try.prog 15 #[.int .i64 a0, .slice A1 l1.length c1, .slice A2 l2.length c2, .int .i64 a3] w fun e w' => ∃ v0_, e = .returned v0_ ∧ Kd.R (Kd.int .i64) 3 w' w.heap.size (fun _ => True) v0_ r ∧ Below w.heap.size w w' := by
  unfold colour_Merged.f at h
  split at h
  · rename_i hb
    obtain ⟨hb1, hb2⟩ := hb
    have hr := Option.some.inj h
    by_cases hn : a0 < 0 ∨ 8192 < a0
    · refine (merged_none a0 a3 _ _ w hn).mono ?_
      rintro e w' ⟨rfl, hbl⟩
      refine ⟨_, rfl, ?_, hbl⟩
      have : r = [] := by rw [← hr]; unfold merged; rw [if_pos (by omega)]
      rw [this]
      exact Kd.R_nil _ _ _ _ _
    · obtain ⟨N, rfl⟩ : ∃ N : Nat, a0 = (N : Int) := ⟨a0.toNat, by omega⟩
      refine (merged_some N (by omega) a3 A1 c1 l1 A2 c2 l2 w hr1 hb1 hr2 hb2).mono ?_
      rintro e w' ⟨g, rfl, hrow, hg, hbl⟩
      refine ⟨_, rfl, ?_, hbl⟩
      have hlen := merged_length N (by omega) a3 (pairs l1) (pairs l2)
      rw [hr] at hlen hrow
      have := row_owned hrow hg (by rw [hlen]; unfold maxLen; omega)
      rw [hlen] at this
      exact this
  · cases h
end Go.Proofs.Ytgdmdgkfababeaa.M
