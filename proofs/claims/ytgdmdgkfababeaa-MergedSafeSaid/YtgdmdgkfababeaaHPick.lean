/-
  The closures of colour.neighbours and colour.Colours: which nodes there are; the node that is taken away next. Own work.
-/
import Derived.Test.YtgdmdgkfababeaaProg
import Derived.Test.YtgdmdgkfababeaaHBase
import Derived.WalkKit
import Derived.LoopTactic
import Derived.BigQuiet
import Derived.Deep.QuietTactic
import Derived.IntWalk
import Derived.Outline
namespace Go.Proofs.YtgdmdgkfababeaaH
open Go Go.RowKit Go.Proofs.YtgdmdgkfababeaaCol

def inn (n x : Int) : Bool := decide (0 ≤ x ∧ x < n)

theorem in_any (x n : Int) (b : Nat) (w : World) (hc : w.cell? ⟨b, 0, none⟩ = some (.int .i64 n)) :
    Calls Try.prog 29 #[.int .i64 x, .pointer (some ⟨b, 0, none⟩)] w fun e w' => e = .returned (.bool (inn n x)) ∧ w = w' := by
  unfold inn
  by_cases h0 : 0 ≤ x
  · by_cases h1 : x < n
    · have e : decide (0 ≤ x ∧ x < n) = true := decide_eq_true ⟨h0, h1⟩
      rw [e]
      clear e
      go_enter Try.func29, Try.ntmps29
      go_wp2
      go_ret
      exact ⟨rfl, rfl⟩
    · have e : decide (0 ≤ x ∧ x < n) = false := decide_eq_false (by omega)
      rw [e]
      clear e
      go_enter Try.func29, Try.ntmps29
      go_wp2
      go_ret
      exact ⟨rfl, rfl⟩
  · have e : decide (0 ≤ x ∧ x < n) = false := decide_eq_false (by omega)
    rw [e]
    clear e
    go_enter Try.func29, Try.ntmps29
    go_wp2
    go_ret
    exact ⟨rfl, rfl⟩

theorem ret_int {a b : Int} (h : a = b) : Ending.returned (.int .i64 a) = .returned (.int .i64 b) := by rw [h]

set_option maxRecDepth 100000 in
set_option maxHeartbeats 2000000 in
theorem pick_any (N : Nat) (hN : N ≤ 8192) (gone : List Bool) (deg : List Int) (k : Int) (bn bg bd bk gg gd : Nat) (w : World)
    (hn : w.cell? ⟨bn, 0, none⟩ = some (.int .i64 (N : Int))) (hg : w.cell? ⟨bg, 0, none⟩ = some (.slice (some ⟨gg, 0, none⟩) N N)) (hd : w.cell? ⟨bd, 0, none⟩ = some (.slice (some ⟨gd, 0, none⟩) N N))
    (hk : w.cell? ⟨bk, 0, none⟩ = some (.int .i64 k)) (hgc : ∀ j, j < N → w.cell? ⟨gg, j, none⟩ = some (.bool (gone.getD j false))) (hdc : ∀ j, j < N → w.cell? ⟨gd, j, none⟩ = some (.int .i64 (deg.getD j 0))) :
    Calls Try.prog 19 #[.pointer (some ⟨bn, 0, none⟩), .pointer (some ⟨bg, 0, none⟩), .pointer (some ⟨bd, 0, none⟩), .pointer (some ⟨bk, 0, none⟩)] w fun e w' => e = .returned (.int .i64 (pick N gone deg k)) ∧ ∃ q, w' = w.drewN q := by
  have Hgc : Hid (∀ j, j < N → w.cell? ⟨gg, j, none⟩ = some (.bool (gone.getD j false))) := hgc
  have Hdc : Hid (∀ j, j < N → w.cell? ⟨gd, j, none⟩ = some (.int .i64 (deg.getD j 0))) := hdc
  clear hgc hdc
  go_enter Try.func19, Try.ntmps19
  go_wp2
  go_loopw [5, 8] (fun bv i wr => ∃ (a : Nat) (b : Int), a ≤ N ∧ i = .int .i64 a ∧ bv = .int .i64 b ∧ (b = -1 ∨ 0 ≤ b ∧ b < N) ∧ Hid (pickGo gone deg k (N - a) a b = pick N gone deg k) ∧ ∃ q, wr = w.drewN q)
    (fun _ i _ => N - (intOf i).toNat)
  case atStart => exact ⟨0, -1, Nat.zero_le _, rfl, rfl, .inl rfl, rfl, 0, rfl⟩
  case round =>
    obtain ⟨a, b, ha, rfl, rfl, hb, hgo, q, rfl⟩ := hrel
    by_cases hlt : a < N
    · obtain ⟨m, hm⟩ : ∃ m, N - a = m + 1 := ⟨N - a - 1, by omega⟩
      have hgo' := hgo.out
      rw [hm] at hgo'
      clear hgo
      unfold pickGo at hgo'
      have hm' : m = N - (a + 1) := by omega
      clear hm
      subst hm'
      have hga := Hgc.out a hlt
      have hda := Hdc.out a hlt
      cases hgv : gone.getD a false with
      | true =>
        rw [hgv] at hgo' hga
        rw [if_pos rfl] at hgo'
        have H : Hid (pickGo gone deg k (N - (a + 1)) (a + 1) b = pick N gone deg k) := hgo'
        clear hgo' hgv
        go_wp2
        go_roundw
        case rel => exact ⟨a + 1, b, by omega, by go_num, rfl, hb, H, (by first | exact ⟨_, rfl⟩ | (simp only [World.drewN_drewN]; exact ⟨_, rfl⟩))⟩
        case measure => simp [intOf]; omega
      | false =>
        rw [hgv] at hgo' hga
        rw [if_neg (by simp)] at hgo'
        clear hgv
        generalize deg.getD a 0 = da at hgo' hda
        by_cases h1 : da < k
        · rw [if_pos h1] at hgo'
          have H : Hid ((a : Int) = pick N gone deg k) := hgo'
          clear hgo'
          go_wp2
          go_quiet (fail)
          go_wp2
          go_ret
          exact ⟨ret_int H.out, (by first | exact ⟨_, rfl⟩ | (simp only [World.drewN_drewN]; exact ⟨_, rfl⟩))⟩
        · rw [if_neg h1] at hgo'
          have h1' : decide (da < k) = false := decide_eq_false h1
          by_cases h2 : b < 0
          · rw [if_pos (.inl h2)] at hgo'
            have H : Hid (pickGo gone deg k (N - (a + 1)) (a + 1) (a : Int) = pick N gone deg k) := hgo'
            clear hgo' h1
            have hbe : b = -1 := by omega
            clear hb
            subst hbe
            go_wp2
            go_quiet (fail)
            go_wp2
            go_quiet (fail)
            go_wp2
            go_roundw
            case rel => exact ⟨a + 1, a, by omega, by go_num, rfl, .inr ⟨by omega, by omega⟩, H, (by first | exact ⟨_, rfl⟩ | (simp only [World.drewN_drewN]; exact ⟨_, rfl⟩))⟩
            case measure => simp [intOf]; omega
          · obtain ⟨bN, rfl⟩ : ∃ bN : Nat, b = (bN : Int) := ⟨b.toNat, by omega⟩
            have hbN : bN < N := by omega
            have hdb := Hdc.out bN hbN
            have hbd : decide ((bN : Int) < 0) = false := decide_eq_false (by omega)
            have hb0 : (0 : Int) ≤ (bN : Int) := by omega
            have hb1 : (bN : Int) < (N : Int) := by omega
            rw [Int.toNat_natCast] at hgo'
            generalize deg.getD bN 0 = db at hgo' hdb
            by_cases h3 : da > db
            · rw [if_pos (.inr h3)] at hgo'
              have H : Hid (pickGo gone deg k (N - (a + 1)) (a + 1) (a : Int) = pick N gone deg k) := hgo'
              clear hgo' h1 hb h2
              have h3' : decide (db < da) = true := decide_eq_true h3
              go_wp2
              go_quiet (fail)
              go_wp2
              go_quiet (fail)
              go_wp2
              go_roundw
              case rel => exact ⟨a + 1, a, by omega, by go_num, rfl, .inr ⟨by omega, by omega⟩, H, (by first | exact ⟨_, rfl⟩ | (simp only [World.drewN_drewN]; exact ⟨_, rfl⟩))⟩
              case measure => simp [intOf]; omega
            · rw [if_neg (by omega)] at hgo'
              have H : Hid (pickGo gone deg k (N - (a + 1)) (a + 1) (bN : Int) = pick N gone deg k) := hgo'
              clear hgo' h1 hb h2
              have h3' : decide (db < da) = false := decide_eq_false h3
              go_wp2
              go_quiet (fail)
              go_wp2
              go_quiet (fail)
              go_wp2
              go_roundw
              case rel => exact ⟨a + 1, (bN : Int), by omega, by go_num, rfl, .inr ⟨by omega, by omega⟩, H, (by first | exact ⟨_, rfl⟩ | (simp only [World.drewN_drewN]; exact ⟨_, rfl⟩))⟩
              case measure => simp [intOf]; omega
    · have hae : a = N := by omega
      clear ha hlt
      subst hae
      have H : Hid (b = pick a gone deg k) := by
        have := hgo.out
        rw [Nat.sub_self] at this
        exact this
      clear hgo
      go_wp2
      go_ret
      exact ⟨ret_int H.out, (by first | exact ⟨_, rfl⟩ | (simp only [World.drewN_drewN]; exact ⟨_, rfl⟩))⟩
end Go.Proofs.YtgdmdgkfababeaaH
