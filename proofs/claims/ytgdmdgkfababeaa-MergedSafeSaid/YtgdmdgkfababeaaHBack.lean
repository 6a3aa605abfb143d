/-
  slices.Backward over a slice of numbers: a contract for any loop body that keeps the slice's cells. Own work (after the pattern of the kit's slices.All).
-/
import Derived.RangeFuncBox
import Derived.RangeFuncLeaves
import Derived.Shelf.Abstract
import Derived.WalkKit
import Derived.OwnWalkIn
import Derived.TacticsInMore
import Derived.LoopNIn
import Derived.LoopIn
import Derived.Lib.Hide
import Derived.Test.YtgdmdgkfababeaaProg
import Derived.Test.YtgdmdgkfababeaaHMem
namespace Go.Proofs.YtgdmdgkfababeaaH
open Go Go.RowKit Go.Shelf
attribute [local go_sem] Oper.semAt_some

def upto {α : Type} (f : Nat → α) (k : Nat) : List α := (List.range k).map f
theorem upto_succ {α : Type} (f : Nat → α) (k : Nat) : upto f (k + 1) = upto f k ++ [f k] := by simp [upto, List.range_succ]
theorem upto_length {α : Type} (f : Nat → α) (k : Nat) : (upto f k).length = k := by simp [upto]

/-- What comes in round k: the index, and what stands there. α bears what is known of each. -/
structure BackAt {α : Type} (zs : List Int) (f : Nat → α) (ix vx : α → Int) : Prop where
  i : ∀ m k, m + 1 + k = zs.length → ix (f k) = (m : Int)
  v : ∀ m k, m + 1 + k = zs.length → vx (f k) = zs[m]?.getD 0

/-- A round keeps these two blocks. -/
def KeepTwo (b1 b2 : Nat) (W W' : World) : Prop := W'.heap[b1]? = W.heap[b1]? ∧ W'.heap[b2]? = W.heap[b2]?

theorem backward_any (v : Value) (w : World) (hv : ∃ a n c, v = .slice a n c) :
    Calls Try.prog 20 #[v] w fun e w' => e = .returned (.func (.func 30) #[] #[.pointer (some ⟨w.heap.size, 0, none⟩)]) ∧ w.alloc (.cells #[v] 22) = w' := by
  obtain ⟨a, n, c, rfl⟩ := hv
  go_enter Try.func20, Try.ntmps20
  go_wp2
  go_ret
  exact ⟨rfl, rfl⟩

set_option maxRecDepth 100000 in
set_option maxHeartbeats 2000000 in
theorem back1_in (F : Fence) (n : Nat) (h30 : F.fn 30) (hro : F.round = none) (hn : 1 ≤ n) (l Bs b off cap : Nat) (zs : List Int) (hreach : zs.length * 8 ≤ 140737488351232) {α : Type} (f : Nat → α) (ix vx : α → Int) (hat : BackAt zs f ix vx) (J Jx : List α → World → Prop)
    (hY : ∀ pre x W, J pre W → pre.length < zs.length → YieldAt F (n - 1) Try.prog l #[.int .i64 (ix x), .int .i64 (vx x)] W fun e W' =>
      (e = .returned (.bool true) ∧ J (pre ++ [x]) W' ∧ KeepTwo Bs b W W') ∨ (e = .returned (.bool false) ∧ Jx (pre ++ [x]) W'))
    (W : World) (hBs : W.cell? ⟨Bs, 0, none⟩ = some (.slice (some ⟨b, off, none⟩) zs.length cap)) (hc : ∀ j, j < zs.length → W.cell? ⟨b, off + j, none⟩ = some (.int .i64 (zs[j]?.getD 0))) (h0 : J [] W) :
    CallsIn F n Try.prog 30 #[.func (.yield l) #[] #[], .pointer (some ⟨Bs, 0, none⟩)] W fun e W' => (∃ v, e = .returned v) ∧
      ((∃ ys, ys = upto f zs.length ∧ J ys W') ∨ (∃ pre, (∃ k, k ≤ zs.length ∧ pre = upto f k) ∧ Jx pre W')) := by
  have HC : Hid (∀ j, j < zs.length → W.cell? ⟨b, off + j, none⟩ = some (.int .i64 (zs[j]?.getD 0))) := hc
  clear hc
  refine callsIn_of_wp Try.func30 rfl h30 ?_ hro
  simp only [Try.ntmps30, List.size_toArray, List.length_cons, List.length_nil, Nat.reduceAdd, Nat.reduceSub, Array.replicate_succ, Array.replicate_zero, List.push_toArray, List.append_toArray, List.nil_append, List.cons_append]
  gi_wp2
  gi_loopw [3] (fun i wr => ∃ k : Nat, k ≤ zs.length ∧ i = .int .i64 ((zs.length : Int) - 1 - k) ∧ J (upto f k) wr ∧ KeepTwo Bs b W wr)
    (fun i _ => (intOf i + 1).toNat)
  case atStart => exact ⟨0, Nat.zero_le _, by simp, h0, rfl, rfl⟩
  case round =>
    obtain ⟨k, hk, rfl, hJs, hkp⟩ := hrel
    have hBw : wr.cell? ⟨Bs, 0, none⟩ = some (.slice (some ⟨b, off, none⟩) zs.length cap) := (World.cell?_of_block hkp.1).trans hBs
    by_cases hlt : k < zs.length
    · obtain ⟨m, hm⟩ : ∃ m : Nat, m + 1 + k = zs.length := ⟨zs.length - 1 - k, by omega⟩
      have hmi : (zs.length : Int) - 1 - k = (m : Int) := by omega
      have hml : m < zs.length := by omega
      have hml' : (m : Int) < (zs.length : Int) := by omega
      have hm0 : (0 : Int) ≤ (m : Int) := by omega
      have hcx := (World.cell?_of_block (a := ⟨b, off + m, none⟩) hkp.2).trans (HC.out m hml)
      have hup0 : upto f k ++ [f k] = upto f (k + 1) := (upto_succ f k).symm
      have hY1 := hY _ (f k) wr hJs (by rw [upto_length]; exact hlt)
      rw [hat.i m k hm, hat.v m k hm] at hY1
      generalize zs[m]?.getD 0 = z at hcx hY1
      have hup := Lib.hid hup0
      clear hup0
      obtain ⟨fn, tmps, assign, body, hy, hR⟩ := hY1
      rw [hmi]
      have Hm : Hid (m + 1 + k = zs.length) := hm
      clear hm hmi
      gi_wp2
      refine hR.mono ?_
      rintro e W3 (⟨rfl, hJ3, hk3⟩ | ⟨rfl, hJx3⟩)
      · gi_wp2
        go_roundw
        case rel => exact ⟨k + 1, by omega, by have := Hm.out; congr 1; omega, by rw [← hup.out]; exact hJ3, hk3.1.trans hkp.1, hk3.2.trans hkp.2⟩
        case measure => simp [intOf]
      · gi_wp2
        refine bodyPost_ret (results_none rfl _ _ _) rfl ?_
        exact ⟨⟨_, rfl⟩, .inr ⟨_, ⟨k + 1, by omega, hup.out⟩, hJx3⟩⟩
    · obtain rfl : zs.length = k := by omega
      have hneg : decide ((zs.length : Int) - 1 - (zs.length : Int) < 0) = true := decide_eq_true (by omega)
      gi_wp2
      go_end0
      exact ⟨⟨_, rfl⟩, .inl ⟨_, rfl, hJs⟩⟩

set_option maxRecDepth 100000 in
set_option maxHeartbeats 1000000 in
theorem back1_nil_in (F : Fence) (n : Nat) (h30 : F.fn 30) (hro : F.round = none) (l Bs : Nat) {α : Type} (J : List α → World → Prop) (W : World) (hBs : W.cell? ⟨Bs, 0, none⟩ = some (.slice none 0 0)) (h0 : J [] W) :
    CallsIn F n Try.prog 30 #[.func (.yield l) #[] #[], .pointer (some ⟨Bs, 0, none⟩)] W fun e W' => (∃ v, e = .returned v) ∧ J [] W' := by
  refine callsIn_of_wp Try.func30 rfl h30 ?_ hro
  simp only [Try.ntmps30, List.size_toArray, List.length_cons, List.length_nil, Nat.reduceAdd, Nat.reduceSub, Array.replicate_succ, Array.replicate_zero, List.push_toArray, List.append_toArray, List.nil_append, List.cons_append]
  gi_wp2
  gi_loopw [3] (fun i wr => i = .int .i64 (-1) ∧ J [] wr) (fun _ _ => 0)
  case atStart => exact ⟨rfl, h0⟩
  case round =>
    obtain ⟨rfl, hJs⟩ := hrel
    gi_wp2
    go_end0
    exact ⟨⟨_, rfl⟩, hJs⟩

/-- The slice value v holds the numbers zs, from the head of block g on; or there are none, and it is nil. -/
def Nums (W : World) (v : Value) (g : Nat) (zs : List Int) : Prop :=
  (v = .slice none 0 0 ∧ zs = []) ∨ ∃ cap, v = .slice (some ⟨g, 0, none⟩) zs.length cap ∧ ∀ j, j < zs.length → W.cell? ⟨g, 0 + j, none⟩ = some (.int .i64 (zs[j]?.getD 0))

theorem back_stops (F : Fence) (n : Nat) (h30 : F.fn 30) (hro : F.round = none) (hn : 1 ≤ n) (Bs g : Nat) (sv : Value) (zs : List Int) (hreach : zs.length * 8 ≤ 140737488351232) (w : World) (hBs : Bs < w.heap.size) (hg : g < w.heap.size)
    (hc : w.cell? ⟨Bs, 0, none⟩ = some sv) (hI : Nums w sv g zs) {α : Type} (f : Nat → α) (ix vx : α → Int) (hat : BackAt zs f ix vx) :
    SeqStopsK F n Try.prog 30 #[.pointer (some ⟨Bs, 0, none⟩)] (fun x : α => #[Value.int .i64 (ix x), Value.int .i64 (vx x)]) (KeepTwo Bs g) (fun ys => ys = upto f zs.length)
      (fun pre => ∃ k, k ≤ zs.length ∧ pre = upto f k) zs.length w := fun l J Jx W hW _ _ hY h0 => by
  have hc' := (hW.cell (p := ⟨Bs, 0, none⟩) hBs).trans hc
  rcases hI with ⟨rfl, rfl⟩ | ⟨cap, rfl, hcs⟩
  · exact (back1_nil_in F n h30 hro l Bs J W hc' h0).mono fun e W' ⟨he, hj⟩ => ⟨he, .inl ⟨_, rfl, hj⟩⟩
  · exact back1_in F n h30 hro hn l Bs g 0 cap zs hreach f ix vx hat J Jx hY W hc' (fun j hj => (hW.cell (p := ⟨g, 0 + j, none⟩) hg).trans (hcs j hj)) h0
end Go.Proofs.YtgdmdgkfababeaaH
