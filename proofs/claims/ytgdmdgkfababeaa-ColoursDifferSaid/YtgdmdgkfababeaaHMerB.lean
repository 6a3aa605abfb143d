/-
  colour.Merged: the closures find and count. Own work.
-/
import Derived.Test.YtgdmdgkfababeaaHMerA
import Derived.Deep.LoopGhost
import Derived.Deep.RegionHeld3
import Derived.BigQuiet
namespace Go.Proofs.YtgdmdgkfababeaaH
open Go Go.RowKit Go.Shelf Go.Proofs.YtgdmdgkfababeaaCol Go.Proofs.Ytgdmdgkfababeaa.M Go.Proofs.YtgdmdgkfababeaaW.PrintWords

set_option maxRecDepth 100000 in
set_option maxHeartbeats 2000000 in
theorem find_any (N : Nat) (_hN : N ≤ 8192) (cls : List Int) (hL : LeOk N cls) (bc gc : Nat) (a : Nat) (ha : a < N) (w : World)
    (hc : w.cell? ⟨bc, 0, none⟩ = some (.slice (some ⟨gc, 0, none⟩) N N)) (hcc : ∀ j, j < N → w.cell? ⟨gc, j, none⟩ = some (.int .i64 (cls.getD j 0))) :
    Calls Try.prog 22 #[.int .i64 (a : Int), .pointer (some ⟨bc, 0, none⟩)] w fun e w' => e = .returned (.int .i64 (find cls (a : Int))) ∧ ∃ q, w' = w.drewN q := by
  have Hcc := Lib.hid hcc
  have HL := Lib.hid hL
  clear hcc hL
  go_enter Try.func22, Try.ntmps22
  go_wp2
  go_loopg [0] N (fun m v wr => ∃ c : Nat, c < N ∧ c < m ∧ v = .int .i64 (c : Int) ∧ Hid (findGo cls m (c : Int) = find cls (a : Int)) ∧ ∃ q, wr = w.drewN q)
  case atStart => exact ⟨a, ha, ha, rfl, (by unfold Hid find; rw [HL.out.len]), 0, rfl⟩
  case round =>
    obtain ⟨c, hcN, hcm, rfl, hgo, q, rfl⟩ := hrel
    have hcell := Hcc.out c hcN
    have h1 := HL.out.ge c hcN
    have h2 := HL.out.le c hcN
    have hgo' := hgo.out
    obtain ⟨m, rfl⟩ : ∃ m, gk = m + 1 := ⟨gk - 1, by omega⟩
    unfold findGo at hgo'
    rw [Int.toNat_natCast] at hgo'
    obtain ⟨d, hd⟩ : ∃ d : Nat, cls.getD c 0 = (d : Int) := ⟨(cls.getD c 0).toNat, by omega⟩
    rw [hd] at hcell hgo' h2
    clear hgo hd h1
    by_cases e : (d : Int) = (c : Int)
    · rw [if_pos e] at hgo'
      have H := Lib.hid hgo'
      clear hgo'
      have e' : d = c := by omega
      subst e'
      go_wp2
      go_ret
      exact ⟨ret_int H.out, (by first | exact ⟨_, rfl⟩ | (simp only [World.drewN_drewN]; exact ⟨_, rfl⟩))⟩
    · rw [if_neg e] at hgo'
      have H : Hid (findGo cls m (d : Int) = find cls (a : Int)) := hgo'
      clear hgo'
      have e' : ((d : Int) != (c : Int)) = true := by rw [bne_iff_ne]; exact e
      go_wp2
      go_roundg m
      case measure => omega
      case rel => exact ⟨d, by omega, by omega, rfl, H, (by first | exact ⟨_, rfl⟩ | (simp only [World.drewN_drewN]; exact ⟨_, rfl⟩))⟩

/-- What harder's loops hold: a, b, how many. -/
structure HSt (B s N : Nat) (k : Int) (cls : List Int) (live : Nat → Bool) (adj : Int → Int → Bool) (h a b : Nat) (many : Nat) (W : World) : Prop where
  cells : MCells B s N k cls live adj W
  ca : W.cell? ⟨h, 0, none⟩ = some (I64 (a : Int))
  cb : W.cell? ⟨h + 1, 0, none⟩ = some (I64 (b : Int))
  cm : W.heap[h + 2]? = some (.cells #[I64 (many : Int)] 3 (0, 0))
  hh : s + 3 ≤ h
  size : h + 3 ≤ W.heap.size

section
variable {B s N : Nat} {k : Int} {cls : List Int} {live : Nat → Bool} {adj : Int → Int → Bool} {h a b many : Nat} {W W' : World}
theorem HSt.same (H : HSt B s N k cls live adj h a b many W) (hz : W.heap.size ≤ W'.heap.size) (hb : ∀ j, j < h + 3 → W'.heap[j]? = W.heap[j]?) : HSt B s N k cls live adj h a b many W' :=
  have hh := H.hh
  { cells := H.cells.same hz (fun j hj => hb j (by omega)), ca := (World.cell?_of_block (hb _ (by dsimp only; omega))).trans H.ca, cb := (World.cell?_of_block (hb _ (by dsimp only; omega))).trans H.cb, cm := (hb _ (by omega)).trans H.cm, hh := hh, size := Nat.le_trans H.size hz }
theorem HSt.drewN (H : HSt B s N k cls live adj h a b many W) (n : Nat) : HSt B s N k cls live adj h a b many (W.drewN n) := H.same (Nat.le_refl _) (fun _ _ => rfl)
theorem HSt.grown (H : HSt B s N k cls live adj h a b many W) {row : Option Nat} (hg : W.grownBy W' row) (hr : ∀ b, row = some b → h + 3 ≤ b) : HSt B s N k cls live adj h a b many W' :=
  H.same hg.size (fun j hj => hg.block j (by have := H.size; omega) (fun e => by have := hr j e.symm; omega))
theorem HSt.one (H : HSt B s N k cls live adj h a b many W) : HSt B s N k cls live adj h a b (many + 1) (W.setCell ⟨h + 2, 0, none⟩ (I64 ((many + 1 : Nat) : Int))) :=
  have hh := H.hh
  { cells := H.cells.far (by dsimp only; omega) _, ca := (cell_far (by dsimp only; omega) _).trans H.ca, cb := (cell_far (by dsimp only; omega) _).trans H.cb,
    cm := by
      have h' := H.cm
      simp only [World.setCell, Array.getElem?_modify, h', if_true, Option.map_some, Option.isSome_none, Bool.false_eq_true, if_false]
      rfl
    hh := hh, size := by simp [World.setCell]; exact H.size }
theorem HSt.manyc (H : HSt B s N k cls live adj h a b many W) : W.cell? ⟨h + 2, 0, none⟩ = some (.int .i64 (many : Int)) := cell_of_row _ _ 0 _ 3 (0, 0) H.cm
theorem HSt.frozen (H : HSt B s N k cls live adj h a b many W) : W.frozen? ⟨h + 2, 0, none⟩ = false := by
  simp [World.frozen?, H.cm]
end

set_option maxRecDepth 100000 in
set_option maxHeartbeats 2000000 in
theorem count_any {B s N : Nat} (hN : N ≤ 8192) {k : Int} {cls : List Int} {live : Nat → Bool} {adj : Int → Int → Bool} (hadj : ∀ i x, adj i x = true → 0 ≤ x ∧ x < N) {h a b many : Nat} (hm : many ≤ 20000) {w : World} (H : HSt B s N k cls live adj h a b many w) (x : Nat) (hx : x < N) (ha : a < N) (hb : b < N)
    (lx : live x = true) (la : live a = true) (lb : live b = true) :
    Calls Try.prog 24 #[.int .i64 (x : Int), .pointer (some ⟨s, 0, none⟩), .pointer (some ⟨h, 0, none⟩), .pointer (some ⟨h + 1, 0, none⟩), .pointer (some ⟨B, 0, none⟩), .pointer (some ⟨h + 2, 0, none⟩)] w fun e w' =>
      e = .returned (.tuple #[]) ∧ HSt B s N k cls live adj h a b (many + if hardAt adj N k a b x = true then 1 else 0) w' ∧ But [h + 2] w w' := by
  have hc := H.cells
  have hg := hc.bg
  have mx := hc.map_at hx lx
  have ma := hc.map_at ha la
  have mb := hc.map_at hb lb
  have ca := H.ca
  have cb := H.cb
  have ck := hc.bk
  have cm := H.manyc
  have cf := H.frozen
  have hlen := SetAt.len (hc.sets x hx lx) Try.underlying3 Try.underlying35 (N := N) (by omega) (hadj x)
  have la1 := (hc.sets a ha la).look (t := 35) Try.underlying3 Try.underlying35 Try.underlying4 (zero4 _) (x := (x : Int)) (wfi_mk (by omega) (by omega))
  have lb1 := (hc.sets b hb lb).look (t := 35) Try.underlying3 Try.underlying35 Try.underlying4 (zero4 _) (x := (x : Int)) (wfi_mk (by omega) (by omega))
  have hcard := card_le N (adj (x : Int))
  have hha : hardAt adj N k a b x = decide (k ≤ (card N (adj (x : Int)) : Int) - (if (adj a x && adj b x) = true then 1 else 0)) := rfl
  generalize card N (adj (x : Int)) = d at hlen hcard hha
  have HH := Lib.hid H
  have Hha := Lib.hid hha
  clear H hc hadj hha
  unfold I64 at ca cb ck
  cases ea : adj (a : Int) (x : Int) with
  | true =>
    rw [ea] at la1 Hha
    cases eb : adj (b : Int) (x : Int) with
    | true =>
      rw [eb] at lb1 Hha
      by_cases hk : k ≤ (d : Int) - 1
      · have e : hardAt adj N k a b x = true := by rw [Hha.out]; exact decide_eq_true (by simpa using hk)
        rw [e]
        clear Hha e ea eb
        go_enter Try.func24, Try.ntmps24
        go_wp2
        go_end0
        exact ⟨rfl, HH.out.one, (But.refl _ _).setCell (.inl (by simp)) _⟩
      · have e : hardAt adj N k a b x = false := by rw [Hha.out]; exact decide_eq_false (by simpa using hk)
        rw [e]
        clear Hha e ea eb
        go_enter Try.func24, Try.ntmps24
        go_wp2
        go_end0
        exact ⟨rfl, HH.out, (But.refl _ _)⟩
    | false =>
      rw [eb] at lb1 Hha
      by_cases hk : k ≤ (d : Int)
      · have e : hardAt adj N k a b x = true := by rw [Hha.out]; exact decide_eq_true (by simpa using hk)
        rw [e]
        clear Hha e ea eb
        go_enter Try.func24, Try.ntmps24
        go_wp2
        go_end0
        exact ⟨rfl, HH.out.one, (But.refl _ _).setCell (.inl (by simp)) _⟩
      · have e : hardAt adj N k a b x = false := by rw [Hha.out]; exact decide_eq_false (by simpa using hk)
        rw [e]
        clear Hha e ea eb
        go_enter Try.func24, Try.ntmps24
        go_wp2
        go_end0
        exact ⟨rfl, HH.out, (But.refl _ _)⟩
  | false =>
    rw [ea] at la1 Hha
    by_cases hk : k ≤ (d : Int)
    · have e : hardAt adj N k a b x = true := by rw [Hha.out]; exact decide_eq_true (by simpa using hk)
      rw [e]
      clear Hha e ea
      go_enter Try.func24, Try.ntmps24
      go_wp2
      go_end0
      exact ⟨rfl, HH.out.one, (But.refl _ _).setCell (.inl (by simp)) _⟩
    · have e : hardAt adj N k a b x = false := by rw [Hha.out]; exact decide_eq_false (by simpa using hk)
      rw [e]
      clear Hha e ea
      go_enter Try.func24, Try.ntmps24
      go_wp2
      go_end0
      exact ⟨rfl, HH.out, (But.refl _ _)⟩
end Go.Proofs.YtgdmdgkfababeaaH
