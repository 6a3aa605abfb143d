/-
  colour.Merged: the walk. Own work.
-/
import Derived.Test.YtgdmdgkfababeaaHMerB
namespace Go.Proofs.YtgdmdgkfababeaaH
open Go Go.RowKit Go.Shelf Go.Proofs.YtgdmdgkfababeaaCol Go.Proofs.Ytgdmdgkfababeaa.M Go.Proofs.YtgdmdgkfababeaaW.PrintWords

theorem after_neigh1 {N : Nat} {k : Int} {adj : Int → Int → Bool} {w w1 : World} (hg : Graph (w.alloc (.cells #[.int .i64 k] 3)).heap.size N adj w1)
    (hb : Below (w.alloc (.cells #[.int .i64 k] 3)).heap.size (w.alloc (.cells #[.int .i64 k] 3)) w1) :
    w1.cell? ⟨w.heap.size, 0, none⟩ = some (.int .i64 k) ∧ w.heap.size < w1.heap.size ∧ Graph (w.heap.size + 1) N adj w1 ∧ Below w.heap.size w w1 := by
  have e : (w.alloc (.cells #[.int .i64 k] 3)).heap.size = w.heap.size + 1 := by simp
  rw [e] at hg hb
  have hz := hb.size
  rw [e] at hz
  refine ⟨(hb.cell (p := ⟨w.heap.size, 0, none⟩) (by dsimp only; omega)).trans ?_, by omega, hg, ?_⟩
  · exact cell_of_row _ _ 0 _ 3 (0, 0) (heap_alloc_new w _)
  · exact ((Below.refl _ w).alloc (Nat.le_refl _) _).trans (hb.mono (by omega))

/-- What holds between two rounds. -/
structure MState (B s N : Nat) (k : Int) (st : Mer) (w W : World) : Prop where
  cells : MCells B s N k st.cls (fun i => decide (st.cls.getD i 0 = (i : Int))) st.adj W
  ok : st.Ok N
  below : Below B w W

theorem MState.alloc {B s N : Nat} {k : Int} {st : Mer} {w W : World} (h : MState B s N k st w W) (o : Obj) : MState B s N k st w (W.alloc o) :=
  ⟨h.cells.alloc o, h.ok, h.below.alloc (by have := h.cells.size; have := h.cells.hs; omega) o⟩
theorem MState.drewN {B s N : Nat} {k : Int} {st : Mer} {w W : World} (h : MState B s N k st w W) (n : Nat) : MState B s N k st w (W.drewN n) :=
  ⟨h.cells.drewN n, h.ok, ⟨h.below.os, h.below.tape, h.below.output, h.below.size, h.below.block⟩⟩
theorem MState.but {B s N : Nat} {k : Int} {st : Mer} {w W W' : World} (h : MState B s N k st w W) (hb : But [] W W') : MState B s N k st w W' :=
  ⟨h.cells.but hb (fun b e => by cases e), h.ok, h.below.trans (hb.toBelow (fun s e => by cases e) (by have := h.cells.size; have := h.cells.hs; omega))⟩
theorem MState.join {B s N : Nat} {k : Int} {st : Mer} {w W W' : World} (h : MState B s N k st w W) {a b : Nat} (hab : a < b) (hb : b < N) (ra : st.cls.getD a 0 = a) (rb : st.cls.getD b 0 = b) (hadj : st.adj a b = false)
    (C : MCells B s N k (st.cls.set b (a : Int)) (fun i => decide (st.cls.getD i 0 = (i : Int)) && !decide (i = b)) (joinAdj st.adj a b) W') (hbl : Below B W W') : MState B s N k (st.join a b) w W' :=
  ⟨by
    have e : (st.join (a : Int) (b : Int)).cls = st.cls.set b (a : Int) := by simp [Mer.join]
    rw [e]
    refine C.live_congr (fun i hi => ?_)
    rw [getD_set_int _ _ _ _ (by rw [h.ok.le.len]; exact hb)]
    by_cases e : b = i
    · subst e; rw [if_pos rfl, decide_eq_false (p := (a : Int) = (b : Int)) (by omega)]; simp
    · have : decide (i = b) = false := decide_eq_false (fun h => e h.symm)
      rw [if_neg e, this]; simp, h.ok.join hab hb ra rb hadj, h.below.trans hbl⟩

theorem pairs_drop (ms : List S44) (j : Nat) (hj : j < ms.length) : pairs (ms.drop j) = ((rd_T44 ms j).f0, (rd_T44 ms j).f1) :: pairs (ms.drop (j + 1)) := by
  unfold pairs rd_T44
  rw [List.drop_eq_getElem_cons hj, List.map_cons, Int.toNat_natCast, List.getD_eq_getElem?_getD, List.getElem?_eq_getElem hj]
  rfl
theorem mergeRound_none {N : Nat} {k : Int} {s : Mer} {ag : Bool} {m : Int × Int} {r : List (Int × Int)} (h : mergeOne N k s m = none) : mergeRound N k s ag (m :: r) = mergeRound N k s ag r := by
  rw [mergeRound, h]
theorem mergeRound_some {N : Nat} {k : Int} {s s' : Mer} {ag : Bool} {m : Int × Int} {r : List (Int × Int)} (h : mergeOne N k s m = some s') : mergeRound N k s ag (m :: r) = mergeRound N k s' true r := by
  rw [mergeRound, h]
theorem mergeOne_out {N : Nat} {k : Int} {s : Mer} {x y : Int} (h : x < 0 ∨ x ≥ N ∨ y < 0 ∨ y ≥ N) : mergeOne N k s (x, y) = none := by
  unfold mergeOne; rw [if_pos h]
theorem mergeOne_in {N : Nat} {k : Int} {s : Mer} {x y : Nat} (hx : x < N) (hy : y < N) : mergeOne N k s ((x : Int), (y : Int)) = if find s.cls x = find s.cls y ∨ s.adj (find s.cls x) (find s.cls y) = true ∨ harder s.adj N k (find s.cls x) (find s.cls y) = true then none
    else some (s.join (min (find s.cls x) (find s.cls y)) (max (find s.cls x) (find s.cls y))) := by
  unfold mergeOne
  rw [if_neg (by dsimp only; omega)]

set_option maxRecDepth 100000 in
set_option maxHeartbeats 4000000 in
theorem merged_some (N : Nat) (hN : N ≤ 8192) (k : Int) (A : Option Addr) (c : Nat) (l : List S44) (A2 : Option Addr) (c2 : Nat) (ms : List S44) (w : World) (hr : Kd.C k44 w A l.length l) (hl : l.length ≤ 1000000) (hr2 : Kd.C k44 w A2 ms.length ms) (hl2 : ms.length ≤ 1000000) :
    Calls Try.prog 15 #[.int .i64 (N : Int), .slice A l.length c, .slice A2 ms.length c2, .int .i64 k] w fun e w' => ∃ g, e = .returned (.slice (some ⟨g, 0, none⟩) N N) ∧ Row I64 3 w' g (merged N k (pairs l) (pairs ms)) ∧ w.heap.size ≤ g ∧ Below w.heap.size w w' := by
  have hb2 : Below w.heap.size w (w.alloc (.cells #[.int .i64 k] 3)) := (Below.refl _ w).alloc (Nat.le_refl _) _
  have HR := Lib.hid (Kd.C_below hr hb2)
  have HR2 := Lib.hid hr2
  clear hr hr2
  have HB2 := Lib.hid hb2
  clear hb2
  have hmk1 := print_make_of (P := Try.prog) 22 3 (I64 0) 8 Try.underlying22 info3 rfl (by decide) N (by omega)
  go_enter Try.func15, Try.ntmps15
  go_wp2_with (go_at_call 18; refine (neigh_one N hN A c l _ HR.out hl).mono ?_; rintro e w1 ⟨rfl, hgr, hbl⟩; obtain ⟨hk1, hz0, hgr1, hbl1⟩ := after_neigh1 hgr hbl; have HG := Lib.hid hgr1; have HB := Lib.hid hbl1; have HK1 := Lib.hid hk1; clear hgr hbl hgr1 hbl1)
  have HC := Lib.hid (MCells.start HK1.out HG.out)
  simp only [Nat.add_assoc, Nat.reduceAdd]
  clear hmk1 hk1 HG
  obtain ⟨adj, hadj⟩ : ∃ adj, adjOf (N : Int) (pairs l) = adj := ⟨_, rfl⟩
  rw [hadj] at HC
  have Hadj := Lib.hid hadj
  clear hadj
  go_loopw [33] (fun i wr => ∃ a : Nat, a ≤ N ∧ i = .int .i64 a ∧ MCells w.heap.size w1.heap.size N k (clss N a) (fun _ => true) adj wr ∧ Below w.heap.size w wr) (fun i _ => N - (intOf i).toNat)
  case atStart =>
    refine ⟨0, Nat.zero_le _, rfl, HC.out, ?_⟩
    have h := HB.out
    exact ((h.alloc h.size _).alloc (by have := h.size; simp; omega) _).alloc (by have := h.size; simp; omega) _
  case round =>
    clear HC HB HK1
    obtain ⟨a, ha, rfl, hC, hbl⟩ := hrel
    generalize w1.heap.size = s at hC ⊢
    generalize hBe : w.heap.size = B at hC hbl ⊢
    have HBe := Lib.hid hBe
    clear hBe
    have hs := hC.hs
    by_cases hlt : a < N
    · have hbc := hC.bcls
      have hcc := hC.cls_at hlt
      have hcf := hC.rcls.frozen a
      have hC2 := hC.setCls a (a : Int)
      rw [clss_succ] at hC2
      have hbl2 := hbl.setCell (p := ⟨s + 1, a, none⟩) (by dsimp only; omega) (I64 (a : Int))
      have HC2 := Lib.hid hC2
      have HBL2 := Lib.hid hbl2
      clear hC hC2 hbl hbl2
      unfold I64 at HC2 HBL2
      go_wp2
      go_roundw
      case rel => exact ⟨a + 1, by omega, by go_num, HC2.out, HBL2.out⟩
      case measure => simp [intOf]; omega
    · have hae : N = a := by omega
      subst hae
      rw [clss_all N adj] at hC
      clear ha hlt
      have hok : (merStart N adj).Ok N := by
        have := merStart_ok (n := (N : Int)) (by omega) (pairs l)
        rw [Hadj.out, Int.toNat_natCast] at this
        exact this
      have hM0 : MState B s N k (merStart N adj) w wr := ⟨hC.live_congr (fun i hi => by
        refine (decide_eq_true ?_).symm
        rw [← clss_all]
        unfold clss
        rw [range_getD _ _ _ _ hi, if_pos hi]), hok, hbl⟩
      have HM0 := Lib.hid hM0
      clear hC hbl hok hM0
      go_wp2
      obtain ⟨wo, rfl⟩ : ∃ wo : World, wo = wr := ⟨_, rfl⟩
      go_loopg [15] (N + 1) (fun t ag wr => ∃ (st : Mer) (b : Bool), ag = .bool b ∧ MState B s N k st w wr ∧ Hid ((b = true ∧ roots N st.cls < t ∧ mergeGo N k (pairs ms) t st = mergeGo N k (pairs ms) (N + 1) (merStart N adj)) ∨ (b = false ∧ st = mergeGo N k (pairs ms) (N + 1) (merStart N adj))))
      case atStart => exact ⟨_, true, rfl, HM0.out, .inl ⟨rfl, Nat.lt_succ_of_le (card_le _ _), rfl⟩⟩
      case round =>
        clear HM0
        obtain ⟨st, ag, rfl, hM, hgo⟩ := hrel
        cases ag with
        | false =>
          have hst : st = mergeGo N k (pairs ms) (N + 1) (merStart N adj) := by
            rcases hgo.out with h | h
            · exact absurd h.1 (by simp)
            · exact h.2
          have HM := Lib.hid hM
          have Hst := Lib.hid hst
          clear hgo hM hst
          go_wp2
          obtain ⟨wo2, rfl⟩ : ∃ wo2 : World, wo2 = wr := ⟨_, rfl⟩
          go_loopw [106] (fun i wr => ∃ a : Nat, a ≤ N ∧ i = .int .i64 a ∧ MCells B s N k (finish st.cls a) (fun i => decide (st.cls.getD i 0 = (i : Int))) st.adj wr ∧ Below B w wr) (fun i _ => N - (intOf i).toNat)
          case atStart => exact ⟨0, Nat.zero_le _, rfl, HM.out.cells, HM.out.below⟩
          case round =>
            obtain ⟨a, ha, rfl, hC, hbl⟩ := hrel
            by_cases hlt : a < N
            · have hle := finish_ok HM.out.ok.le a ha
              have hfin : (finish st.cls a).set a (find (finish st.cls a) (a : Int)) = finish st.cls (a + 1) := rfl
              have f0 := hC.bcls
              have hd0 : ∀ q, (wr.drewN q).cell? ⟨s + 1, a, none⟩ = some (.int .i64 ((finish st.cls a).getD a 0)) := fun q => hC.cls_at hlt
              have hd1 : ∀ q, (wr.drewN q).frozen? ⟨s + 1, a, none⟩ = false := fun q => hC.rcls.frozen a
              have hC2 := fun q => (hC.drewN q).setCls a (find (finish st.cls a) (a : Int))
              rw [hfin] at hC2
              have f1 := fun q => (hC2 q).bcls
              have hbl2 := fun q => ((⟨hbl.os, hbl.tape, hbl.output, hbl.size, hbl.block⟩ : Below B w (wr.drewN q))).setCell (p := ⟨s + 1, a, none⟩) (by dsimp only; omega) (I64 (find (finish st.cls a) (a : Int)))
              have hfind := fun q => find_any N hN (finish st.cls a) hle (s + 2) (s + 1) a hlt (wr.drewN q) hC.bcls (fun j hj => hC.cls_at hj)
              generalize find (finish st.cls a) (a : Int) = v at hC2 hbl2 hfind f1
              generalize (finish st.cls a).getD a 0 = v0 at hd0
              have HC2 := Lib.hid hC2
              have HBL2 := Lib.hid hbl2
              have Hfind := Lib.hid hfind
              clear hC hbl hle hfin hC2 hbl2 hfind
              unfold I64 at HC2 HBL2 f1
              go_wp2_with fail
              go_region_held3 (fun W => W.cell? ⟨s + 2, 0, none⟩ = some (.slice (some ⟨s + 1, 0, none⟩) N N)) (first | exact f0 | exact f1 _) ((refine (Hfind.out 1).mono ?_; rintro e w1 ⟨rfl, q, rfl⟩))
              go_wp2
              go_roundw
              case rel => exact ⟨a + 1, by omega, by go_num, by first | exact HC2.out _, by first | exact HBL2.out _⟩
              case measure => simp [intOf]; omega
            · have hae : N = a := by omega
              subst hae
              have hbc := hC.bcls
              have hrow : Row I64 3 wr (s + 1) (merged N k (pairs l) (pairs ms)) := by
                have := hC.rcls
                rw [Hst.out] at this
                unfold merged mergedOf
                rw [if_neg (by omega), Int.toNat_natCast, Hadj.out]
                exact this
              have HR3 := Lib.hid hrow
              have HBL := Lib.hid hbl
              clear hC hbl hrow
              go_wp2
              go_ret
              exact ⟨s + 1, rfl, HR3.out, by have := HBe.out; omega, by rw [HBe.out]; exact HBL.out⟩
        | true =>
          have hgo2 : roots N st.cls < gk ∧ mergeGo N k (pairs ms) gk st = mergeGo N k (pairs ms) (N + 1) (merStart N adj) := by
            rcases hgo.out with h | h
            · exact h.2
            · exact absurd h.1 (by simp)
          have Hgo := Lib.hid hgo2
          have HM := Lib.hid hM
          clear hgo hgo2 hM
          have HMst := Lib.hid HM.out
          go_wp2
          obtain ⟨wo2, rfl⟩ : ∃ wo2 : World, wo2 = wr := ⟨_, rfl⟩
          go_loopw [15, 47] (fun ag i wr => ∃ (j : Nat) (st' : Mer) (b : Bool), j ≤ ms.length ∧ i = .int .i64 (j : Int) ∧ ag = .bool b ∧ MState B s N k st' w wr ∧ Hid (mergeRound N k st' b (pairs (ms.drop j)) = mergeRound N k st false (pairs ms))) (fun _ i _ => ms.length - (intOf i).toNat)
          case atStart => exact ⟨0, st, false, Nat.zero_le _, rfl, rfl, HM.out, rfl⟩
          case round =>
            clear HM
            obtain ⟨j, st', ag, hj, rfl, rfl, hM, hro⟩ := hrel
            by_cases hlt : j < ms.length
            · obtain ⟨ad, rfl, hx0, hx1⟩ := at_T44 HR2.out (j : Int) (by omega) (by omega)
              have hb0 := World.block_lt_of_cell? w _ hx0
              rw [HBe.out] at hb0
              replace hx0 := (hM.below.cell hb0).trans hx0
              have hb1 := World.block_lt_of_cell? w _ hx1
              rw [HBe.out] at hb1
              replace hx1 := (hM.below.cell hb1).trans hx1
              clear hb0 hb1
              replace hro := hro.out
              rw [pairs_drop ms j hlt] at hro
              rw [Int.toNat_natCast] at hx0 hx1
              generalize (rd_T44 ms (j : Int)).f0 = x at hx0 hx1 hro
              generalize (rd_T44 ms (j : Int)).f1 = y at hx0 hx1 hro
              by_cases c1 : x < 0
              · have H : Hid (mergeRound N k st' ag (pairs (ms.drop (j + 1))) = mergeRound N k st false (pairs ms)) := by unfold Hid; rw [← mergeRound_none (mergeOne_out (s := st') (x := x) (y := y) (k := k) (N := N) (.inl c1)), hro]
                have HMa := Lib.hid (hM.alloc (.cells #[.int .i64 x, .int .i64 y] 44))
                clear hM hro
                go_wp2
                go_roundw
                case rel => exact ⟨j + 1, st', ag, by omega, by go_num, rfl, HMa.out, H⟩
                case measure => simp [intOf]; omega
              by_cases c2 : (N : Int) ≤ x
              · have H : Hid (mergeRound N k st' ag (pairs (ms.drop (j + 1))) = mergeRound N k st false (pairs ms)) := by unfold Hid; rw [← mergeRound_none (mergeOne_out (s := st') (x := x) (y := y) (k := k) (N := N) (.inr (.inl c2))), hro]
                have HMa := Lib.hid (hM.alloc (.cells #[.int .i64 x, .int .i64 y] 44))
                clear hM hro
                go_wp2
                go_roundw
                case rel => exact ⟨j + 1, st', ag, by omega, by go_num, rfl, HMa.out, H⟩
                case measure => simp [intOf]; omega
              by_cases c3 : y < 0
              · have H : Hid (mergeRound N k st' ag (pairs (ms.drop (j + 1))) = mergeRound N k st false (pairs ms)) := by unfold Hid; rw [← mergeRound_none (mergeOne_out (s := st') (x := x) (y := y) (k := k) (N := N) (.inr (.inr (.inl c3)))), hro]
                have HMa := Lib.hid (hM.alloc (.cells #[.int .i64 x, .int .i64 y] 44))
                clear hM hro
                go_wp2
                go_roundw
                case rel => exact ⟨j + 1, st', ag, by omega, by go_num, rfl, HMa.out, H⟩
                case measure => simp [intOf]; omega
              by_cases c4 : (N : Int) ≤ y
              · have H : Hid (mergeRound N k st' ag (pairs (ms.drop (j + 1))) = mergeRound N k st false (pairs ms)) := by unfold Hid; rw [← mergeRound_none (mergeOne_out (s := st') (x := x) (y := y) (k := k) (N := N) (.inr (.inr (.inr c4)))), hro]
                have HMa := Lib.hid (hM.alloc (.cells #[.int .i64 x, .int .i64 y] 44))
                clear hM hro
                go_wp2
                go_roundw
                case rel => exact ⟨j + 1, st', ag, by omega, by go_num, rfl, HMa.out, H⟩
                case measure => simp [intOf]; omega
              obtain ⟨xn, rfl⟩ : ∃ xn : Nat, x = (xn : Int) := ⟨x.toNat, by omega⟩
              obtain ⟨yn, rfl⟩ : ∃ yn : Nat, y = (yn : Int) := ⟨y.toNat, by omega⟩
              have hxn : xn < N := by omega
              have hyn : yn < N := by omega
              have hMa := hM.alloc (.cells #[.int .i64 (xn : Int), .int .i64 (yn : Int)] 44)
              have hone := mergeOne_in (s := st') (k := k) hxn hyn
              have hf : ∀ z : Nat, z < N → ∀ q, Calls Try.prog 22 #[.int .i64 (z : Int), .pointer (some ⟨s + 2, 0, none⟩)] ((wr.alloc (.cells #[.int .i64 (xn : Int), .int .i64 (yn : Int)] 44)).drewN q) fun e w' => e = .returned (.int .i64 (find st'.cls (z : Int))) ∧ ∃ q', w' = ((wr.alloc (.cells #[.int .i64 (xn : Int), .int .i64 (yn : Int)] 44)).drewN q).drewN q' := fun z hz q => find_any N hN st'.cls hM.ok.le (s + 2) (s + 1) z hz ((wr.alloc (.cells #[.int .i64 (xn : Int), .int .i64 (yn : Int)] 44)).drewN q) hMa.cells.bcls (fun j hj => hMa.cells.cls_at hj)
              have hpx := find_root hM.ok.le xn hxn
              have hpy := find_root hM.ok.le yn hyn
              have hnew : (wr.alloc (.cells #[.int .i64 (xn : Int), .int .i64 (yn : Int)] 44)).heap[wr.heap.size]? = some (.cells #[.int .i64 (xn : Int), .int .i64 (yn : Int)] 44 (0, 0)) := heap_alloc_new wr _
              have g0 : (wr.alloc (.cells #[.int .i64 (xn : Int), .int .i64 (yn : Int)] 44)).cell? ⟨wr.heap.size, 0, none⟩ = some (.int .i64 (xn : Int)) ∧ (wr.alloc (.cells #[.int .i64 (xn : Int), .int .i64 (yn : Int)] 44)).cell? ⟨wr.heap.size, 1, none⟩ = some (.int .i64 (yn : Int)) := ⟨cell_of_row _ _ 0 _ 44 (0, 0) hnew, cell_of_row _ _ 1 _ 44 (0, 0) hnew⟩
              have HMa := Lib.hid hMa
              have Hf := Lib.hid hf
              have Hone := Lib.hid hone
              have Hro := Lib.hid hro
              have Hpx := Lib.hid hpx
              have Hpy := Lib.hid hpy
              clear hMa hM hf hone hro hpx hpy hnew
              go_wp2_with fail
              generalize wr.alloc (.cells #[.int .i64 (xn : Int), .int .i64 (yn : Int)] 44) = W0 at HMa Hf g0 ⊢
              go_region_held3 (fun W => W.cell? ⟨wr.heap.size, 0, none⟩ = some (.int .i64 (xn : Int)) ∧ W.cell? ⟨wr.heap.size, 1, none⟩ = some (.int .i64 (yn : Int))) (first | exact g0) (((with_reducible show Calls Try.prog 22 _ _ _); (first | ((with_reducible show Calls Try.prog 22 #[.int .i64 (xn : Int), _] _ _); (refine (Hf.out _ (by assumption) _).mono ?_; rintro e w1 ⟨rfl, qx, rfl⟩)) | (refine (Hf.out _ (by assumption) _).mono ?_; rintro e w1 ⟨rfl, qy, rfl⟩))))
              have HM1' := Lib.hid (HMa.out.drewN (1 + qx + qy))
              clear HMa Hf g0
              generalize W0.drewN (1 + qx + qy) = W1 at HM1' ⊢
              have HM1 := HM1'
              clear HM1'
              generalize find st'.cls (xn : Int) = p at Hone Hpx ⊢
              generalize find st'.cls (yn : Int) = q at Hone Hpy ⊢
              obtain ⟨p, rfl⟩ : ∃ p' : Nat, p = (p' : Int) := ⟨p.toNat, by have := Hpx.out; omega⟩
              obtain ⟨q, rfl⟩ : ∃ q' : Nat, q = (q' : Int) := ⟨q.toNat, by have := Hpy.out; omega⟩
              have hpN : p < N := by have := Hpx.out; omega
              have hqN : q < N := by have := Hpy.out; omega
              have Px2 : Hid (st'.cls.getD p 0 = (p : Int)) := by have := Hpx.out.2.2; rwa [Int.toNat_natCast] at this
              have Py2 : Hid (st'.cls.getD q 0 = (q : Int)) := by have := Hpy.out.2.2; rwa [Int.toNat_natCast] at this
              have hpI : (p : Int) < (N : Int) := by omega
              have hqI : (q : Int) < (N : Int) := by omega
              clear Hpx Hpy
              by_cases c5 : p = q
              · subst c5
                have H : Hid (mergeRound N k st' ag (pairs (ms.drop (j + 1))) = mergeRound N k st false (pairs ms)) := by unfold Hid; rw [← mergeRound_none (by rw [Hone.out, if_pos (.inl rfl)]), Hro.out]
                go_wp2
                go_roundw
                case rel => exact ⟨j + 1, st', ag, by omega, by go_num, rfl, HM1.out, H⟩
                case measure => simp [intOf]; omega
              have c5' : ((p : Int) == (q : Int)) = false := by rw [beq_eq_false_iff_ne]; omega
              have hg := HM1.out.cells.bg
              have hmp := HM1.out.cells.map_at hpN (decide_eq_true Px2.out)
              have hlk := (HM1.out.cells.sets p hpN (decide_eq_true Px2.out)).look (t := 35) Try.underlying3 Try.underlying35 Try.underlying4 (zero4 _) (x := (q : Int)) (wfi_mk (by omega) (by omega))
              cases eadj : st'.adj (p : Int) (q : Int) with
              | true =>
                rw [eadj] at hlk
                have H : Hid (mergeRound N k st' ag (pairs (ms.drop (j + 1))) = mergeRound N k st false (pairs ms)) := by unfold Hid; rw [← mergeRound_none (by rw [Hone.out, if_pos (.inr (.inl eadj))]), Hro.out]
                go_wp2
                go_roundw
                case rel => exact ⟨j + 1, st', ag, by omega, by go_num, rfl, HM1.out, H⟩
                case measure => simp [intOf]; omega
              | false =>
                rw [eadj] at hlk
                have hadjN : ∀ i x, st'.adj i x = true → 0 ≤ x ∧ x < N := fun i x h => by
                  rw [HM1.out.ok.symm] at h
                  have := HM1.out.ok.supp _ _ h
                  exact ⟨this.1, this.2.1⟩
                have hlive : ∀ (i : Int) (x : Nat), st'.adj i x = true → decide (st'.cls.getD x 0 = (x : Int)) = true := fun i x h => by
                  rw [HM1.out.ok.symm] at h
                  have := (HM1.out.ok.supp _ _ h).2.2
                  rw [Int.toNat_natCast] at this
                  exact decide_eq_true this
                have hadjs := HM1.out.ok.symm
                have Hharder := Lib.hid (harder_any hN hadjN hlive HM1.out.cells p q hpN hqN (decide_eq_true Px2.out) (decide_eq_true Py2.out))
                have HadjN := Lib.hid hadjN
                have Hlive := Lib.hid hlive
                have Hadjs := Lib.hid hadjs
                have Eadj := Lib.hid eadj
                clear hadjN hlive hadjs eadj
                go_wp2_with fail
                refine Hharder.out.mono ?_
                rintro e w2 ⟨rfl, hbut⟩
                have HM2 := Lib.hid (HM1.out.but hbut)
                clear hbut hg hmp hlk
                cases eh : harder st'.adj N k (p : Int) (q : Int) with
                | true =>
                  have H : Hid (mergeRound N k st' ag (pairs (ms.drop (j + 1))) = mergeRound N k st false (pairs ms)) := by unfold Hid; rw [← mergeRound_none (by rw [Hone.out, if_pos (.inr (.inr eh))]), Hro.out]
                  go_wp2
                  go_roundw
                  case rel => exact ⟨j + 1, st', ag, by omega, by go_num, rfl, HM2.out, H⟩
                  case measure => simp [intOf]; omega
                | false =>
                  have hadjN := HadjN.out
                  have hlive := Hlive.out
                  have hadjs := Hadjs.out
                  have eadj := Eadj.out
                  by_cases c6 : p < q
                  · have Hab : p < q := by omega
                    have H : Hid (mergeRound N k (st'.join (p : Int) (q : Int)) true (pairs (ms.drop (j + 1))) = mergeRound N k st false (pairs ms)) := by
                      unfold Hid
                      rw [← mergeRound_some (ag := ag) (m := ((xn : Int), (yn : Int))) (s := st'), Hro.out]
                      rw [Hone.out, if_neg (by rw [eadj, eh]; simp; omega)]
                      rw [show min (p : Int) (q : Int) = (p : Int) by omega, show max (p : Int) (q : Int) = (q : Int) by omega]
                    have Hjoin := Lib.hid (join_any hN hadjN HM2.out.ok.symm HM2.out.ok.irr hlive HM2.out.cells p q (by omega) (by omega) (by omega) (decide_eq_true Px2.out) (decide_eq_true Py2.out) eadj)
                    have Hadj2 : Hid (st'.adj p q = false) := eadj
                    clear hadjN hlive hadjs eadj eh
                    go_wp2_with fail
                    refine Hjoin.out.mono ?_
                    rintro e w3 ⟨rfl, C3, B3⟩
                    have HM3 := Lib.hid (HM2.out.join Hab (by omega) Px2.out Py2.out Hadj2.out C3 B3)
                    clear C3 B3
                    go_wp2
                    go_roundw
                    case rel => exact ⟨j + 1, _, true, by omega, by go_num, rfl, HM3.out, H⟩
                    case measure => simp [intOf]; omega
                  · have Hab : q < p := by omega
                    have H : Hid (mergeRound N k (st'.join (q : Int) (p : Int)) true (pairs (ms.drop (j + 1))) = mergeRound N k st false (pairs ms)) := by
                      unfold Hid
                      rw [← mergeRound_some (ag := ag) (m := ((xn : Int), (yn : Int))) (s := st'), Hro.out]
                      rw [Hone.out, if_neg (by rw [eadj, eh]; simp; omega)]
                      rw [show min (p : Int) (q : Int) = (q : Int) by omega, show max (p : Int) (q : Int) = (p : Int) by omega]
                    have Hjoin := Lib.hid (join_any hN hadjN HM2.out.ok.symm HM2.out.ok.irr hlive HM2.out.cells q p (by omega) (by omega) (by omega) (decide_eq_true Py2.out) (decide_eq_true Px2.out) (by rw [hadjs]; exact eadj))
                    have Hadj2 : Hid (st'.adj q p = false) := (by rw [hadjs]; exact eadj)
                    clear hadjN hlive hadjs eadj eh
                    go_wp2_with fail
                    refine Hjoin.out.mono ?_
                    rintro e w3 ⟨rfl, C3, B3⟩
                    have HM3 := Lib.hid (HM2.out.join Hab (by omega) Py2.out Px2.out Hadj2.out C3 B3)
                    clear C3 B3
                    go_wp2
                    go_roundw
                    case rel => exact ⟨j + 1, _, true, by omega, by go_num, rfl, HM3.out, H⟩
                    case measure => simp [intOf]; omega
            · have hje : j = ms.length := by omega
              obtain ⟨t, rfl⟩ : ∃ t, gk = t + 1 := ⟨gk - 1, by have := Hgo.out.1; omega⟩
              have hend : Hid ((ag = true ∧ roots N st'.cls < t ∧ mergeGo N k (pairs ms) t st' = mergeGo N k (pairs ms) (N + 1) (merStart N adj)) ∨ (ag = false ∧ st' = mergeGo N k (pairs ms) (N + 1) (merStart N adj))) := by
                have h1 := hro.out
                rw [hje, List.drop_length] at h1
                have h1 : (st', ag) = mergeRound N k st false (pairs ms) := h1
                obtain ⟨h2, h3⟩ := Hgo.out
                have h4 := mergeRound_ok (k := k) (pairs ms) st false HMst.out.ok
                rw [mergeGo, ← h1] at h3
                rw [← h1] at h4
                cases ag with
                | true => exact .inl ⟨rfl, by have := h4.2.2 rfl; simp at this; omega, by simpa using h3⟩
                | false => exact .inr ⟨rfl, by simpa using h3⟩
              have HM2 := Lib.hid hM
              clear hM hro
              go_wp2
              go_roundg t
              case measure => omega
              case rel => exact ⟨st', ag, rfl, HM2.out, hend⟩
end Go.Proofs.YtgdmdgkfababeaaH
