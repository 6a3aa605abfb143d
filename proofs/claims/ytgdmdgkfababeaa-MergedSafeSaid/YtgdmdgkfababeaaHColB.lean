/-
  colour.Colours: the walk. Own work.
-/
import Derived.Test.YtgdmdgkfababeaaHColD
import Derived.TacticsInMore
import Derived.RangeFuncNested
import Derived.RangeFuncBound
import Derived.RangeFuncCalls
import Derived.Deep.LoopGhost
namespace Go.Proofs.YtgdmdgkfababeaaH
open Go Go.RowKit Go.Shelf Go.Proofs.YtgdmdgkfababeaaCol Go.Proofs.Ytgdmdgkfababeaa.M Go.Proofs.YtgdmdgkfababeaaW.PrintWords

theorem cal {w : World} {p : Addr} {v : Value} (h : w.cell? p = some v) (o : Obj) : (w.alloc o).cell? p = some v := (World.cell?_of_block (Below.heap_alloc w o p.block (World.block_lt_of_cell? w p h))).trans h
theorem after_neigh {N : Nat} {k : Int} {adj : Int → Int → Bool} {w w1 : World} (hg : Graph ((w.alloc (.cells #[.int .i64 (N : Int)] 3)).alloc (.cells #[.int .i64 k] 3)).heap.size N adj w1)
    (hb : Below ((w.alloc (.cells #[.int .i64 (N : Int)] 3)).alloc (.cells #[.int .i64 k] 3)).heap.size ((w.alloc (.cells #[.int .i64 (N : Int)] 3)).alloc (.cells #[.int .i64 k] 3)) w1) :
    w1.cell? ⟨w.heap.size, 0, none⟩ = some (.int .i64 (N : Int)) ∧ w1.cell? ⟨w.heap.size + 1, 0, none⟩ = some (.int .i64 k) ∧ w.heap.size + 1 < w1.heap.size ∧ Graph (w.heap.size + 2) N adj w1 ∧ Below w.heap.size w w1 := by
  have e : ((w.alloc (.cells #[.int .i64 (N : Int)] 3)).alloc (.cells #[.int .i64 k] 3)).heap.size = w.heap.size + 2 := by simp
  rw [e] at hg hb
  have hz := hb.size
  rw [e] at hz
  refine ⟨(hb.cell (p := ⟨w.heap.size, 0, none⟩) (by dsimp only; omega)).trans ?_, (hb.cell (p := ⟨w.heap.size + 1, 0, none⟩) (by dsimp only; omega)).trans ?_, by omega, hg, ?_⟩
  · rw [World.cell?_of_block (Below.heap_alloc _ _ _ (by simp))]; exact cell_of_row _ _ 0 _ 3 (0, 0) (heap_alloc_new w _)
  · exact cell_of_row _ _ 0 _ 3 (0, 0) (by have := heap_alloc_new (w.alloc (.cells #[.int .i64 (N : Int)] 3)) (.cells #[.int .i64 k] 3); rwa [World.size_alloc] at this)
  · exact (((Below.refl _ w).alloc (Nat.le_refl _) _).alloc (by simp) _).trans (hb.mono (by omega))

attribute [local go_sem] Oper.semAt_some

theorem keepTwo_put {b g : Nat} {W : World} {l : Nat} {o : Obj} (o' : Obj) (hl : W.heap[l]? = some o) (hb : b < l) (hg : g < l) : KeepTwo b g W (W.putObj l o') := by
  have hlt := (Array.getElem?_eq_some_iff.1 hl).1
  have h := grownBy_putObj' W l o'
  exact ⟨h.block b (by omega) (by simp; omega), h.block g (by omega) (by simp; omega)⟩

/-- What holds between two rounds of the last loop. -/
structure Between (B s N : Nat) (k : Int) (adj : Int → Int → Bool) (st : Ord) (w : World) (m : Nat) (pre : List (El N)) (W : World) : Prop where
  cells : Cells B s N k adj st.deg (painted adj N k pre) st.gone W
  below : Below B w W
  size : m ≤ W.heap.size
theorem between_own {B s N : Nat} {k : Int} {adj : Int → Int → Bool} {st : Ord} {w : World} {m b : Nat} (hb : s + 7 ≤ b) (hs : B + 4 + N ≤ s) : OwnFrom b (Between B s N k adj st w m) :=
  fun _ A A' row h hg hr => ⟨h.cells.grown hg (fun b' e => Nat.le_trans hb (hr b' e).1), h.below.grown hg (by have := h.cells.size; omega) (fun b' e => by have := (hr b' e).1; omega), Nat.le_trans h.size hg.size⟩

theorem freeGo_succ (used : Int → Bool) (m : Nat) (c : Int) : freeGo used (m + 1) c = if used c = true then freeGo used m (c + 1) else some c := rfl
theorem between_end {B s N : Nat} {k : Int} {adj : Int → Int → Bool} {st : Ord} {w W W' : World} {m m' b g : Nat} {pre : List (El N)} (hbut : But [s + 3] W W') (hm : s + 3 < m') (hb : s + 3 < b) (hg : s + 3 < g) (hbW : b < W.heap.size) (hgW : g < W.heap.size)
    (hc : Cells B s N k adj st.deg (painted adj N k pre) st.gone W') (hbl : Below B w W') (hmW : m ≤ W.heap.size) : KeepsFrom m' W W' ∧ KeepTwo b g W W' ∧ Between B s N k adj st w m pre W' :=
  ⟨⟨hbut.size, fun k o hk ho _ => (hbut.block k (Array.getElem?_eq_some_iff.1 ho).1 (by simp; omega)).trans ho⟩, ⟨hbut.block b hbW (by simp; omega), hbut.block g hgW (by simp; omega)⟩, ⟨hc, hbl, Nat.le_trans hmW hbut.size⟩⟩

set_option maxRecDepth 100000 in
set_option maxHeartbeats 4000000 in
theorem colours_some (N : Nat) (hN : N ≤ 8192) (k : Int) (hk : k ≤ 1000000) (A : Option Addr) (c : Nat) (l : List S44) (w : World) (hr : Kd.C k44 w A l.length l) (hl : l.length ≤ 1000000) :
    Calls Try.prog 11 #[.int .i64 (N : Int), .slice A l.length c, .int .i64 k] w fun e w' => ∃ g, e = .returned (.slice (some ⟨g, 0, none⟩) N N) ∧ Row I64 3 w' g (colours N k (pairs l)) ∧ w.heap.size ≤ g ∧ Below w.heap.size w w' := by
  have hb2 : Below w.heap.size w ((w.alloc (.cells #[.int .i64 (N : Int)] 3)).alloc (.cells #[.int .i64 k] 3)) := ((Below.refl _ w).alloc (Nat.le_refl _) _).alloc (by simp) _
  have HR := Lib.hid (Kd.C_below hr hb2)
  clear hr
  have HB2 := Lib.hid hb2
  clear hb2
  have hmk1 := print_make_of (P := Try.prog) 22 3 (I64 0) 8 Try.underlying22 info3 rfl (by decide) N (by omega)
  have hmk2 := print_make_of (P := Try.prog) 36 4 (Value.bool false) 1 Try.underlying36 info4 rfl (by decide) N (by omega)
  rw [← callsIn_wide (n := 4)]
  refine callsIn_of_wp_marks Try.func11 rfl trivial ?_ rfl
  rw [wpIn_wide]
  simp only [Try.ntmps11, List.size_toArray, List.length_cons, List.length_nil, Nat.reduceAdd, Nat.reduceSub, Array.replicate_succ, Array.replicate_zero, List.push_toArray, List.append_toArray, List.nil_append, List.cons_append]
  go_wp2_with (go_at_call 18; refine (neigh_one N hN A c l _ HR.out hl).mono ?_; rintro e w1 ⟨rfl, hgr, hbl⟩; obtain ⟨hn1, hk1, hz1, hgr1, hbl1⟩ := after_neigh hgr hbl; have hz0 : w.heap.size < w1.heap.size := Nat.lt_of_succ_lt hz1; have n3 := fun a b c => cal (cal (cal hn1 a) b) c; have n5 := fun a b c d e => cal (cal (n3 a b c) d) e; have n7 := fun a b c d e f g => cal (cal (n5 a b c d e) f) g; have HG := Lib.hid hgr1; have HB := Lib.hid hbl1; have HN1 := Lib.hid hn1; have HK1 := Lib.hid hk1; clear hgr hbl hgr1 hbl1)
  have HC := Lib.hid (Cells.start HN1.out HK1.out HG.out)
  simp only [Nat.add_assoc, Nat.reduceAdd]
  clear hmk1 hmk2 hn1 hk1 n3 n5 n7 hz0 hz1 HG
  obtain ⟨adj, hadj⟩ : ∃ adj, adjOf (N : Int) (pairs l) = adj := ⟨_, rfl⟩
  rw [hadj] at HC
  have Hadj := Lib.hid hadj
  clear hadj
  go_loopw [37] (fun i wr => ∃ a : Nat, a ≤ N ∧ i = .int .i64 a ∧ Cells w.heap.size w1.heap.size N k adj (degs N adj a) (outs N a) (List.replicate N false) wr ∧ Below w.heap.size w wr) (fun i _ => N - (intOf i).toNat)
  case atStart =>
    refine ⟨0, Nat.zero_le _, rfl, HC.out, ?_⟩
    have h := HB.out
    exact (((((((h.alloc h.size _).alloc (by have := h.size; simp; omega) _).alloc (by have := h.size; simp; omega) _).alloc (by have := h.size; simp; omega) _).alloc (by have := h.size; simp; omega) _).alloc (by have := h.size; simp; omega) _).alloc (by have := h.size; simp; omega) _)
  case round =>
    clear HC HB HN1 HK1
    obtain ⟨a, ha, rfl, hC, hbl⟩ := hrel
    generalize w1.heap.size = s at hC ⊢
    generalize hBe : w.heap.size = B at hC hbl ⊢
    have HBe := Lib.hid hBe
    clear hBe
    have hs := hC.hs
    by_cases hlt : a < N
    · have hadjN : ∀ i x, adj i x = true → 0 ≤ x ∧ x < N := fun i x h => by rw [← Hadj.out] at h; exact (adjOf_range h).2.1
      have hlen := fun (W : World) (deg out : List Int) (h : Cells B s N k adj deg out (List.replicate N false) W) (ty : TypeId) => SetAt.len (h.set_at a hlt) Try.underlying3 Try.underlying35 (N := N) (by omega) (hadjN a) ty
      have f0 := And.intro (hlen _ _ _ hC.drew) (hC.drew.r1 a hlt)
      have hC1 := hC.setDeg a (card N (adj (a : Int)) : Int)
      have f1 := And.intro (hlen _ _ _ hC1.drew) (hC1.drew.r1 a hlt)
      have hC2 := hC1.setOut a (-1)
      rw [degs_succ, outs_succ] at hC2
      have f2 := And.intro (hlen _ _ _ hC2.drew) (hC2.drew.r1 a hlt)
      have hd0 := hC.drew.rdeg.cell 0 a (by rw [hC.ld]; exact hlt)
      have hd1 := hC.drew.rdeg.frozen a
      have ho0 := hC1.drew.rout.cell 0 a (by rw [hC.lo]; exact hlt)
      have ho1 := hC1.drew.rout.frozen a
      have hbl2 := (hbl.setCell (p := ⟨s + 1, a, none⟩) (by dsimp only; omega) (I64 (card N (adj (a : Int)) : Int))).setCell (p := ⟨s + 3, a, none⟩) (by dsimp only; omega) (I64 (-1))
      have HC2 := Lib.hid hC2.drew
      have HBL2 := Lib.hid hbl2.drew
      clear hC hC1 hC2 hbl hbl2 hadjN hlen
      unfold I64 at f0 f1 f2 hd0 hd1 ho0 ho1 HC2 HBL2
      go_wp2_with fail
      go_region_held3 (fun W => (∀ ty, (Builtin.len_ #[35] ty #[.map (some (B + 4 + a))]).run Try.prog W = .ok (.int .i64 (card N (adj (a : Int)) : Int)) W) ∧ W.cell? ⟨s + 2, 0, none⟩ = some (.slice (some ⟨s + 1, 0, none⟩) N N) ∧ W.cell? ⟨s + 4, 0, none⟩ = some (.slice (some ⟨s + 3, 0, none⟩) N N) ∧ W.cell? ⟨s, 0, none⟩ = some (.slice (some ⟨B + 3, 0, none⟩) N N) ∧ W.cell? ⟨B + 3, a, none⟩ = some (.map (some (B + 4 + a)))) (first | exact f0 | exact f1 | exact f2) (fail)
      go_wp2
      go_roundw
      case rel => exact ⟨a + 1, by omega, by go_num, HC2.out, HBL2.out⟩
      case measure => simp [intOf]; omega
    · have hae : N = a := by omega
      subst hae
      rw [degs_all _ _ k, outs_all] at hC
      clear ha hlt
      have hbn := hC.bn
      unfold I64 at hbn
      have hM0 : Mid B s N k adj (ordRun adj N k 0).deg (List.replicate N (-1)) (ordRun adj N k 0).gone (.slice none 0 0) (ordRun adj N k 0).ord w wr := ⟨hC, World.ownsRow_nil _ _ _ _, hbl⟩
      have HM0 := Lib.hid hM0
      have hadjN : ∀ i x, adj i x = true → 0 ≤ x ∧ x < N := fun i x h => by rw [← Hadj.out] at h; exact (adjOf_range h).2.1
      have HadjN := Lib.hid hadjN
      clear hC hbl hM0 hadjN
      go_wp2
      obtain ⟨wo, rfl⟩ : ∃ wo : World, wo = wr := ⟨_, rfl⟩
      go_loopw [13, 54] (fun ov i wr => ∃ t : Nat, t ≤ N ∧ i = .int .i64 t ∧ Mid B s N k adj (ordRun adj N k t).deg (List.replicate N (-1)) (ordRun adj N k t).gone ov (ordRun adj N k t).ord w wr) (fun _ i _ => N - (intOf i).toNat)
      case atStart => exact ⟨0, Nat.zero_le _, rfl, HM0.out⟩
      case round =>
        clear HM0 hbn
        obtain ⟨t, ht, rfl, hM⟩ := hrel
        by_cases hlt : t < N
        · have hok := ordRun_ok adj N k t ht
          have hnx : ordRun adj N k (t + 1) = ordStep adj N k (ordRun adj N k t) := rfl
          generalize ordRun adj N k t = st at hM hok hnx
          obtain ⟨p0, p1, _⟩ := pick_ok hok hlt k
          obtain ⟨a, hpk⟩ : ∃ a : Nat, pick N st.gone st.deg k = (a : Int) := ⟨(pick N st.gone st.deg k).toNat, by omega⟩
          have haN : a < N := by omega
          have hstep : ordRun adj N k (t + 1) = { gone := st.gone.set a true, deg := decr st.deg (adj (a : Int)), ord := st.ord ++ [(a : Int)] } := by
            rw [hnx]; unfold ordStep; rw [hpk]; simp
          have Hstep := Lib.hid hstep
          clear hstep hnx p0 p1
          have hC := hM.cells
          have hp := pick_any N hN st.gone st.deg k B (s + 6) (s + 2) (B + 1) (s + 5) (s + 1) wr hC.bn hC.bgone hC.bdeg hC.bk (fun j hj => hC.rgone.cell false j (by rw [hC.lg]; exact hj)) (fun j hj => hC.rdeg.cell 0 j (by rw [hC.ld]; exact hj))
          rw [hpk] at hp
          have Hp := Lib.hid hp
          have Hok := Lib.hid hok
          have HM := Lib.hid hM
          clear hC hp hpk hM hok
          have hbnw := HM.out.cells.bn
          unfold I64 at hbnw
          go_wp2_with fail
          clear hbnw
          refine Hp.out.mono ?_
          rintro e w2 ⟨rfl, q, hq⟩
          have hM2 := HM.out.drewN q
          rw [← hq] at hM2
          clear hq HM Hp
          have hg1 := hM2.cells.bgone
          have hg2 := hM2.cells.rgone.cell false a (by rw [hM2.cells.lg]; exact haN)
          have hg3 := hM2.cells.rgone.frozen a
          have haN' : (a : Int) < (N : Int) := by omega
          have ha0 : (0 : Int) ≤ (a : Int) := by omega
          have HM3 := Lib.hid (hM2.setGone a true)
          clear hM2
          go_wp2_with (at_builtin; (refine append_try (W := w2.setCell ⟨s + 5, a, none⟩ (.bool true)) (s + 7) rfl _ _ rfl u13 st.ord (a : Int) rfl w2.heap.size rfl (by simp [World.setCell]) HM3.out.own HM3.out.cells.size (by have := Hok.out.ol; omega) ?_); intro v1 w4 hown1 hg4 _; have hM4 := HM3.out.appended hown1 hg4; have hc1 := hM4.cells.bg; have hc2 := hM4.cells.map_at a haN; obtain ⟨w5, hrun5, hM5, hR5⟩ := hM4.range hN haN HadjN.out; have HI := Lib.hid (Inner.start hM5 hR5); have hz4 := hM4.cells.size; have ho4 := fun b hb => (hown1.lt b hb).2; have Hz4 := Lib.hid hz4; have Ho4 := Lib.hid ho4; clear hown1 hg4 hM4 hM5 hR5 HM3 hz4 ho4)
          clear hc1 hc2 hrun5
          generalize w4.heap.size = r at HI Hz4 Ho4 ⊢
          obtain ⟨wo2, rfl⟩ : ∃ wo2 : World, wo2 = wr := ⟨_, rfl⟩
          go_loopw [15] (fun _ wr => ∃ (L : Int → Bool) (cnt : Nat), Inner B s N r k adj st.deg (List.replicate N (-1)) (st.gone.set a true) v1 (st.ord ++ [(a : Int)]) a L cnt w wr) (fun _ wr => wr.rangeLeft (B + 4 + a) r)
          case atStart => exact ⟨_, _, HI.out⟩
          case round =>
            clear HI
            obtain ⟨L, cnt, hI⟩ := hrel
            rcases hI.step haN Hz4.out Ho4.out Hok.out.dl HadjN.out with ⟨h0, hrun⟩ | ⟨x, w6, L', cnt', hxN, hrun, hlt6, hen, hb6, hd6, hf6, hI6⟩
            · have HM6 := Lib.hid (hI.done h0)
              clear hI h0
              go_wp2
              go_roundw
              case rel => exact ⟨t + 1, by omega, by go_num, by rw [Hstep.out]; exact HM6.out⟩
              case measure => simp [intOf]; omega
            · have hxN' : (x : Int) < (N : Int) := by omega
              have hx0 : (0 : Int) ≤ (x : Int) := by omega
              have hdb := Hok.out.db x hxN
              generalize st.deg.getD x 0 = d at hd6 hdb hI6
              have hd1 : -9000 ≤ d := by omega
              have hd2 : d ≤ 9000 := by omega
              have HI6 := Lib.hid hI6
              have HLt := Lib.hid hlt6
              have HIo := Lib.hid hI
              clear hI6 hdb hlt6 hI
              go_wp2
              go_roundw
              case rel => exact ⟨L', cnt', HI6.out⟩
              case measure => rw [HI6.out.range.left_eq, HIo.out.range.left_eq]; exact HLt.out
        · have hte : N = t := by omega
          subst hte
          clear ht hlt
          have hok := ordRun_ok adj N k N (Nat.le_refl N)
          obtain ⟨st, hst⟩ : ∃ st, ordRun adj N k N = st := ⟨_, rfl⟩
          rw [hst] at hM hok
          have Hst := Lib.hid hst
          clear hst
          obtain ⟨g, hgl, hgb, _, hnum⟩ := nums_of hM.own hM.cells.size (by have := hM.cells.size; omega)
          have Hnum := Lib.hid hnum
          have Hgl := Lib.hid hgl
          have hsl := slice_of hM.own
          have HM := Lib.hid hM
          have Hsl := Lib.hid hsl
          have Hok := Lib.hid hok
          have Hgb := Lib.hid hgb
          clear hM hsl hok hnum hgb hgl
          go_wp2_with (go_at_call 20; refine (backward_any _ _ Hsl.out).mono ?_; rintro e w2 ⟨rfl, rfl⟩)
          rw [← wpIn_wide (n := 4)]
          have hs7 := HM.out.cells.size
          have hlo := Hok.out.ol
          have hnum1 : Nums (wr.alloc (.cells #[u13] 22)) u13 g st.ord := by
            rcases Hnum.out with h | ⟨cap, e, h⟩
            · exact .inl h
            · exact .inr ⟨cap, e, fun j hj => cal (h j hj) _⟩
          refine wpIn_rangeFunc_ownG (F := Fence.wide) (α := El N) rfl (by decide) (gf := 30) (lb := #[.pointer (some ⟨wr.heap.size, 0, none⟩)]) rfl trivial (enters_of Try.func30 (by kernel_rfl) rfl)
            (back_stops Fence.wide 3 trivial rfl (by decide) wr.heap.size g u13 st.ord (by omega) _ (by simp) (by have := Hgl.out; simp; omega) (cell_of_row _ _ 0 _ 22 (0, 0) (heap_alloc_new wr _)) hnum1 (elAt st.ord Hok.out.ob) (fun x => x.1.1) (fun x => x.1.2) (elAt_back st.ord Hok.out.ob))
            (fun h1 h2 => ⟨h2.1.trans h1.1, h2.2.trans h1.2⟩) (fun W l o o' hl ho _ _ => keepTwo_put o' ho (by simp at hl; omega) (by have := Hgl.out; simp at hl; omega)) (Below.refl _ _) (fun _ => rfl)
            (Between B s N k adj st w (wr.heap.size + 1)) (fun _ _ _ => False) (between_own (by simp; omega) HM.out.cells.hs) (fun _ _ _ _ _ hs _ _ => hs)
            ⟨HM.out.cells.alloc _, HM.out.below.alloc (by have := HM.out.cells.hs; omega) _, by simp⟩
            (fun x => { tmps := #[Value.int IntKind.i64 (N : Int), Value.slice A l.length c, Value.int IntKind.i64 k, Value.pointer (some ⟨B, 0, none⟩), undef, Value.pointer (some ⟨B + 1, 0, none⟩), Value.slice none 0 0, Value.pointer (some ⟨s, 0, none⟩), Value.pointer (some ⟨s + 2, 0, none⟩), Value.pointer (some ⟨s + 4, 0, none⟩), Value.pointer (some ⟨s + 6, 0, none⟩), u11, Value.func (Fn.func 19) #[] #[Value.pointer (some ⟨B, 0, none⟩), Value.pointer (some ⟨s + 6, 0, none⟩), Value.pointer (some ⟨s + 2, 0, none⟩), Value.pointer (some ⟨B + 1, 0, none⟩)], u13, u14, u15, undef, .int .i64 x.1.2, undef, undef, undef, Value.int IntKind.i64 (N : Int), Value.bool (decide ((N : Int) < 0)), Value.bool (decide ((N : Int) < 0)), Value.int IntKind.i64 (N : Int), Value.bool (decide (8192 < (N : Int))), Value.bool (decide ((N : Int) < 0) || decide (8192 < (N : Int))), Value.int IntKind.i64 (N : Int), Value.slice A l.length c, Value.slice (some ⟨B + 3, 0, none⟩) N N, Value.int IntKind.i64 (N : Int), Value.slice (some ⟨s + 1, 0, none⟩) N N, Value.int IntKind.i64 (N : Int), Value.slice (some ⟨s + 3, 0, none⟩) N N, Value.int IntKind.i64 (N : Int), Value.slice (some ⟨s + 5, 0, none⟩) N N, Value.int IntKind.i64 (N : Int), Value.int IntKind.i64 (N : Int), Value.bool false, u39, u40, u41, u42, u43, u44, u45, u46, u47, u48, u49, u50, u51, Value.func (Fn.func 19) #[] #[Value.pointer (some ⟨B, 0, none⟩), Value.pointer (some ⟨s + 6, 0, none⟩), Value.pointer (some ⟨s + 2, 0, none⟩), Value.pointer (some ⟨B + 1, 0, none⟩)], Value.int IntKind.i64 (N : Int), Value.int IntKind.i64 (N : Int), Value.bool false, u56, u57, u58, u59, u60, u61, u62, u63, u64, u65, u66, u67, u68, u69, u70, u71, u72, u73, u74, u75, u76, u77, u78, u79, u80, u13, Value.func (Fn.func 30) #[] #[Value.pointer (some ⟨wr.heap.size, 0, none⟩)], .int .i64 x.1.1, .int .i64 x.1.2, undef, undef, undef, undef, undef, undef, undef, undef, undef, undef, undef, undef, undef, undef, undef, undef, undef, undef, undef, undef, undef, undef, undef, undef, undef, undef, undef, undef, undef, undef], defers := [] }) ?assign ?body ?done ?stop
          case assign =>
            intro l x W K hK
            gi_wp2
            exact hK
          case body =>
            clear hnum1
            rintro l' pre ⟨⟨xi, xv⟩, hx0, hx1⟩ W hBt hlen
            obtain ⟨v, rfl⟩ : ∃ v : Nat, xv = (v : Int) := ⟨xv.toNat, by dsimp only at hx0; omega⟩
            have hvN : v < N := by dsimp only at hx1; omega
            have hv0 : (0 : Int) ≤ (v : Int) := by omega
            have hv1 : (v : Int) < (N : Int) := by omega
            have hsnoc : painted adj N k (pre ++ [⟨(xi, (v : Int)), hx0, hx1⟩]) = paint adj N k (painted adj N k pre) (v : Int) := painted_snoc adj N k pre _
            have Hsnoc := Lib.hid hsnoc
            clear hsnoc hlen
            dsimp only
            have hC := hBt.cells
            have hol := painted_length adj N k pre
            have hsm := painted_small adj N k hk pre
            generalize painted adj N k pre = out at hC hol Hsnoc hsm
            obtain ⟨W2, hrun2, hP⟩ := Paint.start hC hBt.below hN hvN HadjN.out
            have hbg := (hC.alloc (.map #[] 0)).bg
            have hmp := (hC.alloc (.map #[] 0)).map_at v hvN
            have hmm := @run_makeMap Try.prog
            have HP := Lib.hid hP
            have HC := Lib.hid hC
            have Hol := Lib.hid hol
            have HBt := Lib.hid hBt.below
            have Hsz := Lib.hid hBt.size
            clear hP hC hol hBt
            have Hsm := Lib.hid hsm
            clear hsm
            gi_wp2
            obtain ⟨wo3, hwo3⟩ : ∃ wo3 : World, wo3 = wr := ⟨_, rfl⟩
            gi_loopw [19] (fun _ wr' => ∃ L cnt, Paint B s N W.heap.size (W.heap.size + 1) k adj st.deg out st.gone v L cnt w W wr') (fun _ wr' => wr'.rangeLeft (B + 4 + v) (W.heap.size + 1))
            case atStart => exact ⟨_, _, HP.out⟩
            case round =>
              clear HP hrun2
              obtain ⟨L, cnt, hP⟩ := hrel
              rcases hP.step hN hvN (by have := HC.out.size; omega) (Nat.le_refl _) (Nat.le_succ _) (by omega) HadjN.out (fun b _ => by have := Hsm.out b; exact wfi_mk (by omega) (by omega)) with ⟨h0, hrun⟩ | ⟨x, W5, W6, L', cnt', hxN, hrun, hlt6, hen, hb6, hd6, hup6, hP6⟩
              · have hused : ∃ n, TSet wr W.heap.size n (usedBy adj N out (v : Int)) := by
                  obtain ⟨n, _, hu⟩ := hP.used
                  exact ⟨n, hu.congr (fun c => usedL_done adj N out (v : Int) L h0 c)⟩
                have Hused := Lib.hid hused
                have HP := Lib.hid hP
                have hbk := hP.cells.bk
                unfold I64 at hbk
                clear hP h0 hused
                obtain ⟨wo4, rfl⟩ : ∃ wo4 : World, wo4 = wr := ⟨_, rfl⟩
                gi_wp2
                · have hpn : paint adj N k out (v : Int) = out := by unfold paint; rw [show k.toNat = 0 by omega]; rfl
                  gi_loopw [102] (fun u wr' => u = .int .i64 0 ∧ wr' = wo4) (fun _ _ => 0)
                  case atStart => exact ⟨rfl, rfl⟩
                  case round =>
                    obtain ⟨rfl, rfl⟩ := hrel
                    gi_wp2
                    refine between_end HP.out.but (by have := hs7; simp; omega) (by omega) (by have := Hgb.out; omega) (by have := Hsz.out; omega) (by have := Hsz.out; have := Hgl.out; omega) ?_ HP.out.below Hsz.out
                    rw [Hsnoc.out, hpn]
                    exact HP.out.cells
                · gi_loopw [20, 102] (fun _ u wr' => ∃ cc : Nat, cc ≤ k.toNat ∧ u = .int .i64 cc ∧ wr' = wo4 ∧ freeGo (usedBy adj N out (v : Int)) k.toNat 0 = freeGo (usedBy adj N out (v : Int)) (k.toNat - cc) cc) (fun _ u _ => k.toNat - (intOf u).toNat)
                  case atStart => exact ⟨0, Nat.zero_le _, rfl, rfl, rfl⟩
                  case round =>
                    obtain ⟨cc, hcc, rfl, rfl, hfree⟩ := hrel
                    by_cases hck : (cc : Int) < k
                    · have hlk := (Hused.out.choose_spec).look (t := 35) Try.underlying3 Try.underlying35 Try.underlying4 (zero4 _) (x := (cc : Int)) (wfi_mk (by omega) (by omega))
                      rw [show k.toNat - cc = (k.toNat - (cc + 1)) + 1 by omega, freeGo_succ] at hfree
                      have Hfree := Lib.hid hfree
                      clear hfree
                      cases hub : usedBy adj N out (v : Int) (cc : Int) with
                      | true =>
                        rw [hub] at hlk
                        gi_wp2
                        go_roundw
                        case rel => exact ⟨cc + 1, by omega, by go_num, by first | rfl | trivial, by rw [Hfree.out, if_pos hub]; rfl⟩
                        case measure => simp [intOf]; omega
                      | false =>
                        rw [hub] at hlk
                        have hbo := HP.out.cells.bout
                        have hco := HP.out.cells.rout.cell 0 v (by rw [Hol.out]; exact hvN)
                        have hfr := HP.out.cells.rout.frozen v
                        have hpn : paint adj N k out (v : Int) = out.set v (cc : Int) := by unfold paint; rw [Hfree.out, if_neg (by simp [hub])]; rfl
                        have Hpn := Lib.hid hpn
                        unfold I64 at hco
                        clear hpn
                        gi_wp2
                        refine between_end (HP.out.but.setCell (.inl (by simp)) _) (by have := hs7; simp; omega) (by omega) (by have := Hgb.out; omega) (by have := Hsz.out; omega) (by have := Hsz.out; have := Hgl.out; omega) ?_ (HP.out.below.setCell (by dsimp only; omega) _) Hsz.out
                        rw [Hsnoc.out, Hpn.out]
                        exact HP.out.cells.setOut v cc
                    · have hpn : paint adj N k out (v : Int) = out := by unfold paint; rw [hfree, show k.toNat - cc = 0 by omega]; rfl
                      have Hpn := Lib.hid hpn
                      clear hpn hfree
                      gi_wp2
                      refine between_end HP.out.but (by have := hs7; simp; omega) (by omega) (by have := Hgb.out; omega) (by have := Hsz.out; omega) (by have := Hsz.out; have := Hgl.out; omega) ?_ HP.out.below Hsz.out
                      rw [Hsnoc.out, Hpn.out]
                      exact HP.out.cells
              · have HLt := Lib.hid hlt6
                have HP6 := Lib.hid hP6
                have HPo := Lib.hid hP
                clear hP hP6 hlt6
                have hxN' : (x : Int) < (N : Int) := by omega
                have hx0' : (0 : Int) ≤ (x : Int) := by omega
                generalize out.getD x 0 = d at hd6 hup6
                gi_wp2
                go_roundw
                case rel => exact ⟨L', cnt', HP6.out⟩
                case measure => rw [HP6.out.range.left_eq, HPo.out.range.left_eq]; exact HLt.out
          case done =>
            rintro D ys W hD rfl hBt hK
            have hbo := hBt.cells.bout
            have hfin : painted adj N k (upto (elAt st.ord Hok.out.ob) st.ord.length) = colours (N : Int) k (pairs l) := by
              unfold painted colours
              rw [elAt_all, if_neg (by omega), Hadj.out, Int.toNat_natCast, Hst.out]
            have hR := hBt.cells.rout
            rw [hfin] at hR
            have HR3 := Lib.hid hR
            have HBe2 := Lib.hid hBt.below
            have hDs : s + 3 < D := by simp at hD; omega
            have hsz := hBt.cells.size
            have Hhs := Lib.hid hBt.cells.hs
            clear hBt hR hfin
            go_wp2
            refine ⟨by simp, .inl ⟨_, _, rfl, run_takeDeferred hK, ?_⟩⟩
            have hg3 := grownBy_putObj' W D (.deferred none)
            refine ⟨_, results_tmp rfl _ _ _, s + 3, rfl, HR3.out.same (hg3.block _ (by omega) (by simp; omega)), by have := Hhs.out; rw [HBe.out]; omega, ?_⟩
            rw [HBe.out]
            exact HBe2.out.grown hg3 (by have := Hhs.out; omega) (fun b e => by cases e; have := Hhs.out; omega)
          case stop =>
            rintro D c pre W _ _ h _
            exact h.elim
end Go.Proofs.YtgdmdgkfababeaaH
