/-
  ColoursDiffer: the walk. Own work.
-/
import Derived.Test.YtgdmdgkfababeaaPDiff
import Derived.Test.YtgdmdgkfababeaaPBase
import Derived.Test.YtgdmdgkfababeaaHMerged
import Derived.Deep.LoopGhost
namespace Go.Proofs.YtgdmdgkfababeaaEv
open Go Go.RowKit Go.Shelf Go.Proofs.YtgdmdgkfababeaaCol Go.Proofs.Ytgdmdgkfababeaa.M Go.Proofs.YtgdmdgkfababeaaW.PrintWords Go.Proofs.YtgdmdgkfababeaaW.PrintMore Go.Proofs.YtgdmdgkfababeaaW.PrintLast
open Go.Proofs.YtgdmdgkfababeaaH (pairs colours_length SetAt TSet zero4 wfi wfi_mk)

theorem drawn_below' {w w' : World} (h : Drawn0 w w') : Below w.heap.size w w' := by
  obtain ⟨n, rfl⟩ := h.out
  exact pw_below_drewN (Below.refl _ _) n

/-- The table's and the colours' cells, in whatever has only grown since. -/
structure Seen (N : Nat) (adj : Int → Int → Bool) (out : List Int) (AT AL : Option Addr) (Wb W : World) : Prop where
  tbl : Kd.C (Kd.slice 4 Kd.bool) W AT N (tab N adj)
  row : Kd.C (Kd.int .i64) W AL N out
  below : Below Wb.heap.size Wb W
theorem Seen.step {N : Nat} {adj : Int → Int → Bool} {out : List Int} {AT AL : Option Addr} {Wb W W' : World} (h : Seen N adj out AT AL Wb W) (hb : Below W.heap.size W W') : Seen N adj out AT AL Wb W' :=
  ⟨Kd.C_below h.tbl hb, Kd.C_below h.row hb, h.below.trans (hb.mono h.below.size)⟩
theorem Seen.grown {N : Nat} {adj : Int → Int → Bool} {out : List Int} {AT AL : Option Addr} {Wb W W' : World} (h : Seen N adj out AT AL Wb W) (h0 : Seen N adj out AT AL Wb Wb) {row : Option Nat} (hg : W.grownBy W' row) (hr : ∀ b, row = some b → Wb.heap.size ≤ b) : Seen N adj out AT AL Wb W' := by
  have hb : Below Wb.heap.size Wb W' := h.below.grown hg h.below.size hr
  exact ⟨Kd.C_below h0.tbl hb, Kd.C_below h0.row hb, hb⟩
theorem Seen.cells {N : Nat} {adj : Int → Int → Bool} {out : List Int} {AT AL : Option Addr} {Wb W : World} (h : Seen N adj out AT AL Wb W) {a : Nat} (ha : a < N) (_hl : out.length = N) :
    ∃ adT A0 c0 adL, AT = some adT ∧ AL = some adL ∧ W.cell? (adT.add a) = some (.slice (some A0) N c0) ∧ (∀ b, b < N → W.cell? (A0.add b) = some (.bool (adj a b))) ∧ ∀ b, b < N → W.cell? (adL.add b) = some (.int .i64 (out.getD b 0)) := by
  obtain ⟨adT, A0, c0, e1, e2, _, e3⟩ := at_L5 h.tbl (a : Int) (by omega) (by omega)
  rw [tab_row_length a ha] at e2 e3
  obtain ⟨ad0, z, ez, _⟩ := Kd.C_get e3 false (0 : Int) (by omega) (by omega)
  obtain ⟨adL, z', ez', _⟩ := Kd.C_get h.row (0 : Int) (0 : Int) (by omega) (by omega)
  subst ez ez'
  rw [Int.toNat_natCast] at e2
  refine ⟨adT, ad0, c0, adL, e1, rfl, e2, fun b hb => ?_, fun b hb => ?_⟩
  · obtain ⟨ad', cs, e4, _, e5, e6⟩ := Kd.C_get e3 false (b : Int) (by omega) (by omega)
    have e4' := Option.some.inj e4
    subst e4'
    have e7 : cs = [.bool ((rd_L5 (tab N adj) (a : Int)).getD (b : Int).toNat false)] := e5
    subst e7
    have := e6 0 _ rfl
    have e8 : (rd_L5 (tab N adj) (a : Int)).getD (b : Int).toNat false = adj a b := tab_at a b ha hb
    rw [e8] at this
    have e9 : (b : Int).toNat * Kd.bool.sz + 0 = b := by rw [Int.toNat_natCast]; show b * 1 + 0 = b; omega
    rw [e9] at this
    exact this
  · obtain ⟨ad', cs, e4, _, e5, e6⟩ := Kd.C_get h.row (0 : Int) (b : Int) (by omega) (by omega)
    have e4' := Option.some.inj e4
    subst e4'
    have e7 : cs = [.int .i64 (out.getD (b : Int).toNat 0)] := e5
    subst e7
    have := e6 0 _ rfl
    have e9 : (b : Int).toNat * (Kd.int .i64).sz + 0 = b := by rw [Int.toNat_natCast]; show b * 1 + 0 = b; omega
    rw [e9, Int.toNat_natCast] at this
    exact this

theorem Seen.drewN {N : Nat} {adj : Int → Int → Bool} {out : List Int} {AT AL : Option Addr} {Wb W : World} (h : Seen N adj out AT AL Wb W) (m : Nat) : Seen N adj out AT AL Wb (W.drewN m) := h.step (pw_below_drewN (Below.refl _ _) m)
theorem usedBy_succ (adj : Int → Int → Bool) (b : Nat) (out : List Int) (a c : Int) : usedBy adj (b + 1) out a c = (usedBy adj b out a c || (adj a b && decide (out.getD b 0 = c))) := by
  unfold usedBy
  rw [List.range_succ, List.any_append]
  simp
theorem card_succ (b : Nat) (S : Int → Bool) : card (b + 1) S = card b S + (S b).toNat := by
  unfold card
  rw [List.range_succ, List.filter_append, List.length_append, List.filter_cons]
  cases S (b : Int) <;> simp

set_option maxRecDepth 100000 in
set_option maxHeartbeats 4000000 in
theorem coloursDiffer_calls (a0 : Int) (A1 : Option Addr) (c1 : Nat) (l1 : List Int) (a2 : Int) (w : World) (hr1 : Kd.C (Kd.int .i64) w A1 l1.length l1) (hc1 : l1.length ≤ c1) :
    Calls Try.prog 4 #[.int .i64 a0, .slice A1 l1.length c1, .int .i64 a2] w fun e w' => e = .returned (.bool true) ∧ Below w.heap.size w w' := by
  obtain ⟨fa, hfa⟩ := awake_ev.some
  obtain ⟨fr, hfr⟩ := (rest_ev a0 14 (by omega)).some
  obtain ⟨fr2, hfr2⟩ := (rest_ev a2 7 (by omega)).some
  have hn := rst_in a0 14 (by omega) (by omega)
  have hk := rst_in a2 7 (by omega) (by omega)
  generalize rst a0 14 = n at *
  generalize rst a2 7 = k0 at *
  obtain ⟨N, hN⟩ : ∃ N : Nat, 1 + n = (N : Int) := ⟨(1 + n).toNat, by omega⟩
  obtain ⟨k, hkN⟩ : ∃ k : Nat, 1 + k0 = (k : Int) := ⟨(1 + k0).toNat, by omega⟩
  have hN1 : 1 ≤ N := by omega
  have hN2 : N ≤ 14 := by omega
  have hk1 : 1 ≤ k := by omega
  have hk2 : k ≤ 7 := by omega
  obtain ⟨e, he, hein⟩ := made_ev (N : Int) (by omega) (by omega) l1
  obtain ⟨fe, hfe⟩ := he.some
  have hel : e.length ≤ 1000000 := by have := hein.1; omega
  obtain ⟨ft, hft⟩ := (table_ev N (by omega) e hel).some
  obtain ⟨g1, hg1⟩ := (colour_ev (N : Int) (k : Int) (by omega) e hel).some
  have hlaw := fun out h => colours_law N (by omega) k (pairs e) out h
  have hcl := colours_length N (by omega) (k : Int) (pairs e)
  generalize hout : colours (N : Int) (k : Int) (pairs e) = out at *
  replace hlaw := hlaw out rfl
  have hadj : ∀ a b, adjOf (N : Int) (pairs e) a b = true → (0 ≤ a ∧ a < N) ∧ 0 ≤ b ∧ b < N := fun a b h => ⟨(adjOf_range h).1, (adjOf_range h).2.1⟩
  generalize adjOf (N : Int) (pairs e) = adj at *
  have HFA_ := Lib.hid hfa
  clear hfa
  have HFR_ := Lib.hid hfr
  clear hfr
  have HFR2_ := Lib.hid hfr2
  clear hfr2
  have HFE_ := Lib.hid hfe
  clear hfe
  have HFT_ := Lib.hid hft
  clear hft
  have HG1_ := Lib.hid hg1
  clear hg1
  have HLAW_ := Lib.hid hlaw
  clear hlaw
  have HADJ_ := Lib.hid hadj
  clear hadj
  have HN_ := Lib.hid hN
  clear hN
  have HKN_ := Lib.hid hkN
  clear hkN
  clear he hein hel hout
  have B := Lib.hid (Below.refl w.heap.size w)
  have R1 := Lib.hid hr1
  clear hr1
  go_enter Try.func4, Try.ntmps4
  go_wp2_with fail
  go_at_call 7
  refine (jacquardlaw14_awake.calls fa true _ HFA_.out).mono ?_
  rintro e W1 ⟨rfl, hb1⟩
  have B_ := Lib.hid (B.out.trans (hb1.mono B.out.size))
  clear B
  have B := B_
  clear B_
  have R1_ := Lib.hid (Kd.C_below R1.out hb1)
  clear R1
  have R1 := R1_
  clear R1_
  clear hb1
  go_wp2_with fail
  go_at_call 8
  refine (jacquardlaw14_rest.calls a0 14 n _ HFR_.out).mono ?_
  rintro e W2 ⟨rfl, hd2⟩
  have hb2 := drawn_below' hd2
  clear hd2
  have B_ := Lib.hid (B.out.trans (hb2.mono B.out.size))
  clear B
  have B := B_
  clear B_
  have R1_ := Lib.hid (Kd.C_below R1.out hb2)
  clear R1
  have R1 := R1_
  clear R1_
  clear hb2
  skip
  go_wp2_with fail
  rw [HN_.out]
  go_at_call 9
  refine (jacquardref14_Made.calls fe (N : Int) A1 c1 l1 e _ R1.out hc1 HFE_.out).mono ?_
  rintro ee W3 ⟨v3, rfl, hR3, hb3⟩
  obtain ⟨AE, cE, rfl⟩ := Kd.R_slice hR3
  obtain ⟨_, hcE, hE⟩ := Kd.R_reads' hR3
  have E := Lib.hid hE
  clear hR3 hE
  have B_ := Lib.hid (B.out.trans (hb3.mono B.out.size))
  clear B
  have B := B_
  clear B_
  have R1_ := Lib.hid (Kd.C_below R1.out hb3)
  clear R1
  have R1 := R1_
  clear R1_
  clear hb3
  clear R1
  go_wp2_with fail
  go_at_call 8
  refine (jacquardlaw14_rest.calls a2 7 k0 _ HFR2_.out).mono ?_
  rintro e W4 ⟨rfl, hd4⟩
  have hb4 := drawn_below' hd4
  clear hd4
  have B_ := Lib.hid (B.out.trans (hb4.mono B.out.size))
  clear B
  have B := B_
  clear B_
  have E_ := Lib.hid (Kd.C_below E.out hb4)
  clear E
  have E := E_
  clear E_
  clear hb4
  go_wp2_with fail
  rw [HKN_.out]
  go_at_call 14
  refine (jacquardref14_Table.calls ft (N : Int) AE cE e (tab N adj) _ E.out hcE HFT_.out).mono ?_
  rintro ee W5 ⟨v5, rfl, hR5, hb5⟩
  obtain ⟨AT, cT, rfl⟩ := Kd.S_slice hR5
  obtain ⟨_, hcT, hT⟩ := Kd.S_reads' hR5
  have T := Lib.hid hT
  clear hR5 hT
  have B_ := Lib.hid (B.out.trans (hb5.mono B.out.size))
  clear B
  have B := B_
  clear B_
  have E_ := Lib.hid (Kd.C_below E.out hb5)
  clear E
  have E := E_
  clear E_
  clear hb5
  go_wp2_with fail
  go_at_call 11
  refine (colour_Colours.calls (N : Int) AE cE e (k : Int) out _ E.out hcE HG1_.out).mono ?_
  rintro e W6 ⟨v6, rfl, hR6, hb6⟩
  obtain ⟨AR, cR, rfl⟩ := Kd.R_slice hR6
  obtain ⟨_, hcR, hR⟩ := Kd.R_reads' hR6
  have R := Lib.hid hR
  clear hR6 hR
  have B_ := Lib.hid (B.out.trans (hb6.mono B.out.size))
  clear B
  have B := B_
  clear B_
  have E_ := Lib.hid (Kd.C_below E.out hb6)
  clear E
  have E := E_
  clear E_
  have T_ := Lib.hid (Kd.C_below T.out hb6)
  clear T
  have T := T_
  clear T_
  clear hb6
  clear E
  rw [hcl] at hcR
  have HSn : Hid (Seen N adj out AT AR W6 W6) := by refine ⟨?_, ?_, Below.refl _ _⟩; have h := T.out; rw [tab_length] at h; exact h; have h := R.out; rw [hcl] at h; exact h
  clear T R
  rw [hcl, tab_length]
  obtain ⟨adT, _, _, adL, rfl, rfl, _⟩ := HSn.out.cells (a := 0) (by omega) hcl
  have hmm := @run_makeMap Try.prog
  go_wp2_with fail
  go_loopw [13] (fun i wr => ∃ a : Nat, a ≤ N ∧ i = .int .i64 (a : Int) ∧ Seen N adj out (some adT) (some adL) W6 wr) (fun i _ => N - (intOf i).toNat)
  case atStart => exact ⟨0, Nat.zero_le _, rfl, HSn.out⟩
  case round =>
    obtain ⟨a, ha, rfl, hS⟩ := hrel
    by_cases hlt : a < N
    · have HS1 := Lib.hid (hS.step (below_alloc (Below.refl _ wr) (.map #[] 0)))
      have HT0 : Hid (TSet (wr.alloc (.map #[] 0)) wr.heap.size 0 (fun c => decide (0 ≤ c) && usedBy adj 0 out a c)) := (SetAt.made Try.prog 3 4 wr).congr (fun c => by simp [usedBy])
      have Hb0 : Hid (W6.heap.size ≤ wr.heap.size) := hS.below.size
      clear hS
      have hltI : (a : Int) < (N : Int) := by omega
      have ha0 : (0 : Int) ≤ (a : Int) := by omega
      go_wp2
      obtain ⟨wo, rfl⟩ : ∃ wo : World, wo = wr := ⟨_, rfl⟩
      generalize wo.heap.size = g at HT0 Hb0 ⊢
      go_loopw [15, 16] (fun dv i wr => ∃ b n : Nat, b ≤ N ∧ n ≤ b ∧ i = .int .i64 (b : Int) ∧ dv = .int .i64 (card b (adj a) : Nat) ∧ TSet wr g n (fun c => decide (0 ≤ c) && usedBy adj b out a c) ∧ Seen N adj out (some adT) (some adL) W6 wr) (fun _ i _ => N - (intOf i).toNat)
      case atStart => exact ⟨0, 0, Nat.zero_le _, Nat.le_refl _, rfl, rfl, HT0.out, HS1.out⟩
      case round =>
        clear HT0 HS1
        obtain ⟨b, n', hb, hnb, rfl, rfl, hT, hS⟩ := hrel
        by_cases hltb : b < N
        · obtain ⟨adT', A0, c0, adL', e1, e2, hTa, hTb, hL⟩ := hS.cells hlt hcl
          have e1' := Option.some.inj e1
          have e2' := Option.some.inj e2
          subst e1' e2'
          clear e1 e2
          have hb1 := hTb b hltb
          have hlb := hL b hltb
          have hla := hL a hlt
          have hlawA := HLAW_.out a hlt
          have hlawB := (HLAW_.out b hltb).1
          have hub := usedBy_succ adj b out a
          have hcd := card_succ b (adj a)
          have hbI : (b : Int) < (N : Int) := by omega
          have hb0 : (0 : Int) ≤ (b : Int) := by omega
          have hcardle := card_le b (adj a)
          cases eab : adj (a : Int) (b : Int) with
          | false =>
            rw [eab] at hb1 hub hcd
            have HT1 : Hid (TSet wr g n' (fun c => decide (0 ≤ c) && usedBy adj (b + 1) out a c)) := hT.congr (fun c => by rw [hub]; simp)
            have HS1 := Lib.hid hS
            have Hcd := Lib.hid hcd
            clear hT hS hub hcd hTb hL hlawA hlawB
            go_wp2
            go_roundw
            case rel => exact ⟨b + 1, n', by omega, by omega, by go_num, by rw [Hcd.out]; simp, HT1.out, HS1.out⟩
            case measure => simp [intOf]; omega
          | true =>
            rw [eab] at hb1 hub hcd
            have hne := hlawA.2.1 b hltb eab
            have hra := hlawA.1
            generalize hvb : out.getD b 0 = vb at hlb hub hne hlawB
            by_cases hp : 0 ≤ vb
            · obtain ⟨W1, hput, hT1, hg1, hz1⟩ := hT.put Try.underlying3 Try.underlying35 Try.underlying4 (by unfold maxLen; omega) (x := vb) (wfi_mk (by omega) (by omega))
              have hS1 := hS.grown HSn.out hg1 (fun b' e' => by cases e'; exact Hb0.out)
              have HT1 : Hid (TSet W1 g (n' + 1) (fun c => decide (0 ≤ c) && usedBy adj (b + 1) out a c)) := hT1.congr (fun c => by
                rw [hub]
                by_cases e3 : c = vb
                · subst e3; simp [hp]
                · simp [e3, show ¬ vb = c from fun h => e3 h.symm])
              obtain ⟨adT', _, _, adL', e1, e2, _, _, hL'⟩ := hS1.cells hlt hcl
              have e1' := Option.some.inj e1
              have e2' := Option.some.inj e2
              subst e1' e2'
              clear e1 e2
              have hlb' := hL' b hltb
              have hla' := hL' a hlt
              rw [hvb] at hlb'
              have HS1 := Lib.hid hS1
              have Hcd := Lib.hid hcd
              clear hT hS hT1 hS1 hub hcd hTb hL hL' hlawA hvb
              generalize out.getD a 0 = va at hla hla' hne hra
              by_cases hq : 0 ≤ va
              · have hne' : (va == vb) = false := by rw [beq_eq_false_iff_ne]; exact hne hq
                clear hne
                have f0 := And.intro hla' hlb'
                go_wp2
                go_region_held3 (fun W => W.cell? (adL.add a) = some (.int .i64 va) ∧ W.cell? (adL.add b) = some (.int .i64 vb)) (first | exact f0) (fail)
                go_wp2
                go_roundw
                case rel => exact ⟨b + 1, n' + 1, by omega, by omega, by go_num, by rw [Hcd.out]; go_num, HT1.out, HS1.out.drewN _⟩
                case measure => simp [intOf]; omega
              · clear hne
                have hva : va = -1 := by omega
                subst hva
                go_wp2
                go_quiet (fail)
                go_wp2
                go_roundw
                case rel => exact ⟨b + 1, n' + 1, by omega, by omega, by go_num, by rw [Hcd.out]; go_num, HT1.out, HS1.out.drewN _⟩
                case measure => simp [intOf]; omega
            · have HT1 : Hid (TSet wr g n' (fun c => decide (0 ≤ c) && usedBy adj (b + 1) out a c)) := hT.congr (fun c => by
                rw [hub]
                by_cases e3 : vb = c
                · subst e3; simp [hp]
                · simp [e3])
              have HS1 := Lib.hid hS
              have Hcd := Lib.hid hcd
              clear hT hS hub hcd hTb hL hlawA hvb
              generalize out.getD a 0 = va at hla hne hra
              by_cases hq : 0 ≤ va
              · have hne' : (va == vb) = false := by rw [beq_eq_false_iff_ne]; exact hne hq
                clear hne
                have f0 := And.intro hla hlb
                go_wp2
                go_region_held3 (fun W => W.cell? (adL.add a) = some (.int .i64 va) ∧ W.cell? (adL.add b) = some (.int .i64 vb)) (first | exact f0) (fail)
                go_wp2
                go_roundw
                case rel => exact ⟨b + 1, n', by omega, by omega, by go_num, by rw [Hcd.out]; go_num, HT1.out, HS1.out.drewN _⟩
                case measure => simp [intOf]; omega
              · clear hne
                have hva : va = -1 := by omega
                subst hva
                go_wp2
                go_quiet (fail)
                go_wp2
                go_roundw
                case rel => exact ⟨b + 1, n', by omega, by omega, by go_num, by rw [Hcd.out]; go_num, HT1.out, HS1.out.drewN _⟩
                case measure => simp [intOf]; omega
        · have hbe : b = N := by omega
          subst hbe
          obtain ⟨adT', _, _, adL', e1, e2, _, _, hL⟩ := hS.cells hlt hcl
          have e1' := Option.some.inj e1
          have e2' := Option.some.inj e2
          subst e1' e2'
          clear e1 e2
          have hla := hL a hlt
          have hlawA := HLAW_.out a hlt
          have hlen := fun ty => SetAt.len hT Try.underlying3 Try.underlying35 (N := k) (by omega) (fun c hc => by
            simp only [Bool.and_eq_true, decide_eq_true_eq] at hc
            obtain ⟨hc0, hc1⟩ := hc
            obtain ⟨x, hx, _, e4⟩ := usedBy_true.1 hc1
            have := (HLAW_.out x hx).1
            omega) ty
          obtain ⟨hra, _, hneg⟩ := hlawA
          generalize out.getD a 0 = va at hla hra hneg
          have HS1 := Lib.hid hS
          clear hT hS hL hltb
          by_cases hq : 0 ≤ va
          · clear hneg
            have hva : va < (k : Int) := by omega
            go_wp2
            go_roundw
            case rel => exact ⟨a + 1, by omega, by go_num, HS1.out⟩
            case measure => simp [intOf]; omega
          · obtain ⟨h5, h6⟩ := hneg (by omega)
            rw [h5] at hlen
            have hva : va = -1 := by omega
            subst hva
            have h6' : (k : Int) ≤ (card b (adj (a : Int)) : Int) := by omega
            have hkk : ((k : Int) != (k : Int)) = false := by simp
            clear hneg h5
            go_wp2
            go_roundw
            case rel => exact ⟨a + 1, by omega, by go_num, HS1.out⟩
            case measure => simp [intOf]; omega
    · have hae : a = N := by omega
      subst hae
      have HSf := Lib.hid hS
      clear hS
      go_wp2
      go_ret
      exact ⟨rfl, B.out.trans (HSf.out.below.mono B.out.size)⟩
end Go.Proofs.YtgdmdgkfababeaaEv
