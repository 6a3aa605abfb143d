/-
  colour.Merged: the closure harder. Own work.
-/
import Derived.Test.YtgdmdgkfababeaaHMerB
namespace Go.Proofs.YtgdmdgkfababeaaH
open Go Go.RowKit Go.Shelf Go.Proofs.YtgdmdgkfababeaaCol Go.Proofs.Ytgdmdgkfababeaa.M Go.Proofs.YtgdmdgkfababeaaW.PrintWords

theorem filter_add {α : Type} (p q r : α → Bool) : ∀ (l : List α), (∀ x ∈ l, r x = (p x || q x)) → (∀ x ∈ l, ¬(p x = true ∧ q x = true)) → (l.filter r).length = (l.filter p).length + (l.filter q).length
  | [], _, _ => by simp
  | x :: t, h, hd => by
    have ih := filter_add p q r t (fun y hy => h y (by simp [hy])) (fun y hy => hd y (by simp [hy]))
    have h0 := h x (by simp)
    have h1 := hd x (by simp)
    rw [List.filter_cons, List.filter_cons, List.filter_cons, h0]
    cases hp : p x <;> cases hq : q x <;> simp [hp, hq] at h1 ⊢ <;> omega
theorem card_add {N : Nat} {p q r : Int → Bool} (h : ∀ x : Nat, x < N → r x = (p x || q x)) (hd : ∀ x : Nat, x < N → ¬(p x = true ∧ q x = true)) : card N r = card N p + card N q :=
  filter_add _ _ _ _ (fun x hx => h x (List.mem_range.1 hx)) (fun x hx => hd x (List.mem_range.1 hx))
theorem card_none {N : Nat} {p : Int → Bool} (h : ∀ x : Nat, x < N → p x = false) : card N p = 0 := by
  unfold card
  rw [List.length_eq_zero_iff, List.filter_eq_nil_iff]
  intro x hx
  rw [h x (List.mem_range.1 hx)]; simp
theorem card_single {N : Nat} (x : Nat) (hx : x < N) (f : Int → Bool) : card N (fun y => decide (y = (x : Int)) && f y) = if f x = true then 1 else 0 := by
  cases hf : f x with
  | false =>
    rw [if_neg (by simp)]
    refine card_none (fun y _ => ?_)
    by_cases e : y = x
    · subst e; rw [hf]; simp
    · rw [decide_eq_false (by omega)]; rfl
  | true =>
    rw [if_pos rfl]
    induction N with
    | zero => omega
    | succ n ih =>
      unfold card at ih ⊢
      rw [List.range_succ, List.filter_append, List.length_append]
      by_cases e : x = n
      · subst e
        have : ((List.range x).filter fun i : Nat => decide ((i : Int) = (x : Int)) && f i) = [] := by
          rw [List.filter_eq_nil_iff]
          intro y hy
          have := List.mem_range.1 hy
          rw [decide_eq_false (by omega)]; simp
        rw [this]
        simp [hf]
      · rw [ih (by omega)]
        have : decide ((n : Int) = (x : Int)) = false := decide_eq_false (by omega)
        simp [this]
theorem card_congr {N : Nat} {p q : Int → Bool} (h : ∀ x : Nat, x < N → p x = q x) : card N p = card N q := by
  unfold card
  congr 1
  apply List.filter_congr
  intro x hx
  exact h x (List.mem_range.1 hx)

/-- How many that are no longer to come. -/
def gone (N : Nat) (S L f : Int → Bool) : Nat := card N (fun x => S x && !L x && f x)
theorem gone_start (N : Nat) (S f : Int → Bool) : gone N S S f = 0 := card_none (fun x _ => by cases S x <;> simp)
theorem gone_done (N : Nat) (S L f : Int → Bool) (h : ∀ x, L x = false) : gone N S L f = card N (fun x => S x && f x) := card_congr (fun x _ => by rw [h]; simp)
theorem gone_step (N : Nat) (S L f : Int → Bool) (x : Nat) (hx : x < N) (hL : L x = true) (hS : S x = true) : gone N S (fun y => !decide (y = (x : Int)) && L y) f = gone N S L f + if f x = true then 1 else 0 := by
  unfold gone
  rw [← card_single x hx f]
  refine card_add (fun y _ => ?_) (fun y _ => ?_)
  · by_cases e : y = x
    · subst e; rw [hS, hL]; simp
    · have : ¬ (y : Int) = (x : Int) := by omega
      simp [this]
  · by_cases e : y = x
    · subst e; rw [hS, hL]; simp
    · have : ¬ (y : Int) = (x : Int) := by omega
      simp [this]

section
variable {B s N : Nat} {k : Int} {cls : List Int} {live : Nat → Bool} {adj : Int → Int → Bool} {h a b many t r cnt : Nat} {L : Int → Bool} {w W W' : World}
structure HLoop (B s N : Nat) (k : Int) (cls : List Int) (live : Nat → Bool) (adj : Int → Int → Bool) (h a b many t r : Nat) (L : Int → Bool) (cnt : Nat) (w W : World) : Prop where
  st : HSt B s N k cls live adj h a b many W
  rng : RangeAt Try.prog 3 4 W (B + 3 + t) r N (adj (t : Int)) L cnt
  but : But [] w W
  hr : h + 3 ≤ r
  hw : w.heap.size ≤ h
  sub : ∀ x, L x = true → adj (t : Int) x = true

theorem HSt.range (H : HSt B s N k cls live adj h a b many W) (hb : But [] w W) (hN : N ≤ 8192) (hw : w.heap.size ≤ h) (ht : t < N) (hl : live t = true) (hadj : ∀ i x, adj i x = true → 0 ≤ x ∧ x < N) :
    ∃ W', (Instr.range 35 (.map (some (B + 3 + t)))).run Try.prog W = .ok (.pointer (some ⟨W.heap.size, 0, none⟩)) W' ∧ HLoop B s N k cls live adj h a b many t W.heap.size (adj (t : Int)) (card N (adj (t : Int))) w W' := by
  obtain ⟨W', hrun, hr, hg, hz'⟩ := (H.cells.sets t ht hl).range Try.underlying3 Try.underlying35 (N := N) (by omega) (hadj t)
  exact ⟨W', hrun, ⟨H.grown hg (fun b e => by cases e), hr, hb.grown hg (fun b e => by cases e), H.size, hw, fun _ h => h⟩⟩

theorem HLoop.next (H : HLoop B s N k cls live adj h a b many t r L cnt w W) (hadj : ∀ i x, adj i x = true → 0 ≤ x ∧ x < N) :
    ((∀ x, L x = false) ∧ ∀ ty, (Instr.next (.pointer (some ⟨r, 0, none⟩)) false ty).run Try.prog W = .ok (.tuple #[.bool false]) W) ∨
    ∃ (x : Nat) (W1 : World) (cnt' : Nat), x < N ∧ L (x : Int) = true ∧ adj (t : Int) x = true ∧ (∀ ty, (Instr.next (.pointer (some ⟨r, 0, none⟩)) false ty).run Try.prog W = .ok (.tuple #[.bool true, .int .i64 (x : Int), .bool true]) W1) ∧ cnt' < cnt ∧
      (Instr.entry (.pointer (some ⟨r, 0, none⟩))).run Try.prog W1 = .ok (.tuple #[.int .i64 (x : Int), .bool true]) W1 ∧ HLoop B s N k cls live adj h a b many t r (fun y => !decide (y = (x : Int)) && L y) cnt' w W1 := by
  rcases H.rng.next Try.underlying3 Try.underlying4 with ⟨h0, hrun⟩ | ⟨x0, W1, cnt', hLx, hrun, hrg, hlt, hg, hz, hen⟩
  · exact .inl ⟨h0, hrun⟩
  · have hSx := H.sub x0 hLx
    have hx := hadj _ _ hSx
    obtain ⟨x, rfl⟩ : ∃ x : Nat, x0 = (x : Int) := ⟨x0.toNat, by omega⟩
    have hr := H.hr
    have hw := H.hw
    exact .inr ⟨x, W1, cnt', by omega, hLx, hSx, hrun, hlt, hen, ⟨H.st.grown hg (fun b e => by cases e; omega), hrg, H.but.grown hg (fun b e => by cases e; exact .inr (by omega)), hr, hw, fun y hy => H.sub y (by simp at hy; exact hy.2)⟩⟩

theorem HLoop.after (H : HLoop B s N k cls live adj h a b many t r L cnt w W) (ht : t < N) {many' : Nat} (hs : HSt B s N k cls live adj h a b many' W') (hb : But [h + 2] W W') : HLoop B s N k cls live adj h a b many' t r L cnt w W' := by
  have hr := H.hr
  have hw := H.hw
  have hh := H.st.hh
  have hhs := H.st.cells.hs
  have hlt := H.rng.lt
  have hsz := H.st.size
  refine ⟨hs, H.rng.same (hb.block _ (by omega) (by simp; omega)) (hb.block _ hlt (by simp; omega)), ?_, hr, hw, H.sub⟩
  exact ⟨hb.os.trans H.but.os, hb.tape.trans H.but.tape, hb.output.trans H.but.output, Nat.le_trans H.but.size hb.size, fun j hj _ => (hb.block j (by have := H.but.size; omega) (by simp; omega)).trans (H.but.block j hj (by simp))⟩
end

theorem harder_eq {adj : Int → Int → Bool} {N : Nat} {k : Int} {a b : Int} {m : Nat} (h : m = card N (fun x => adj a x && hardAt adj N k a b x) + card N (fun x => adj b x && (!adj a x && hardAt adj N k a b x))) : harder adj N k a b = decide (k ≤ (m : Int)) := by
  unfold harder
  rw [h, card_add (N := N) (p := fun x => adj a x && hardAt adj N k a b x) (q := fun x => adj b x && (!adj a x && hardAt adj N k a b x))]
  · intro x _; cases adj a x <;> cases adj b x <;> cases hardAt adj N k a b x <;> rfl
  · intro x _; cases adj a x <;> cases adj b x <;> cases hardAt adj N k a b x <;> simp

set_option maxRecDepth 100000 in
set_option maxHeartbeats 4000000 in
theorem harder_any {B s N : Nat} (hN : N ≤ 8192) {k : Int} {cls : List Int} {live : Nat → Bool} {adj : Int → Int → Bool} (hadj : ∀ i x, adj i x = true → 0 ≤ x ∧ x < N) (hlive : ∀ (i : Int) (x : Nat), adj i x = true → live x = true)
    {w : World} (C : MCells B s N k cls live adj w) (a b : Nat) (ha : a < N) (hb : b < N) (la : live a = true) (lb : live b = true) :
    Calls Try.prog 23 #[.int .i64 (a : Int), .int .i64 (b : Int), .pointer (some ⟨s, 0, none⟩), .pointer (some ⟨B, 0, none⟩)] w fun e w' =>
      e = .returned (.bool (harder adj N k a b)) ∧ But [] w w' := by
  have hst : HSt B s N k cls live adj w.heap.size a b 0 (((w.alloc (.cells #[.int .i64 (a : Int)] 3)).alloc (.cells #[.int .i64 (b : Int)] 3)).alloc (.cells #[.int .i64 0] 3)) :=
    { cells := ((C.alloc _).alloc _).alloc _
      ca := by rw [World.cell?_of_block (Below.heap_alloc _ _ _ (by simp; omega)), World.cell?_of_block (Below.heap_alloc _ _ _ (by simp))]; exact cell_of_row _ _ 0 _ 3 (0, 0) (heap_alloc_new w _)
      cb := by rw [World.cell?_of_block (Below.heap_alloc _ _ _ (by simp))]; exact cell_of_row _ _ 0 _ 3 (0, 0) (by have := heap_alloc_new (w.alloc (.cells #[.int .i64 (a : Int)] 3)) (.cells #[.int .i64 (b : Int)] 3); rwa [World.size_alloc] at this)
      cm := by have := heap_alloc_new ((w.alloc (.cells #[.int .i64 (a : Int)] 3)).alloc (.cells #[.int .i64 (b : Int)] 3)) (.cells #[.int .i64 0] 3); rwa [World.size_alloc, World.size_alloc] at this
      hh := C.size
      size := by simp }
  have hbut : But [] w (((w.alloc (.cells #[.int .i64 (a : Int)] 3)).alloc (.cells #[.int .i64 (b : Int)] 3)).alloc (.cells #[.int .i64 0] 3)) := (((But.refl _ _).alloc _).alloc _).alloc _
  obtain ⟨W1, hrange, hloop⟩ := hst.range hbut hN (Nat.le_refl _) ha la hadj
  have HL1 := Lib.hid hloop
  have HA := Lib.hid hadj
  have HLv := Lib.hid hlive
  have hg := hst.cells.bg
  have hma := hst.cells.map_at ha la
  have hca := hst.ca
  have hcb := hst.cb
  unfold I64 at hca hcb
  clear hadj hlive hst hbut C hloop
  go_enter Try.func23, Try.ntmps23
  go_wp2
  simp only [Nat.add_assoc, Nat.reduceAdd]
  clear hrange hg hma hca hcb
  have hgs := gone_start N (adj (a : Int)) (hardAt adj N k a b)
  rw [← hgs] at HL1
  clear hgs
  have Hsz : Hid (w.heap.size + 3 ≤ (((w.alloc (.cells #[.int .i64 (a : Int)] 3)).alloc (.cells #[.int .i64 (b : Int)] 3)).alloc (.cells #[.int .i64 0] 3)).heap.size) := by unfold Hid; simp
  simp only [World.size_alloc, Nat.add_assoc, Nat.reduceAdd] at HL1 Hsz ⊢
  generalize w.heap.size + 3 = r at HL1 Hsz ⊢
  go_loopw [9] (fun _ wr => ∃ (L : Int → Bool) (cnt : Nat), HLoop B s N k cls live adj w.heap.size a b (gone N (adj (a : Int)) L (hardAt adj N k a b)) a r L cnt w wr) (fun _ wr => wr.rangeLeft (B + 3 + a) r)
  case atStart => exact ⟨_, _, HL1.out⟩
  case round =>
    clear HL1
    obtain ⟨L, cnt, hI⟩ := hrel
    rcases hI.next HA.out with ⟨h0, hrun⟩ | ⟨x, W2, cnt', hxN, hLx, hSx, hrun, hlt6, hen, hI2⟩
    · have hst := hI.st
      rw [gone_done _ _ _ _ h0] at hst
      have hbut := hI.but
      clear hI h0
      obtain ⟨M1, hM1⟩ : ∃ m, card N (fun x => adj (a : Int) x && hardAt adj N k a b x) = m := ⟨_, rfl⟩
      have hM1N := card_le N (fun x => adj (a : Int) x && hardAt adj N k a b x)
      rw [hM1] at hst hM1N
      have HM1 := Lib.hid hM1
      clear hM1
      obtain ⟨W3, hrange, hloop⟩ := hst.range hbut hN (Nat.le_refl _) hb lb HA.out
      have hgs := gone_start N (adj (b : Int)) (fun x => !adj (a : Int) x && hardAt adj N k a b x)
      rw [show M1 = M1 + gone N (adj (b : Int)) (adj (b : Int)) (fun x => !adj (a : Int) x && hardAt adj N k a b x) by rw [hgs]; rfl] at hloop
      have HL2 := Lib.hid hloop
      have hg := hst.cells.bg
      have hmb := hst.cells.map_at hb lb
      have hcb := hst.cb
      unfold I64 at hcb
      clear hgs hloop hst hbut
      go_wp2
      clear hrange hg hmb hcb
      generalize wr.heap.size = r2 at HL2 ⊢
      obtain ⟨wo, rfl⟩ : ∃ wo : World, wo = wr := ⟨_, rfl⟩
      go_loopw [10] (fun _ wr => ∃ (L : Int → Bool) (cnt : Nat), HLoop B s N k cls live adj w.heap.size a b (M1 + gone N (adj (b : Int)) L (fun x => !adj (a : Int) x && hardAt adj N k a b x)) b r2 L cnt w wr) (fun _ wr => wr.rangeLeft (B + 3 + b) r2)
      case atStart => exact ⟨_, _, HL2.out⟩
      case round =>
        clear HL2
        obtain ⟨L, cnt, hI⟩ := hrel
        rcases hI.next HA.out with ⟨h0, hrun⟩ | ⟨x, W4, cnt', hxN, hLx, hSx, hrun, hlt6, hen, hI2⟩
        · have hst := hI.st
          rw [gone_done _ _ _ _ h0] at hst
          have hbut := hI.but
          have hmc := hst.manyc
          have hck := hst.cells.bk
          have hhe := harder_eq (adj := adj) (N := N) (k := k) (a := (a : Int)) (b := (b : Int)) (m := M1 + card N (fun x => adj (b : Int) x && (!adj (a : Int) x && hardAt adj N k a b x))) (by rw [HM1.out])
          unfold I64 at hck
          have HB := Lib.hid hbut
          have HE := Lib.hid hhe
          clear hI h0 hst hbut hhe
          generalize M1 + card N (fun x => adj (b : Int) x && (!adj (a : Int) x && hardAt adj N k a b x)) = M at hmc HE
          go_wp2
          go_ret
          exact ⟨by rw [HE.out]; rfl, HB.out⟩
        · have hst := hI2.st
          have hgl := card_le N (fun x => adj (b : Int) x && !L x && (!adj (a : Int) x && hardAt adj N k a b x))
          have hla := (hst.cells.sets a ha la).look (t := 35) Try.underlying3 Try.underlying35 Try.underlying4 (zero4 _) (x := (x : Int)) (wfi_mk (by omega) (by omega))
          have hg := hst.cells.bg
          have hma := hst.cells.map_at ha la
          have hca := hst.ca
          unfold I64 at hca
          have HLt := Lib.hid hlt6
          have HI := Lib.hid hI
          have HI2 := Lib.hid hI2
          have HSt := Lib.hid hst
          have HSx := Lib.hid hSx
          have Hgs := Lib.hid (gone_step N (adj (b : Int)) L (fun x => !adj (a : Int) x && hardAt adj N k a b x) x hxN hLx hSx)
          have Hgl : Hid (M1 + gone N (adj (b : Int)) L (fun x => !adj (a : Int) x && hardAt adj N k a b x) ≤ 20000) := by unfold Hid gone; dsimp only; omega
          clear hI hI2 hst hlt6 hLx hSx hgl
          cases eax : adj (a : Int) (x : Int) with
          | true =>
            rw [eax] at hla
            go_wp2
            go_roundw
            case rel => exact ⟨_, cnt', by rw [Hgs.out, eax]; exact HI2.out⟩
            case measure => rw [HI2.out.rng.left_eq, HI.out.rng.left_eq]; exact HLt.out
          | false =>
            rw [eax] at hla
            go_wp2_with fail
            refine (count_any hN HA.out Hgl.out HSt.out x hxN ha hb (HLv.out _ _ HSx.out) la lb).mono ?_
            rintro e w5 ⟨rfl, hst5, hbut5⟩
            have HI5 := Lib.hid (HI2.out.after hb hst5 hbut5)
            clear hst5 hbut5
            go_wp2
            go_roundw
            case rel => exact ⟨_, cnt', by rw [Hgs.out, eax, ← Nat.add_assoc]; exact HI5.out⟩
            case measure => rw [HI5.out.rng.left_eq, HI.out.rng.left_eq]; exact HLt.out
    · have hgl := card_le N (fun x => adj (a : Int) x && !L x && hardAt adj N k a b x)
      have HLt := Lib.hid hlt6
      have HI := Lib.hid hI
      have HI2 := Lib.hid hI2
      have HSt := Lib.hid hI2.st
      have HSx := Lib.hid hSx
      have Hgs := Lib.hid (gone_step N (adj (a : Int)) L (hardAt adj N k a b) x hxN hLx hSx)
      have Hgl : Hid (gone N (adj (a : Int)) L (hardAt adj N k a b) ≤ 20000) := by unfold Hid gone; omega
      clear hI hI2 hlt6 hLx hSx hgl
      go_wp2_with fail
      refine (count_any hN HA.out Hgl.out HSt.out x hxN ha hb (HLv.out _ _ HSx.out) la lb).mono ?_
      rintro e w5 ⟨rfl, hst5, hbut5⟩
      have HI5 := Lib.hid (HI2.out.after ha hst5 hbut5)
      clear hst5 hbut5
      go_wp2
      go_roundw
      case rel => exact ⟨_, cnt', by rw [Hgs.out]; exact HI5.out⟩
      case measure => rw [HI5.out.rng.left_eq, HI.out.rng.left_eq]; exact HLt.out
end Go.Proofs.YtgdmdgkfababeaaH
