/-
  colour.Merged: the closures find and count. Own work.
-/
import Derived.Test.YtgdmdgkfababeaaHMerA
import Derived.Deep.LoopGhost
import Derived.Deep.RegionHeld3
import Derived.BigQuiet
namespace Go.Proofs.YtgdmdgkfababeaaH
open Go Go.RowKit Go.Shelf Go.Proofs.YtgdmdgkfababeaaCol Go.Proofs.Ytgdmdgkfababeaa.M Go.Proofs.YtgdmdgkfababeaaW.PrintWords

set_option maxRecDepth 100000 in
set_option maxHeartbeats 2000000 in
theorem find_any (N : Nat) (_hN : N ≤ 8192) (cls : List Int) (hL : LeOk N cls) (bc gc : Nat) (a : Nat) (ha : a < N) (w : World)
    (hc : w.cell? ⟨bc, 0, none⟩ = some (.slice (some ⟨gc, 0, none⟩) N N)) (hcc : ∀ j, j < N → w.cell? ⟨gc, j, none⟩ = some (.int .i64 (cls.getD j 0))) :
    Calls Try.prog 22 #[.int .i64 (a : Int), .pointer (some ⟨bc, 0, none⟩)] w fun e w' => e = .returned (.int .i64 (find cls (a : Int))) ∧ ∃ q, w' = w.drewN q := by
  have Hcc := Lib.hid hcc
  have HL := Lib.hid hL
  clear hcc hL
  go_enter Try.func22, Try.ntmps22
  go_wp2
  go_loopg [0] N (fun m v wr => ∃ c : Nat, c < N ∧ c < m ∧ v = .int .i64 (c : Int) ∧ Hid (findGo cls m (c : Int) = find cls (a : Int)) ∧ ∃ q, wr = w.drewN q)
  case atStart => exact ⟨a, ha, ha, rfl, (by unfold Hid find; rw [HL.out.len]), 0, rfl⟩
  case round =>
    obtain ⟨c, hcN, hcm, rfl, hgo, q, rfl⟩ := hrel
    have hcell := Hcc.out c hcN
    have h1 := HL.out.ge c hcN
    have h2 := HL.out.le c hcN
    have hgo' := hgo.out
    obtain ⟨m, rfl⟩ : ∃ m, gk = m + 1 := ⟨gk - 1, by omega⟩
    unfold findGo at hgo'
    rw [Int.toNat_natCast] at hgo'
    obtain ⟨d, hd⟩ : ∃ d : Nat, cls.getD c 0 = (d : Int) := ⟨(cls.getD c 0).toNat, by omega⟩
    rw [hd] at hcell hgo' h2
    clear hgo hd h1
    by_cases e : (d : Int) = (c : Int)
    · rw [if_pos e] at hgo'
      have H := Lib.hid hgo'
      clear hgo'
      have e' : d = c := by omega
      subst e'
      go_wp2
      go_ret
      exact ⟨ret_int H.out, (by first | exact ⟨_, rfl⟩ | (simp only [World.drewN_drewN]; exact ⟨_, rfl⟩))⟩
    · rw [if_neg e] at hgo'
      have H : Hid (findGo cls m (d : Int) = find cls (a : Int)) := hgo'
      clear hgo'
      have e' : ((d : Int) != (c : Int)) = true := by rw [bne_iff_ne]; exact e
      go_wp2
      go_roundg m
      case measure => omega
      case rel => exact ⟨d, by omega, by omega, rfl, H, (by first | exact ⟨_, rfl⟩ | (simp only [World.drewN_drewN]; exact ⟨_, rfl⟩))⟩

/-- What harder's loops hold: a, b, how many. -/
structure HSt (B s N : Nat) (k : Int) (cls : List Int) (live : Nat → Bool) (adj : Int → Int → Bool) (h a b : Nat) (many : Nat) (W : World) : Prop where
  cells : MCells B s N k cls live adj W
  ca : W.cell? ⟨h, 0, none⟩ = some (I64 (a : Int))
  cb : W.cell? ⟨h + 1, 0, none⟩ = some (I64 (b : Int))
  cm : W.heap[h + 2]? = some (.cells #[I64 (many : Int)] 3 (0, 0))
  hh : s + 3 ≤ h
  size : h + 3 ≤ W.heap.size

section
variable {B s N : Nat} {k : Int} {cls : List Int} {live : Nat → Bool} {adj : Int → Int → Bool} {h a b many : Nat} {W W' : World}
theorem HSt.same (H : HSt B s N k cls live adj h a b many W) (hz : W.heap.size ≤ W'.heap.size) (hb : ∀ j, j < h + 3 → W'.heap[j]? = W.heap[j]?) : HSt B s N k cls live adj h a b many W' :=
  have hh := H.hh
  { cells := H.cells.same hz (fun j hj => hb j (by omega)), ca := (World.cell?_of_block (hb _ (by dsimp only; omega))).trans H.ca, cb := (World.cell?_of_block (hb _ (by dsimp only; omega))).trans H.cb, cm := (hb _ (by omega)).trans H.cm, hh := hh, size := Nat.le_trans H.size hz }
theorem HSt.drewN (H : HSt B s N k cls live adj h a b many W) (n : Nat) : HSt B s N k cls live adj h a b many (W.drewN n) := H.same (Nat.le_refl _) (fun _ _ => rfl)
theorem HSt.grown (H : HSt B s N k cls live adj h a b many W) {row : Option Nat} (hg : W.grownBy W' row) (hr : ∀ b, row = some b → h + 3 ≤ b) : HSt B s N k cls live adj h a b many W' :=
  H.same hg.size (fun j hj => hg.block j (by have := H.size; omega) (fun e => by have := hr j e.symm; omega))
theorem HSt.one (H : HSt B s N k cls live adj h a b many W) : HSt B s N k cls live adj h a b (many + 1) (W.setCell ⟨h + 2, 0, none⟩ (I64 ((many + 1 : Nat) : Int))) :=
  have hh := H.hh
  { cells := H.cells.far (by dsimp only; omega) _, ca := (cell_far (by dsimp only; omega) _).trans H.ca, cb := (cell_far (by dsimp only; omega) _).trans H.cb,
    cm := by
      have h' := H.cm
      simp only [World.setCell, Array.getElem?_modify, h', if_true, Option.map_some, Option.isSome_none, Bool.false_eq_true, if_false]
      rfl
    hh := hh, size := by simp [World.setCell]; exact H.size }
theorem HSt.manyc (H : HSt B s N k cls live adj h a b many W) : W.cell? ⟨h + 2, 0, none⟩ = some (.int .i64 (many : Int)) := cell_of_row _ _ 0 _ 3 (0, 0) H.cm
theorem HSt.frozen (H : HSt B s N k cls live adj h a b many W) : W.frozen? ⟨h + 2, 0, none⟩ = false := by
  simp [World.frozen?, H.cm]
end

set_option maxRecDepth 100000 in
set_option maxHeartbeats 2000000 in
theorem count_any {B s N : Nat} (hN : N ≤ 8192) {k : Int} {cls : List Int} {live : Nat → Bool} {adj : Int → Int → Bool} (hadj : ∀ i x, adj i x = true → 0 ≤ x ∧ x < N) {h a b many : Nat} (hm : many ≤ 20000) {w : World} (H : HSt B s N k cls live adj h a b many w) (x : Nat) (hx : x < N) (ha : a < N) (hb : b < N)
    (lx : live x = true) (la : live a = true) (lb : live b = true) :
    Calls Try.prog 24 #[.int .i64 (x : Int), .pointer (some ⟨s, 0, none⟩), .pointer (some ⟨h, 0, none⟩), .pointer (some ⟨h + 1, 0, none⟩), .pointer (some ⟨B, 0, none⟩), .pointer (some ⟨h + 2, 0, none⟩)] w fun e w' =>
      e = .returned (.tuple #[]) ∧ HSt B s N k cls live adj h a b (many + if hardAt adj N k a b x = true then 1 else 0) w' ∧ But [h + 2] w w' := by
  have hc := H.cells
  have hg := hc.bg
  have mx := hc.map_at hx lx
  have ma := hc.map_at ha la
  have mb := hc.map_at hb lb
  have ca := H.ca
  have cb := H.cb
  have ck := hc.bk
  have cm := H.manyc
  have cf := H.frozen
  have hlen := SetAt.len (hc.sets x hx lx) Try.underlying3 Try.underlying35 (N := N) (by omega) (hadj x)
  have la1 := (hc.sets a ha la).look (t := 35) Try.underlying3 Try.underlying35 Try.underlying4 (zero4 _) (x := (x : Int)) (wfi_mk (by omega) (by omega))
  have lb1 := (hc.sets b hb lb).look (t := 35) Try.underlying3 Try.underlying35 Try.underlying4 (zero4 _) (x := (x : Int)) (wfi_mk (by omega) (by omega))
  have hcard := card_le N (adj (x : Int))
  have hha : hardAt adj N k a b x = decide (k ≤ (card N (adj (x : Int)) : Int) - (if (adj a x && adj b x) = true then 1 else 0)) := rfl
  generalize card N (adj (x : Int)) = d at hlen hcard hha
  have HH := Lib.hid H
  have Hha := Lib.hid hha
  clear H hc hadj hha
  unfold I64 at ca cb ck
  cases ea : adj (a : Int) (x : Int) with
  | true =>
    rw [ea] at la1 Hha
    cases eb : adj (b : Int) (x : Int) with
    | true =>
      rw [eb] at lb1 Hha
      by_cases hk : k ≤ (d : Int) - 1
      · have e : hardAt adj N k a b x = true := by rw [Hha.out]; exact decide_eq_true (by simpa using hk)
        rw [e]
        clear Hha e ea eb
        go_enter Try.func24, Try.ntmps24
        go_wp2
        go_end0
        exact ⟨rfl, HH.out.one, (But.refl _ _).setCell (.inl (by simp)) _⟩
      · have e : hardAt adj N k a b x = false := by rw [Hha.out]; exact decide_eq_false (by simpa using hk)
        rw [e]
        clear Hha e ea eb
        go_enter Try.func24, Try.ntmps24
        go_wp2
        go_end0
        exact ⟨rfl, HH.out, (But.refl _ _)⟩
    | false =>
      rw [eb] at lb1 Hha
      by_cases hk : k ≤ (d : Int)
      · have e : hardAt adj N k a b x = true := by rw [Hha.out]; exact decide_eq_true (by simpa using hk)
        rw [e]
        clear Hha e ea eb
        go_enter Try.func24, Try.ntmps24
        go_wp2
        go_end0
        exact ⟨rfl, HH.out.one, (But.refl _ _).setCell (.inl (by simp)) _⟩
      · have e : hardAt adj N k a b x = false := by rw [Hha.out]; exact decide_eq_false (by simpa using hk)
        rw [e]
        clear Hha e ea eb
        go_enter Try.func24, Try.ntmps24
        go_wp2
        go_end0
        exact ⟨rfl, HH.out, (But.refl _ _)⟩
  | false =>
    rw [ea] at la1 Hha
    by_cases hk : k ≤ (d : Int)
    · have e : hardAt adj N k a b x = true := by rw [Hha.out]; exact decide_eq_true (by simpa using hk)
      rw [e]
      clear Hha e ea
      go_enter Try.func24, Try.ntmps24
      go_wp2
      go_end0
      exact ⟨rfl, HH.out.one, (But.refl _ _).setCell (.inl (by simp)) _⟩
    · have e : hardAt adj N k a b x = false := by rw [Hha.out]; exact decide_eq_false (by simpa using hk)
      rw [e]
      clear Hha e ea
      go_enter Try.func24, Try.ntmps24
      go_wp2
      go_end0
      exact ⟨rfl, HH.out, (But.refl _ _)⟩
end Go.Proofs.YtgdmdgkfababeaaH

/-
  colour.Merged: the closure harder. Own work.
-/
namespace Go.Proofs.YtgdmdgkfababeaaH
open Go Go.RowKit Go.Shelf Go.Proofs.YtgdmdgkfababeaaCol Go.Proofs.Ytgdmdgkfababeaa.M Go.Proofs.YtgdmdgkfababeaaW.PrintWords

theorem filter_add {α : Type} (p q r : α → Bool) : ∀ (l : List α), (∀ x ∈ l, r x = (p x || q x)) → (∀ x ∈ l, ¬(p x = true ∧ q x = true)) → (l.filter r).length = (l.filter p).length + (l.filter q).length
  | [], _, _ => by simp
  | x :: t, h, hd => by
    have ih := filter_add p q r t (fun y hy => h y (by simp [hy])) (fun y hy => hd y (by simp [hy]))
    have h0 := h x (by simp)
    have h1 := hd x (by simp)
    rw [List.filter_cons, List.filter_cons, List.filter_cons, h0]
    cases hp : p x <;> cases hq : q x <;> simp [hp, hq] at h1 ⊢ <;> omega
theorem card_add {N : Nat} {p q r : Int → Bool} (h : ∀ x : Nat, x < N → r x = (p x || q x)) (hd : ∀ x : Nat, x < N → ¬(p x = true ∧ q x = true)) : card N r = card N p + card N q :=
  filter_add _ _ _ _ (fun x hx => h x (List.mem_range.1 hx)) (fun x hx => hd x (List.mem_range.1 hx))
theorem card_none {N : Nat} {p : Int → Bool} (h : ∀ x : Nat, x < N → p x = false) : card N p = 0 := by
  unfold card
  rw [List.length_eq_zero_iff, List.filter_eq_nil_iff]
  intro x hx
  rw [h x (List.mem_range.1 hx)]; simp
theorem card_single {N : Nat} (x : Nat) (hx : x < N) (f : Int → Bool) : card N (fun y => decide (y = (x : Int)) && f y) = if f x = true then 1 else 0 := by
  cases hf : f x with
  | false =>
    rw [if_neg (by simp)]
    refine card_none (fun y _ => ?_)
    by_cases e : y = x
    · subst e; rw [hf]; simp
    · rw [decide_eq_false (by omega)]; rfl
  | true =>
    rw [if_pos rfl]
    induction N with
    | zero => omega
    | succ n ih =>
      unfold card at ih ⊢
      rw [List.range_succ, List.filter_append, List.length_append]
      by_cases e : x = n
      · subst e
        have : ((List.range x).filter fun i : Nat => decide ((i : Int) = (x : Int)) && f i) = [] := by
          rw [List.filter_eq_nil_iff]
          intro y hy
          have := List.mem_range.1 hy
          rw [decide_eq_false (by omega)]; simp
        rw [this]
        simp [hf]
      · rw [ih (by omega)]
        have : decide ((n : Int) = (x : Int)) = false := decide_eq_false (by omega)
        simp [this]
theorem card_congr {N : Nat} {p q : Int → Bool} (h : ∀ x : Nat, x < N → p x = q x) : card N p = card N q := by
  unfold card
  congr 1
  apply List.filter_congr
  intro x hx
  exact h x (List.mem_range.1 hx)

/-- How many that are no longer to come. -/
def gone (N : Nat) (S L f : Int → Bool) : Nat := card N (fun x => S x && !L x && f x)
theorem gone_start (N : Nat) (S f : Int → Bool) : gone N S S f = 0 := card_none (fun x _ => by cases S x <;> simp)
theorem gone_done (N : Nat) (S L f : Int → Bool) (h : ∀ x, L x = false) : gone N S L f = card N (fun x => S x && f x) := card_congr (fun x _ => by rw [h]; simp)
theorem gone_step (N : Nat) (S L f : Int → Bool) (x : Nat) (hx : x < N) (hL : L x = true) (hS : S x = true) : gone N S (fun y => !decide (y = (x : Int)) && L y) f = gone N S L f + if f x = true then 1 else 0 := by
  unfold gone
  rw [← card_single x hx f]
  refine card_add (fun y _ => ?_) (fun y _ => ?_)
  · by_cases e : y = x
    · subst e; rw [hS, hL]; simp
    · have : ¬ (y : Int) = (x : Int) := by omega
      simp [this]
  · by_cases e : y = x
    · subst e; rw [hS, hL]; simp
    · have : ¬ (y : Int) = (x : Int) := by omega
      simp [this]

section
variable {B s N : Nat} {k : Int} {cls : List Int} {live : Nat → Bool} {adj : Int → Int → Bool} {h a b many t r cnt : Nat} {L : Int → Bool} {w W W' : World}
structure HLoop (B s N : Nat) (k : Int) (cls : List Int) (live : Nat → Bool) (adj : Int → Int → Bool) (h a b many t r : Nat) (L : Int → Bool) (cnt : Nat) (w W : World) : Prop where
  st : HSt B s N k cls live adj h a b many W
  rng : RangeAt Try.prog 3 4 W (B + 3 + t) r N (adj (t : Int)) L cnt
  but : But [] w W
  hr : h + 3 ≤ r
  hw : w.heap.size ≤ h
  sub : ∀ x, L x = true → adj (t : Int) x = true

theorem HSt.range (H : HSt B s N k cls live adj h a b many W) (hb : But [] w W) (hN : N ≤ 8192) (hw : w.heap.size ≤ h) (ht : t < N) (hl : live t = true) (hadj : ∀ i x, adj i x = true → 0 ≤ x ∧ x < N) :
    ∃ W', (Instr.range 35 (.map (some (B + 3 + t)))).run Try.prog W = .ok (.pointer (some ⟨W.heap.size, 0, none⟩)) W' ∧ HLoop B s N k cls live adj h a b many t W.heap.size (adj (t : Int)) (card N (adj (t : Int))) w W' := by
  obtain ⟨W', hrun, hr, hg, hz'⟩ := (H.cells.sets t ht hl).range Try.underlying3 Try.underlying35 (N := N) (by omega) (hadj t)
  exact ⟨W', hrun, ⟨H.grown hg (fun b e => by cases e), hr, hb.grown hg (fun b e => by cases e), H.size, hw, fun _ h => h⟩⟩

theorem HLoop.next (H : HLoop B s N k cls live adj h a b many t r L cnt w W) (hadj : ∀ i x, adj i x = true → 0 ≤ x ∧ x < N) :
    ((∀ x, L x = false) ∧ ∀ ty, (Instr.next (.pointer (some ⟨r, 0, none⟩)) false ty).run Try.prog W = .ok (.tuple #[.bool false]) W) ∨
    ∃ (x : Nat) (W1 : World) (cnt' : Nat), x < N ∧ L (x : Int) = true ∧ adj (t : Int) x = true ∧ (∀ ty, (Instr.next (.pointer (some ⟨r, 0, none⟩)) false ty).run Try.prog W = .ok (.tuple #[.bool true, .int .i64 (x : Int), .bool true]) W1) ∧ cnt' < cnt ∧
      (Instr.entry (.pointer (some ⟨r, 0, none⟩))).run Try.prog W1 = .ok (.tuple #[.int .i64 (x : Int), .bool true]) W1 ∧ HLoop B s N k cls live adj h a b many t r (fun y => !decide (y = (x : Int)) && L y) cnt' w W1 := by
  rcases H.rng.next Try.underlying3 Try.underlying4 with ⟨h0, hrun⟩ | ⟨x0, W1, cnt', hLx, hrun, hrg, hlt, hg, hz, hen⟩
  · exact .inl ⟨h0, hrun⟩
  · have hSx := H.sub x0 hLx
    have hx := hadj _ _ hSx
    obtain ⟨x, rfl⟩ : ∃ x : Nat, x0 = (x : Int) := ⟨x0.toNat, by omega⟩
    have hr := H.hr
    have hw := H.hw
    exact .inr ⟨x, W1, cnt', by omega, hLx, hSx, hrun, hlt, hen, ⟨H.st.grown hg (fun b e => by cases e; omega), hrg, H.but.grown hg (fun b e => by cases e; exact .inr (by omega)), hr, hw, fun y hy => H.sub y (by simp at hy; exact hy.2)⟩⟩

theorem HLoop.after (H : HLoop B s N k cls live adj h a b many t r L cnt w W) (ht : t < N) {many' : Nat} (hs : HSt B s N k cls live adj h a b many' W') (hb : But [h + 2] W W') : HLoop B s N k cls live adj h a b many' t r L cnt w W' := by
  have hr := H.hr
  have hw := H.hw
  have hh := H.st.hh
  have hhs := H.st.cells.hs
  have hlt := H.rng.lt
  have hsz := H.st.size
  refine ⟨hs, H.rng.same (hb.block _ (by omega) (by simp; omega)) (hb.block _ hlt (by simp; omega)), ?_, hr, hw, H.sub⟩
  exact ⟨hb.os.trans H.but.os, hb.tape.trans H.but.tape, hb.output.trans H.but.output, Nat.le_trans H.but.size hb.size, fun j hj _ => (hb.block j (by have := H.but.size; omega) (by simp; omega)).trans (H.but.block j hj (by simp))⟩
end

theorem harder_eq {adj : Int → Int → Bool} {N : Nat} {k : Int} {a b : Int} {m : Nat} (h : m = card N (fun x => adj a x && hardAt adj N k a b x) + card N (fun x => adj b x && (!adj a x && hardAt adj N k a b x))) : harder adj N k a b = decide (k ≤ (m : Int)) := by
  unfold harder
  rw [h, card_add (N := N) (p := fun x => adj a x && hardAt adj N k a b x) (q := fun x => adj b x && (!adj a x && hardAt adj N k a b x))]
  · intro x _; cases adj a x <;> cases adj b x <;> cases hardAt adj N k a b x <;> rfl
  · intro x _; cases adj a x <;> cases adj b x <;> cases hardAt adj N k a b x <;> simp

set_option maxRecDepth 100000 in
set_option maxHeartbeats 4000000 in
theorem harder_any {B s N : Nat} (hN : N ≤ 8192) {k : Int} {cls : List Int} {live : Nat → Bool} {adj : Int → Int → Bool} (hadj : ∀ i x, adj i x = true → 0 ≤ x ∧ x < N) (hlive : ∀ (i : Int) (x : Nat), adj i x = true → live x = true)
    {w : World} (C : MCells B s N k cls live adj w) (a b : Nat) (ha : a < N) (hb : b < N) (la : live a = true) (lb : live b = true) :
    Calls Try.prog 23 #[.int .i64 (a : Int), .int .i64 (b : Int), .pointer (some ⟨s, 0, none⟩), .pointer (some ⟨B, 0, none⟩)] w fun e w' =>
      e = .returned (.bool (harder adj N k a b)) ∧ But [] w w' := by
  have hst : HSt B s N k cls live adj w.heap.size a b 0 (((w.alloc (.cells #[.int .i64 (a : Int)] 3)).alloc (.cells #[.int .i64 (b : Int)] 3)).alloc (.cells #[.int .i64 0] 3)) :=
    { cells := ((C.alloc _).alloc _).alloc _
      ca := by rw [World.cell?_of_block (Below.heap_alloc _ _ _ (by simp; omega)), World.cell?_of_block (Below.heap_alloc _ _ _ (by simp))]; exact cell_of_row _ _ 0 _ 3 (0, 0) (heap_alloc_new w _)
      cb := by rw [World.cell?_of_block (Below.heap_alloc _ _ _ (by simp))]; exact cell_of_row _ _ 0 _ 3 (0, 0) (by have := heap_alloc_new (w.alloc (.cells #[.int .i64 (a : Int)] 3)) (.cells #[.int .i64 (b : Int)] 3); rwa [World.size_alloc] at this)
      cm := by have := heap_alloc_new ((w.alloc (.cells #[.int .i64 (a : Int)] 3)).alloc (.cells #[.int .i64 (b : Int)] 3)) (.cells #[.int .i64 0] 3); rwa [World.size_alloc, World.size_alloc] at this
      hh := C.size
      size := by simp }
  have hbut : But [] w (((w.alloc (.cells #[.int .i64 (a : Int)] 3)).alloc (.cells #[.int .i64 (b : Int)] 3)).alloc (.cells #[.int .i64 0] 3)) := (((But.refl _ _).alloc _).alloc _).alloc _
  obtain ⟨W1, hrange, hloop⟩ := hst.range hbut hN (Nat.le_refl _) ha la hadj
  have HL1 := Lib.hid hloop
  have HA := Lib.hid hadj
  have HLv := Lib.hid hlive
  have hg := hst.cells.bg
  have hma := hst.cells.map_at ha la
  have hca := hst.ca
  have hcb := hst.cb
  unfold I64 at hca hcb
  clear hadj hlive hst hbut C hloop
  go_enter Try.func23, Try.ntmps23
  go_wp2
  simp only [Nat.add_assoc, Nat.reduceAdd]
  clear hrange hg hma hca hcb
  have hgs := gone_start N (adj (a : Int)) (hardAt adj N k a b)
  rw [← hgs] at HL1
  clear hgs
  have Hsz : Hid (w.heap.size + 3 ≤ (((w.alloc (.cells #[.int .i64 (a : Int)] 3)).alloc (.cells #[.int .i64 (b : Int)] 3)).alloc (.cells #[.int .i64 0] 3)).heap.size) := by unfold Hid; simp
  simp only [World.size_alloc, Nat.add_assoc, Nat.reduceAdd] at HL1 Hsz ⊢
  generalize w.heap.size + 3 = r at HL1 Hsz ⊢
  go_loopw [9] (fun _ wr => ∃ (L : Int → Bool) (cnt : Nat), HLoop B s N k cls live adj w.heap.size a b (gone N (adj (a : Int)) L (hardAt adj N k a b)) a r L cnt w wr) (fun _ wr => wr.rangeLeft (B + 3 + a) r)
  case atStart => exact ⟨_, _, HL1.out⟩
  case round =>
    clear HL1
    obtain ⟨L, cnt, hI⟩ := hrel
    rcases hI.next HA.out with ⟨h0, hrun⟩ | ⟨x, W2, cnt', hxN, hLx, hSx, hrun, hlt6, hen, hI2⟩
    · have hst := hI.st
      rw [gone_done _ _ _ _ h0] at hst
      have hbut := hI.but
      clear hI h0
      obtain ⟨M1, hM1⟩ : ∃ m, card N (fun x => adj (a : Int) x && hardAt adj N k a b x) = m := ⟨_, rfl⟩
      have hM1N := card_le N (fun x => adj (a : Int) x && hardAt adj N k a b x)
      rw [hM1] at hst hM1N
      have HM1 := Lib.hid hM1
      clear hM1
      obtain ⟨W3, hrange, hloop⟩ := hst.range hbut hN (Nat.le_refl _) hb lb HA.out
      have hgs := gone_start N (adj (b : Int)) (fun x => !adj (a : Int) x && hardAt adj N k a b x)
      rw [show M1 = M1 + gone N (adj (b : Int)) (adj (b : Int)) (fun x => !adj (a : Int) x && hardAt adj N k a b x) by rw [hgs]; rfl] at hloop
      have HL2 := Lib.hid hloop
      have hg := hst.cells.bg
      have hmb := hst.cells.map_at hb lb
      have hcb := hst.cb
      unfold I64 at hcb
      clear hgs hloop hst hbut
      go_wp2
      clear hrange hg hmb hcb
      generalize wr.heap.size = r2 at HL2 ⊢
      obtain ⟨wo, rfl⟩ : ∃ wo : World, wo = wr := ⟨_, rfl⟩
      go_loopw [10] (fun _ wr => ∃ (L : Int → Bool) (cnt : Nat), HLoop B s N k cls live adj w.heap.size a b (M1 + gone N (adj (b : Int)) L (fun x => !adj (a : Int) x && hardAt adj N k a b x)) b r2 L cnt w wr) (fun _ wr => wr.rangeLeft (B + 3 + b) r2)
      case atStart => exact ⟨_, _, HL2.out⟩
      case round =>
        clear HL2
        obtain ⟨L, cnt, hI⟩ := hrel
        rcases hI.next HA.out with ⟨h0, hrun⟩ | ⟨x, W4, cnt', hxN, hLx, hSx, hrun, hlt6, hen, hI2⟩
        · have hst := hI.st
          rw [gone_done _ _ _ _ h0] at hst
          have hbut := hI.but
          have hmc := hst.manyc
          have hck := hst.cells.bk
          have hhe := harder_eq (adj := adj) (N := N) (k := k) (a := (a : Int)) (b := (b : Int)) (m := M1 + card N (fun x => adj (b : Int) x && (!adj (a : Int) x && hardAt adj N k a b x))) (by rw [HM1.out])
          unfold I64 at hck
          have HB := Lib.hid hbut
          have HE := Lib.hid hhe
          clear hI h0 hst hbut hhe
          generalize M1 + card N (fun x => adj (b : Int) x && (!adj (a : Int) x && hardAt adj N k a b x)) = M at hmc HE
          go_wp2
          go_ret
          exact ⟨by rw [HE.out]; rfl, HB.out⟩
        · have hst := hI2.st
          have hgl := card_le N (fun x => adj (b : Int) x && !L x && (!adj (a : Int) x && hardAt adj N k a b x))
          have hla := (hst.cells.sets a ha la).look (t := 35) Try.underlying3 Try.underlying35 Try.underlying4 (zero4 _) (x := (x : Int)) (wfi_mk (by omega) (by omega))
          have hg := hst.cells.bg
          have hma := hst.cells.map_at ha la
          have hca := hst.ca
          unfold I64 at hca
          have HLt := Lib.hid hlt6
          have HI := Lib.hid hI
          have HI2 := Lib.hid hI2
          have HSt := Lib.hid hst
          have HSx := Lib.hid hSx
          have Hgs := Lib.hid (gone_step N (adj (b : Int)) L (fun x => !adj (a : Int) x && hardAt adj N k a b x) x hxN hLx hSx)
          have Hgl : Hid (M1 + gone N (adj (b : Int)) L (fun x => !adj (a : Int) x && hardAt adj N k a b x) ≤ 20000) := by unfold Hid gone; dsimp only; omega
          clear hI hI2 hst hlt6 hLx hSx hgl
          cases eax : adj (a : Int) (x : Int) with
          | true =>
            rw [eax] at hla
            go_wp2
            go_roundw
            case rel => exact ⟨_, cnt', by rw [Hgs.out, eax]; exact HI2.out⟩
            case measure => rw [HI2.out.rng.left_eq, HI.out.rng.left_eq]; exact HLt.out
          | false =>
            rw [eax] at hla
            go_wp2_with fail
            refine (count_any hN HA.out Hgl.out HSt.out x hxN ha hb (HLv.out _ _ HSx.out) la lb).mono ?_
            rintro e w5 ⟨rfl, hst5, hbut5⟩
            have HI5 := Lib.hid (HI2.out.after hb hst5 hbut5)
            clear hst5 hbut5
            go_wp2
            go_roundw
            case rel => exact ⟨_, cnt', by rw [Hgs.out, eax, ← Nat.add_assoc]; exact HI5.out⟩
            case measure => rw [HI5.out.rng.left_eq, HI.out.rng.left_eq]; exact HLt.out
    · have hgl := card_le N (fun x => adj (a : Int) x && !L x && hardAt adj N k a b x)
      have HLt := Lib.hid hlt6
      have HI := Lib.hid hI
      have HI2 := Lib.hid hI2
      have HSt := Lib.hid hI2.st
      have HSx := Lib.hid hSx
      have Hgs := Lib.hid (gone_step N (adj (a : Int)) L (hardAt adj N k a b) x hxN hLx hSx)
      have Hgl : Hid (gone N (adj (a : Int)) L (hardAt adj N k a b) ≤ 20000) := by unfold Hid gone; omega
      clear hI hI2 hlt6 hLx hSx hgl
      go_wp2_with fail
      refine (count_any hN HA.out Hgl.out HSt.out x hxN ha hb (HLv.out _ _ HSx.out) la lb).mono ?_
      rintro e w5 ⟨rfl, hst5, hbut5⟩
      have HI5 := Lib.hid (HI2.out.after ha hst5 hbut5)
      clear hst5 hbut5
      go_wp2
      go_roundw
      case rel => exact ⟨_, cnt', by rw [Hgs.out]; exact HI5.out⟩
      case measure => rw [HI5.out.rng.left_eq, HI.out.rng.left_eq]; exact HLt.out
end Go.Proofs.YtgdmdgkfababeaaH

/-
  colour.Merged: the closure join. Own work.
-/
namespace Go.Proofs.YtgdmdgkfababeaaH
open Go Go.RowKit Go.Shelf Go.Proofs.YtgdmdgkfababeaaCol Go.Proofs.Ytgdmdgkfababeaa.M Go.Proofs.YtgdmdgkfababeaaW.PrintWords

section
variable {B s N : Nat} {k : Int} {cls : List Int} {live : Nat → Bool} {adj : Int → Int → Bool} {a b r cnt : Nat} {L : Int → Bool} {w W W' : World}

/-- The round's state: what is left of b's neighbours. -/
structure JLoop (B s N : Nat) (k : Int) (cls : List Int) (live : Nat → Bool) (adj : Int → Int → Bool) (a b r : Nat) (L : Int → Bool) (cnt : Nat) (w W : World) : Prop where
  cells : MCells B s N k cls live (midAdj adj a b L) W
  rng : RangeAt Try.prog 3 4 W (B + 3 + b) r N (adj (b : Int)) L cnt
  below : Below B w W
  hr : s + 3 ≤ r
  sub : ∀ x, L x = true → adj (b : Int) x = true

/-- What the region reads. -/
def JReads (B s a x : Nat) (N : Nat) (W : World) : Prop :=
  W.cell? ⟨s, 0, none⟩ = some (.slice (some ⟨B + 2, 0, none⟩) N N) ∧ W.cell? ⟨B + 2, x, none⟩ = some (.map (some (B + 3 + x))) ∧ W.cell? ⟨B + 2, a, none⟩ = some (.map (some (B + 3 + a)))

theorem JReads.grown {x i : Nat} (h : JReads B s a x N W) (hb : B + 3 ≤ i) (hi : i < s) (hs : s < W.heap.size) (hg : W.grownBy W' (some i)) : JReads B s a x N W' := by
  obtain ⟨h1, h2, h3⟩ := h
  have c : ∀ k o, k < W.heap.size → k ≠ i → W'.cell? ⟨k, o, none⟩ = W.cell? ⟨k, o, none⟩ := fun k o hk hne => World.cell?_of_block (hg.block k hk (by simpa using hne))
  exact ⟨(c _ _ (by omega) (by omega)).trans h1, (c _ _ (by omega) (by omega)).trans h2, (c _ _ (by omega) (by omega)).trans h3⟩

theorem JLoop.step (H : JLoop B s N k cls live adj a b r L cnt w W) (hN : N ≤ 8192) (hadj : ∀ i x, adj i x = true → 0 ≤ x ∧ x < N) (symm : ∀ x y, adj x y = adj y x) (irr : ∀ x, adj x x = false) (hab : a ≠ b) (ha : a < N) (hb : b < N) (la : live a = true) (hlive : ∀ (i : Int) (x : Nat), adj i x = true → live x = true)
    (hna : adj (a : Int) (b : Int) = false) :
    ((∀ x, L x = false) ∧ ∀ ty, (Instr.next (.pointer (some ⟨r, 0, none⟩)) false ty).run Try.prog W = .ok (.tuple #[.bool false]) W) ∨
    ∃ (x : Nat) (W1 W2 : World) (cnt' : Nat), x < N ∧ x ≠ a ∧ x ≠ b ∧ (∀ ty, (Instr.next (.pointer (some ⟨r, 0, none⟩)) false ty).run Try.prog W = .ok (.tuple #[.bool true, .int .i64 (x : Int), .bool true]) W1) ∧ cnt' < cnt ∧
      (Instr.entry (.pointer (some ⟨r, 0, none⟩))).run Try.prog W1 = .ok (.tuple #[.int .i64 (x : Int), .bool true]) W1 ∧ JReads B s a x N W1 ∧
      (∀ ty, (Builtin.delete_ #[35, 3] ty #[.map (some (B + 3 + x)), .int .i64 (b : Int)]).run Try.prog W1 = .ok (.tuple #[]) W2) ∧ JReads B s a x N W2.drew ∧
      ∃ v1 s1 w1 w2 v3 s3 w3 w4, (Instr.mapEntry 35 (.map (some (B + 3 + x))) (.int .i64 (a : Int))).run Try.prog W2.drew = .ok (.tuple #[v1, .int .i64 s1]) w1 ∧
        (Instr.entryStore 35 (.map (some (B + 3 + x))) (.int .i64 s1) (.bool true)).run Try.prog w1 = .ok () w2 ∧
        (Instr.mapEntry 35 (.map (some (B + 3 + a))) (.int .i64 (x : Int))).run Try.prog w2 = .ok (.tuple #[v3, .int .i64 s3]) w3 ∧
        (Instr.entryStore 35 (.map (some (B + 3 + a))) (.int .i64 s3) (.bool true)).run Try.prog w3 = .ok () w4 ∧
        JReads B s a x N w1 ∧ JReads B s a x N w2 ∧ JReads B s a x N w3 ∧ JReads B s a x N w4 ∧
        JLoop B s N k cls live adj a b r (fun y => !decide (y = (x : Int)) && L y) cnt' w w4 := by
  have hr := H.hr
  have hs := H.cells.hs
  have hz := H.cells.size
  have hrW := H.rng.lt
  rcases H.rng.next Try.underlying3 Try.underlying4 with ⟨h0, hrun⟩ | ⟨x0, W1, cnt', hLx, hrun, hrg, hlt, hg, hz1, hen⟩
  · exact .inl ⟨h0, hrun⟩
  · have hSx := H.sub x0 hLx
    have hx := hadj _ _ hSx
    obtain ⟨x, rfl⟩ : ∃ x : Nat, x0 = (x : Int) := ⟨x0.toNat, by omega⟩
    have hxN : x < N := by omega
    have hxb : x ≠ b := fun e => by rw [e, irr] at hSx; cases hSx
    have hba : adj (b : Int) (a : Int) = false := by rw [symm]; exact hna
    have hxa : x ≠ a := fun e => by rw [e, hba] at hSx; cases hSx
    have lx := hlive _ _ hSx
    have wf : ∀ z : Nat, z < N → wfi (z : Int) := fun z hz => wfi_mk (by omega) (by omega)
    have C1 := H.cells.grown hg (fun b e => by cases e; omega)
    have hz1' := hg.size
    have R1 : JReads B s a x N W1 := ⟨C1.bg, C1.map_at hxN lx, C1.map_at ha la⟩
    have S1 := C1.sets x hxN lx
    have S1a := C1.sets a ha la
    -- the delete
    obtain ⟨W2, e0, t0, g0, z0⟩ : ∃ w', (∀ ty, (Builtin.delete_ #[35, 3] ty #[.map (some (B + 3 + x)), .int .i64 (b : Int)]).run Try.prog W1 = .ok (.tuple #[]) w') ∧ TSet w' (B + 3 + x) N (fun y => !decide (y = (b : Int)) && midAdj adj a b L x y) ∧ W1.grownBy w' (some (B + 3 + x)) ∧ w'.heap.size = W1.heap.size := by
      obtain ⟨w', h1, h2, h3, h4⟩ := S1.drop Try.underlying3 Try.underlying35 (wf b hb) 0
      refine ⟨w', fun ty => ?_, h2, h3, h4⟩
      exact h1
    have R2 : JReads B s a x N W2.drew := by
      have := R1.grown (i := B + 3 + x) (by omega) (by omega) (by omega) g0
      exact this
    have t0' : TSet W2.drew (B + 3 + x) N _ := t0
    obtain ⟨v1, s1, w1, e1, g1, z1, k1⟩ := t0'.entry Try.underlying3 Try.underlying35 Try.underlying4 (zero4 _) (by unfold maxLen; omega) (wf a ha)
    obtain ⟨w2, e2, t2, g2, z2⟩ := k1 w1 rfl
    have zd : W2.drew.heap.size = W2.heap.size := rfl
    have at2 : ∀ j, j < W1.heap.size → j ≠ B + 3 + x → w2.heap[j]? = W1.heap[j]? := fun j hj hn =>
      (((g2.block j (by omega) (by simpa using hn)).trans (g1.block j (by omega) (by simpa using hn))).trans (show W2.drew.heap[j]? = W2.heap[j]? from rfl)).trans (g0.block j hj (by simpa using hn))
    have S3 : TSet w2 (B + 3 + a) N (midAdj adj a b L a) := S1a.same (at2 _ (by omega) (by omega))
    obtain ⟨v3, s3, w3, e3, g3, z3, k3⟩ := S3.entry Try.underlying3 Try.underlying35 Try.underlying4 (zero4 _) (by unfold maxLen; omega) (wf x hxN)
    obtain ⟨w4, e4, t4, g4, z4⟩ := k3 w3 rfl
    have r1 := R2.grown (i := B + 3 + x) (by omega) (by omega) (by omega) g1
    have r2 := r1.grown (i := B + 3 + x) (by omega) (by omega) (by omega) g2
    have r3 := r2.grown (i := B + 3 + a) (by omega) (by omega) (by omega) g3
    have r4 := r3.grown (i := B + 3 + a) (by omega) (by omega) (by omega) g4
    have at4 : ∀ j, j < W1.heap.size → j ≠ B + 3 + x → j ≠ B + 3 + a → w4.heap[j]? = W1.heap[j]? := fun j hj hn hn' =>
      ((g4.block j (by omega) (by simpa using hn')).trans (g3.block j (by omega) (by simpa using hn'))).trans (at2 j hj hn)
    refine .inr ⟨x, W1, W2, cnt', hxN, hxa, hxb, hrun, hlt, hen, R1, e0, R2, v1, s1, w1, w2, v3, s3, w3, w4, e1, e2, e3, e4, r1, r2, r3, r4, ?_⟩
    have hxbI : (x : Int) ≠ (b : Int) := by omega
    have hxaI : (x : Int) ≠ (a : Int) := by omega
    have haI : (a : Int) ≠ (b : Int) := by omega
    have rng : ∀ (L' : Int → Bool) (i : Int) (z : Int), midAdj adj a b L' i z = true → 0 ≤ z ∧ z < N := fun L' i z hz => by
      unfold midAdj at hz
      split at hz
      · exact hadj _ _ hz
      · split at hz
        · simp only [Bool.or_eq_true, Bool.and_eq_true] at hz
          rcases hz with h | h
          · exact hadj _ _ h
          · exact hadj _ _ h.1
        · simp only [Bool.or_eq_true, Bool.and_eq_true, decide_eq_true_eq] at hz
          rcases hz with h | h
          · exact hadj _ _ h.1
          · omega
    refine { cells := ?_, rng := hrg.same (at4 _ (by have := hrg.set.lt; omega) (by omega) (by omega)) (at4 _ (by have := hrg.lt; omega) (by omega) (by omega)), below := ?_, hr := hr, sub := fun y hy => H.sub y (by simp at hy; exact hy.2) }
    · have hb4 : ∀ j, j < s + 3 → j ≠ B + 3 + x → j ≠ B + 3 + a → w4.heap[j]? = W1.heap[j]? := fun j hj h1 h2 => at4 j (by omega) h1 h2
      refine { bk := (World.cell?_of_block (hb4 _ (by dsimp only; omega) (by dsimp only; omega) (by dsimp only; omega))).trans C1.bk, row := C1.row.same (hb4 _ (by omega) (by omega) (by omega)), sets := fun j hj hl => ?_,
               bg := r4.1, rcls := C1.rcls.same (hb4 _ (by omega) (by omega) (by omega)), bcls := (World.cell?_of_block (hb4 _ (by dsimp only; omega) (by dsimp only; omega) (by dsimp only; omega))).trans C1.bcls, size := by omega, lc := C1.lc, hs := hs }
      by_cases jx : j = x
      · subst jx
        have q : TSet w4 (B + 3 + j) (N + 1) _ := t2.same ((g4.block _ (by omega) (by simp; omega)).trans (g3.block _ (by omega) (by simp; omega)))
        have q' : TSet w4 (B + 3 + j) (N + 1) (midAdj adj a b (fun y => !decide (y = (j : Int)) && L y) j) := q.congr (fun y => by
          unfold midAdj
          rw [if_neg hxbI, if_neg hxbI, if_neg hxaI, if_neg hxaI, hLx, hSx]
          simp
          cases adj (j : Int) y <;> by_cases e1 : y = (a : Int) <;> by_cases e2 : y = (b : Int) <;> simp [e1, e2])
        exact TSet.tight q' (by omega) (rng _ _)
      · by_cases ja : j = a
        · subst ja
          have q' : TSet w4 (B + 3 + j) (N + 1) (midAdj adj j b (fun y => !decide (y = (x : Int)) && L y) j) := t4.congr (fun y => by
            unfold midAdj
            rw [if_neg haI, if_pos rfl, if_neg haI, if_pos rfl]
            by_cases e1 : y = (x : Int)
            · subst e1; simp [hSx]
            · simp [e1])
          exact TSet.tight q' (by omega) (rng _ _)
        · refine ((C1.sets j hj hl).same (hb4 _ (by omega) (by omega) (by omega))).congr (fun y => ?_)
          unfold midAdj
          have : decide ((j : Int) = (x : Int)) = false := decide_eq_false (by omega)
          have hjaI : (j : Int) ≠ (a : Int) := by omega
          by_cases e : (j : Int) = (b : Int)
          · rw [if_pos e, if_pos e]
          · rw [if_neg e, if_neg e, if_neg hjaI, if_neg hjaI]; dsimp only; rw [this]; simp
    · have b1 := H.below.grown hg (by omega) (fun b e => by cases e; omega)
      refine ⟨?_, ?_, ?_, by have := b1.size; omega, fun j hj => (at4 j (by omega) (by omega) (by omega)).trans (b1.block j hj)⟩
      · rw [g4.os, g3.os, g2.os, g1.os, show W2.drew.os = W2.os from rfl, g0.os]; exact b1.os
      · rw [g4.tape, g3.tape, g2.tape, g1.tape, show W2.drew.tape = W2.tape from rfl, g0.tape]; exact b1.tape
      · rw [g4.output, g3.output, g2.output, g1.output, show W2.drew.output = W2.output from rfl, g0.output]; exact b1.output
end

set_option maxRecDepth 100000 in
set_option maxHeartbeats 4000000 in
theorem join_any {B s N : Nat} (hN : N ≤ 8192) {k : Int} {cls : List Int} {live : Nat → Bool} {adj : Int → Int → Bool} (hadj : ∀ i x, adj i x = true → 0 ≤ x ∧ x < N) (symm : ∀ x y, adj x y = adj y x) (irr : ∀ x, adj x x = false) (hlive : ∀ (i : Int) (x : Nat), adj i x = true → live x = true)
    {w : World} (C : MCells B s N k cls live adj w) (a b : Nat) (hab : a ≠ b) (ha : a < N) (hb : b < N) (la : live a = true) (lb : live b = true) (hna : adj (a : Int) (b : Int) = false) :
    Calls Try.prog 25 #[.int .i64 (a : Int), .int .i64 (b : Int), .pointer (some ⟨s + 2, 0, none⟩), .pointer (some ⟨s, 0, none⟩)] w fun e w' =>
      e = .returned (.tuple #[]) ∧ MCells B s N k (cls.set b (a : Int)) (fun i => live i && !decide (i = b)) (joinAdj adj a b) w' ∧ Below B w w' := by
  have C1 := C.setCls b (a : Int)
  have hbw : Below B w (w.setCell ⟨s + 1, b, none⟩ (I64 (a : Int))) := (Below.refl _ w).setCell (by have := C.hs; dsimp only; omega) _
  obtain ⟨W1, hrange, hr, hg1, hz1⟩ := (C1.sets b hb lb).range Try.underlying3 Try.underlying35 (N := N) (by omega) (hadj b)
  have hloop : JLoop B s N k (cls.set b (a : Int)) live adj a b (w.setCell ⟨s + 1, b, none⟩ (I64 (a : Int))).heap.size (adj (b : Int)) (card N (adj (b : Int))) w W1 :=
    { cells := (C1.grown hg1 (fun b e => by cases e)).congr (fun i _ _ y => (midAdj_start adj a b i y).symm), rng := hr, below := hbw.grown hg1 (by have := C1.size; have := C1.hs; omega) (fun b e => by cases e), hr := C1.size, sub := fun _ h => h }
  have HL := Lib.hid hloop
  have HA := Lib.hid hadj
  have HS := Lib.hid symm
  have HI := Lib.hid irr
  have HLv := Lib.hid hlive
  have HNa := Lib.hid hna
  have hbc := C.bcls
  have hcb := C.cls_at hb
  have hcf := C.rcls.frozen b
  have hg := C1.bg
  have hmb := C1.map_at hb lb
  unfold I64 at hg hmb hrange
  clear hadj symm irr hlive hna C C1 hbw hr hg1 hz1 hloop
  unfold I64 at HL
  go_enter Try.func25, Try.ntmps25
  go_wp2
  clear hrange hbc hcb hcf hg hmb
  have hszw : (w.setCell ⟨s + 1, b, none⟩ (.int .i64 (a : Int))).heap.size = w.heap.size := by simp [World.setCell]
  rw [hszw] at HL
  try rw [hszw]
  clear hszw
  generalize w.heap.size = r at HL ⊢
  go_loopw [6] (fun _ wr => ∃ (L : Int → Bool) (cnt : Nat), JLoop B s N k (cls.set b (a : Int)) live adj a b r L cnt w wr) (fun _ wr => wr.rangeLeft (B + 3 + b) r)
  case atStart => exact ⟨_, _, HL.out⟩
  case round =>
    clear HL
    obtain ⟨L, cnt, hI⟩ := hrel
    rcases hI.step hN HA.out HS.out HI.out hab ha hb la HLv.out HNa.out with ⟨h0, hrun⟩ | ⟨x, W2, W3, cnt', hxN, hxa, hxb, hrun, hlt6, hen, R1, hdel, R2, v1, s1, x1, x2, v3, s3, x3, x4, e1, e2, e3, e4, r1, r2, r3, r4, hI2⟩
    · have hC := hI.cells
      have hbl := hI.below
      have hg := hC.bg
      have hmb := hC.map_at hb lb
      have hfr := hC.row.frozen b
      have haI : (a : Int) ≠ (b : Int) := by omega
      have hfin := (hC.kill b).congr (adj' := joinAdj adj a b) (fun i _ hi y => midAdj_done h0 HS.out HI.out haI HNa.out (by simp at hi; omega) y)
      have hbl2 := hbl.setCell (p := ⟨B + 2, b, none⟩) (by dsimp only; omega) (.map none)
      have HF := Lib.hid hfin
      have HB := Lib.hid hbl2
      clear hI hC hbl h0 hfin hbl2 haI
      go_wp2
      go_end0
      exact ⟨rfl, HF.out, HB.out⟩
    · have HLt := Lib.hid hlt6
      have HIo := Lib.hid hI
      have HI2 := Lib.hid hI2
      obtain ⟨q1, q2, q3⟩ := R1
      clear hI hI2 hlt6
      have hxN' : (x : Int) < (N : Int) := by omega
      have hx0' : (0 : Int) ≤ (x : Int) := by omega
      go_wp2_with fail
      clear q1 q2 q3
      go_region_held3 (fun W => W.cell? ⟨s, 0, none⟩ = some (.slice (some ⟨B + 2, 0, none⟩) N N) ∧ W.cell? ⟨B + 2, x, none⟩ = some (.map (some (B + 3 + x))) ∧ W.cell? ⟨B + 2, a, none⟩ = some (.map (some (B + 3 + a)))) (first | exact R2 | exact r1 | exact r2 | exact r3 | exact r4) (fail)
      go_wp2
      go_roundw
      case rel => exact ⟨_, cnt', HI2.out⟩
      case measure => rw [HI2.out.rng.left_eq, HIo.out.rng.left_eq]; exact HLt.out
end Go.Proofs.YtgdmdgkfababeaaH
