/-
  The row of ColoursTell, out of its plain law and the walk. Own work, after the print's row.
-/
import Derived.Test.YtgdmdgkfababeaaRows
import Derived.Test.YtgdmdgkfababeaaPTell
import Derived.Test.YtgdmdgkfababeaaRowA
import Derived.WalkKit
import Derived.ProofKit
import Derived.OpenShut
import Derived.ChangeOld
import Derived.Below
import Derived.SizedLaws
namespace Go.Proofs.Ytgdmdgkfababeaa.coloursTell
open Go.ChangeShapes Go.WideShapes Go.ChangeAt Go.RowKit Go.Proofs.YtgdmdgkfababeaaRowA Go.Joins
theorem own : ownKnob Try.prog.godebug = none := by kernel_rfl
theorem laidOut : laidOutB Try.prog = true := by kernel_rfl
set_option maxRecDepth 100000 in
theorem lifted (os : Os) (started : os.Started) (H : Type) (enc : TypeId × Value → H) :
    ReturnsInHanded {} Try.checked os 3 .any (Rows.coloursTellSpec.pre6 enc Try.prog Try.f3 Rows.coloursTellRow.domain false) (Rows.coloursTellSpec.post enc Try.prog Try.f3 false true false false) := by
  refine returnsInHanded_of_change_sized (C := Try.checked) own started (by kernel_rfl) Try.func3
    (ChangeSpec.witness6 (enc := enc) (C := Try.checked) false ⟨#[], #[.agg #[.int .i64 0, .slice none 0 0, .slice none 0 0, .int .i64 0]], []⟩ 8 (by kernel_rfl) (by kernel_rfl) (by kernel_rfl) (by kernel_rfl)) ?_
  intro W base args ds gs before hval0 hW hcnd hsz0 _
  have hval : ∀ (j : Nat) t v, Try.f3.params[j]? = some t → args[j]? = some v → Value.okWide Try.prog W .any base t v := hval0
  have hW' := hW
  obtain ⟨p, q, hA0, hV, rfl, hfz, hnd⟩ := hW
  have hA : DataW.TrodAll enc Try.prog W 0 (fun _ => true) true Try.f3.params.toList args.toList ds p := hA0
  rw [Try.params3] at hA hval
  obtain ⟨v0, vs0, d0, ds0, p0, q0, hargs, rfl, rfl, h0, r0⟩ := trodAll_cons hA
  obtain ⟨rfl, rfl, rfl⟩ := trodAll_nil r0
  obtain rfl : args = #[v0] := by cases args; simp_all
  obtain ⟨rfl, rfl⟩ := trodVars_none hV
  have k0 := h0
  have lt0 : ∀ x ∈ p0, x.block < W.heap.size := by obtain ⟨m, hm⟩ := k0; exact DataW.trod_lt m _ _ _ hm
  obtain ⟨c0, c1, c2, c3, y0, y1, y2, y3, m, rfl, _, _, hy0, hy1, hy2, hy3⟩ := open_agg4 Try.underlying25 (by kernel_rfl) (by kernel_rfl) (hval 0 25 v0 rfl rfl) h0
  obtain ⟨a0, e0, _, _⟩ := DataW.trod_int Try.underlying3 hy0
  obtain ⟨a3, e3, _, _⟩ := DataW.trod_int Try.underlying3 hy3
  obtain ⟨A1, cap1, l1, rfl, hc1, hr1⟩ := row_ints hy1
  obtain ⟨A2, cap2, l2, rfl, hc2, hr2⟩ := row_pairs hy2
  simp at e0 e3
  subst e0 e3
  clear hA0 hval0 hsz0
  obtain ⟨f, hf⟩ := YtgdmdgkfababeaaEv.coloursTell_pure a0 l1 l2 a3
  refine (M.jacquardlaw14_ColoursTell.calls f a0 A1 cap1 l1 A2 cap2 l2 a3 true W hr1 hc1 hr2 hc2 hf).mono fun e W' ⟨he, bel⟩ => ?_
  subst he
  exact ⟨_, rfl, _, _, _, [], _, [], hW', trodAll_mk1 (shut_bool Try.underlying4 _), (trodAll_cons_mk (Below.trod laidOut (by kernel_rfl) (of_decide_eq_true (by kernel_rfl)) k0 bel lt0) trodAll_mk0), rfl, bel.frame _, fun h => by cases h⟩
theorem over : Rows.coloursTellRow.holds Try.pinned (OpenSpec.ofChange Rows.coloursTellSpec) :=
  OpenClaim.holds_of_wide 3 Try.f3 rfl rfl rfl rfl rfl rfl rfl ⟨rfl, rfl, rfl, rfl, rfl⟩ rfl rfl rfl rfl rfl (by kernel_rfl) Try.func3 (by kernel_rfl)
    (of_decide_eq_true (by kernel_rfl)) (by unfold Func.isWrapper; first | (rw [if_pos (by decide +kernel)]; kernel_rfl) | (rw [if_neg (by decide +kernel)]; exact ⟨rfl, rfl⟩))
    (fun os started H enc _ => lifted os started H enc)
theorem proved : Rows.ColoursTellSaid := over
#print axioms proved
end Go.Proofs.Ytgdmdgkfababeaa.coloursTell
namespace Go.Proofs.Ytgdmdgkfababeaa
/-- The row, under a short name, for the claim. -/
theorem coloursTell_holds : Rows.ColoursTellSaid := coloursTell.proved
end Go.Proofs.Ytgdmdgkfababeaa
