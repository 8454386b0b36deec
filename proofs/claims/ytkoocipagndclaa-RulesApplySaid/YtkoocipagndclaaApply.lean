/- The statement RulesApply: the frame round the walk of N13. -/
import Derived.Test.YtkoocipagndclaaN13
import Derived.Test.YtkoocipagndclaaRows
import Derived.Test.YtkoocipagndclaaOp
import Derived.WalkKit
import Derived.ProofKit
import Derived.OpenShut
import Derived.ShutString
import Derived.ChangeOld
namespace Go.Proofs.Ytkoocipagndclaa.rulesApply
open Go.ChangeShapes Go.WideShapes Go.ChangeAt Go.RowKit
open Go.ChangeMaps (open_string shut_string)

theorem own : ownKnob Try.prog.godebug = none := by kernel_rfl
theorem laidOut : laidOutB Try.prog = true := by kernel_rfl

set_option maxRecDepth 100000 in
theorem lifted (os : Os) (started : os.Started) (H : Type) (enc : TypeId × Value → H) :
    ReturnsInHanded {} Try.checked os 4 .any (Rows.rulesApplySpec.pre6 enc Try.prog Try.f4 Rows.rulesApplyRow.domain false) (Rows.rulesApplySpec.post enc Try.prog Try.f4 false true false false) := by
  refine returnsInHanded_of_change (C := Try.checked) own started (by kernel_rfl) Try.func4
    (ChangeSpec.witness6 (enc := enc) (C := Try.checked) false ⟨#[], #[.agg #[.int .i64 0, .slice none 0 0, .slice none 0 0, .slice none 0 0, .slice none 0 0, .slice none 0 0, .slice none 0 0, .slice none 0 0, .slice none 0 0, .int .i64 0, .slice none 0 0, .int .i64 0, .slice none 0 0]], []⟩ 8 (by kernel_rfl) (by kernel_rfl) (by kernel_rfl) (by kernel_rfl)) ?_
  intro W base args ds gs before hval0 hW hcnd _
  have hval : ∀ (j : Nat) t v, Try.f4.params[j]? = some t → args[j]? = some v → Value.okWide Try.prog W .any base t v := hval0
  have hW' := hW
  obtain ⟨p, q, hA0, hV, rfl, hfz, hnd⟩ := hW
  have hA : DataW.TrodAll enc Try.prog W 0 (fun _ => true) true Try.f4.params.toList args.toList ds p := hA0
  rw [Try.params4] at hA hval
  obtain ⟨v0, vs0, d0, ds0, p0, q0, hargs, rfl, rfl, h0, r0⟩ := trodAll_cons hA
  obtain ⟨rfl, rfl, rfl⟩ := trodAll_nil r0
  obtain rfl : args = #[v0] := by cases args; simp_all
  obtain ⟨rfl, rfl⟩ := trodVars_none hV
  obtain ⟨cs0, rfl, hsz0⟩ := okWide_struct Try.underlying34 (hval 0 34 v0 rfl rfl)
  have k0 := h0
  have lt0 : ∀ x ∈ p0, x.block < W.heap.size := by obtain ⟨m, hm⟩ := k0; exact DataW.trod_lt m _ _ _ hm
  obtain ⟨f0, z0, n0, ra0, rn0, rc0, run0, at0, fa0, fn0, fc0, fo0, hc0, w0, w0i, w0d, w0f, w0e⟩ : ∃ f F n RA rn rc run k FA fn fc forms, cs0 = askC f n RA rn rc k FA fn fc ∧ IsF W (lo W.heap.size) f F ∧ RdI W (lo W.heap.size) RA rn run ∧ Hd rn rc ∧ Rd W (lo W.heap.size) FA fn forms ∧ Hd fn fc := by
    obtain ⟨fuel, hf⟩ := h0
    obtain ⟨f, F, n, RA, rn, rc, run, k, FA, fn, fc, forms, e, r1, r2, r3, r4, r5⟩ := op_ask hf
    exact ⟨f, F, n, RA, rn, rc, run, k, FA, fn, fc, forms, Array.toList_inj.1 e, r1, r2, r3, r4, r5⟩
  subst hc0
  clear hA0 hval0
  refine (rulesApply_walk f0 z0 n0 ra0 rn0 rc0 run0 at0 fa0 fn0 fc0 fo0 W w0 w0i w0d w0f w0e).mono fun e W' ⟨he, bel⟩ => ?_
  subst he
  exact ⟨_, rfl, _, _, _, [], _, [], hW', trodAll_mk1 (shut_bool Try.underlying4 _), (trodAll_cons_mk (Below.trod laidOut (by kernel_rfl) (of_decide_eq_true (by kernel_rfl)) k0 bel lt0) trodAll_mk0), rfl, bel.frame _, fun h => by cases h⟩

theorem over : Rows.rulesApplyRow.holds Try.pinned (OpenSpec.ofChange Rows.rulesApplySpec) :=
  OpenClaim.holds_of_wide 4 Try.f4 rfl rfl rfl rfl rfl rfl rfl ⟨rfl, rfl, rfl, rfl, rfl⟩ rfl rfl rfl rfl rfl (by kernel_rfl) Try.func4 (by kernel_rfl)
    (of_decide_eq_true (by kernel_rfl)) (by unfold Func.isWrapper; first | (rw [if_pos (by decide +kernel)]; kernel_rfl) | (rw [if_neg (by decide +kernel)]; exact ⟨rfl, rfl⟩))
    (fun os started H enc _ => lifted os started H enc)

theorem proved : Rows.RulesApplySaid := over
end Go.Proofs.Ytkoocipagndclaa.rulesApply
