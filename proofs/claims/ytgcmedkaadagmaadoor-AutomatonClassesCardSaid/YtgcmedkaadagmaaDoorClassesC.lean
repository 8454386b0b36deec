/- The statement AutomatonClasses: the frame round the walk of T4. -/
import Derived.Test.YtgcmedkaadagmaaDoorT4
import Derived.Test.YtgcmedkaadagmaaDoorRows
import Derived.Test.YtgcmedkaadagmaaDoorCards
import Derived.Test.YtgcmedkaadagmaaDoorTie
import Derived.Test.YtgcmedkaadagmaaDoorCd
import Derived.Test.YtgcmedkaadagmaaDoorOpB
import Derived.SizedLaws
import Derived.WalkKit
import Derived.ProofKit
import Derived.OpenShut
import Derived.ShutString
import Derived.ChangeOld
namespace Go.Proofs.YtgcmedkaadagmaaDoor.automatonClasses
open Go.ChangeShapes Go.WideShapes Go.ChangeAt Go.RowKit
open Go.ChangeMaps (open_string shut_string)

theorem own : ownKnob Tryd.prog.godebug = none := by kernel_rfl
theorem laidOut : laidOutB Tryd.prog = true := by kernel_rfl

set_option maxRecDepth 100000 in
theorem lifted (os : Os) (started : os.Started) (H : Type) (enc : TypeId × Value → H) :
    ReturnsInHanded {} Tryd.checked os 5 .any (fun w args => (Rows.automatonClassesSpec.pre enc Tryd.prog Tryd.f5 [] false w args ∧ laidMetH Tryd.prog laidL w) ∧ sizedMet enc Tryd.prog Tryd.f5 (OpenSpec.ofChange Rows.automatonClassesSpec) false w args) (Rows.automatonClassesSpec.post enc Tryd.prog Tryd.f5 false true false false) := by
  refine returnsInHanded_of_change_and (C := Tryd.checked) (X := fun w _ => laidMetH Tryd.prog laidL w) (fun _ _ _ hh h => h.of_heap hh) own started (by kernel_rfl) Tryd.func5
    (ChangeSpec.witness_shaped (enc := enc) (C := Tryd.checked) (os := os) (X := fun w _ => laidMetH Tryd.prog laidL w) false (World.doorLaid Tryd.prog 400 os) #[.int .i64 0, .slice none 0 0, .agg #[.int .i64 0, .slice none 0 0, .int .i64 0, .int .i64 0, .int .i64 0, .int .i64 0, .slice none 0 0, .slice none 0 0]] 8 rfl (World.shaped_of_RefB (by kernel_rfl) (by kernel_rfl)) (by kernel_rfl) (by kernel_rfl) (by kernel_rfl) (door_met os _)) ?_
  intro W base args ds gs before hval0 hW hcnd hsz hL _
  have hT := tab_of_laid hL
  have hval : ∀ (j : Nat) t v, Tryd.f5.params[j]? = some t → args[j]? = some v → Value.okWide Tryd.prog W .any base t v := hval0
  have hW' := hW
  obtain ⟨p, q, hA0, hV, rfl, hfz, hnd⟩ := hW
  have hA : DataW.TrodAll enc Tryd.prog W 0 (fun _ => true) true Tryd.f5.params.toList args.toList ds p := hA0
  rw [Tryd.params5] at hA hval
  obtain ⟨v0, vs0, d0, ds0, p0, q0, hargs, rfl, rfl, h0, r0⟩ := trodAll_cons hA
  obtain ⟨v1, vs1, d1, ds1, p1, q1, rfl, rfl, rfl, h1, r1⟩ := trodAll_cons r0
  obtain ⟨v2, vs2, d2, ds2, p2, q2, rfl, rfl, rfl, h2, r2⟩ := trodAll_cons r1
  obtain ⟨rfl, rfl, rfl⟩ := trodAll_nil r2
  obtain rfl : args = #[v0, v1, v2] := by cases args; simp_all
  obtain ⟨rfl, rfl⟩ := trodVars_none hV
  obtain ⟨a0, rfl, rfl, rfl, w0⟩ := open_int Tryd.underlying3 (hval 0 3 v0 rfl rfl) h0
  obtain ⟨a1, len1, cap1, rfl⟩ := okWide_slice Tryd.underlying22 (hval 1 22 v1 rfl rfl)
  have k1 := h1
  have lt1 : ∀ x ∈ p1, x.block < W.heap.size := by obtain ⟨m, hm⟩ := k1; exact DataW.trod_lt m _ _ _ hm
  obtain ⟨z1, w1, w1d⟩ : ∃ xs, RdR W (lo W.heap.size) a1 len1 xs ∧ Hd len1 cap1 := by
    obtain ⟨fuel, hf⟩ := h1
    obtain ⟨A, m, c, xs, e, hr, hd⟩ := op_rules (v := .slice a1 len1 cap1) hf
    injection e with e1 e2 e3
    subst e1; subst e2; subst e3
    exact ⟨xs, hr, hd⟩
  obtain ⟨cs2, rfl, hsz2⟩ := okWide_struct Tryd.underlying48 (hval 2 48 v2 rfl rfl)
  have k2 := h2
  have lt2 : ∀ x ∈ p2, x.block < W.heap.size := by obtain ⟨m, hm⟩ := k2; exact DataW.trod_lt m _ _ _ hm
  obtain ⟨g2, E2, e2, f2, rs2, t2a, t2b, t2c, t2d, A2, n2, c2, l2, B2, m2, d2, y2, hc2, w2g, w2r, w2s, w2, w2d, w2e, w2f⟩ : ∃ g A0 n0 c0 rs t0 t1 t2 t3 A1 n1 c1 l1 A2 n2 c2 l2, cs2 = #[.int .i64 g, .slice A0 n0 c0, .int .i64 t0, .int .i64 t1, .int .i64 t2, .int .i64 t3, .slice A1 n1 c1, .slice A2 n2 c2] ∧ (-9223372036854775808 ≤ g ∧ g ≤ 9223372036854775807) ∧ RdR W (lo W.heap.size) A0 n0 rs ∧ Hd n0 c0 ∧ Rd W (lo W.heap.size) A1 n1 l1 ∧ Hd n1 c1 ∧ Rd W (lo W.heap.size) A2 n2 l2 ∧ Hd n2 c2 := by
    obtain ⟨fuel, hf⟩ := h2
    obtain ⟨g, A0, n0, c0, rs, t0, t1, t2, t3, A1, n1, c1, l1, A2, n2, c2, l2, e, r⟩ := op_held hf
    exact ⟨g, A0, n0, c0, rs, t0, t1, t2, t3, A1, n1, c1, l1, A2, n2, c2, l2, Array.toList_inj.1 e, r⟩
  subst hc2
  clear hA0 hval0
  refine (automatonClasses_walk a0 a1 len1 cap1 z1 g2 E2 e2 f2 rs2 t2a t2b t2c t2d A2 n2 c2 l2 B2 m2 d2 y2 W w1 w1d w2g w2r w2s w2 w2d w2e w2f hT).mono fun e W' ⟨he, bel⟩ => ?_
  subst he
  exact ⟨_, rfl, _, _, _, [], _, [], hW', trodAll_mk1 (shut_bool Tryd.underlying4 _), (trodAll_cons_mk (shut_int Tryd.underlying3 w0) (trodAll_cons_mk (Below.trod laidOut (by kernel_rfl) (of_decide_eq_true (by kernel_rfl)) k1 bel lt1) (trodAll_cons_mk (Below.trod laidOut (by kernel_rfl) (of_decide_eq_true (by kernel_rfl)) k2 bel lt2) trodAll_mk0))), rfl, bel.frame _, fun h => by cases h⟩

theorem over : Rows.automatonClassesRow.holds Tryd.pinned (OpenSpec.ofChange Rows.automatonClassesSpec) :=
  OpenClaim.holds_of_wide 5 Tryd.f5 rfl rfl rfl rfl rfl rfl rfl ⟨rfl, rfl, rfl, rfl, rfl⟩ rfl rfl rfl rfl rfl (by kernel_rfl) Tryd.func5 (by kernel_rfl)
    (of_decide_eq_true (by kernel_rfl)) (by unfold Func.isWrapper; first | (rw [if_pos (by decide +kernel)]; kernel_rfl) | (rw [if_neg (by decide +kernel)]; exact ⟨rfl, rfl⟩))
    (fun os started H enc _ => lifted os started H enc)

theorem proved : Rows.AutomatonClassesCardSaid :=
  Claim7.holds_tied_plain_at .later [] [.data] true (true, "1e7a89b9ac0393962e9eebb3d9c3c7adc422051e52e0298358605b9086f387e7") false
    over (fun _ h => by cases h) (by kernel_rfl) (fun _ h => by cases h) automatonClasses_row_tie rfl ⟨rfl, rfl⟩ (by kernel_rfl) rfl
    (fun f fn hf hfn => by
      obtain rfl : f = 5 := Option.some.inj ((show Tryd.prog.funcNamed "fleuron/fleuronlaw12.AutomatonClasses" = some 5 by kernel_rfl).symm.trans hf) |>.symm
      obtain rfl : fn = Tryd.f5 := (Option.some.inj (Tryd.func5.symm.trans hfn)).symm
      exact ⟨by kernel_rfl, fun j t ht => by
        rw [Tryd.params5] at ht
        have hm : t ∈ [3, 22, 48] := by simpa using Array.mem_of_getElem? ht
        have hall : ([3, 22, 48].all fun u => !Tryd.prog.wantsStandIn u) = true := by kernel_rfl
        exact (show Tryd.prog.wantsStandIn t = false by simpa using List.all_eq_true.1 hall t hm)⟩)
    (by kernel_rfl)
end Go.Proofs.YtgcmedkaadagmaaDoor.automatonClasses
