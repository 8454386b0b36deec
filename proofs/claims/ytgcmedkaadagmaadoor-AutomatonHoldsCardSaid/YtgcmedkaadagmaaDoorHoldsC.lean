/- The statement AutomatonHolds: the frame round the walk of T3. -/
import Derived.Test.YtgcmedkaadagmaaDoorT3
import Derived.Test.YtgcmedkaadagmaaDoorRows
import Derived.Test.YtgcmedkaadagmaaDoorCards
import Derived.Test.YtgcmedkaadagmaaDoorTie
import Derived.Test.YtgcmedkaadagmaaDoorCd
import Derived.Test.YtgcmedkaadagmaaDoorOpB
import Derived.SizedLaws
import Derived.WalkKit
import Derived.ProofKit
import Derived.OpenShut
import Derived.ShutString
import Derived.ChangeOld
namespace Go.Proofs.YtgcmedkaadagmaaDoor.automatonHolds
open Go.ChangeShapes Go.WideShapes Go.ChangeAt Go.RowKit
open Go.ChangeMaps (open_string shut_string)

theorem own : ownKnob Tryd.prog.godebug = none := by kernel_rfl
theorem laidOut : laidOutB Tryd.prog = true := by kernel_rfl

set_option maxRecDepth 100000 in
theorem lifted (os : Os) (started : os.Started) (H : Type) (enc : TypeId × Value → H) :
    ReturnsInHanded {} Tryd.checked os 4 .any (fun w args => (Rows.automatonHoldsSpec.pre enc Tryd.prog Tryd.f4 [] false w args ∧ laidMetH Tryd.prog laidL w) ∧ sizedMet enc Tryd.prog Tryd.f4 (OpenSpec.ofChange Rows.automatonHoldsSpec) false w args) (Rows.automatonHoldsSpec.post enc Tryd.prog Tryd.f4 false true false false) := by
  refine returnsInHanded_of_change_and (C := Tryd.checked) (X := fun w _ => laidMetH Tryd.prog laidL w) (fun _ _ _ hh h => h.of_heap hh) own started (by kernel_rfl) Tryd.func4
    (ChangeSpec.witness_shaped (enc := enc) (C := Tryd.checked) (os := os) (X := fun w _ => laidMetH Tryd.prog laidL w) false (World.doorLaid Tryd.prog 400 os) #[.agg #[.int .i64 0, .slice none 0 0, .int .i64 0, .int .i64 0, .int .i64 0, .int .i64 0, .slice none 0 0, .slice none 0 0]] 8 rfl (World.shaped_of_RefB (by kernel_rfl) (by kernel_rfl)) (by kernel_rfl) (by kernel_rfl) (by kernel_rfl) (door_met os _)) ?_
  intro W base args ds gs before hval0 hW hcnd hsz hL _
  have hT := tab_of_laid hL
  have hval : ∀ (j : Nat) t v, Tryd.f4.params[j]? = some t → args[j]? = some v → Value.okWide Tryd.prog W .any base t v := hval0
  have hW' := hW
  obtain ⟨p, q, hA0, hV, rfl, hfz, hnd⟩ := hW
  have hA : DataW.TrodAll enc Tryd.prog W 0 (fun _ => true) true Tryd.f4.params.toList args.toList ds p := hA0
  rw [Tryd.params4] at hA hval
  obtain ⟨v0, vs0, d0, ds0, p0, q0, hargs, rfl, rfl, h0, r0⟩ := trodAll_cons hA
  obtain ⟨rfl, rfl, rfl⟩ := trodAll_nil r0
  obtain rfl : args = #[v0] := by cases args; simp_all
  obtain ⟨rfl, rfl⟩ := trodVars_none hV
  obtain ⟨cs0, rfl, hsz0⟩ := okWide_struct Tryd.underlying48 (hval 0 48 v0 rfl rfl)
  have k0 := h0
  have lt0 : ∀ x ∈ p0, x.block < W.heap.size := by obtain ⟨m, hm⟩ := k0; exact DataW.trod_lt m _ _ _ hm
  obtain ⟨g0, E0, e0, f0, rs0, t0a, t0b, t0c, t0d, A0, n0, c0, l0, B0, m0, d0, y0, hc0, w0g, w0r, w0s, w0, w0d, w0e, w0f⟩ : ∃ g A0 n0 c0 rs t0 t1 t2 t3 A1 n1 c1 l1 A2 n2 c2 l2, cs0 = #[.int .i64 g, .slice A0 n0 c0, .int .i64 t0, .int .i64 t1, .int .i64 t2, .int .i64 t3, .slice A1 n1 c1, .slice A2 n2 c2] ∧ (-9223372036854775808 ≤ g ∧ g ≤ 9223372036854775807) ∧ RdR W (lo W.heap.size) A0 n0 rs ∧ Hd n0 c0 ∧ Rd W (lo W.heap.size) A1 n1 l1 ∧ Hd n1 c1 ∧ Rd W (lo W.heap.size) A2 n2 l2 ∧ Hd n2 c2 := by
    obtain ⟨fuel, hf⟩ := h0
    obtain ⟨g, A0, n0, c0, rs, t0, t1, t2, t3, A1, n1, c1, l1, A2, n2, c2, l2, e, r⟩ := op_held hf
    exact ⟨g, A0, n0, c0, rs, t0, t1, t2, t3, A1, n1, c1, l1, A2, n2, c2, l2, Array.toList_inj.1 e, r⟩
  subst hc0
  clear hA0 hval0
  refine (automatonHolds_walk g0 E0 e0 f0 rs0 t0a t0b t0c t0d A0 n0 c0 l0 B0 m0 d0 y0 W w0g w0r w0s w0 w0d w0e w0f hT).mono fun e W' ⟨he, bel⟩ => ?_
  subst he
  exact ⟨_, rfl, _, _, _, [], _, [], hW', trodAll_mk1 (shut_bool Tryd.underlying4 _), (trodAll_cons_mk (Below.trod laidOut (by kernel_rfl) (of_decide_eq_true (by kernel_rfl)) k0 bel lt0) trodAll_mk0), rfl, bel.frame _, fun h => by cases h⟩

theorem over : Rows.automatonHoldsRow.holds Tryd.pinned (OpenSpec.ofChange Rows.automatonHoldsSpec) :=
  OpenClaim.holds_of_wide 4 Tryd.f4 rfl rfl rfl rfl rfl rfl rfl ⟨rfl, rfl, rfl, rfl, rfl⟩ rfl rfl rfl rfl rfl (by kernel_rfl) Tryd.func4 (by kernel_rfl)
    (of_decide_eq_true (by kernel_rfl)) (by unfold Func.isWrapper; first | (rw [if_pos (by decide +kernel)]; kernel_rfl) | (rw [if_neg (by decide +kernel)]; exact ⟨rfl, rfl⟩))
    (fun os started H enc _ => lifted os started H enc)

theorem proved : Rows.AutomatonHoldsCardSaid :=
  Claim7.holds_tied_plain_at .later [] [.data] true (true, "1e7a89b9ac0393962e9eebb3d9c3c7adc422051e52e0298358605b9086f387e7") false
    over (fun _ h => by cases h) (by kernel_rfl) (fun _ h => by cases h) automatonHolds_row_tie rfl ⟨rfl, rfl⟩ (by kernel_rfl) rfl
    (fun f fn hf hfn => by
      obtain rfl : f = 4 := Option.some.inj ((show Tryd.prog.funcNamed "fleuron/fleuronlaw12.AutomatonHolds" = some 4 by kernel_rfl).symm.trans hf) |>.symm
      obtain rfl : fn = Tryd.f4 := (Option.some.inj (Tryd.func4.symm.trans hfn)).symm
      exact ⟨by kernel_rfl, fun j t ht => by
        rw [Tryd.params4] at ht
        have hm : t ∈ [48] := by simpa using Array.mem_of_getElem? ht
        have hall : ([48].all fun u => !Tryd.prog.wantsStandIn u) = true := by kernel_rfl
        exact (show Tryd.prog.wantsStandIn t = false by simpa using List.all_eq_true.1 hall t hm)⟩)
    (by kernel_rfl)
end Go.Proofs.YtgcmedkaadagmaaDoor.automatonHolds
