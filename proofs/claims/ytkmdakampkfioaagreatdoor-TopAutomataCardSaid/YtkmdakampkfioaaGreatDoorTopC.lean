/- The statement TopAutomata: the frame round the walk of TC. -/
import Derived.Test.YtkmdakampkfioaaGreatDoorTC
import Derived.Test.YtkmdakampkfioaaGreatDoorRows
import Derived.Test.YtkmdakampkfioaaGreatDoorCards
import Derived.Test.YtkmdakampkfioaaGreatDoorTiC
import Derived.Test.YtkmdakampkfioaaGreatDoorG6
import Derived.Test.YtkmdakampkfioaaGreatDoorCd
import Derived.Test.YtkmdakampkfioaaGreatDoorOpT
import Derived.Test.YtkmdakampkfioaaGreatDoorA3
import Derived.SizedLaws
import Derived.WalkKit
import Derived.ProofKit
import Derived.OpenShut
import Derived.ShutString
import Derived.ChangeOld
namespace Go.Proofs.YtkmdakampkfioaaGreatDoor.topAutomata
open Go.ChangeShapes Go.WideShapes Go.ChangeAt Go.RowKit
open Go.ChangeMaps (open_string shut_string)

theorem own : ownKnob Tryz.prog.godebug = none := by kernel_rfl

set_option maxRecDepth 100000 in
theorem lifted (os : Os) (started : os.Started) (H : Type) (enc : TypeId × Value → H) :
    ReturnsInHanded {} Tryz.checked os 3 .any (fun w args => (Rows.topAutomataSpec.pre enc Tryz.prog Tryz.f3 [] false w args ∧ laidMetH Tryz.prog laidL w) ∧ sizedMet enc Tryz.prog Tryz.f3 (OpenSpec.ofChange Rows.topAutomataSpec) false w args) (Rows.topAutomataSpec.post enc Tryz.prog Tryz.f3 false true false false) := by
  refine returnsInHanded_of_change_and (C := Tryz.checked) (X := fun w _ => laidMetH Tryz.prog laidL w) (fun _ _ _ hh h => h.of_heap hh) own started fa1 Tryz.func3
    (ChangeSpec.witness_shaped (enc := enc) (C := Tryz.checked) (os := os) (X := fun w _ => laidMetH Tryz.prog laidL w) false (World.doorLaid Tryz.prog 400 os) witT 8 rfl (World.shaped_of_RefB (fa2 os) (fa3 os)) (fa4 os) (fa5 os enc) (fa6 os enc) (door_met os _)) ?_
  intro W base args ds gs before hval0 hW hcnd hsz hL _
  have hT := tab_of_laid hL
  have hval : ∀ (j : Nat) t v, Tryz.f3.params[j]? = some t → args[j]? = some v → Value.okWide Tryz.prog W .any base t v := hval0
  have hW' := hW
  obtain ⟨p, q, hA0, hV, rfl, hfz, hnd⟩ := hW
  have hA : DataW.TrodAll enc Tryz.prog W 0 (fun _ => true) true Tryz.f3.params.toList args.toList ds p := hA0
  rw [Tryz.params3] at hA hval
  obtain ⟨v0, vs0, d0, ds0, p0, q0, hargs, rfl, rfl, h0, r0⟩ := trodAll_cons hA
  obtain ⟨v1, vs1, d1, ds1, p1, q1, rfl, rfl, rfl, h1, r1⟩ := trodAll_cons r0
  obtain ⟨v2, vs2, d2, ds2, p2, q2, rfl, rfl, rfl, h2, r2⟩ := trodAll_cons r1
  obtain ⟨rfl, rfl, rfl⟩ := trodAll_nil r2
  obtain rfl : args = #[v0, v1, v2] := by cases args; simp_all
  obtain ⟨rfl, rfl⟩ := trodVars_none hV
  obtain ⟨a0, len0, cap0, rfl⟩ := okWide_slice Tryz.underlying22 (hval 0 22 v0 rfl rfl)
  have k0 := h0
  have lt0 : ∀ x ∈ p0, x.block < W.heap.size := by obtain ⟨m, hm⟩ := k0; exact DataW.trod_lt m _ _ _ hm
  obtain ⟨z0, w0, w0d⟩ : ∃ xs, Rd W (lo W.heap.size) a0 len0 xs ∧ Hd len0 cap0 := by
    obtain ⟨fuel, hf⟩ := h0
    obtain ⟨xs, A, m, c, e, hr, hd⟩ := op_ints (cs := [.slice a0 len0 cap0]) hf
    injection e with e0
    injection e0 with e1 e2 e3
    subst e1; subst e2; subst e3
    exact ⟨xs, hr, hd⟩
  obtain ⟨cs1, rfl, hsz1⟩ := okWide_array Tryz.underlying23 (hval 1 23 v1 rfl rfl)
  have k1 := h1
  have lt1 : ∀ x ∈ p1, x.block < W.heap.size := by obtain ⟨m, hm⟩ := k1; exact DataW.trod_lt m _ _ _ hm
  obtain ⟨a1, b1, c1, e1, hc1⟩ : ∃ a b c d, cs1 = #[.int .i64 a, .int .i64 b, .int .i64 c, .int .i64 d] := by
    obtain ⟨fuel, hf⟩ := h1
    obtain ⟨a, b, c, d, e⟩ := op_int4 hf
    exact ⟨a, b, c, d, Array.toList_inj.1 e⟩
  subst hc1
  obtain ⟨cs2, rfl, hsz2⟩ := okWide_array Tryz.underlying24 (hval 2 24 v2 rfl rfl)
  have k2 := h2
  have lt2 : ∀ x ∈ p2, x.block < W.heap.size := by obtain ⟨m, hm⟩ := k2; exact DataW.trod_lt m _ _ _ hm
  obtain ⟨A2, n2, c2, l2, B2, m2, d2, y2, hc2, w2, w2d, w2e, w2f⟩ : ∃ A1 n1 c1 l1 A2 n2 c2 l2, cs2 = #[.slice A1 n1 c1, .slice A2 n2 c2] ∧ Rd W (lo W.heap.size) A1 n1 l1 ∧ Hd n1 c1 ∧ Rd W (lo W.heap.size) A2 n2 l2 ∧ Hd n2 c2 := by
    obtain ⟨fuel, hf⟩ := h2
    obtain ⟨A1, n1, c1, l1, A2, n2, c2, l2, e, r⟩ := op_rows2 hf
    exact ⟨A1, n1, c1, l1, A2, n2, c2, l2, Array.toList_inj.1 e, r⟩
  subst hc2
  clear hA0 hval0
  refine (topAutomata_walk Ev.awake_c a0 len0 cap0 z0 a1 b1 c1 e1 A2 n2 c2 l2 B2 m2 d2 y2 W w0 w0d w2 w2d w2e w2f hT).mono fun e W' ⟨he, bel⟩ => ?_
  subst he
  exact ⟨_, rfl, _, _, _, [], _, [], hW', trodAll_mk1 (shut_bool Tryz.underlying4 _), (trodAll_cons_mk (Below.trod laidOut (by kernel_rfl) (of_decide_eq_true (by kernel_rfl)) k0 bel lt0) (trodAll_cons_mk (Below.trod laidOut (by kernel_rfl) (of_decide_eq_true (by kernel_rfl)) k1 bel lt1) (trodAll_cons_mk (Below.trod laidOut (by kernel_rfl) (of_decide_eq_true (by kernel_rfl)) k2 bel lt2) trodAll_mk0))), rfl, bel.frame _, fun h => by cases h⟩

theorem over : Rows.topAutomataRow.holds Tryz.pinned (OpenSpec.ofChange Rows.topAutomataSpec) :=
  OpenClaim.holds_of_wide 3 Tryz.f3 rfl rfl rfl rfl rfl rfl rfl ⟨rfl, rfl, rfl, rfl, rfl⟩ rfl rfl rfl rfl rfl ov1 Tryz.func3 ov2
    (of_decide_eq_true (by kernel_rfl)) (by unfold Func.isWrapper; first | (rw [if_pos (by decide +kernel)]; kernel_rfl) | (rw [if_neg (by decide +kernel)]; exact ⟨rfl, rfl⟩))
    (fun os started H enc _ => lifted os started H enc)

theorem proved : Rows.TopAutomataCardSaid :=
  Claim7.holds_tied_plain_at .later [] [.data] true (true, "abf287590f591d72ce22034321d7d733e471144e3ff20b355c8a63aa0df60687") true
    over (fun _ h => by cases h) (by kernel_rfl) (fun _ h => by cases h) rowT rfl ⟨rfl, rfl⟩ (by kernel_rfl) rfl
    (fun f fn hf hfn => by
      obtain rfl : f = 3 := Option.some.inj ((show Tryz.prog.funcNamed "fleuron/fleurontop.TopAutomata" = some 3 by kernel_rfl).symm.trans hf) |>.symm
      obtain rfl : fn = Tryz.f3 := (Option.some.inj (Tryz.func3.symm.trans hfn)).symm
      exact ⟨by kernel_rfl, fun j t ht => by
        rw [Tryz.params3] at ht
        have hm : t ∈ [22, 23, 24] := by simpa using Array.mem_of_getElem? ht
        have hall : ([22, 23, 24].all fun u => !Tryz.prog.wantsStandIn u) = true := by kernel_rfl
        exact (show Tryz.prog.wantsStandIn t = false by simpa using List.all_eq_true.1 hall t hm)⟩)
    go4
end Go.Proofs.YtkmdakampkfioaaGreatDoor.topAutomata
