/- Walks: appends at a step of a region that draws its order; words for ScriptMarks. -/
import Derived.Test.YtdacfcfgikllpaaW24
import Derived.Deep.RegionHeld3
import Derived.Deep.DrawnRows
namespace Go.Proofs.Ytdacfcfgikllpaa
open Go.RowKit

theorem appS_run (ty : TypeId) (w : World) (base : Nat) (A : Option Addr) (n c : Nat) (xs : List Int) (D : Option Addr) (m d K : Nat) (ys : List Int)
    (hown : Ow w base A n c xs) (hr : Rd w K D m ys) (hlen : n + m ≤ 1000000) (hbase : base ≤ w.heap.size) :
    ∃ A' c' w', (Builtin.append_ #[25, 25] ty #[.slice A n c, .slice D m d]).run Try.prog w = .ok (.slice A' (n + m) c') w' ∧ Ow w' base A' (n + m) c' (xs ++ ys) ∧ w.grownBy w' (A.map (·.block)) ∧ Below base w w' ∧
      (A'.map (·.block) = A.map (·.block) ∨ A'.map (·.block) = some w.heap.size) := by
  obtain ⟨i0, hi, hz0, hz1, hz2⟩ := info_parts Try.info3
  have key : ∃ v' w', (Builtin.append_ #[25, 25] ty #[.slice A n c, .slice D m d]).run Try.prog w = .ok v' w' ∧ w'.ownsRow base 3 1 v' (n + m) (xs.map (Value.int .i64) ++ ys.map (Value.int .i64)) ∧ w.grownBy w' (A.map (·.block)) ∧
      (v'.ownBlock = A.map (·.block) ∨ v'.ownBlock = some w.heap.size) := by
    rcases D with _ | ad
    · have hm : m = 0 := by
        rcases Nat.eq_zero_or_pos m with h0 | h0
        · exact h0
        · obtain ⟨_, _, h, _⟩ := hr.2 h0
          cases h
      subst hm
      have hn : ys = [] := List.eq_nil_of_length_eq_zero hr.1
      subst hn
      exact ⟨_, w, run_append_of_nil w base 25 _ 3 i0 1 Try.underlying25 hi _ n _ hown d, by simpa [Ow] using hown, World.grownBy.refl w _, .inl (ownBlock_slice _ _ _)⟩
    · have hcells : ∀ j u, (ys.map (Value.int .i64))[j]? = some u → w.cell? (ad.add j) = some u := by
        intro j u hu
        rw [List.getElem?_map] at hu
        obtain ⟨y, hy, rfl⟩ := Option.map_eq_some_iff.1 hu
        have hpos : 0 < m := by have := hr.1; have := (List.getElem?_eq_some_iff.1 hy).1; omega
        obtain ⟨b, o, e, _, hc⟩ := hr.2 hpos
        injection e with e
        subst e
        have := hc j y hy
        rw [← this]
        unfold Addr.add
        split
        · rename_i h0; subst h0; rfl
        · rfl
      obtain ⟨v', w', hrun, h2, h3, _, h5⟩ := run_append_own_at (P := Try.prog) w base 25 ty 3 i0 (.int .i64 0) 1 8 Try.underlying25 hi hz0 hz1 hz2 rfl (by omega) (.slice A n c) n _ hown ad m d _ (by rw [List.length_map, hr.1]; omega) hcells (ints_oneCell _ _) (by unfold maxLen; omega) (by omega) hbase
      rw [ownBlock_slice] at h3 h5
      exact ⟨v', w', hrun, h2, h3, h5⟩
  obtain ⟨v', w', hrun, h2, h3, h4⟩ := key
  obtain ⟨A', c', rfl⟩ := own_slice h2
  rw [ownBlock_slice] at h4
  have ho2 : Ow w' base A' (n + m) c' (xs ++ ys) := by unfold Ow; rw [List.map_append]; exact h2
  exact ⟨A', c', w', hrun, ho2, h3, own_below hown h3 hbase, h4⟩

/-- 'append(out, src...)' at a step of a region that draws its order. -/
theorem step_appS {ops : Array Oper} {o : Oper} {a : Act} {K : Act → World → Prop} {Q : Exit → Act → World → Prop} {E : Prop} (hw : Region.wanted o (yielded ops a.tmps) = true) (s x : Operand)
    (ho : o.op = .call { callee := .builtin .append, args := #[s, x], argTypes := #[25, 25] })
    (w : World) (base : Nat) (A : Option Addr) (n c : Nat) (xs : List Int) (D : Option Addr) (m d L : Nat) (ys : List Int)
    (hs : a.eval s = .slice A n c) (hx : a.eval x = .slice D m d) (hown : Ow w base A n c xs) (hr : Rd w L D m ys) (hlen : n + m ≤ 1000000) (hbase : base ≤ w.heap.size)
    (h : ∀ A' c' w', Ow w' base A' (n + m) c' (xs ++ ys) → w.grownBy w' (A.map (·.block)) → Below base w w' → (A'.map (·.block) = A.map (·.block) ∨ A'.map (·.block) = some w.heap.size) → K (a.put o.dst (.slice A' (n + m) c')) w') :
    if Region.wanted o (yielded ops a.tmps) = true then Oper.wp Try.prog o a w K Q else E := by
  obtain ⟨A', c', w', hrun, h1, h2, h3, h4⟩ := appS_run o.type w base A n c xs D m d L ys hown hr hlen hbase
  rw [if_pos hw]
  unfold Oper.wp execOp
  simp only [ho, resolve, invoke, builtin, Sem.run_bind, Sem.run_pure, Result.andThen_ok, List.map_toArray, List.map_cons, List.map_nil, hs, hx, hrun]
  exact h A' c' w' h1 h2 h3 h4

theorem Rd.grown {w w' : World} {B n : Nat} {A : Option Addr} {xs : List Int} {row : Option Nat} (h : Rd w B A n xs) (hg : w.grownBy w' row) (hB : B ≤ w.heap.size) (hne : ∀ b o, A = some ⟨b, o, none⟩ → row ≠ some b) : Rd w' B A n xs :=
  ⟨h.1, fun hn => by
    obtain ⟨b, o, e, hb, hc⟩ := h.2 hn
    refine ⟨b, o, e, hb, fun i x hx => ?_⟩
    rw [World.cell?_of_block (hg.block b (by omega) (fun e2 => hne b o e e2.symm))]
    exact hc i x hx⟩
theorem Rd.drop {w : World} {B b o n : Nat} {xs : List Int} (h : Rd w B (some ⟨b, o, none⟩) n xs) (k : Nat) (_hk : k ≤ n) (A : Option Addr) (hA : k < n → A = some ⟨b, o + k, none⟩) : Rd w B A (n - k) (xs.drop k) := by
  refine ⟨by rw [List.length_drop, h.1], fun hn => ?_⟩
  obtain ⟨b', o', e, hb, hc⟩ := h.2 (by omega)
  injection e with e; injection e with e1 e2; subst e1; subst e2
  refine ⟨b, o + k, hA (by omega), hb, fun i y hy => ?_⟩
  rw [List.getElem?_drop] at hy
  have := hc (k + i) y hy
  rw [← this]; congr 2; omega
theorem P3.swap {w : World} {base g1 n1 c1 g2 n2 c2 n c : Nat} {A : Option Addr} {x1 x2 x : List Int} (h : P3 w base g1 n1 c1 x1 g2 n2 c2 x2 A n c x) : P3 w base g2 n2 c2 x2 g1 n1 c1 x1 A n c x :=
  ⟨h.o2, h.o1, h.o3, h.d12.symm, h.d23, h.d13⟩
theorem and65535 (z : Int) : bits .and .i64 z 65535 = z % 65536 := by
  show IntKind.i64.wrap ((BitVec.ofInt 64 z &&& BitVec.ofInt 64 (65535 : Int)).toNat : Int) = _
  have e2 : (BitVec.ofInt 64 (65535 : Int)).toNat = 65535 := by decide
  rw [BitVec.toNat_and, e2, IntKind.wrap_i64]
  have h : (BitVec.ofInt 64 z).toNat &&& 65535 = (BitVec.ofInt 64 z).toNat % 65536 := Nat.and_two_pow_sub_one_eq_mod _ 16
  rw [h, BitVec.toNat_ofInt]
  omega

end Go.Proofs.Ytdacfcfgikllpaa
