/- Walks: the rows of a rule: fore's and back's. -/
import Derived.Test.YtkmdakampkfioaaGreatDoorV9
import Derived.Deep.DeepCutAuto
namespace Go.Proofs.YtkmdakampkfioaaGreatDoor
open Go.RowKit Go.Shelf
theorem mk0 {t e k by' : Nat} {z : Value} (hT : ElT t e k by' z) {ops : Array Oper} {rest : List Oper} {o : Oper} {a : Act} {Q : Exit → Act → World → Prop} (hg : o.guard = none) (l c : Operand) (hop : o.op = Op.makeSlice t l c)
  (w : World) (base n : Nat) (C : Int) (hl : a.eval l = .int .i64 0) (hc : a.eval c = .int .i64 C) (hC : C = (n : Int)) (hn : by' * n ≤ 140737488355328) (hb : base ≤ w.heap.size)
  (hK : ∀ w', Ow e k w' base (some ⟨w.heap.size, 0, none⟩) 0 n [] → Below w.heap.size w w' → wpList Tryz.prog ops Q rest (a.put o.dst (.slice (some ⟨w.heap.size, 0, none⟩) 0 n)) w') :
  wpList Tryz.prog ops Q (o :: rest) a w := by
 obtain ⟨i0, hi, hz0, hz1, hz2⟩ := info_parts hT.hi;have h63 : n ≤ maxLen := by
  have := Nat.le_mul_of_pos_left n hT.hb;unfold maxLen; omega
 refine wpList_make_own w hg l c t hop base e i0 z k hT.ht hi hz0 hz1 .i64 .i64 C n hl hc hC (by rw [hz2]; omega) h63 hb ?_;intro w' ho hgr;exact hK w' ho ((Below.refl _ _).grown hgr (Nat.le_refl _) (fun k hk => by cases hk))
theorem erow_len {w : World} {S : Nat → Prop} : ∀ cs x, ERow w S cs x → cs.length = 1 := fun cs x ⟨A, n, c, e, _⟩ => by rw [e]; rfl
theorem erow_one {w : World} {S : Nat → Prop} : ∀ cs x, ERow w S cs x → ∀ u ∈ cs, u.oneCell' = true := fun cs x ⟨A, n, c, e, _⟩ u hu => by
 rw [e] at hu; simp at hu; subst hu; rfl
theorem ERow.mono {w w' : World} {S S' : Nat → Prop} {cs : List Value} {x : List Int} (h : ERow w S cs x) (hS : ∀ b, S b → S' b) (hk : Kept S w w') : ERow w' S' cs x := by
 obtain ⟨A, n, c, e, h1, h2⟩ := h;exact ⟨A, n, c, e, h1.mono hS hk, h2⟩
theorem news_call {w W : World} {D : Option Addr} {m : Nat} {news : List Value} (h : 0 < m → ∃ b o, D = some ⟨b, o, none⟩ ∧ ∀ j u, news[j]? = some u → w.cell? ⟨b, o + j, none⟩ = some u) (bW : Below w.heap.size w W) :
  0 < m → ∃ b o, D = some ⟨b, o, none⟩ ∧ ∀ j u, news[j]? = some u → W.cell? ⟨b, o + j, none⟩ = some u := fun hm => by
 obtain ⟨b, o, e, hc⟩ := h hm;exact ⟨b, o, e, fun j u hu => cell_call (hc j u hu) bW⟩
def foreR (r : Rul) : List (List Int) × Bool := if r.inn.length = 0 then ([], false) else (r.inn ++ r.ahead, true)
def backR (r : Rul) : List (List Int) × Bool := (r.back, true)
def RowFn (h : FuncId) (f : Rul → List (List Int) × Bool) : Prop := (∀ args w, Sem.run Tryz.prog (callFunc h args) w = Result.ok (Next.enter h args) w) ∧ ∀ (S : Nat → Prop) (cs : List Value) (r : Rul) (w : World), ERul w S cs r → (∀ b, S b → b < w.heap.size) → r.inn.length + r.ahead.length ≤ 1000000 →
 Calls Tryz.prog h #[.agg cs.toArray] w fun e w' => ∃ A n c, e = .returned (.tuple #[.slice A n c, .bool (f r).2]) ∧ RdV w' (fun b => S b ∨ (w.heap.size ≤ b ∧ b < w'.heap.size)) A n (f r).1 ∧ Hd n c ∧ Below w.heap.size w w'
theorem Ow.rowS {α : Type} {k : Nat} {E : List Value → α → Prop} {css : List (List Value)} {xs : List α} {e : Nat} {w : World} {base n c : Nat} {A : Option Addr} (h : Ow e k w base A n c css.flatten) (hr : RowOf k E css xs) (hk : 0 < k) (S : Nat → Prop) (hS : ∀ b, base ≤ b → b < w.heap.size → A = some ⟨b, 0, none⟩ → S b) : SlE k E w S A n xs := by
 have hl := h.len;rw [flat_len hr.2.1] at hl;have hn : css.length = n := Nat.eq_of_mul_eq_mul_right hk hl;refine ⟨by rw [← hr.1]; exact hn, fun h0 => ?_⟩;obtain ⟨g, rfl, hb, hlt⟩ := h.form h0;refine ⟨g, 0, rfl, hS g hb hlt rfl, fun i x hx => ?_⟩;obtain ⟨cs, h1, h2, _⟩ := hr.at hx;refine ⟨cs, h2, fun j v hv => ?_⟩;rw [Nat.zero_add];exact h.cell (flat_at hr.2.1 h1 hv)
theorem kept_S {S : Nat → Prop} {w W : World} (hS : ∀ b, S b → b < w.heap.size) (hb : Below w.heap.size w W) : Kept S w W := fun b h => hb.block b (hS b h)
set_option maxRecDepth 100000 in
set_option maxHeartbeats 400000 in
theorem back1_c : RowFn 45 backR := by
 refine ⟨fun _ _ => by kernel_rfl, fun S cs r w h hS _ => ?_⟩;obtain ⟨A1, n1, c1, A2, n2, c2, A3, n3, c3, A4, n4, c4, A5, n5, c5, rfl, r1, r2, r3, _, _, d1, d2, d3, _⟩ := h;have hb : Below w.heap.size w (w.alloc (.cells #[.slice A1 n1 c1, .slice A2 n2 c2, .slice A3 n3 c3, .slice A4 n4 c4, .slice A5 n5 c5, .int .i64 r.x] 91)) := (Below.refl _ _).alloc (Nat.le_refl _) _;have r1' := r1.mono (fun b hb => (Or.inl hb : S b ∨ (w.heap.size ≤ b ∧ b < (w.alloc (.cells #[.slice A1 n1 c1, .slice A2 n2 c2, .slice A3 n3 c3, .slice A4 n4 c4, .slice A5 n5 c5, .int .i64 r.x] 91)).heap.size))) (kept_S hS hb);clear r1 r2 r3;go_enter Tryz.func45, Tryz.ntmps45;go_wp2;go_ret2;exact ⟨_, _, _, rfl, r1', d1, hb⟩
set_option maxRecDepth 100000 in
set_option maxHeartbeats 1000000 in
theorem fore1_c : RowFn 44 foreR := by
 refine ⟨fun _ _ => by kernel_rfl, fun S cs r w h hS hsm => ?_⟩;obtain ⟨A1, n1, c1, A2, n2, c2, A3, n3, c3, A4, n4, c4, A5, n5, c5, rfl, r1, r2, r3, _, _, d1, d2, d3, _⟩ := h;have hb : Below w.heap.size w (w.alloc (.cells #[.slice A1 n1 c1, .slice A2 n2 c2, .slice A3 n3 c3, .slice A4 n4 c4, .slice A5 n5 c5, .int .i64 r.x] 91)) := (Below.refl _ _).alloc (Nat.le_refl _) _;have hk := Bk.new w 91 #[.slice A1 n1 c1, .slice A2 n2 c2, .slice A3 n3 c3, .slice A4 n4 c4, .slice A5 n5 c5, .int .i64 r.x];have l2 := r2.len;have l3 := r3.len;unfold foreR;by_cases h0 : n2 = 0
 ·subst h0;rw [if_pos l2];clear r1 r2 r3 l2 l3 hsm hk;go_enter Tryz.func44, Tryz.ntmps44;go_wp2;go_ret2;exact ⟨_, _, _, rfl, SlE.nil, ⟨Nat.le_refl _, by omega⟩, hb⟩
 ·rw [if_neg (by omega)];have e0 : ((n2 : Int) == 0) = false := by simp; omega
  have e1 : (n2 == 0) = false := by simpa using h0
  have hsum : (n2 : Int) + (n3 : Int) ≤ 1000000 := by omega
  have hcast : (n2 : Int) + (n3 : Int) = ((n2 + n3 : Nat) : Int) := by omega
  have HC := Lib.hid hcast;obtain ⟨cs2, hrow2, hnl2, hnw2⟩ := RowOf.news r2 erow_len;obtain ⟨cs3, hrow3, hnl3, hnw3⟩ := RowOf.news r3 erow_len;have HN2 := Lib.hid (And.intro hnl2 (And.intro hnw2 (hrow2.one_cells erow_one)));have HN3 := Lib.hid (And.intro hnl3 (And.intro hnw3 (hrow3.one_cells erow_one)));have HRW := Lib.hid (hrow2.app hrow3);have HL := Lib.hid (And.intro l2 l3);have q1 := box_cells hk 1 rfl;have q2 := box_cells hk 2 rfl;clear r1 r2 r3 l2 l3 hsm h0 hcast hrow2 hrow3 hnl2 hnl3 hnw2 hnw3;go_enter Tryz.func44, Tryz.ntmps44;have hB1 : w.heap.size ≤ (w.alloc (.cells #[.slice A1 n1 c1, .slice A2 n2 c2, .slice A3 n3 c3, .slice A4 n4 c4, .slice A5 n5 c5, .int .i64 r.x] 91)).heap.size := hb.size;go_upto_region 4 with (at_make; refine mk0 elt_row rfl _ _ rfl _ w.heap.size (n2 + n3) _ (by rfl) (by rfl) HC.out (by omega) hB1 ?_; intro w2 ho2 hb2; have q1' := cell_call q1 hb2; have q2' := cell_call q2 hb2);have b2 := below_call hb hb2;have hB2 : w.heap.size ≤ w2.heap.size := b2.size;have hlt2 := (ho2.lt _ _ _ rfl).2;clear q1 q2 hB1;rw [World.size_alloc] at ho2 hlt2;clear hb hk hb2;go_upto_region 5 with (at_builtin; refine appP elt_row rfl _ _ rfl w2 w.heap.size _ _ _ [] _ _ _ cs2.flatten (by rfl) (by rfl) ho2 HN2.out.1 (news_call HN2.out.2.1 b2) HN2.out.2.2 (by omega) hB2 ?_; intro A6 c6 w6 o6 hg6 hb6 hat6);have b6 := b2.trans hb6;have q2'' : w6.cell? ⟨w.heap.size, 2, none⟩ = some (.slice A3 n3 c3) := by
   refine (World.cell?_of_block (hg6.block w.heap.size (by omega) (fun e => ?_))).trans q2';injection e with e;revert e; show ¬ w.heap.size = w.heap.size + 1; omega
  have hB6 : w.heap.size ≤ w6.heap.size := b6.size;rw [Nat.zero_add, List.nil_append] at o6;clear ho2 hg6 hb6 hat6 hlt2 q1' q2';go_wp2_with (at_builtin; refine appP elt_row rfl _ _ rfl w6 w.heap.size _ _ _ cs2.flatten _ _ _ cs3.flatten (by rfl) (by rfl) o6 HN3.out.1 (news_call HN3.out.2.1 b6) HN3.out.2.2 (by omega) hB6 ?_; intro A7 c7 w7 o7 hg7 hb7 hat7);go_ret2;have b7 := b6.trans hb7;rw [← List.flatten_append] at o7;exact ⟨A7, n2 + n3, c7, rfl, o7.rowS (HRW.out.mono fun cs x h => h.mono (fun b hb => .inl hb) (kept_S hS b7)) (by omega) _ (fun b h1 h2 _ => .inr ⟨h1, h2⟩), o7.cap, b7⟩
end Go.Proofs.YtkmdakampkfioaaGreatDoor
