/- Plain words: a lookup that is made has an automaton; what does what the rules say tells the same rule first. -/
import Derived.Test.YtkmdakampkfioaaGreatDoorY7
import Derived.Test.YtkmdakampkfioaaGreatDoorV20
import Derived.Test.YtkmdakampkfioaaGreatDoorTk
namespace Go.Proofs.YtkmdakampkfioaaGreatDoor
open Go.RowKit Go.Shelf Go.Maps
theorem flat_made_p {rs : List Rul} (h : ∀ u ∈ rs, RulB u) : (setsL rs).length ≤ rs.length * 7 := by
 induction rs with
 | nil => exact Nat.zero_le _
 | cons r rs ih =>
  have h1 := ih fun u hu => h u (List.mem_cons_of_mem _ hu);have h2 := h r List.mem_cons_self;unfold setsL at h1 ⊢;rw [List.flatMap_cons, List.length_append, List.length_append, List.length_append, List.length_cons];have := h2.b;have := h2.i;have := h2.a;omega
theorem LkB.smB {l : Lk} (h : LkB l) : SmB l.rules := by
 have h1 := flat_made_p h.r;have h2 := h.n;refine ⟨by omega, by omega, fun s hs => ?_⟩;unfold setsL at hs;obtain ⟨u, hu, hs⟩ := List.mem_flatMap.1 hs;have := (h.r u hu).l s hs;omega
theorem lk_small {F : Fnt} (h : ∀ l ∈ F.lks, LkB l) (k : Int) : ∀ lk, lkAt F k = some lk → lk.rules.length ≤ 64 → SmB lk.rules := fun lk hl _ => by
 unfold lkAt at hl;split at hl
 ·cases hl
 ·exact (h lk (List.mem_of_getElem? hl)).smB
theorem auto_lenp {rs : List Rul} {n : Nat} {a : Au} (h : autoL rs n = some a) : a.fore.length ≤ 20000 ∧ a.back.length ≤ 20000 := by
 obtain ⟨x, y, hx, hy, rfl⟩ := autoL_some h;have h1 := half_ok hx;have h2 := half_ok hy;have e1 := h1.len;have e2 := h2.len;have m1 := h1.mx;have m2 := h2.mx;exact ⟨by show x.1.length ≤ _; omega, by show y.1.length ≤ _; omega⟩
theorem rd_takep {w : World} {S : Nat → Prop} {A : Option Addr} {n m k : Nat} {xs : List Int} (h : Rd w S A n xs) (hm : m = min n k) : Rd w S A m (xs.take k) := by
 have h1 : Rd w S A m (xs.take m) := SlE.take h m (by omega);have h2 : xs.take m = xs.take k := by
  have h3 := h.len;by_cases h4 : k ≤ n
  ·rw [show m = k by omega]
  ·rw [List.take_of_length_le (by omega), List.take_of_length_le (by omega)]
 rwa [h2] at h1
theorem lkB_row (back : Bool) {rs : List Rul} (h : ∀ u ∈ rs, RulB u) : ∀ row ∈ rowsF (kindF back) rs, row.length ≤ 6 := fun row hr => by
 obtain ⟨r, hq, rfl⟩ := List.mem_map.1 hr;have h1 := (h r hq).b;have h2 := (h r hq).i;have h3 := (h r hq).a;cases back
 ·show (foreR r).1.length ≤ 6
  unfold foreR;split
  ·simp
  ·simp; omega
 ·show r.back.length ≤ 6
  omega
theorem lkB_half (back : Bool) {lk : Lk} (h : LkB lk) (n : Nat) : ∃ x, halfL (kindF back) lk.rules n = some x := by
 have h1 := hv_lt back lk.rules;rw [rowsF_len] at h1;have h2 : 2 ^ lk.rules.length ≤ 2 ^ 3 := Nat.pow_le_pow_right (by omega) h.n;exact allP_some (clsL lk.rules n) (KL lk.rules n) (k := 3) (m := 6) (lkB_row back h.r) (by decide) (by omega)
theorem lkB_build {F : Fnt} {k : Int} {lk : Lk} (hk : lkAt F k = some lk) (h : LkB lk) (h0 : 0 < F.gly.length) (h1 : F.gly.length ≤ 65536) : ∃ a, autoL lk.rules F.gly.length = some a ∧ buildL F k = (some a, 0) := by
 obtain ⟨x, hx⟩ := lkB_half false h F.gly.length;obtain ⟨y, hy⟩ := lkB_half true h F.gly.length;refine ⟨⟨clsL lk.rules F.gly.length, x.1, y.1, x.2.map (endsP (rowsF (kindF false) lk.rules)), y.2.map (endsP (rowsF (kindF true) lk.rules))⟩, ?_⟩;have ha : autoL lk.rules F.gly.length = some ⟨clsL lk.rules F.gly.length, x.1, y.1, x.2.map (endsP (rowsF (kindF false) lk.rules)), y.2.map (endsP (rowsF (kindF true) lk.rules))⟩ := by
  unfold autoL;rw [show halfL foreR lk.rules F.gly.length = some x from hx, show halfL backR lk.rules F.gly.length = some y from hy];rfl
 refine ⟨ha, ?_⟩;have h2 := h.n;unfold buildL;rw [hk];dsimp only;rw [if_neg (by omega), if_neg (by omega), ha]
theorem auto_rows {rs : List Rul} {n : Nat} {a : Au} (h : autoL rs n = some a) (hn : 0 < n) : 0 < a.fore.length ∧ ∀ (i : Nat) (row : List Int), a.fore[i]? = some row → 0 < row.length := by
 obtain ⟨x, y, hx, hy, rfl⟩ := autoL_some h;have h1 := half_ok hx;have e1 := h1.len;have e2 := (List.getElem?_eq_some_iff.1 h1.h0).1;refine ⟨by show 0 < x.1.length; omega, fun i row hr => ?_⟩;have hr : x.1[i]? = some row := hr;have hi := (List.getElem?_eq_some_iff.1 hr).1;have h2 := (h1.all i (x.2[i]'(by omega)) row (List.getElem?_eq_getElem _) hr).1;have h3 := (clsL_gly rs n 0 _ (clsL_at rs hn)).2;omega
theorem rows_len {rs : List Rul} {n : Nat} {a : Au} (h : autoL rs n = some a) (hn : n ≤ 1000) : ∀ (i : Nat) (row : List Int), a.fore[i]? = some row → row.length ≤ 1000 := by
 obtain ⟨x, y, hx, hy, rfl⟩ := autoL_some h;have h1 := half_ok hx;have e1 := h1.len;intro i row hr;have hr : x.1[i]? = some row := hr;have hi := (List.getElem?_eq_some_iff.1 hr).1;have h2 := (h1.all i (x.2[i]'(by omega)) row (List.getElem?_eq_getElem _) hr).1;have h3 := KL_le rs n;omega
theorem does_says {F : Fnt} {k : Int} {lk : Lk} {a : Au} (hk : lkAt F k = some lk) (h : DoesF F k a) (w : List Int) (hw : ∀ g ∈ w, 0 ≤ g ∧ g < (F.gly.length : Int)) : foreA a w = saysB false lk.rules w ∧ backA a w = saysB true lk.rules w := by
 obtain ⟨lk2, _, _, h1, _, h2⟩ := h;rw [hk] at h1;injection h1 with h1; subst h1;exact doesL_iff.1 h2 w hw
theorem first_same {F : Fnt} {k : Int} {lk : Lk} {a b : Au} (hk : lkAt F k = some lk) (ha : DoesF F k a) (hb : DoesF F k b) (bs fs : List Int) (h1 : ∀ g ∈ bs, 0 ≤ g ∧ g < (F.gly.length : Int)) (h2 : ∀ g ∈ fs, 0 ≤ g ∧ g < (F.gly.length : Int)) : firstZ (backA b bs &&& foreA b fs) = firstZ (backA a bs &&& foreA a fs) := by
 rw [(does_says hk ha bs h1).2, (does_says hk ha fs h2).1, (does_says hk hb bs h1).2, (does_says hk hb fs h2).1]
theorem doesF_built {F : Fnt} {k er : Int} {a : Au} (h : buildL F k = (some a, er)) : DoesF F k a := by
 obtain ⟨lk, h1, _, _, _, h2, _⟩ := buildL_some h;exact ⟨lk, a, er, h1, h, doesL_built h2⟩
theorem rest_num (x : Int) {n : Nat} (hn : 0 < n) (hn2 : n ≤ 4611686018427387903) : ∃ (t : Int) (s r : Nat), x.tmod (n : Int) = t ∧ t + (n : Int) = (s : Int) ∧ wrap64 (t + (n : Int)) = (s : Int) ∧ (s : Int).tmod (n : Int) = (r : Int) ∧ r < n := by
 have h1 := Int.tmod_lt_of_pos x (show (0 : Int) < n by omega);have h2 : -(n : Int) < x.tmod n := by
  have := Int.tmod_lt_of_pos (-x) (show (0 : Int) < n by omega);rw [Int.neg_tmod] at this;omega
 refine ⟨x.tmod n, (x.tmod n + n).toNat, (x.tmod n + n).toNat % n, rfl, by omega, ?_, ?_, Nat.mod_lt _ hn⟩
 ·have h3 : wrap64 (x.tmod n + n) = x.tmod n + n := by unfold wrap64; omega
  rw [h3]; omega
 ·rw [Int.tmod_eq_emod_of_nonneg (by omega)]; omega
set_option maxRecDepth 100000 in
theorem rest_c (x : Int) (n : Nat) (w : World) (hn : 0 < n) (hn2 : n ≤ 4611686018427387903) : Calls Tryz.prog 7 #[.int .i64 x, .int .i64 (n : Int)] w fun e w' => w = w' ∧ ∃ r : Nat, r < n ∧ e = .returned (.int .i64 (r : Int)) := by
 obtain ⟨t, s, r, h1, h2, h3, h4, h5⟩ := rest_num x hn hn2;have n0 : ¬ (n = 0) := by omega
 have nz : ((n : Int) == 0) = false := by simp; omega
 clear h2;go_enter Tryz.func7, Tryz.ntmps7;go_wp2;go_ret;exact ⟨rfl, r, h5, rfl⟩
theorem hd_take {n c : Nat} (h : Hd n c) (hn : 600 < n) : Hd 600 c := ⟨by have := h.1; omega, h.2⟩
set_option maxRecDepth 100000 in
theorem seed_c (A : Option Addr) (n c : Nat) (xs : List Int) (w : World) (h : Rd w (lo w.heap.size) A n xs) (hh : Hd n c) : Calls Tryz.prog 6 #[.slice A n c] w fun e w' => w = w' ∧ ∃ m ys, e = .returned (.slice A m c) ∧ Rd w (lo w.heap.size) A m ys ∧ Hd m c := by
 by_cases hn : 600 < n
 ·have h6 : (600 : Int) < (n : Int) := by omega
  have hc : (600 : Int) ≤ (c : Int) := by have := hh.1; omega
  have hd : c ≤ 9223372036854775807 := hh.2;have h1 := rd_takep (m := 600) (k := 600) h (by omega);have h2 := hd_take hh hn;clear h hh;go_enter Tryz.func6, Tryz.ntmps6;go_wp2;go_ret;exact ⟨rfl, 600, _, rfl, h1, h2⟩
 ·have h6 : ¬ (600 : Int) < (n : Int) := by omega
  go_enter Tryz.func6, Tryz.ntmps6;go_wp2;go_ret;first | exact ⟨rfl, n, _, rfl, h, hh⟩ | exact ⟨rfl, n, rfl, ⟨_, h⟩, hh⟩
set_option maxRecDepth 100000 in
set_option maxHeartbeats 1000000 in
theorem glyphs_c (f : FV) (A : Option Addr) (n c : Nat) (l : List Int) (w : World) (h : Rd w (lo w.heap.size) A n l) (hh : Hd n c) (hg : 0 < f.gn) (hg2 : f.gn ≤ 1000) :
  Calls Tryz.prog 10 #[.agg f.cells, .slice A n c] w fun e w' => ∃ A' n' c' gs, e = .returned (.slice A' n' c') ∧ Rd w' (lo w'.heap.size) A' n' gs ∧ Hd n' c' ∧ (∀ g ∈ gs, 0 ≤ g ∧ g < (f.gn : Int)) ∧ Below w.heap.size w w' := by
 have k0 := Bk.new w 34 f.cells;have b0 : Below w.heap.size w (w.alloc (.cells f.cells 34)) := below_lit _ _ (Below.refl _ _) _;have HL := Lib.hid h;have hll := h.len;have HLL := Lib.hid hll;have hcap : n ≤ c ∧ c ≤ 9223372036854775807 := hh;have HR := Lib.hid fun (W : World) (x : Int) => rest_c x f.gn W hg (by omega);clear h hll hh;unfold FV.cells at *;go_enter Tryz.func10, Tryz.ntmps10;go_upto_region 3 with fail;obtain ⟨w1, hw1⟩ : ∃ W, w.alloc (.cells #[.int .i64 f.u0, .slice f.ga f.gn f.gc, .slice f.ca f.cn f.cc, .slice f.la f.ln f.lc, .slice f.a4 f.n4 f.c4, .slice f.a5 f.n5 f.c5, .slice f.a6 f.n6 f.c6, .slice f.a7 f.n7 f.c7, .slice f.a8 f.n8 f.c8] 34) = W := ⟨_, rfl⟩;rw [hw1] at k0 b0;try rw [hw1]
 clear hw1;have hlt1 := k0.lt;obtain ⟨gF, hgF⟩ : ∃ x, w.heap.size = x := ⟨_, rfl⟩;have KF := Lib.hid k0;have B0 := Lib.hid b0;rw [hgF] at KF hlt1;try rw [hgF]
 clear k0 b0;go_loopw [5, 6] (fun ov iv wr => ∃ (i : Nat) (Ax : Option Addr) (d : Nat) (gs : List Int), i ≤ 12 ∧ i ≤ n ∧ iv = .int .i64 i ∧ ov = .slice Ax i d ∧ Ow 3 1 wr w1.heap.size Ax i d (ic gs) ∧ (∀ g ∈ gs, 0 ≤ g ∧ g < (f.gn : Int)) ∧ Below w1.heap.size w1 wr) (fun _ iv _ => n - (intOf iv).toNat)
 case atStart => exact ⟨0, none, 0, [], by omega, by omega, rfl, rfl, Ow.nil _ _ _ _, (fun g h => by cases h), Below.refl _ _⟩
 case round =>
  obtain ⟨i, Ax, d, gs, hi12, hin, rfl, rfl, how, hgs, hb⟩ := hrel;by_cases hlt : i < n
  ·have inn : (i : Int) < (n : Int) := by omega
   by_cases hlt12 : i < 12
   ·have i12 : (i : Int) < 12 := by omega
    have iz : (0 : Int) ≤ (i : Int) := by omega
    obtain ⟨x, hx⟩ := at_some l i (by rw [HLL.out]; omega);obtain ⟨ba, oa, rfl, hba, hcc⟩ := HL.out.pos (show 0 < n by omega);obtain ⟨cs, rfl, hcc2⟩ := hcc i x hx;change ba < w.heap.size at hba;have x0 := (B0.out.cell (p := ⟨ba, oa + i * 1 + 0, none⟩) hba).trans (hcc2 0 _ rfl);rw [Nat.mul_one, Nat.add_zero] at x0;have hba1 : ba < w1.heap.size := by omega
    have HOW := Lib.hid (And.intro how hgs);have hs0 := hb.size;clear hcc hcc2 hx how hgs;go_upto_region 5 with fail;have HS := Lib.hid fun (W : World) (bW : Below w1.heap.size w1 W) => (show W.cell? ⟨ba, oa + i, none⟩ = some (.int .i64 x) ∧ W.cell? ⟨gF, 1, none⟩ = some (.slice f.ga f.gn f.gc) from ⟨(bW.cell (p := ⟨ba, oa + i, none⟩) hba1).trans x0, (bW.cell (p := ⟨gF, 1, none⟩) hlt1).trans (KF.out.cell 1)⟩);clear x0;refine wp_region_held_drew (S := fun w' => w'.cell? ⟨ba, oa + i, none⟩ = some (.int .i64 x) ∧ w'.cell? ⟨gF, 1, none⟩ = some (.slice f.ga f.gn f.gc)) (by kernel_rfl) ?_ (fun hH => ?_)
    ·exact HS.out _ (below_drewN hb 1)
    replace hb := below_drewN hb 1;have how := HOW.out.1.drewN 1;change Below _ _ wr.drew at hb;change Ow _ _ wr.drew _ _ _ _ _ at how;change w1.heap.size ≤ wr.drew.heap.size at hs0;generalize hw0 : wr.drew = W0 at hH hb how hs0 ⊢;clear hw0;refine tkC 0 ?_;refine tkC 1 ?_;refine tkC 2 ?_;refine tkC 3 ?_;refine tkC 4 ?_;refine tkC 5 ?_;refine tkC 6 ?_;refine tkC 7 ?_;refine ry 8 fun K hK => ?_;go_simp;clear hH;go_at_call 7;(with_reducible refine (HR.out W0 x).mono ?_);rintro e V1 ⟨rfl, r, hr, rfl⟩;go_wp2_with fail;refine hK.out _ _ (HS.out _ hb) fun hH => ?_;clear hK K;refine ry 9 fun K hK => ?_;go_simp;clear hH;refine hK.out _ _ (HS.out _ (below_lit _ _ hb _)) fun hH => ?_;clear hK K;refine rd1 10 fun K hK => ?_;clear hH;have how2 := how.alloc (.cells #[.int .i64 (r : Int)] 3);have hnw := news_new W0 [.int .i64 (r : Int)] 3;have hs2 : w1.heap.size ≤ (W0.alloc (.cells #[.int .i64 (r : Int)] 3)).heap.size := by rw [World.size_alloc]; omega
    refine appStep elt_int (by kernel_rfl) _ _ rfl (W0.alloc (.cells #[.int .i64 (r : Int)] 3)) w1.heap.size _ _ _ (ic gs) _ 1 1 [.int .i64 (r : Int)] (by rfl) (by rfl) how2 rfl hnw (by simp [Value.oneCell']) (by omega) hs2 ?_;intro A' d' W4 ho4 hg4 hb4 hat4;have hb5 := (below_lit _ _ hb (.cells #[.int .i64 (r : Int)] 3)).trans hb4;refine hkG hK (HS.out _ hb5) fun hH => ?_;clear hK K;refine tkC 11 ?_;refine dn ?_;clear hH how2 hnw hs2 hb how HS hg4 hb4 hat4 hs0;go_wp2_with fail;have hw : ic gs ++ [Value.int .i64 (r : Int)] = ic (gs ++ [(r : Int)]) := by simp [ic]
    rw [hw] at ho4;have hgs2 : ∀ g ∈ gs ++ [(r : Int)], 0 ≤ g ∧ g < (f.gn : Int) := fun g hg => by
     rcases List.mem_append.1 hg with hg | hg
     ·exact HOW.out.2 g hg
     ·rw [List.mem_singleton] at hg; subst hg; omega
    clear hw;go_roundw
    case rel => exact ⟨i + 1, A', d', gs ++ [(r : Int)], by omega, by omega, by go_num, rfl, ho4, hgs2, hb5⟩
    case measure => simp [intOf] <;> omega
   ·have i12 : ¬ (i : Int) < 12 := by omega
    have hbb := below_call B0.out hb;rw [hgF] at hbb;have hr := how.rd;have hd := how.hd;clear how;go_wp2;go_ret;first | exact ⟨Ax, i, d, gs, rfl, hr, hd, hgs, hbb⟩ | exact ⟨Ax, i, d, rfl, gs, hr, hd, hgs, hbb⟩
  ·have inn : ¬ (i : Int) < (n : Int) := by omega
   have hbb := below_call B0.out hb;rw [hgF] at hbb;have hr := how.rd;have hd := how.hd;clear how;go_wp2;go_ret;first | exact ⟨Ax, i, d, gs, rfl, hr, hd, hgs, hbb⟩ | exact ⟨Ax, i, d, rfl, gs, hr, hd, hgs, hbb⟩
def IntLike (v v' : Value) : Prop := (∃ x y : Int, v = .int .i64 x ∧ v' = .int .i64 y) ∨ v' = v
def Sim (w w' : World) : Prop := ∀ b o v, w.cell? ⟨b, o, none⟩ = some v → ∃ v', w'.cell? ⟨b, o, none⟩ = some v' ∧ IntLike v v'
theorem Sim.set {w : World} {g i : Nat} {x y : Int} (h : w.cell? ⟨g, i, none⟩ = some (.int .i64 x)) : Sim w (w.setCell ⟨g, i, none⟩ (.int .i64 y)) := fun b o v hv => by
 by_cases e : (⟨g, i, none⟩ : Addr) = ⟨b, o, none⟩
 ·rw [← e] at hv ⊢;rw [h] at hv;injection hv with hv;subst hv;exact ⟨_, World.cell?_setCell_same _ _ _ h, .inl ⟨x, y, rfl, rfl⟩⟩
 ·exact ⟨v, (World.cell?_setCell_other _ _ _ _ e).trans hv, .inr rfl⟩
theorem Rd.sim {w w' : World} {S : Nat → Prop} {A : Option Addr} {n : Nat} {xs : List Int} (h : Rd w S A n xs) (hs : Sim w w') : ∃ ys, Rd w' S A n ys := by
 by_cases hn : n = 0
 ·subst hn; exact ⟨[], SlE.nil⟩
 ·obtain ⟨b, o, e, hb, hc⟩ := h.2 (by omega);have hch : ∀ i, i < n → ∃ y : Int, w'.cell? ⟨b, o + i, none⟩ = some (.int .i64 y) := fun i hi => by
   obtain ⟨x, hx⟩ := at_some xs i (by rw [h.1]; exact hi);obtain ⟨cs, rfl, hcc⟩ := hc i x hx;have h0 := hcc 0 _ rfl;rw [Nat.mul_one, Nat.add_zero] at h0;obtain ⟨v', h1, h2⟩ := hs b (o + i) _ h0;rcases h2 with ⟨x', y, _, rfl⟩ | rfl
   ·exact ⟨y, h1⟩
   ·exact ⟨x, h1⟩
  obtain ⟨f, hf⟩ := Deep.choose_lt hch;refine ⟨(List.range n).map f, by simp, fun _ => ⟨b, o, e, hb, fun i x hx => ?_⟩⟩;have hi : i < n := by have := (List.getElem?_eq_some_iff.1 hx).1; simpa using this
  simp [hi] at hx;subst hx;refine ⟨_, rfl, fun j v hv => ?_⟩
  match j, hv with
  | 0, hv => injection hv with hv; subst hv; rw [Nat.mul_one, Nat.add_zero]; exact hf i hi
theorem RdU.sim {w w' : World} {S : Nat → Prop} {A : Option Addr} {n : Nat} {xs : List Nat} (h : RdU w S A n xs) (hs : Sim w w') : RdU w' S A n xs := by
 refine ⟨h.1, fun hn => ?_⟩;obtain ⟨b, o, e, hb, hc⟩ := h.2 hn;refine ⟨b, o, e, hb, fun i x hx => ?_⟩;obtain ⟨cs, ⟨rfl, hxl⟩, hcc⟩ := hc i x hx;refine ⟨_, ⟨rfl, hxl⟩, fun j v hv => ?_⟩;obtain ⟨v', h1, h2⟩ := hs b _ _ (hcc j v hv)
 match j, hv with
 | 0, hv =>
  injection hv with hv; subst hv;rcases h2 with ⟨x', y, e1, _⟩ | rfl
  ·injection e1 with e1 _; cases e1
  ·exact h1
theorem RdV.sim {w w' : World} {S : Nat → Prop} {A : Option Addr} {n : Nat} {xs : List (List Int)} (h : RdV w S A n xs) (hs : Sim w w') : ∃ ys, RdV w' S A n ys := by
 by_cases hn : n = 0
 ·subst hn; exact ⟨[], SlE.nil⟩
 ·obtain ⟨b, o, e, hb, hc⟩ := h.2 (by omega);have hch : ∀ i, i < n → ∃ ys : List Int, ∃ R m c, w'.cell? ⟨b, o + i, none⟩ = some (.slice R m c) ∧ Rd w' S R m ys ∧ Hd m c := fun i hi => by
   obtain ⟨x, hx⟩ := at_some xs i (by rw [h.1]; exact hi);obtain ⟨cs, ⟨R, m, c, rfl, h3, h4⟩, hcc⟩ := hc i x hx;have h0 := hcc 0 _ rfl;rw [Nat.mul_one, Nat.add_zero] at h0;obtain ⟨v', h1, h2⟩ := hs b (o + i) _ h0;obtain ⟨ys, hy⟩ := h3.sim hs;rcases h2 with ⟨x', y, e1, _⟩ | rfl
   ·cases e1
   ·exact ⟨ys, R, m, c, h1, hy, h4⟩
  obtain ⟨f, hf⟩ := Deep.choose_lt hch;refine ⟨(List.range n).map f, by simp, fun _ => ⟨b, o, e, hb, fun i x hx => ?_⟩⟩;have hi : i < n := by have := (List.getElem?_eq_some_iff.1 hx).1; simpa using this
  simp [hi] at hx;subst hx;obtain ⟨R, m, c, h1, h2, h3⟩ := hf i hi;refine ⟨[.slice R m c], ⟨R, m, c, rfl, h2, h3⟩, fun j v hv => ?_⟩
  match j, hv with
  | 0, hv => injection hv with hv; subst hv; rw [Nat.mul_one, Nat.add_zero]; exact h1
theorem IsA.sim {w w' : World} {S : Nat → Prop} {v : AV} {a : Au} (h : IsA w S v a) (hs : Sim w w') : ∃ a', IsA w' S v a' ∧ a'.fore.length = a.fore.length ∧ a'.back.length = a.back.length := by
 obtain ⟨x1, h1⟩ := h.1.c.sim hs;obtain ⟨x2, h2⟩ := h.1.t.sim hs;obtain ⟨x3, h3⟩ := h.2.t.sim hs;exact ⟨⟨x1, x2, x3, a.fe, a.be⟩, ⟨⟨h1, h2, h.1.e.sim hs, h.1.hc, h.1.ht, h.1.he⟩, ⟨h1, h3, h.2.e.sim hs, h.2.hc, h.2.ht, h.2.he⟩⟩, by show x2.length = _; rw [h2.len, h.1.t.len], by show x3.length = _; rw [h3.len, h.2.t.len]⟩
theorem ic_len1 (xs : List Int) : (ic xs).length = xs.length := by simp [ic]
theorem rd_news {w : World} {S : Nat → Prop} {A : Option Addr} {n : Nat} {xs : List Int} (h : Rd w S A n xs) : 0 < n → ∃ b o, A = some ⟨b, o, none⟩ ∧ ∀ j u, (ic xs)[j]? = some u → w.cell? ⟨b, o + j, none⟩ = some u := fun hn => by
 obtain ⟨b, o, e, _, hc⟩ := h.pos hn;refine ⟨b, o, e, fun j u hu => ?_⟩;unfold ic at hu;rw [List.getElem?_map] at hu;cases hx : xs[j]? with
 | none => rw [hx] at hu; cases hu
 | some x =>
  rw [hx] at hu; injection hu with hu; subst hu;obtain ⟨cs, rfl, hcc⟩ := hc j x hx;have := hcc 0 _ rfl;rw [Nat.mul_one, Nat.add_zero] at this;exact this
theorem ow_none (e k : Nat) (w : World) (base : Nat) (hb : base ≤ w.heap.size) : Ow e k (w.alloc (.cells #[] e)) base (some ⟨w.heap.size, 0, none⟩) 0 0 [] :=
 ⟨by simp, .inr ⟨w.heap.size, 0, #[], rfl, hb, heap_alloc_new w _, Nat.le_refl _, by unfold maxLen; omega, by simp, by simp⟩⟩
def AV.fore (v : AV) (A : Option Addr) (c : Nat) : AV := { v with fa := A, fc := c }
theorem row_put {w W : World} {g n c R' m' d' k base : Nat} {css : List (List Value)} {S : Nat → Prop} {xss : List (List Int)} {row : List Int} (h : Ow 22 1 w base (some ⟨g, 0, none⟩) n c css.flatten) (hr : RowOf 1 (ERow W S) css xss) (hk : xss[k]? = some row) (he : Rd W S (some ⟨R', 0, none⟩) m' row) (hd : Hd m' d') :
  ∃ ds, Ow 22 1 (w.setCell ⟨g, k, none⟩ (.slice (some ⟨R', 0, none⟩) m' d')) base (some ⟨g, 0, none⟩) n c ds.flatten ∧ RowOf 1 (ERow W S) ds xss := by
 obtain ⟨cs, h1, h2, h3⟩ := hr.at hk;have hp := h.put hr h1 (show 0 < 1 by omega) (.slice (some ⟨R', 0, none⟩) m' d');rw [Nat.mul_one, Nat.add_zero] at hp;have e : cs.set 0 (.slice (some ⟨R', 0, none⟩) m' d') = [.slice (some ⟨R', 0, none⟩) m' d'] := by
  match cs, h3 with
  | [x], _ => rfl
 rw [e] at hp;have hs := hr.set (i := k) (cs := [.slice (some ⟨R', 0, none⟩) m' d']) (y := row) rfl ⟨_, _, _, rfl, he, hd⟩;have e2 : xss.set k row = xss := by
  apply List.ext_getElem?;intro j;rw [List.getElem?_set];split
  ·rename_i hkj;subst hkj;have := (List.getElem?_eq_some_iff.1 hk).1;simp only [this, if_true];exact hk.symm
  ·rfl
 rw [e2] at hs;exact ⟨_, hp, hs⟩
theorem row_copied {w8 w12 W3 : World} {gB gr g2 n c k m d base t : Nat} {cells : Array Value} {css : List (List Value)} {xss : List (List Int)} {row : List Int} (b12 : Below gB w8 w12) (b3 : Below w12.heap.size w12 W3) (kb : Bk w12 gB t cells) (o12 : Ow 22 1 w12 base (some ⟨gr, 0, none⟩) n c css.flatten)
  (hro : RowOf 1 (ERow w12 (lo gB)) css xss) (hk : xss[k]? = some row) (o3 : Ow 3 1 W3 w12.heap.size (some ⟨g2, 0, none⟩) m d (ic row)) (hgB : gB < base) (u : Value) (hu : w12.cell? ⟨gr, k, none⟩ = some u) :
  Below gB w8 (W3.setCell ⟨gr, k, none⟩ (.slice (some ⟨g2, 0, none⟩) m d)) ∧ Bk (W3.setCell ⟨gr, k, none⟩ (.slice (some ⟨g2, 0, none⟩) m d)) gB t cells ∧ (W3.setCell ⟨gr, k, none⟩ (.slice (some ⟨g2, 0, none⟩) m d)).cell? ⟨gr, k, none⟩ = some (.slice (some ⟨g2, 0, none⟩) m d) ∧ Ow 3 1 (W3.setCell ⟨gr, k, none⟩ (.slice (some ⟨g2, 0, none⟩) m d)) gB (some ⟨g2, 0, none⟩) m d (ic row) ∧ (gB < gr ∧ gr < g2) ∧
  ∃ ds, Ow 22 1 (W3.setCell ⟨gr, k, none⟩ (.slice (some ⟨g2, 0, none⟩) m d)) base (some ⟨gr, 0, none⟩) n c ds.flatten ∧ RowOf 1 (ERow (W3.setCell ⟨gr, k, none⟩ (.slice (some ⟨g2, 0, none⟩) m d)) (fun b => b ≠ gr ∧ b < (W3.setCell ⟨gr, k, none⟩ (.slice (some ⟨g2, 0, none⟩) m d)).heap.size)) ds xss := by
 have h1 := o12.lt gr 0 none rfl;have h2 := o3.lt g2 0 none rfl;have hkb := kb.lt;have o13 := o12.call b3;have kb3 := kb.below b3 hkb;have hs := b3.size;have hsz : (W3.setCell ⟨gr, k, none⟩ (.slice (some ⟨g2, 0, none⟩) m d)).heap.size = W3.heap.size := by simp
 have hkp : Kept (fun b => b ≠ gr) W3 (W3.setCell ⟨gr, k, none⟩ (.slice (some ⟨g2, 0, none⟩) m d)) := fun b hb => Below.heap_setCell _ ⟨gr, k, none⟩ _ b hb;have hrd : Rd W3 (fun b => b ≠ gr ∧ b < W3.heap.size) (some ⟨g2, 0, none⟩) m row := by
  have h3 := o3.rd;refine ⟨h3.1, fun hm => ?_⟩;obtain ⟨b, o, e, hb, hc⟩ := h3.2 hm;refine ⟨b, o, e, ⟨?_, hb⟩, hc⟩;injection e with e; injection e with e _ _;omega
 have hr3 : RowOf 1 (ERow W3 (fun b => b ≠ gr ∧ b < W3.heap.size)) css xss := hro.mono fun cs x h => h.mono (fun b hb => by have hb : b < gB := hb; omega) (fun b hb => b3.block b (by have hb : b < gB := hb; omega));obtain ⟨ds, h4, h5⟩ := row_put o13 hr3 hk hrd o3.hd;refine ⟨(b12.trans (b3.mono (by omega))).setCell (p := ⟨gr, k, none⟩) (by show gB ≤ gr; omega) _, (kb3.far (p := ⟨gr, k, none⟩) (by show gB ≠ gr; omega) _), World.cell?_setCell_same _ _ _ (cell_call hu b3), (o3.setOther (p := ⟨gr, k, none⟩) (fun b e => by injection e with e; injection e with e _ _; show b ≠ gr; omega) _).lower (by omega), ⟨by omega, by omega⟩, ds, h4, ?_⟩;rw [hsz];exact h5.mono fun cs x h => h.mono (fun b hb => hb) (fun b hb => hkp b hb.1)
end Go.Proofs.YtkmdakampkfioaaGreatDoor
