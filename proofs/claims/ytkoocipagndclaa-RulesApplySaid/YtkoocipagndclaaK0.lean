/- Words for the document's rules; walks: its Same, wide, Big. -/
import Derived.Test.YtkoocipagndclaaL1
import Derived.Test.YtkoocipagndclaaW19
import Derived.Laws.StructEq
namespace Go.Proofs.Ytkoocipagndclaa
open Go.RowKit Go.Shelf

def RPost (B : Nat) (W : World) (run' : List Itm) (e : Ending) (W' : World) : Prop := ∃ A n c, e = .returned (.slice A n c) ∧ Ow 51 6 W' B A n c (itc run') ∧ Below B W W'
theorem doL_pair {w : Int → Int} {F : Fnt} {d : Nat} {lk : Lk} {r : Rul} {ps : List Nat} {run : List Itm} (hk : lk.kind = 6) : doL w F d lk r ps run = pairL w (ps.headD 0) r.x run := by
  unfold doL; simp [hk]
theorem pairL_len (w : Int → Int) (k : Nat) (x : Int) (run : List Itm) : (pairL w k x run).length = run.length := by simp [pairL]
theorem sle_bk {α : Type} {k : Nat} {E : List Value → α → Prop} {w : World} {S : Nat → Prop} {g t : Nat} {cs : Array Value} (h : Bk w g t cs) (hS : S g) {n : Nat} (xs : List α) (hl : xs.length = n) (hE : ∀ (i : Nat) (x : α), xs[i]? = some x → ∃ l, E l x ∧ ∀ (j : Nat) (v : Value), l[j]? = some v → cs[i * k + j]? = some v) : SlE k E w S (some ⟨g, 0, none⟩) n xs :=
  ⟨hl, fun _ => ⟨g, 0, rfl, hS, fun i x hx => by
    obtain ⟨l, h1, h2⟩ := hE i x hx
    exact ⟨l, h1, fun j v hv => by rw [h.cell, Nat.zero_add]; exact h2 j v hv⟩⟩⟩
theorem sle_one {α : Type} {k : Nat} {E : List Value → α → Prop} {w : World} {S : Nat → Prop} {g t : Nat} {cs : Array Value} (h : Bk w g t cs) (hS : S g) (x : α) (hE : E cs.toList x) : SlE k E w S (some ⟨g, 0, none⟩) 1 [x] :=
  sle_bk h hS [x] rfl fun i y hy => by
    match i, hy with
    | 0, hy => injection hy with hy; subst hy; exact ⟨cs.toList, hE, fun j v hv => by simpa using hv⟩
theorem hd_of {n : Nat} (h : n ≤ 9) : Hd n n := ⟨Nat.le_refl _, by omega⟩

theorem two_items {w : World} {base n c : Nat} {A : Option Addr} {x y : Itm} (h : Ow 51 6 w base A n c (itc [x, y])) : n = 2 ∧ ∃ g, A = some ⟨g, 0, none⟩ ∧ g < w.heap.size := by
  have hl := h.len
  rw [itc_len] at hl
  have hn : n = 2 := by simp at hl; omega
  obtain ⟨g, h1, _, h2⟩ := h.form (by omega)
  exact ⟨hn, g, h1, h2⟩
theorem items_new (w : World) (x y : Itm) : RdI (w.alloc (.cells #[.int .i64 x.g, .int .i64 x.c, .int .i64 x.f, .int .i64 x.a, .int .i64 x.x, .int .i64 x.y, .int .i64 y.g, .int .i64 y.c, .int .i64 y.f, .int .i64 y.a, .int .i64 y.x, .int .i64 y.y] 51)) (lo (w.alloc (.cells #[.int .i64 x.g, .int .i64 x.c, .int .i64 x.f, .int .i64 x.a, .int .i64 x.x, .int .i64 x.y, .int .i64 y.g, .int .i64 y.c, .int .i64 y.f, .int .i64 y.a, .int .i64 y.x, .int .i64 y.y] 51)).heap.size) (some ⟨w.heap.size, 0, none⟩) 2 [x, y] :=
  sle_bk (Bk.new _ _ _) (by show w.heap.size < _; simp) _ rfl fun i z hz => by
    match i, hz with
    | 0, hz => injection hz with hz; subst hz; exact ⟨_, rfl, fun j v hv => by match j, hv with | 0, hv => exact hv | 1, hv => exact hv | 2, hv => exact hv | 3, hv => exact hv | 4, hv => exact hv | 5, hv => exact hv⟩
    | 1, hz => injection hz with hz; subst hz; exact ⟨_, rfl, fun j v hv => by match j, hv with | 0, hv => exact hv | 1, hv => exact hv | 2, hv => exact hv | 3, hv => exact hv | 4, hv => exact hv | 5, hv => exact hv⟩

/-- The font lies in a variable. -/
theorem font_cells {w : World} {g : Nat} {f : FV} (kf : Bk w g 31 f.cells) : w.cell? ⟨g, 0, none⟩ = some (.int .i64 f.u0) ∧ w.cell? ⟨g, 1, none⟩ = some (.slice f.ga f.gn f.gc) ∧ w.cell? ⟨g, 2, none⟩ = some (.slice f.ca f.cn f.cc) ∧ w.cell? ⟨g, 3, none⟩ = some (.slice f.la f.ln f.lc) ∧ w.cell? ⟨g, 4, none⟩ = some (.slice f.a4 f.n4 f.c4) ∧ w.cell? ⟨g, 5, none⟩ = some (.slice f.a5 f.n5 f.c5) ∧ w.cell? ⟨g, 6, none⟩ = some (.slice f.a6 f.n6 f.c6) ∧ w.cell? ⟨g, 7, none⟩ = some (.slice f.a7 f.n7 f.c7) ∧ w.cell? ⟨g, 8, none⟩ = some (.slice f.a8 f.n8 f.c8) := by
  refine ⟨?_, ?_, ?_, ?_, ?_, ?_, ?_, ?_, ?_⟩
  · have := kf.cell 0; simpa using this
  · have := kf.cell 1; simpa using this
  · have := kf.cell 2; simpa using this
  · have := kf.cell 3; simpa using this
  · have := kf.cell 4; simpa using this
  · have := kf.cell 5; simpa using this
  · have := kf.cell 6; simpa using this
  · have := kf.cell 7; simpa using this
  · have := kf.cell 8; simpa using this
theorem Bk.call {w w' : World} {g t : Nat} {cs : Array Value} (h : Bk w g t cs) (hb : Below w.heap.size w w') : Bk w' g t cs := h.below hb h.lt

theorem item_guard : Try.prog.eqGuardType Try.prog.depth 51 = false := by kernel_rfl
theorem item_beq (x y : Itm) : (x.g == y.g && (x.c == y.c && (x.f == y.f && (x.a == y.a && (x.x == y.x && x.y == y.y))))) = decide (x = y) := by
  rw [Bool.eq_iff_iff]
  obtain ⟨a1, a2, a3, a4, a5, a6⟩ := x
  obtain ⟨b1, b2, b3, b4, b5, b6⟩ := y
  simp
theorem item_eq (w : World) (x y : Itm) : (Op.equalIn 10000 51 (.agg #[.int .i64 x.g, .int .i64 x.c, .int .i64 x.f, .int .i64 x.a, .int .i64 x.x, .int .i64 x.y]) (.agg #[.int .i64 y.g, .int .i64 y.c, .int .i64 y.f, .int .i64 y.a, .int .i64 y.x, .int .i64 y.y])).run Try.prog w = .ok (decide (x = y)) w := by
  rw [← item_beq]
  rw [show (10000 : Nat) = 9998 + 1 + 1 from rfl, run_equalIn_struct w _ _ _ _ (by kernel_rfl) (by kernel_rfl)]
  have hf : (Try.prog.fieldsOf 51).toList = (match Try.prog.underlying 51 with | some (.struct fs) => fs.toList | _ => []) := by kernel_rfl
  rw [hf, Try.underlying51]
  have e1 : ∀ (a b : Int) (w : World), (Op.equalIn (9998 + 1) 3 (.int .i64 a) (.int .i64 b)).run Try.prog w = .ok (a == b) w := fun a b w => run_equalIn_int w 9998 3 .i64 .i64 _ _ Try.underlying3
  simp [Op.eqFields, part, isAgg, run_underlying Try.underlying3, e1]
  clear hf e1
  (repeat' split) <;> simp_all
theorem take_snoc {α : Type} {xs ys : List α} (k : Nat) (x : α) (hx : xs[k]? = some x) (hy : ys[k]? = some x) (h : xs.take k = ys.take k) : xs.take (k + 1) = ys.take (k + 1) := by
  rw [List.take_add_one, List.take_add_one, hx, hy, h]

set_option maxRecDepth 100000 in
set_option maxHeartbeats 800000 in
theorem same_c (A A' : Option Addr) (n m c d : Nat) (xs ys : List Itm) (w : World) (hA : RdI w (lo w.heap.size) A n xs) (hB : RdI w (lo w.heap.size) A' m ys) (hn : n ≤ 1000000000) (hm : m ≤ 1000000000) :
    Calls Try.prog 19 #[.slice A n c, .slice A' m d] w fun e w' => e = .returned (.bool (decide (xs = ys))) ∧ Below w.heap.size w w' := by
  by_cases hnm : n = m
  · subst hnm
    have hl1 := Lib.hid hA.len
    have hl2 := Lib.hid hB.len
    go_enter Try.func19, Try.ntmps19
    go_wp2
    go_loopw [5] (fun i wr => ∃ k d : Nat, k ≤ n ∧ i = .int .i64 k ∧ xs.take k = ys.take k ∧ wr = w.drewN d) (fun i _ => n - (intOf i).toNat)
    case atStart => exact ⟨0, 0, by omega, rfl, rfl, rfl⟩
    case round =>
      obtain ⟨k, d, hk, rfl, ht, rfl⟩ := hrel
      have HT := Lib.hid ht; clear ht
      by_cases hlt : k < n
      · obtain ⟨b1, o1, rfl, _, hc1⟩ := hA.pos (by omega)
        obtain ⟨b2, o2, rfl, _, hc2⟩ := hB.pos (by omega)
        obtain ⟨x, hx⟩ := at_some xs k (by rw [hl1.out]; exact hlt)
        obtain ⟨y, hy⟩ := at_some ys k (by rw [hl2.out]; exact hlt)
        obtain ⟨cs, rfl, hcc⟩ := hc1 k x hx
        obtain ⟨cs, rfl, hdd⟩ := hc2 k y hy
        have g0 := hcc 0 _ rfl
        have g1 := hcc 1 _ rfl
        have g2 := hcc 2 _ rfl
        have g3 := hcc 3 _ rfl
        have g4 := hcc 4 _ rfl
        have g5 := hcc 5 _ rfl
        have k0 := hdd 0 _ rfl
        have k1 := hdd 1 _ rfl
        have k2 := hdd 2 _ rfl
        have k3 := hdd 3 _ rfl
        have k4 := hdd 4 _ rfl
        have k5 := hdd 5 _ rfl
        rw [Nat.add_zero] at g0 k0
        have hkz : (0 : Int) ≤ (k : Int) := by omega
        have hkn : (k : Int) < (n : Int) := by omega
        have hpg := item_guard
        have hpe := fun w0 => item_eq w0 x y
        have HX := Lib.hid hx; have HY := Lib.hid hy
        clear hx hy hc1 hc2 hcc hdd
        by_cases hxy : x = y
        · have t1 : decide (x = y) = true := by simp [hxy]
          rw [t1] at hpe
          have HXY := Lib.hid hxy
          clear hxy t1
          go_wp2
          go_quiet (fail)
          go_wp2
          go_roundw
          case rel => exact ⟨k + 1, d + nq, by omega, by go_num, take_snoc k _ HX.out (by rw [HXY.out]; exact HY.out) HT.out, by simp⟩
          case measure => simp [intOf]; omega
        · have t1 : decide (x = y) = false := by simp [hxy]
          have hne : decide (xs = ys) = false := by
            rw [decide_eq_false_iff_not]; rintro rfl
            have := HX.out; rw [HY.out] at this; injection this with this
            exact hxy this.symm
          have HNE := Lib.hid hne
          rw [t1] at hpe
          clear hne hxy t1
          go_wp2
          go_quiet (fail)
          go_wp2
          go_ret
          exact ⟨ret_bool HNE.out.symm, below_drewN (below_drewN (Below.refl _ _) _) _⟩
      · have hge : decide ((k : Int) < (n : Int)) = false := by simp; omega
        have hfin : decide (xs = ys) = true := by
          rw [decide_eq_true_iff]
          have := HT.out
          rw [List.take_of_length_le (by rw [hl1.out]; omega), List.take_of_length_le (by rw [hl2.out]; omega)] at this
          exact this
        have HF := Lib.hid hfin
        clear hfin
        go_wp2
        go_ret
        exact ⟨ret_bool HF.out.symm, below_drewN (Below.refl _ _) _⟩
  · have hne : decide (xs = ys) = false := by
      rw [decide_eq_false_iff_not]; rintro rfl
      exact hnm (hA.len.symm.trans hB.len)
    have HNE := Lib.hid hne
    have e1 : ((n : Int) != (m : Int)) = true := by simp; omega
    clear hne
    go_enter Try.func19, Try.ntmps19
    go_wp2
    go_ret
    exact ⟨ret_bool HNE.out.symm, Below.refl _ _⟩

def wideB (l : List (List Int)) : Bool := l.any fun s => decide (60 < s.length)
def bigR (r : Rul) : Bool := decide (8 < r.inn.length) || (decide (8 < r.ahead.length) || (decide (8 < r.back.length) || (decide (8 < r.out.length) || (decide (4 < r.calls.length) || (wideB r.inn || (wideB r.ahead || wideB r.back))))))
def bigLk (l : Lk) : Bool := decide (12 < l.rules.length) || l.rules.any bigR
def big11 (F : Fnt) (run : List Itm) : Bool := decide (300 < run.length) || (decide (40 < F.lks.length) || F.lks.any bigLk)
theorem any_next {α : Type} {xs : List α} {p : α → Bool} {i : Nat} {x : α} (h : xs[i]? = some x) (h1 : (xs.take i).any p = false) (h2 : p x = false) : (xs.take (i + 1)).any p = false := by
  rw [List.take_add_one, h]; simp [h1, h2]
theorem any_hit {α : Type} {xs : List α} {p : α → Bool} {i : Nat} {x : α} (h : xs[i]? = some x) (h2 : p x = true) : xs.any p = true := List.any_eq_true.2 ⟨x, List.mem_of_getElem? h, h2⟩
theorem any_all {α : Type} {xs : List α} {p : α → Bool} {n : Nat} (hl : xs.length ≤ n) (h : (xs.take n).any p = false) : xs.any p = false := by rw [List.take_of_length_le hl] at h; exact h

set_option maxRecDepth 100000 in
set_option maxHeartbeats 400000 in
theorem wide_c (A : Option Addr) (n c : Nat) (sets : List (List Int)) (w : World) (h : RdV w (lo w.heap.size) A n sets) (hn : n ≤ 9223372036854775807) :
    Calls Try.prog 24 #[.slice A n c] w fun e w' => e = .returned (.bool (wideB sets)) ∧ w = w' := by
  have HL := Lib.hid h.len
  go_enter Try.func24, Try.ntmps24
  go_wp2
  go_loop [3] (fun i => ∃ k : Nat, k ≤ n ∧ i = .int .i64 k ∧ (sets.take k).any (fun s => decide (60 < s.length)) = false) (fun i => n - (intOf i).toNat)
  case atStart => exact ⟨0, by omega, rfl, by simp⟩
  case round =>
    obtain ⟨k, hk, rfl, hno⟩ := hrel
    have HNO := Lib.hid hno; clear hno
    by_cases hlt : k < n
    · obtain ⟨b, o, rfl, _, hc⟩ := h.pos (by omega)
      obtain ⟨x, hx⟩ := at_some sets k (by have := HL.out; omega)
      obtain ⟨cs, ⟨A1, n1, c1, rfl, hA1, hd1⟩, hcc⟩ := hc k x hx
      have c0 := hcc 0 _ rfl
      rw [Nat.mul_one, Nat.add_zero] at c0
      have HX := Lib.hid hx; have HL1 := Lib.hid hA1.len
      have hkz : (0 : Int) ≤ (k : Int) := by omega
      have hkn : (k : Int) < (n : Int) := by omega
      have hn1 : n1 ≤ 9223372036854775807 := Nat.le_trans hd1.1 hd1.2
      clear hx hc hcc
      by_cases hb : 60 < n1
      · have t1 : decide ((60 : Int) < (n1 : Int)) = true := by simp; omega
        have t2 : decide (60 < n1) = true := by simp; omega
        have hr : wideB sets = true := any_hit HX.out (by rw [HL1.out]; exact t2)
        have HR := Lib.hid hr; clear hr
        go_wp2
        go_ret
        exact ⟨ret_bool HR.out.symm, rfl⟩
      · have t1 : decide ((60 : Int) < (n1 : Int)) = false := by simp; omega
        have t2 : decide (60 < n1) = false := by simp; omega
        have hr := any_next (p := fun s => decide (60 < s.length)) HX.out HNO.out (by rw [HL1.out]; exact t2)
        have HR := Lib.hid hr; clear hr
        go_wp2
        go_round
        case rel => exact ⟨k + 1, by omega, by go_num, HR.out⟩
        case measure => simp [intOf]; omega
    · have hr : wideB sets = false := any_all (n := k) (by have := HL.out; omega) HNO.out
      have HR := Lib.hid hr; clear hr
      go_wp2
      go_ret
      exact ⟨ret_bool HR.out.symm, rfl⟩

def BgP (b : Bool) (w : World) (e : Ending) (w' : World) : Prop := e = .returned (.bool b) ∧ Below w.heap.size w w'
set_option maxRecDepth 100000 in
set_option maxHeartbeats 4000000 in
theorem big11_c (f : FV) (F : Fnt) (RA : Option Addr) (rn rc : Nat) (run : List Itm) (w : World) (hf : IsF w (lo w.heap.size) f F) (hI : RdI w (lo w.heap.size) RA rn run) (hrn : rn ≤ 9223372036854775807) :
    Calls Try.prog 14 #[.agg f.cells, .slice RA rn rc] w (BgP (big11 F run) w) := by
  have HRL := Lib.hid hI.len
  have hln := hf.2.1.len
  have HLN := Lib.hid hln
  have hld := hf.2.2.2
  have hlnM : f.ln ≤ 9223372036854775807 := Nat.le_trans hld.1 hld.2
  obtain ⟨R, hR⟩ : ∃ R, R = big11 F run := ⟨_, rfl⟩
  rw [← hR]
  have HR := Lib.hid hR
  clear hln hR hI
  unfold FV.cells
  by_cases h300 : 300 < rn
  · have t1 : decide ((300 : Int) < (rn : Int)) = true := by simp; omega
    have hr : R = true := by rw [HR.out]; unfold big11; rw [show decide (300 < run.length) = true by simp [HRL.out]; omega]; rfl
    subst hr
    clear HR
    go_enter Try.func14, Try.ntmps14
    go_wp2
    go_ret
    exact ⟨rfl, (Below.refl _ _).alloc (Nat.le_refl _) _⟩
  · have t1 : decide ((300 : Int) < (rn : Int)) = false := by simp; omega
    by_cases h40 : 40 < f.ln
    · have t2 : decide ((40 : Int) < (f.ln : Int)) = true := by simp; omega
      have hr : R = true := by rw [HR.out]; unfold big11; rw [show decide (40 < F.lks.length) = true by simp [HLN.out]; omega]; simp
      subst hr
      clear HR
      go_enter Try.func14, Try.ntmps14
      go_wp2
      go_ret
      exact ⟨rfl, (Below.refl _ _).alloc (Nat.le_refl _) _⟩
    · have t2 : decide ((40 : Int) < (f.ln : Int)) = false := by simp; omega
      have t2' : decide (40 < f.ln) = false := by simp; omega
      have hr : R = F.lks.any bigLk := by rw [HR.out]; unfold big11; rw [show decide (40 < F.lks.length) = false by simp [HLN.out]; omega, show decide (300 < run.length) = false by simp [HRL.out]; omega]; rfl
      have HR2 := Lib.hid hr
      clear hr HR
      go_enter Try.func14, Try.ntmps14
      go_wp2
      generalize hW0 : w.alloc (.cells #[.int .i64 f.u0, .slice f.ga f.gn f.gc, .slice f.ca f.cn f.cc, .slice f.la f.ln f.lc, .slice f.a4 f.n4 f.c4, .slice f.a5 f.n5 f.c5, .slice f.a6 f.n6 f.c6, .slice f.a7 f.n7 f.c7, .slice f.a8 f.n8 f.c8] 31) = W0
      have kf : Bk W0 w.heap.size 31 f.cells := by rw [← hW0]; exact Bk.new _ _ _
      have bw : Below w.heap.size w W0 := by rw [← hW0]; exact (Below.refl _ _).alloc (Nat.le_refl _) _
      have hf0 := hf.call bw
      clear hW0 hf
      go_loopw [5] (fun i wr => ∃ k : Nat, k ≤ f.ln ∧ i = .int .i64 k ∧ (F.lks.take k).any bigLk = false ∧ Below W0.heap.size W0 wr) (fun i _ => f.ln - (intOf i).toNat)
      case atStart => exact ⟨0, by omega, rfl, by simp, Below.refl _ _⟩
      case round =>
        obtain ⟨k, hk, rfl, hno, hbr⟩ := hrel
        have HNO := Lib.hid hno; clear hno
        have kfr := kf.call hbr
        have y3 : wr.cell? ⟨w.heap.size, 3, none⟩ = some (.slice f.la f.ln f.lc) := by have := kfr.cell 3; simpa using this
        by_cases hlt : k < f.ln
        · obtain ⟨b, o, hla2, hb0, hc⟩ := (hf0.call hbr).2.1.pos (by omega)
          obtain ⟨lk, hlk⟩ := at_some F.lks k (by have := HLN.out; omega)
          obtain ⟨cs, ⟨A, n, c, rfl, hRR, hd⟩, hcc⟩ := hc k lk hlk
          have g0 := hcc 0 _ rfl
          have g1 := hcc 1 _ rfl
          have g2 := hcc 2 _ rfl
          rw [Nat.add_zero] at g0
          rw [hla2] at y3
          have hnM : n ≤ 9223372036854775807 := Nat.le_trans hd.1 hd.2
          have kz : (0 : Int) ≤ (k : Int) := by omega
          have kn : (k : Int) < (f.ln : Int) := by omega
          have HLK := Lib.hid hlk; have HN := Lib.hid hRR.len
          clear hla2 hlk hc hcc
          by_cases h12 : 12 < n
          · have t3 : decide ((12 : Int) < (n : Int)) = true := by simp; omega
            have hr : R = true := by rw [HR2.out]; exact any_hit HLK.out (by unfold bigLk; rw [show decide (12 < lk.rules.length) = true by simp [HN.out]; omega]; rfl)
            have HRT := Lib.hid hr
            clear hr
            go_wp2
            go_ret
            exact ⟨ret_bool HRT.out.symm, (bw.trans (hbr.mono bw.size)).alloc (by have := hbr.size; have := bw.size; omega) _⟩
          · have t3 : decide ((12 : Int) < (n : Int)) = false := by simp; omega
            have t3' : decide (12 < n) = false := by simp; omega
            have hb12 : bigLk lk = lk.rules.any bigR := by unfold bigLk; rw [show decide (12 < lk.rules.length) = false by simp [HN.out]; omega]; rfl
            have HB12 := Lib.hid hb12
            clear hb12
            go_wp2
            generalize hW1 : wr.alloc (.cells #[.int .i64 lk.kind, .bool lk.ign, .slice A n c] 44) = W1
            have kl : Bk W1 wr.heap.size 44 #[.int .i64 lk.kind, .bool lk.ign, .slice A n c] := by rw [← hW1]; exact Bk.new _ _ _
            have b1 : Below wr.heap.size wr W1 := by rw [← hW1]; exact (Below.refl _ _).alloc (Nat.le_refl _) _
            have hR1 := hRR.call b1
            generalize hbl : wr.heap.size = bl at kl
            clear hW1 g0 g1 g2 y3 hRR
            go_loopw [7] (fun i ws => ∃ q : Nat, q ≤ n ∧ i = .int .i64 q ∧ (lk.rules.take q).any bigR = false ∧ Below W1.heap.size W1 ws) (fun i _ => n - (intOf i).toNat)
            case atStart => exact ⟨0, by omega, rfl, by simp, Below.refl _ _⟩
            case round =>
              obtain ⟨q, hq, rfl, hnq, hbs⟩ := hrel
              have HNQ := Lib.hid hnq; clear hnq
              have kls := kl.call hbs
              have z2 : wr.cell? ⟨bl, 2, none⟩ = some (.slice A n c) := by have := kls.cell 2; simpa using this
              by_cases hlq : q < n
              · obtain ⟨b2, o2, hA2, hb2, hc2⟩ := (hR1.call hbs).pos (by omega)
                obtain ⟨r, hrl⟩ := at_some lk.rules q (by have := HN.out; omega)
                obtain ⟨cs, ⟨A1, n1, c1, A2, n2, c2, A3, n3, c3, A4, n4, c4, A5, n5, c5, rfl, q1, q2, q3, q4, q5, d1, d2, d3, d4, d5⟩, hcc⟩ := hc2 q r hrl
                have x0 := hcc 0 _ rfl
                have x1 := hcc 1 _ rfl
                have x2 := hcc 2 _ rfl
                have x3 := hcc 3 _ rfl
                have x4 := hcc 4 _ rfl
                have x5 := hcc 5 _ rfl
                rw [Nat.add_zero] at x0
                rw [hA2] at z2
                have qz : (0 : Int) ≤ (q : Int) := by omega
                have qn : (q : Int) < (n : Int) := by omega
                have n1M : n1 ≤ 9223372036854775807 := Nat.le_trans d1.1 d1.2
                have n2M : n2 ≤ 9223372036854775807 := Nat.le_trans d2.1 d2.2
                have n3M : n3 ≤ 9223372036854775807 := Nat.le_trans d3.1 d3.2
                have n4M : n4 ≤ 9223372036854775807 := Nat.le_trans d4.1 d4.2
                have n5M : n5 ≤ 9223372036854775807 := Nat.le_trans d5.1 d5.2
                have L1 := Lib.hid q1.len
                have L2 := Lib.hid q2.len
                have L3 := Lib.hid q3.len
                have L4 := Lib.hid q4.len
                have L5 := Lib.hid q5.len
                have HRUL := Lib.hid hrl
                have HTRUE := Lib.hid fun (hb : bigR r = true) => (show R = true by rw [HR2.out]; exact any_hit HLK.out (by rw [HB12.out]; exact any_hit HRUL.out hb))
                have bws : Below wr.heap.size wr (wr.alloc (.cells #[.slice A1 n1 c1, .slice A2 n2 c2, .slice A3 n3 c3, .slice A4 n4 c4, .slice A5 n5 c5, .int .i64 r.x] 48)) := (Below.refl _ _).alloc (Nat.le_refl _) _
                have bend : Below w.heap.size w (wr.alloc (.cells #[.slice A1 n1 c1, .slice A2 n2 c2, .slice A3 n3 c3, .slice A4 n4 c4, .slice A5 n5 c5, .int .i64 r.x] 48)) := below_call (below_call (below_call (below_call bw hbr) b1) hbs) bws
                have HBE := Lib.hid bend; have HBW := Lib.hid bws
                have HW2 := Lib.hid (wide_c A2 n2 c2 r.inn _ (q2.call bws) (by omega))
                have HW3 := Lib.hid (wide_c A3 n3 c3 r.ahead _ (q3.call bws) (by omega))
                have HW1 := Lib.hid (wide_c A1 n1 c1 r.back _ (q1.call bws) (by omega))
                clear hA2 hrl hc2 hcc q1 q2 q3 q4 q5 d1 d2 d3 d4 d5 bend bws
                by_cases h0 : 8 < n2
                · have u0 : decide ((8 : Int) < (n2 : Int)) = true := by simp; omega
                  have HT := Lib.hid (HTRUE.out (by unfold bigR; rw [L2.out]; simp [h0]))
                  go_wp2
                  go_ret
                  exact ⟨ret_bool HT.out.symm, HBE.out⟩
                · have u0 : decide ((8 : Int) < (n2 : Int)) = false := by simp; omega
                  have v0 : decide (8 < n2) = false := by simp; omega
                  by_cases h1 : 8 < n3
                  · have u1 : decide ((8 : Int) < (n3 : Int)) = true := by simp; omega
                    have HT := Lib.hid (HTRUE.out (by unfold bigR; rw [L3.out]; simp [h1]))
                    go_wp2
                    go_ret
                    exact ⟨ret_bool HT.out.symm, HBE.out⟩
                  · have u1 : decide ((8 : Int) < (n3 : Int)) = false := by simp; omega
                    have v1 : decide (8 < n3) = false := by simp; omega
                    by_cases h2 : 8 < n1
                    · have u2 : decide ((8 : Int) < (n1 : Int)) = true := by simp; omega
                      have HT := Lib.hid (HTRUE.out (by unfold bigR; rw [L1.out]; simp [h2]))
                      go_wp2
                      go_ret
                      exact ⟨ret_bool HT.out.symm, HBE.out⟩
                    · have u2 : decide ((8 : Int) < (n1 : Int)) = false := by simp; omega
                      have v2 : decide (8 < n1) = false := by simp; omega
                      by_cases h3 : 8 < n4
                      · have u3 : decide ((8 : Int) < (n4 : Int)) = true := by simp; omega
                        have HT := Lib.hid (HTRUE.out (by unfold bigR; rw [L4.out]; simp [h3]))
                        go_wp2
                        go_ret
                        exact ⟨ret_bool HT.out.symm, HBE.out⟩
                      · have u3 : decide ((8 : Int) < (n4 : Int)) = false := by simp; omega
                        have v3 : decide (8 < n4) = false := by simp; omega
                        by_cases h4 : 4 < n5
                        · have u4 : decide ((4 : Int) < (n5 : Int)) = true := by simp; omega
                          have HT := Lib.hid (HTRUE.out (by unfold bigR; rw [L5.out]; simp [h4]))
                          go_wp2
                          go_ret
                          exact ⟨ret_bool HT.out.symm, HBE.out⟩
                        · have u4 : decide ((4 : Int) < (n5 : Int)) = false := by simp; omega
                          have v4 : decide (4 < n5) = false := by simp; omega
                          go_wp2_with fail
                          refine HW2.out.mono ?_
                          rintro e w5 ⟨rfl, rfl⟩
                          cases hw5 : wideB r.inn with
                          | true =>
                            have HT := Lib.hid (HTRUE.out (by unfold bigR; rw [hw5]; simp))
                            go_wp2
                            go_ret
                            exact ⟨ret_bool HT.out.symm, HBE.out⟩
                          | false =>
                            go_wp2_with fail
                            refine HW3.out.mono ?_
                            rintro e w5 ⟨rfl, rfl⟩
                            cases hw6 : wideB r.ahead with
                            | true =>
                              have HT := Lib.hid (HTRUE.out (by unfold bigR; rw [hw6]; simp))
                              go_wp2
                              go_ret
                              exact ⟨ret_bool HT.out.symm, HBE.out⟩
                            | false =>
                              go_wp2_with fail
                              refine HW1.out.mono ?_
                              rintro e w5 ⟨rfl, rfl⟩
                              cases hw7 : wideB r.back with
                              | true =>
                                have HT := Lib.hid (HTRUE.out (by unfold bigR; rw [hw7]; simp))
                                go_wp2
                                go_ret
                                exact ⟨ret_bool HT.out.symm, HBE.out⟩
                              | false =>
                                have hb : bigR r = false := by unfold bigR; rw [L1.out, L2.out, L3.out, L4.out, L5.out, v0, v1, v2, v3, v4, hw5, hw6, hw7]; rfl
                                have hr := any_next HRUL.out HNQ.out hb
                                have HNX := Lib.hid hr
                                clear hr hb
                                go_wp2
                                go_roundw
                                case rel =>
                                  exact ⟨q + 1, by omega, by go_num, HNX.out, below_call hbs HBW.out⟩
                                case measure => simp [intOf]; omega
              · have hr2 : bigLk lk = false := by rw [HB12.out]; exact any_all (n := q) (by have := HN.out; omega) HNQ.out
                have hr := any_next HLK.out HNO.out hr2
                have HNX := Lib.hid hr
                have t4 : decide ((q : Int) < (n : Int)) = false := by simp; omega
                clear hr hr2
                go_wp2
                go_roundw
                case rel => exact ⟨k + 1, by omega, by go_num, HNX.out, below_call hbr (below_call b1 hbs)⟩
                case measure => simp [intOf]; omega
        · have hr : R = false := by rw [HR2.out]; exact any_all (n := k) (by have := HLN.out; omega) HNO.out
          have HRF := Lib.hid hr
          have t4 : decide ((k : Int) < (f.ln : Int)) = false := by simp; omega
          clear hr
          go_wp2
          go_ret
          exact ⟨ret_bool HRF.out.symm, below_call bw hbr⟩

end Go.Proofs.Ytkoocipagndclaa
