/- Walks: agree. -/
import Derived.Test.YtgcmedkaadagmaaDoorTk
import Derived.Test.YtgcmedkaadagmaaDoorV18
import Derived.Deep.DeepCutAuto
namespace Go.Proofs.YtgcmedkaadagmaaDoor
open Go.RowKit Go.Shelf Go.Maps

theorem met_pl {rows : List (List (List Int))} {cls : List Int} {K : Nat} {x : Nat} {met : List (Nat × Nat)} {tab : List (List Int)} {n : Nat} (hr : ∀ row ∈ rows, row.length ≤ 800000) (hn : rows.length ≤ 64) (hx : x < 18446744073709551616) (hst : StOK (nxP rows cls) K (0, x) n met tab) : ∀ p ∈ met, p.1 ≤ 800001 ∧ p.2 < 18446744073709551616 := fun p hp => by
 rcases hst.come p hp with rfl | ⟨q, _, k, _, e⟩
 ·exact ⟨Nat.zero_le _, hx⟩
 ·obtain ⟨h1, h2, h3, _⟩ := nxP_some e
  refine ⟨?_, by rw [h3]; exact Nat.lt_of_le_of_lt Nat.and_le_right (nextM_lt rows cls q.1 _ hn)⟩
  rw [h3] at h2
  obtain ⟨b, hb⟩ := ne_zero_bit h2
  rw [Nat.testBit_and, Bool.and_eq_true] at hb
  have hb := hb.2
  unfold nextM at hb
  rw [bitsOf_bit] at hb
  simp only [Bool.and_eq_true, decide_eq_true_eq] at hb
  obtain ⟨h4, h5, _⟩ := hb
  have := hr _ (List.getElem_mem h4)
  rw [List.getD_eq_getElem?_getD, List.getElem?_eq_getElem h4] at h5
  simp only [Option.getD_some] at h5
  omega
theorem e64 : (2 ^ 64 - 1 : Nat) = 18446744073709551615 := by decide
/-- In the midst of agree. -/
def AgOut (w : World) (B : Nat) (r : WV) (rows : List (List (List Int))) (cls : List Int) (rv : RV) (g : GB) (acls : List Int) (atab : List (List Int)) (ends : List Nat) (gls : List Int) (x0 : PS) (L : List PS) (W : World) (n : Nat) : Prop :=
 ∃ (s : GV) (cur : PS × Nat), AGG w W B r rows cls rv g s [] ∧ AgI (stepQ rows cls acls atab) (dueQ rows) (bitQ ends) deadQ gls x0 s.f s.todo cur [] ∧ (∀ y ∈ s.todo, y.1 ∈ L ∧ y.2 < 18446744073709551616) ∧ n = 2 * lackS s.f L + s.todo.length ∧ s.todo.length + lackS s.f L ≤ 64 * L.length
theorem snoc_of {α : Type} : ∀ {l : List α}, l ≠ [] → ∃ t x, l = t ++ [x]
 | [], h => absurd rfl h
 | a :: l, _ => by
  rcases List.eq_nil_or_concat (a :: l) with h | ⟨t, x, h⟩
  ·cases h
  ·exact ⟨t, x, by rw [h, List.concat_eq_append]⟩

set_option maxRecDepth 100000 in
set_option maxHeartbeats 4000000 in
theorem agree_c (h : FuncId) (f : Rul → List (List Int) × Bool) (hf : SrcFn h f) (qa : Option Addr) (qn qc : Nat) (ca : Option Addr) (cn cc : Nat) (rs : List Rul) (cls : List Int) (w : World) (hR : RdR w (lo w.heap.size) qa qn rs) (hC : Rd w (lo w.heap.size) ca cn cls) (hq : Hd qn qc) (hc : Hd cn cc)
  (hn : rs.length ≤ 64) (hs : ∀ r ∈ rs, r.inn.length + r.ahead.length ≤ 1000000) (hrw : ∀ row ∈ rowsF f rs, row.length ≤ 800000) (hcl : ∀ c ∈ cls, 0 ≤ c ∧ c ≤ 65536) (hG : GlyOK cls (maxC cls cls.length)) (hK : maxC cls cls.length ≤ 65536)
  (rv : RV) (acls : List Int) (atab : List (List Int)) (ends : List Nat) (hRv : IsR w (lo w.heap.size) rv acls atab ends) (ga : Option Addr) (gn gc : Nat) (gls : List Int) (hGl : Rd w (lo w.heap.size) ga gn gls) (hgn : gn ≤ 9223372036854775807) (hgl : ∀ g ∈ gls, 0 ≤ g ∧ g < (cls.length : Int))
  (met : List (Nat × Nat)) (tab : List (List Int)) (hst : StOK (nxP (rowsF f rs) cls) (maxC cls cls.length) (0, hvF f rs rs.length) met.length met tab) (hat : atab.length ≤ 20000) :
  Calls Tryd.prog 39 #[.func (.func h) #[.agg #[.slice qa qn qc, .slice ca cn cc]] #[], .agg rv.cells, .slice ga gn gc] w fun e w' => Below w.heap.size w w' ∧ ∃ b : Bool, e = .returned (.bool b) ∧ (b = true ↔ Agr (stepQ (rowsF f rs) cls acls atab) (dueQ (rowsF f rs)) (bitQ ends) gls ((0, hvF f rs rs.length), 0)) := by
 have hcf := hf.1
 have hb0 : Below w.heap.size w (w.alloc (.cells rv.cells 98)) := (Below.refl _ _).alloc (Nat.le_refl _) _
 have HF := Lib.hid (hf.2 qa qn qc ca cn cc rs cls _ (hR.call hb0) (hC.call hb0) hq hc hn hs hcl)
 have hmm := @run_makeMap Tryd.prog
 have hrl : (rowsF f rs).length ≤ 64 := by unfold rowsF; simpa using hn
 have hhv : hvF f rs rs.length < 18446744073709551616 := bitsOf_lt64 _ hn
 have HPL := Lib.hid (met_pl hrw hrl hhv hst)
 have HML := Lib.hid hst.mx
 have HST := Lib.hid hst
 have HG := Lib.hid hG
 have ka0 := Bk.new w 98 rv.cells
 have HRV := Lib.hid hRv; have HGL := Lib.hid hGl; have HGB := Lib.hid hgl; have HGN := Lib.hid hGl.len
 obtain ⟨K, hKe⟩ : ∃ K, maxC cls cls.length = K := ⟨_, rfl⟩
 obtain ⟨hv, hve⟩ : ∃ hv, hvF f rs rs.length = hv := ⟨_, rfl⟩
 rw [hKe] at HG hK HST
 rw [hve] at hhv HST ⊢
 have HKE := Lib.hid hKe
 have HVE := Lib.hid hve
 clear hf hR hC hq hc hs hrw hcl hG hKe hve hn hst hRv hGl hgl
 generalize rowsF f rs = rows at *
 have HLL := Lib.hid (show 64 * (allQ met atab.length).length ≤ 1000000000000 by
  have h1 := HML.out
  have h2 : (met.length + 1) * (atab.length + 2) ≤ 20001 * 20002 := Nat.mul_le_mul (by omega) (by omega)
  rw [allQ_len]; omega)
 have HX0 := Lib.hid (allQ_start (atab := atab) HST.out)
 have HSP := Lib.hid (fun (g : Int) (h0 : 0 ≤ g) (h1 : g < (cls.length : Int)) (x : PS) (hx : x ∈ allQ met atab.length) => allQ_step (acls := acls) (atab := atab) HST.out HG.out h0 h1 hx)
 have HQP := Lib.hid (show ∀ x ∈ allQ met atab.length, x.1.1 ≤ 900000 ∧ x.1.2 < 18446744073709551616 from fun x hx => by
  rcases (allQ_mem.1 hx).1 with e | e
  ·rw [e]; exact ⟨by show 0 ≤ 900000; omega, by show 0 < 18446744073709551616; omega⟩
  ·have := HPL.out _ e; exact ⟨by omega, this.2⟩)
 generalize allQ met atab.length = L at *
 go_enter Tryd.func39, Tryd.ntmps39
 unfold RV.cells at *
 go_wp2_with fail
 refine HF.out.mono ?_
 rintro e w1 ⟨B, P, r, D, rfl, hB, hr1, hr2, hro, hb1, hd0⟩
 have hBl : B ≤ w1.heap.size := by have := hro.bP; have := hro.lt; omega
 have hrK : r.K = K := by rw [hr2, HKE.out]
 have hrH : r.hv = hv := by rw [hr1, HVE.out]
 have hwB : w.heap.size ≤ B := by have := hb0.size; omega
 have ka1 := ka0.below hb1 ka0.lt
 have bw1 := below_call hb0 hb1
 clear hr1 hr2 HF hd0
 go_wp2_with fail
 obtain ⟨w2, hw2⟩ : ∃ w2, (((w1.alloc (.cells #[.pointer (some ⟨P, 0, none⟩)] 139)).alloc (.map #[] 0)).alloc (.cells #[.map (some (w1.heap.size + 1))] 158)).alloc (.cells #[.slice none 0 0] 159) = w2 := ⟨_, rfl⟩
 have b2 : Below w1.heap.size w1 w2 := by rw [← hw2]; exact below_lit _ _ (below_lit _ _ (below_lit _ _ (below_lit _ _ (Below.refl _ _) _) _) _) _
 have hag : AG w2 B r rows cls rv ⟨P, w1.heap.size, w.heap.size, w1.heap.size + 1 + 1, w1.heap.size + 1 + 1 + 1, w1.heap.size + 1⟩ ⟨D, none, 0, 0, [], fun _ => 0, none, 0, []⟩ := by
  rw [← hw2]
  have k1 := (((Bk.new w1 139 #[.pointer (some ⟨P, 0, none⟩)]).alloc (.map #[] 0)).alloc (.cells #[.map (some (w1.heap.size + 1))] 158)).alloc (.cells #[.slice none 0 0] 159)
  have k2 := (Bk.new ((w1.alloc (.cells #[.pointer (some ⟨P, 0, none⟩)] 139)).alloc (.map #[] 0)) 158 #[.map (some (w1.heap.size + 1))]).alloc (.cells #[.slice none 0 0] 159)
  have k3 := Bk.new (((w1.alloc (.cells #[.pointer (some ⟨P, 0, none⟩)] 139)).alloc (.map #[] 0)).alloc (.cells #[.map (some (w1.heap.size + 1))] 158)) 159 #[.slice none 0 0]
  have km := (MapK.new (κ := PS) kvP (w1.alloc (.cells #[.pointer (some ⟨P, 0, none⟩)] 139))).keep ((Below.heap_alloc ((w1.alloc (.cells #[.pointer (some ⟨P, 0, none⟩)] 139)).alloc (.map #[] 0)) (.cells #[.map (some (w1.heap.size + 1))] 158) _ (by simp only [World.size_alloc]; omega)))
  have km2 := km.keep (Below.heap_alloc (((w1.alloc (.cells #[.pointer (some ⟨P, 0, none⟩)] 139)).alloc (.map #[] 0)).alloc (.cells #[.map (some (w1.heap.size + 1))] 158)) (.cells #[.slice none 0 0] 159) _ (by simp only [World.size_alloc]; omega))
  simp only [World.size_alloc] at k1 k2 k3 km2
  have ka2 := (((ka1.alloc (.cells #[.pointer (some ⟨P, 0, none⟩)] 139)).alloc (.map #[] 0)).alloc (.cells #[.map (some (w1.heap.size + 1))] 158)).alloc (.cells #[.slice none 0 0] 159)
  refine ⟨hro.call (by rw [hw2]; exact b2), k1, ka2, k2, k3, km2, fun _ => rfl, fun _ => by show 0 < 18446744073709551616; omega, Ow.nil _ _ _ _, by show B ≤ w1.heap.size + 1 + 1 + 1; omega, by show B ≤ w1.heap.size + 1; omega, fun hd => ?_, fun hd => ?_, fun b hb => by cases hb⟩
  ·have := hro.dl _ hd; dsimp only at this; omega
  ·have := hro.dl _ hd; dsimp only at this; omega
 have bw2 := below_call bw1 b2
 have hB2 : B ≤ w2.heap.size := Nat.le_trans hBl b2.size
 generalize hg0 : w1.heap.size = rb at *
 generalize hAB : w.heap.size = AB at *
 rw [hw2]
 generalize hOB : rb + 1 + 1 = OB at *
 generalize hmb : rb + 1 = mb at *
 generalize hTB : OB + 1 = TB at *
 clear hw2 b2 hBl hro ka1 ka0 hb1 hb0 bw1 hmm hcf hg0 hOB hmb hTB
 obtain ⟨g, hge⟩ : ∃ g : GB, g = ⟨P, rb, AB, OB, TB, mb⟩ := ⟨_, rfl⟩
 have hP : P = g.P := by rw [hge]
 have hRB : rb = g.RB := by rw [hge]
 have hABe : AB = g.AB := by rw [hge]
 have hOBe : OB = g.OB := by rw [hge]
 have hTBe : TB = g.TB := by rw [hge]
 rw [← hge] at hag
 subst hP; subst hRB; subst hOBe; subst hTBe
 subst hABe
 clear hge
 refine (first_c' B D g.P r rows cls none 0 0 w2 hag.ro).mono ?_
 rintro e w3 ⟨rfl, b3⟩
 rw [hrH]
 have hag3 := hag.call b3
 have bw3 := bw2.trans (b3.mono (by have := bw2.size; omega))
 have hB3 := Nat.le_trans hB2 b3.size
 have HR3 := Lib.hid (show IsR w3 (lo B) rv acls atab ends from HRV.out.mono (fun b hb => Nat.lt_of_lt_of_le hb hwB) (kept_below bw3))
 have HGL3 := Lib.hid (show Rd w3 (lo B) ga gn gls from HGL.out.mono (fun b hb => Nat.lt_of_lt_of_le hb hwB) (kept_below bw3))
 have hm64 : (18446744073709551615 : Nat) < 18446744073709551616 := by omega
 have h1 := agree1_c B r rows cls rv acls atab ends g ⟨D, none, 0, 0, [], fun _ => 0, none, 0, []⟩ ((0, hv), 0) 18446744073709551615 w3 hag3 hB3 (by rw [hrK]; exact HG.out) hrl (by rw [hrK]; exact hK) (by show 0 ≤ 900000; omega) hhv hm64 HR3.out (by show 0 ≤ 1000000000000; omega)
 have H1 := Lib.hid h1
 clear h1 hag hm64 b3 hB2
 go_wp2_with fail
 refine H1.out.mono ?_
 rintro e w4 ⟨hbo, hif⟩
 have bw4 : Below g.AB w w4 := bw3.trans (hbo.1.mono (by omega))
 have hB4 := Nat.le_trans hB3 hbo.1.size
 clear H1
 by_cases hq0 : (dueQ rows ((0, hv), 0) ^^^ bitQ ends ((0, hv), 0)) &&& 18446744073709551615 ≠ 0
 ·rw [if_pos hq0] at hif
  subst hif
  have HN := Lib.hid (agr_bad0 (step := stepQ rows cls acls atab) (gs := gls) (x0 := ((0, hv), 0)) (due := dueQ rows) (bit := bitQ ends) (by rw [e64]; exact hq0))
  clear hq0
  go_wp2
  go_ret
  exact ⟨by rw [hAB]; exact bw4, false, rfl, by simpa using HN.out⟩
 ·rw [if_neg hq0] at hif
  obtain ⟨rfl, D4, la4, ln4, lc4, hif2⟩ := hif
  have hno : (dueQ rows ((0, hv), 0) ^^^ bitQ ends ((0, hv), 0)) &&& (2 ^ 64 - 1) = 0 := by
   rw [e64]
   exact Classical.byContradiction hq0
  have hout : ∃ n, AgOut w3 B r rows cls rv g acls atab ends gls ((0, hv), 0) L w4 n := by
   dsimp only at hif2
   by_cases hsk : freshB (dueQ rows) (fun _ => 0) ((0, hv), 0) 18446744073709551615 = 0 ∨ deadQ ((0, hv), 0) = true
   ·rw [if_pos hsk] at hif2
    refine ⟨_, ⟨D4, la4, ln4, lc4, [], fun _ => 0, none, 0, []⟩, (((0, hv), 0), 0), ⟨hbo.1, hB4, D4, la4, ln4, lc4, hif2, fun x hx => by cases hx⟩, ?_, (fun y hy => by cases hy), rfl, ?_⟩
    ·exact AgI.start0 _ hno (by rw [e64]; exact hsk)
    ·have := lackS_le (fun _ : PS => 0) L; dsimp only [List.length_nil]; omega
   ·rw [if_neg hsk] at hif2
    obtain ⟨fl', ta', tc', _, hag4⟩ := hif2
    have hf0 : freshB (dueQ rows) (fun _ => 0) ((0, hv), 0) 18446744073709551615 ≠ 0 := fun e => hsk (.inl e)
    have hflt : freshB (dueQ rows) (fun _ => 0) ((0, hv), 0) 18446744073709551615 < 2 ^ 64 := andn_lt _ (andn_lt _ (by decide))
    have hl1 := lackS_upd (f := fun _ : PS => 0) (y := ((0, hv), 0)) (m := freshB (dueQ rows) (fun _ => 0) ((0, hv), 0) 18446744073709551615) (by rw [fresh_again]; exact hf0) hflt HX0.out
    refine ⟨_, ⟨D4, la4, ln4, lc4, fl', upd (fun _ => 0) ((0, hv), 0) (freshB (dueQ rows) (fun _ => 0) ((0, hv), 0) 18446744073709551615), ta', tc', [(((0, hv), 0), freshB (dueQ rows) (fun _ => 0) ((0, hv), 0) 18446744073709551615)]⟩, (((0, hv), 0), 0), ⟨hbo.1, hB4, D4, la4, ln4, lc4, hag4, fun x hx => by cases hx⟩, ?_, fun y hy => ?_, rfl, ?_⟩
    ·have h1 := AgI.start1 (step := stepQ rows cls acls atab) (gs := gls) (dead := deadQ) (((0, hv), 0), 0) hno
     rw [e64] at h1
     exact h1
    ·rw [List.mem_singleton] at hy; rw [hy]
     exact ⟨HX0.out, by simpa using hflt⟩
    ·have := lackS_le (fun _ : PS => 0) L
     dsimp only [List.length_singleton]
     omega
  have HOUT := Lib.hid hout
  have HDEAD := Lib.hid (fun (x : PS) (hx : deadQ x = true) (w : List Int) => deadQ_run (rows := rows) (cls := cls) (acls := acls) (tab := atab) (ends := ends) hx w)
  have HLT := Lib.hid (show ∀ x : PS, dueQ rows x < 2 ^ 64 ∧ bitQ ends x < 2 ^ 64 from fun x => ⟨Nat.lt_of_le_of_lt Nat.and_le_right (bitsOf_lt64 _ hrl), HR3.out.bits_lt x.2⟩)
  clear hif2 hno hq0 hout hag3 hbo
  go_wp2
  go_loopw [] (fun wr => ∃ n, AgOut w3 B r rows cls rv g acls atab ends gls ((0, hv), 0) L wr n) (fun wr => leastN (AgOut w3 B r rows cls rv g acls atab ends gls ((0, hv), 0) L wr))
  case atStart => exact HOUT.out
  case round =>
   have hsp := leastN_spec hrel
   clear HOUT hrel
   obtain ⟨nv, hnv⟩ : ∃ nv, leastN (AgOut w3 B r rows cls rv g acls atab ends gls ((0, hv), 0) L wr) = nv := ⟨_, rfl⟩
   rw [hnv] at hsp
   have HNV := Lib.hid hnv
   clear hnv
   obtain ⟨s, cur, gg, ai, hy, hne, hbd⟩ := hsp
   have bwr : Below g.AB w wr := bw3.trans (gg.1.mono (by omega))
   have HAI := Lib.hid ai; have HY := Lib.hid hy; have HNE := Lib.hid hne; have HBD := Lib.hid hbd
   have kt0 : wr.cell? ⟨g.TB, 0, none⟩ = some (.slice s.ta s.todo.length s.tc) := by
    obtain ⟨_, _, D5, la5, ln5, lc5, h3, _⟩ := gg
    exact box_cells h3.kt 0 rfl
   clear ai hy hne hbd
   by_cases hz : s.todo = []
   ·have hz0 : s.todo.length = 0 := by rw [hz]; rfl
    have HDN := Lib.hid (show Agr (stepQ rows cls acls atab) (dueQ rows) (bitQ ends) gls ((0, hv), 0) from by
     have h1 := HAI.out
     rw [hz] at h1
     exact AgI.done HDEAD.out HLT.out h1)
    rw [hz0] at kt0
    clear hz hz0
    go_wp2
    go_ret
    exact ⟨by rw [hAB]; exact bwr, true, rfl, by simpa using HDN.out⟩
   ·obtain ⟨t, x, ht⟩ := snoc_of hz
    obtain ⟨⟨⟨xm, xr⟩, xs⟩, xo⟩ := x
    have hx := HY.out _ (show (((xm, xr), xs), xo) ∈ s.todo by rw [ht]; simp)
    dsimp only at hx
    have hxp := HQP.out _ hx.1
    dsimp only at hxp
    obtain ⟨gt, hta, c1, c2, y0, y1, y2, y3, kt1⟩ := gg.last ht
    dsimp only at y0 y1 y2 y3
    have gF1 := (gg.new (.inl rfl) #[.int .i64 (xm : Int), .int .u64 (xr : Int), .int .i64 xs, .int .u64 (xo : Int)]).pop ht
    have HAI2 := Lib.hid (AgI.pop (by have h1 := HAI.out; rw [ht] at h1; exact h1))
    have HY2 := Lib.hid (show ∀ y ∈ t, y.1 ∈ L ∧ y.2 < 18446744073709551616 from fun y hy => HY.out y (by rw [ht]; exact List.mem_append_left _ hy))
    have HVL := Lib.hid (show nv = 2 * lackS s.f L + (t.length + 1) by have h1 := HNE.out; rw [ht, List.length_append] at h1; exact h1)
    have HBD2 := Lib.hid (show t.length + lackS s.f L ≤ 64 * L.length by have h1 := HBD.out; rw [ht, List.length_append] at h1; simp at h1; omega)
    have ktA := box_cells (kt1.alloc (.cells #[.int .i64 (xm : Int), .int .u64 (xr : Int), .int .i64 xs, .int .u64 (xo : Int)] 164)) 0 rfl
    have ktF := (kt1.alloc (.cells #[.int .i64 (xm : Int), .int .u64 (xr : Int), .int .i64 xs, .int .u64 (xo : Int)] 164)).frozen 0
    have kt2 := box_cells kt1 0 rfl
    have hkc : (t.length : Int) ≤ (s.tc : Int) := by omega
    have hk0 : (0 : Int) ≤ (t.length : Int) := by omega
    have hk1 : (t.length : Int) < (((t.length + 1 : Nat)) : Int) := by omega
    have hk9 : t.length + 1 ≤ 1000000000000 := by have h4 := HLL.out; have h5 := HBD.out; rw [ht, List.length_append] at h5; simp at h5; omega
    rw [hta] at gF1
    clear kt0 hz gg HAI HY HNE HBD
    go_wp2
    obtain ⟨gF, hgF⟩ : ∃ gF, wr.heap.size = gF := ⟨_, rfl⟩
    have GF := Lib.hid gF1
    rw [hgF] at GF ⊢
    clear gF1 ktA ktF kt1 kt2 y0 y1 y2 y3 hgF
    go_loopw [41] (fun iv W2 => ∃ (i : Nat) (s2 : GV), i ≤ gn ∧ iv = .int .i64 i ∧ AGG w3 W2 B r rows cls rv g s2 [(gF, 164, #[.int .i64 (xm : Int), .int .u64 (xr : Int), .int .i64 xs, .int .u64 (xo : Int)])] ∧ AgI (stepQ rows cls acls atab) (dueQ rows) (bitQ ends) deadQ gls ((0, hv), 0) s2.f s2.todo (((xm, xr), xs), xo) (gls.drop i) ∧ (∀ y ∈ s2.todo, y.1 ∈ L ∧ y.2 < 18446744073709551616) ∧ 2 * lackS s2.f L + s2.todo.length < nv ∧ s2.todo.length + lackS s2.f L ≤ 64 * L.length) (fun iv _ => gn - (intOf iv).toNat)
    case atStart =>
     refine ⟨0, _, by omega, rfl, GF.out, HAI2.out, HY2.out, ?_, ?_⟩
     ·have := HVL.out; show 2 * lackS s.f L + t.length < nv; omega
     ·exact HBD2.out
    case round =>
     obtain ⟨i, s2, hi, rfl, gg, ai, hy, hm1, hm2⟩ := hrel
     have bw5 : Below g.AB w wr := bw3.trans (gg.1.mono (by omega))
     have HAI := Lib.hid ai; have HY := Lib.hid hy
     clear ai hy GF HAI2 HY2 HVL HBD2
     by_cases hlt : i < gn
     ·obtain ⟨gv, hgv⟩ := at_some gls i (by have := HGN.out; omega)
      obtain ⟨g0, g1⟩ := HGB.out gv (List.mem_of_getElem? hgv)
      obtain ⟨gj, rfl⟩ : ∃ j : Nat, gv = j := ⟨gv.toNat, by omega⟩
      obtain ⟨cv, hcv⟩ := at_some cls gj (by omega)
      obtain ⟨c0, c9⟩ := HG.out gj cv hcv
      obtain ⟨cN, rfl⟩ : ∃ j : Nat, cv = j := ⟨cv.toNat, by omega⟩
      obtain ⟨gb, go, hga, hgb, hgc⟩ := (HGL3.out.mono (lo_mono gg.2.1) (kept_below gg.1)).pos (by omega)
      obtain ⟨cs0, rfl, hgc2⟩ := hgc i _ hgv
      have gx := hgc2 0 _ rfl
      rw [Nat.mul_one, Nat.add_zero] at gx
      have hdr : gls.drop i = (gj : Int) :: gls.drop (i + 1) := by
       obtain ⟨q1, q2⟩ := List.getElem?_eq_some_iff.1 hgv
       rw [← q2]; exact List.drop_eq_getElem_cons q1
      have hgm := List.mem_of_getElem? hgv
      obtain ⟨cb, co, hca, hrn⟩ := gg.ca (by omega)
      have iz : (0 : Int) ≤ (i : Int) := by omega
      have inn : (i : Int) < (gn : Int) := by omega
      have jz : (0 : Int) ≤ (gj : Int) := by omega
      have jn : (gj : Int) < (r.cn : Int) := by omega
      have hcls : clsAt cls (gj : Int) = (cN : Int) := by unfold clsAt; rw [Int.toNat_natCast]; exact getD_of hcv
      have hyL := HSP.out (gj : Int) g0 g1 ((xm, xr), xs) hx.1
      obtain ⟨⟨⟨ym, yr⟩, ys⟩, hye⟩ : ∃ y, stepQ rows cls acls atab ((xm, xr), xs) (gj : Int) = y := ⟨_, rfl⟩
      have hye2 : behindP rows cls (xm, xr) (cN : Int) = (ym, yr) ∧ stepA acls atab xs (gj : Int) = ys := by
       unfold stepQ stepP at hye
       dsimp only at hye
       rw [hcls] at hye
       injection hye with q1 q2
       exact ⟨q1, q2⟩
      rw [hye] at hyL
      have hyb := HQP.out _ hyL
      dsimp only at hyb
      have HBH := Lib.hid (show ∀ (W : World) (X : List BX), AGG w3 W B r rows cls rv g s2 X → Calls Tryd.prog 61 #[.pointer (some ⟨g.P, 0, none⟩), .agg #[.int .i64 (xm : Int), .int .u64 (xr : Int)], .int .i64 (cN : Int)] W fun e W' => e = .returned (.agg #[.int .i64 (ym : Int), .int .u64 (yr : Int)]) ∧ AGG w3 W' B r rows cls rv g s2 X from fun W X hW => by
       have q := hW.behind (by rw [hrK]; exact HG.out) hrl (by rw [hrK]; exact hK) xm xr cN hxp.1 hxp.2 (by rw [hrK]; omega)
       rw [hye2.1] at q
       exact q)
      have HNX := Lib.hid (show ∀ (W : World) (X : List BX), AGG w3 W B r rows cls rv g s2 X → Calls Tryd.prog 68 #[.agg rv.cells, .int .i64 xs, .int .i64 (gj : Int)] W fun e W' => e = .returned (.int .i64 ys) ∧ AGG w3 W' B r rows cls rv g s2 X from fun W X hW => by
       have q := hW.next HR3.out xs (gj : Int)
       rw [hye2.2] at q
       exact q)
      unfold RV.cells at HNX
      have HS := Lib.hid (show ∀ (W : World) (X : List BX), AGG w3 W B r rows cls rv g s2 X → (gF, 164, #[.int .i64 (xm : Int), .int .u64 (xr : Int), .int .i64 xs, .int .u64 (xo : Int)]) ∈ X → (W.cell? ⟨g.RB, 0, none⟩ = some (.pointer (some ⟨g.P, 0, none⟩)) ∧ W.cell? ⟨g.P, 2, none⟩ = some (.slice (some ⟨cb, co, none⟩) r.cn r.cc) ∧ W.cell? ⟨cb, co + gj, none⟩ = some (.int .i64 (cN : Int)) ∧ W.cell? ⟨g.AB, 0, none⟩ = some (.slice rv.ca rv.cn rv.cc) ∧ W.cell? ⟨g.AB, 1, none⟩ = some (.slice rv.ta rv.tn rv.tc) ∧ W.cell? ⟨g.AB, 2, none⟩ = some (.slice rv.ea rv.en rv.ec) ∧ W.cell? ⟨gF, 0, none⟩ = some (.int .i64 (xm : Int)) ∧ W.cell? ⟨gF, 1, none⟩ = some (.int .u64 (xr : Int)) ∧ W.cell? ⟨gF, 2, none⟩ = some (.int .i64 xs)) from fun W X hW hm => by
       obtain ⟨⟨q1, q2, q3, q4, q5, q6⟩, q7⟩ := hW.reads hca hcv
       exact ⟨q1, q2, q3, q4, q5, q6, q7 _ hm 0 _ rfl, q7 _ hm 1 _ rfl, q7 _ hm 2 _ rfl⟩)
      subst hga
      have HDR := Lib.hid hdr; have HGM := Lib.hid hgm; have HYE := Lib.hid hye
      have gg0 := gg
      clear hgc hgc2 hgv hcv hdr hgm hye hye2 hcls hca gg hrn c0
      go_upto_region 13 with fail
      clear gx
      go_cut [14] (fun tv wx => ∃ g2, tv = .pointer (some ⟨g2, 0, none⟩) ∧ AGG w3 wx B r rows cls rv g s2 [(g2, 161, #[.int .i64 (ym : Int), .int .u64 (yr : Int), .int .i64 ys]), (gF, 164, #[.int .i64 (xm : Int), .int .u64 (xr : Int), .int .i64 xs, .int .u64 (xo : Int)])])
      case first =>
       refine wp_region_held_drew (S := fun w' => (w'.cell? ⟨g.RB, 0, none⟩ = some (.pointer (some ⟨g.P, 0, none⟩)) ∧ w'.cell? ⟨g.P, 2, none⟩ = some (.slice (some ⟨cb, co, none⟩) r.cn r.cc) ∧ w'.cell? ⟨cb, co + gj, none⟩ = some (.int .i64 (cN : Int)) ∧ w'.cell? ⟨g.AB, 0, none⟩ = some (.slice rv.ca rv.cn rv.cc) ∧ w'.cell? ⟨g.AB, 1, none⟩ = some (.slice rv.ta rv.tn rv.tc) ∧ w'.cell? ⟨g.AB, 2, none⟩ = some (.slice rv.ea rv.en rv.ec) ∧ w'.cell? ⟨gF, 0, none⟩ = some (.int .i64 (xm : Int)) ∧ w'.cell? ⟨gF, 1, none⟩ = some (.int .u64 (xr : Int)) ∧ w'.cell? ⟨gF, 2, none⟩ = some (.int .i64 xs))) (by kernel_rfl) ?_ (fun hHeld => ?_)
       ·exact HS.out _ _ (gg0.call (below_drewN (Below.refl _ _) 1)) (by simp)
       have gq : AGG w3 wr.drew B r rows cls rv g s2 [(gF, 164, #[.int .i64 (xm : Int), .int .u64 (xr : Int), .int .i64 xs, .int .u64 (xo : Int)])] := gg0.call (below_drewN (Below.refl _ _) 1)
       clear gg0
       generalize wr.drew = W0 at hHeld gq ⊢
       refine tkC 0 ?_
       refine tkC 1 ?_
       refine tkC 2 ?_
       refine tkC 3 ?_
       refine tkC 4 ?_
       refine tkC 5 ?_
       refine tkC 6 ?_
       refine tkC 7 ?_
       refine tkC 8 ?_
       refine tkC 9 ?_
       refine tkC 10 ?_
       refine tkC 12 ?_
       refine tkC 13 ?_
       refine tkC 14 ?_
       refine tkC 15 ?_
       refine tkC 16 ?_
       refine rd2 11 19 (fun K hK => ?_) (fun K hK => ?_)
       ·refine wy ?_
        go_simp
        clear hHeld
        go_at_call 61
        (with_reducible refine (HBH.out _ _ gq).mono ?_)
        clear gq
        rintro e W1 ⟨rfl, gq⟩
        go_wp2_with fail
        refine hK.out _ _ (HS.out _ _ gq (by simp)) fun hHeld => ?_
        clear hK K
        refine rd2 17 19 (fun K hK => ?_) (fun K hK => ?_)
        ·refine wy ?_
         go_simp
         clear hHeld
         go_at_call 68
         (with_reducible refine (HNX.out _ _ gq).mono ?_)
         clear gq
         rintro e W2 ⟨rfl, gq⟩
         go_wp2_with fail
         refine hK.out _ _ (HS.out _ _ gq (by simp)) fun hHeld => ?_
         clear hK K
         refine tkC 18 ?_
         refine rd1 19 fun K hK => ?_
         refine wy ?_
         go_simp
         clear hHeld
         have gqn := gq.new (t := 161) (.inr rfl) #[.int .i64 0, .int .u64 0, .int .i64 0]
         have hg2 := gq.2.1
         clear gq
         have gq := gqn
         clear gqn
         refine hK.out _ _ (HS.out _ _ gq (by simp)) fun hHeld => ?_
         clear hK K
         generalize W2.alloc (.cells #[.int .i64 0, .int .u64 0, .int .i64 0] 161) = W3 at hHeld gq ⊢
         refine rd1 20 fun K hK => ?_
         refine wy ?_
         have k2 := gq.box (List.mem_cons_self ..)
         have z0 := box_cells k2 0 rfl
         have z1 := box_cells k2 1 rfl
         have z2 := box_cells k2 2 rfl
         have f0 := k2.frozen 0
         have f1 := k2.frozen 1
         have f2 := k2.frozen 2
         dsimp only at z0 z1 z2 f0 f1 f2
         go_simp
         clear hHeld
         have gqs := gq.store (fun x hx => by rw [List.mem_singleton] at hx; rw [hx]) hg2 (.int .i64 (ym : Int)) (.int .u64 (yr : Int)) (.int .i64 ys)
         refine hK.out _ _ (HS.out _ _ gqs (by simp)) fun hHeld => ?_
         clear hK K
         refine wpAnyH_done (by kernel_rfl) ?_ _
         go_wp2_with fail
         go_meet
         exact ⟨_, rfl, gqs⟩

        ·refine wy ?_
         go_simp
         clear hHeld
         have gqn := gq.new (t := 161) (.inr rfl) #[.int .i64 0, .int .u64 0, .int .i64 0]
         have hg2 := gq.2.1
         clear gq
         have gq := gqn
         clear gqn
         refine hK.out _ _ (HS.out _ _ gq (by simp)) fun hHeld => ?_
         clear hK K
         generalize W1.alloc (.cells #[.int .i64 0, .int .u64 0, .int .i64 0] 161) = W2 at hHeld gq ⊢
         refine rd1 17 fun K hK => ?_
         refine wy ?_
         go_simp
         clear hHeld
         go_at_call 68
         (with_reducible refine (HNX.out _ _ gq).mono ?_)
         clear gq
         rintro e W3 ⟨rfl, gq⟩
         go_wp2_with fail
         refine hK.out _ _ (HS.out _ _ gq (by simp)) fun hHeld => ?_
         clear hK K
         refine tkC 18 ?_
         refine rd1 20 fun K hK => ?_
         refine wy ?_
         have k2 := gq.box (List.mem_cons_self ..)
         have z0 := box_cells k2 0 rfl
         have z1 := box_cells k2 1 rfl
         have z2 := box_cells k2 2 rfl
         have f0 := k2.frozen 0
         have f1 := k2.frozen 1
         have f2 := k2.frozen 2
         dsimp only at z0 z1 z2 f0 f1 f2
         go_simp
         clear hHeld
         have gqs := gq.store (fun x hx => by rw [List.mem_singleton] at hx; rw [hx]) hg2 (.int .i64 (ym : Int)) (.int .u64 (yr : Int)) (.int .i64 ys)
         refine hK.out _ _ (HS.out _ _ gqs (by simp)) fun hHeld => ?_
         clear hK K
         refine wpAnyH_done (by kernel_rfl) ?_ _
         go_wp2_with fail
         go_meet
         exact ⟨_, rfl, gqs⟩

       ·refine wy ?_
        go_simp
        clear hHeld
        have gqn := gq.new (t := 161) (.inr rfl) #[.int .i64 0, .int .u64 0, .int .i64 0]
        have hg2 := gq.2.1
        clear gq
        have gq := gqn
        clear gqn
        refine hK.out _ _ (HS.out _ _ gq (by simp)) fun hHeld => ?_
        clear hK K
        generalize W0.alloc (.cells #[.int .i64 0, .int .u64 0, .int .i64 0] 161) = W1 at hHeld gq ⊢
        refine rd1 11 fun K hK => ?_
        refine wy ?_
        go_simp
        clear hHeld
        go_at_call 61
        (with_reducible refine (HBH.out _ _ gq).mono ?_)
        clear gq
        rintro e W2 ⟨rfl, gq⟩
        go_wp2_with fail
        refine hK.out _ _ (HS.out _ _ gq (by simp)) fun hHeld => ?_
        clear hK K
        refine rd1 17 fun K hK => ?_
        refine wy ?_
        go_simp
        clear hHeld
        go_at_call 68
        (with_reducible refine (HNX.out _ _ gq).mono ?_)
        clear gq
        rintro e W3 ⟨rfl, gq⟩
        go_wp2_with fail
        refine hK.out _ _ (HS.out _ _ gq (by simp)) fun hHeld => ?_
        clear hK K
        refine tkC 18 ?_
        refine rd1 20 fun K hK => ?_
        refine wy ?_
        have k2 := gq.box (List.mem_cons_self ..)
        have z0 := box_cells k2 0 rfl
        have z1 := box_cells k2 1 rfl
        have z2 := box_cells k2 2 rfl
        have f0 := k2.frozen 0
        have f1 := k2.frozen 1
        have f2 := k2.frozen 2
        dsimp only at z0 z1 z2 f0 f1 f2
        go_simp
        clear hHeld
        have gqs := gq.store (fun x hx => by rw [List.mem_singleton] at hx; rw [hx]) hg2 (.int .i64 (ym : Int)) (.int .u64 (yr : Int)) (.int .i64 ys)
        refine hK.out _ _ (HS.out _ _ gqs (by simp)) fun hHeld => ?_
        clear hK K
        refine wpAnyH_done (by kernel_rfl) ?_ _
        go_wp2_with fail
        go_meet
        exact ⟨_, rfl, gqs⟩

      case rest =>
       obtain ⟨g2, rfl, gg⟩ := hcut
       have bw6 : Below g.AB w wc := bw3.trans (gg.1.mono (by omega))
       have HX := Lib.hid hyL
       have gg' := gg
       obtain ⟨_, hB6, D6, la6, ln6, lc6, h6, hbx⟩ := gg'
       have k2 := (hbx _ (List.mem_cons_self ..)).1
       have kF := (hbx (gF, 164, #[.int .i64 (xm : Int), .int .u64 (xr : Int), .int .i64 xs, .int .u64 (xo : Int)]) (by simp)).1
       have z0 := box_cells k2 0 rfl
       have z1 := box_cells k2 1 rfl
       have z2 := box_cells k2 2 rfl
       have z3 := box_cells kF 3 rfl
       have hl6 : s2.todo.length ≤ 1000000000000 := by have := HLL.out; omega
       have HC := Lib.hid (agree1_c B r rows cls rv acls atab ends g { s2 with D := D6, la := la6, ln := ln6, lc := lc6 } ((ym, yr), ys) xo wc h6 hB6 (by rw [hrK]; exact HG.out) hrl (by rw [hrK]; exact hK) hyb.1 hyb.2 hx.2 (HR3.out.mono (fun _ h => h) (kept_below gg.1)) hl6)
       have HMT := Lib.hid (show ∀ (W' : World), Bo B wc W' g { s2 with D := D6, la := la6, ln := ln6, lc := lc6 } → ∀ (s' : GV), AG W' B r rows cls rv g s' → (∀ b, s'.ta.map (·.block) = some b → s2.ta.map (·.block) = some b ∨ wc.heap.size ≤ b) → AGG w3 W' B r rows cls rv g s' [(gF, 164, #[.int .i64 (xm : Int), .int .u64 (xr : Int), .int .i64 xs, .int .u64 (xo : Int)])] from fun W' hb s' h5 hta => gg.meet h6 hb h5 hta (Y := [(gF, 164, #[.int .i64 (xm : Int), .int .u64 (xr : Int), .int .i64 xs, .int .u64 (xo : Int)])]) (fun x hx => ⟨List.mem_cons_of_mem _ hx, by rw [List.mem_singleton] at hx; rw [hx]⟩))
       clear gg h6 hbx k2 kF HS HBH HNX gg0
       go_wp2_with fail
       refine HC.out.mono ?_
       rintro e w7 ⟨hbo, hif⟩
       have bw7 : Below g.AB w w7 := bw6.trans (hbo.1.mono (by omega))
       clear HC z0 z1 z2 z3
       by_cases hqq : (dueQ rows ((ym, yr), ys) ^^^ bitQ ends ((ym, yr), ys)) &&& xo ≠ 0
       ·rw [if_pos hqq] at hif
        subst hif
        have HN := Lib.hid (show ¬ Agr (stepQ rows cls acls atab) (dueQ rows) (bitQ ends) gls ((0, hv), 0) from by
         have h1 := HAI.out
         rw [HDR.out] at h1
         refine h1.bad HGM.out ?_
         dsimp only
         rw [HYE.out]
         exact hqq)
        clear hqq
        go_wp2
        go_ret
        exact ⟨by rw [hAB]; exact bw7, false, rfl, by simpa using HN.out⟩
       ·rw [if_neg hqq] at hif
        obtain ⟨rfl, D7, la7, ln7, lc7, hif2⟩ := hif
        have hno : (dueQ rows ((ym, yr), ys) ^^^ bitQ ends ((ym, yr), ys)) &&& xo = 0 := Classical.byContradiction hqq
        have HEND := Lib.hid (show ∃ s3 : GV, AGG w3 w7 B r rows cls rv g s3 [(gF, 164, #[.int .i64 (xm : Int), .int .u64 (xr : Int), .int .i64 xs, .int .u64 (xo : Int)])] ∧ AgI (stepQ rows cls acls atab) (dueQ rows) (bitQ ends) deadQ gls ((0, hv), 0) s3.f s3.todo (((xm, xr), xs), xo) (gls.drop (i + 1)) ∧ (∀ y ∈ s3.todo, y.1 ∈ L ∧ y.2 < 18446744073709551616) ∧ 2 * lackS s3.f L + s3.todo.length < nv ∧ s3.todo.length + lackS s3.f L ≤ 64 * L.length from by
         have h1 := HAI.out
         rw [HDR.out] at h1
         have hst : stepQ rows cls acls atab (((xm, xr), xs), xo).1 (gj : Int) = ((ym, yr), ys) := HYE.out
         by_cases hsk : freshB (dueQ rows) s2.f ((ym, yr), ys) xo = 0 ∨ deadQ ((ym, yr), ys) = true
         ·rw [if_pos hsk] at hif2
          refine ⟨_, HMT.out _ hbo _ hif2 (fun b hb => .inl hb), ?_, HY.out, hm1, hm2⟩
          exact h1.skip (by rw [hst]; exact hno) (by rw [hst]; exact hsk)
         ·rw [if_neg hsk] at hif2
          obtain ⟨fl', ta', tc', hta', hag⟩ := hif2
          have hf0 : freshB (dueQ rows) s2.f ((ym, yr), ys) xo ≠ 0 := fun e => hsk (.inl e)
          have hxo : xo < 2 ^ 64 := hx.2
          have hflt : freshB (dueQ rows) s2.f ((ym, yr), ys) xo < 2 ^ 64 := andn_lt _ (andn_lt _ hxo)
          have hl1 := lackS_upd (f := s2.f) (y := ((ym, yr), ys)) (m := freshB (dueQ rows) s2.f ((ym, yr), ys) xo) (by rw [fresh_again]; exact hf0) hflt HX.out
          refine ⟨_, HMT.out _ hbo _ hag hta', ?_, fun y hy => ?_, ?_, ?_⟩
          ·have h2 := h1.push HGM.out (by rw [hst]; exact hno)
           rw [hst] at h2
           exact h2
          ·rcases List.mem_append.1 hy with hy | hy
           ·exact HY.out y hy
           ·rw [List.mem_singleton] at hy; rw [hy]
            exact ⟨HX.out, by simpa using hflt⟩
          ·show 2 * lackS (upd s2.f ((ym, yr), ys) (freshB (dueQ rows) s2.f ((ym, yr), ys) xo)) L + (s2.todo ++ [(((ym, yr), ys), freshB (dueQ rows) s2.f ((ym, yr), ys) xo)]).length < nv
           rw [List.length_append, List.length_singleton]; omega
          ·show (s2.todo ++ [(((ym, yr), ys), freshB (dueQ rows) s2.f ((ym, yr), ys) xo)]).length + lackS (upd s2.f ((ym, yr), ys) (freshB (dueQ rows) s2.f ((ym, yr), ys) xo)) L ≤ 64 * L.length
           rw [List.length_append, List.length_singleton]; omega)
        clear hif2 hno hqq hbo HMT
        go_wp2
        go_roundw
        case rel =>
         obtain ⟨s3, q1, q2, q3, q4, q5⟩ := HEND.out
         exact ⟨i + 1, s3, by omega, by go_num, q1, q2, q3, q4, q5⟩
        case measure => simp [intOf]; omega
     ·have hie : gls.drop i = [] := List.drop_eq_nil_of_le (by have := HGN.out; omega)
      have HO := Lib.hid (show AgOut w3 B r rows cls rv g acls atab ends gls ((0, hv), 0) L wr (2 * lackS s2.f L + s2.todo.length) from by
       have h1 := HAI.out
       rw [hie] at h1
       obtain ⟨q1, q2, D8, la8, ln8, lc8, q3, _⟩ := gg
       exact ⟨s2, _, ⟨q1, q2, D8, la8, ln8, lc8, q3, fun x hx => by cases hx⟩, h1, HY.out, rfl, hm2⟩)
      clear hie gg
      go_wp2
      go_roundw
      case rel => exact ⟨_, HO.out⟩
      case measure => rw [HNV.out]; exact Nat.lt_of_le_of_lt (leastN_le HO.out) hm1

end Go.Proofs.YtgcmedkaadagmaaDoor
