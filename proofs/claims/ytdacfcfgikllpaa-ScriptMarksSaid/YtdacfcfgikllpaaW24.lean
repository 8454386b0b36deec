/- Walks: ScriptParts. -/
import Derived.Test.YtdacfcfgikllpaaW22
import Derived.Test.YtdacfcfgikllpaaLawC
import Derived.Deep.DeepCutAuto
import Derived.Deep.CutBlock
namespace Go.Proofs.Ytdacfcfgikllpaa
open Go.RowKit

/-- Three rows of the call's own, of which the first two are there, each in a block of its own. -/
structure P3 (w : World) (base g1 n1 c1 : Nat) (x1 : List Int) (g2 n2 c2 : Nat) (x2 : List Int) (A : Option Addr) (n c : Nat) (x : List Int) : Prop where
  o1 : Ow w base (some ⟨g1, 0, none⟩) n1 c1 x1
  o2 : Ow w base (some ⟨g2, 0, none⟩) n2 c2 x2
  o3 : Ow w base A n c x
  d12 : g1 ≠ g2
  d13 : ∀ b, A = some ⟨b, 0, none⟩ → b ≠ g1
  d23 : ∀ b, A = some ⟨b, 0, none⟩ → b ≠ g2
theorem P3.app {w w' : World} {base g1 n1 c1 g2 n2 c2 n c : Nat} {A : Option Addr} {x1 x2 x : List Int} (h : P3 w base g1 n1 c1 x1 g2 n2 c2 x2 A n c x) {g m d : Nat} {y : List Int}
    (ho : Ow w' base (some ⟨g, 0, none⟩) m d y) (hg : w.grownBy w' (some g1)) (hat : some g1 = some g ∨ w.heap.size ≤ g) : P3 w' base g m d y g2 n2 c2 x2 A n c x := by
  have l2 := h.o2.lt g2 0 none rfl
  have e12 := h.d12
  refine ⟨ho, h.o2.keep (fun b e => ?_), h.o3.keep (fun b e => ?_), ?_, fun b e => ?_, h.d23⟩
  · injection e with e; injection e with e1; subst e1; exact hg.block g2 l2.2 (by simp; omega)
  · exact hg.block b (h.o3.lt b 0 none e).2 (by have := h.d13 b e; simp; omega)
  · rcases hat with e | e
    · injection e with e; omega
    · omega
  · have := (h.o3.lt b 0 none e).2
    have := h.d13 b e
    rcases hat with e | e
    · injection e with e; omega
    · omega
theorem Rd.tail {w : World} {B b o n : Nat} {x : Int} {xs : List Int} (h : Rd w B (some ⟨b, o, none⟩) (n + 1) (x :: xs)) (A : Option Addr) (hA : 0 < n → A = some ⟨b, o + 1, none⟩) : Rd w B A n xs := by
  refine ⟨by have := h.1; simpa using this, fun hn => ?_⟩
  obtain ⟨b', o', e, hb, hc⟩ := h.2 (by omega)
  injection e with e; injection e with e1 e2; subst e1; subst e2
  refine ⟨b, o + 1, hA hn, hb, fun i y hy => ?_⟩
  have := hc (i + 1) y (by simpa using hy)
  rw [← this]; congr 2; omega
def lenOf : Value → Nat
  | .slice _ n _ => n
  | _ => 0
def shl (n : Int) (l : List Int) : List Int := l.map (· + n)
theorem shl_snoc {l : List Int} {k : Nat} {x : Int} (n : Int) (h : l[k]? = some x) : shl n (l.take (k + 1)) = shl n (l.take k) ++ [x + n] := by
  unfold shl; rw [List.take_add_one, h]; simp
theorem shl_ints (a : Nat) (l : List Nat) : shl ((a : Int) + 1) (ints l) = ints (l.map (fun q => a + 1 + q)) := by
  unfold shl ints
  rw [List.map_map, List.map_map]
  apply List.map_congr_left
  intro x _
  simp; omega
theorem ints_get' {l : List Nat} {k : Nat} {x : Int} (h : (ints l)[k]? = some x) : ∃ p : Nat, l[k]? = some p ∧ x = p := by
  simp only [ints, List.getElem?_map, Option.map_eq_some_iff] at h
  obtain ⟨p, h1, h2⟩ := h
  exact ⟨p, h1, h2.symm⟩

set_option maxRecDepth 100000 in
set_option maxHeartbeats 4000000 in
theorem scriptParts_walk (a0 : Option Addr) (len0 cap0 : Nat) (z0 : List Int) (a1 : Option Addr) (len1 cap1 : Nat) (z1 : List Int) (a2 : Int) (w : World) (w0 : IsRow .i64 w a0 len0 cap0 z0) (w1 : IsRow .i64 w a1 len1 cap1 z1) (_w2 : (Lit.int .i64 a2).wf = true) :
    Calls Try.prog 9 #[.slice a0 len0 cap0, .slice a1 len1 cap1, .int .i64 a2] w fun e w' => e = .returned (.bool true) ∧ Below w.heap.size w w' := by
  obtain ⟨r0, hlc0, hcm0⟩ := w0.rd
  obtain ⟨r1, hlc1, hcm1⟩ := w1.rd
  clear w0 w1
  have hp : ∃ P : Int, kind P = 0 ∧ (kind a2 = 0 → P = a2) ∧ (kind a2 ≠ 0 → P = 32) := by
    by_cases h : kind a2 = 0
    · exact ⟨a2, h, fun _ => rfl, fun h' => absurd h h'⟩
    · exact ⟨32, by decide, fun h' => absurd h' h, fun _ => rfl⟩
  obtain ⟨P, hP, hP0, hP1⟩ := hp
  have HP := Lib.hid hP; have HP0 := Lib.hid hP0; have HP1 := Lib.hid hP1
  clear hP hP0 hP1
  go_enter Try.func9, Try.ntmps9
  go_wp2_with fail
  refine (lshown_c _).mono ?_
  rintro e w1 ⟨rfl, b1⟩
  have t0 := r0.call (Nat.le_refl _) b1
  have t1 := r1.call (Nat.le_refl _) b1
  clear r0 r1
  have bs1 := b1.size
  go_upto_region 2 with fail
  go_cut [0] (fun s wx => ∃ (A : Option Addr) (n c : Nat) (xs : List Int), s = .slice A n c ∧ n ≤ 18 ∧ Ow wx w1.heap.size A n c xs ∧ Below w1.heap.size w1 wx)
  case first =>
    rcases Nat.lt_or_ge 18 len0 with h | h
    · have hR := (t0.take 18 (by omega)).alloc (Nat.le_refl _) (.cells #[] 3)
      go_wp2_with (at_builtin; refine appS rfl (.tmp 18) (.tmp 23) rfl _ w1.heap.size _ _ _ [] _ _ _ _ _ (by rfl) (by rfl) (own_empty w1) hR (by omega) (by simp) ?_; intro A2 c2 w2 ho2 hg2 hb2 hat2 hcap2)
      go_meet
      exact ⟨_, _, _, _, rfl, by omega, ho2, ((Below.refl _ _).alloc (Nat.le_refl _) _).trans hb2⟩
    · have hR := t0.alloc (Nat.le_refl _) (.cells #[] 3)
      go_wp2_with (at_builtin; refine appS rfl (.tmp 18) (.tmp 23) rfl _ w1.heap.size _ _ _ [] _ _ _ _ _ (by rfl) (by rfl) (own_empty w1) hR (by omega) (by simp) ?_; intro A2 c2 w2 ho2 hg2 hb2 hat2 hcap2)
      rw [Nat.zero_add] at ho2
      go_meet
      exact ⟨_, _, _, _, rfl, by omega, ho2, ((Below.refl _ _).alloc (Nat.le_refl _) _).trans hb2⟩
  obtain ⟨A, na, ca, xs, rfl, hna, hoa, hba⟩ := hcut
  obtain ⟨w2, rfl⟩ : ∃ w2 : World, w2 = wc := ⟨_, rfl⟩
  have b2 := below_call b1 hba
  have t2 := t1.call (Nat.le_refl _) hba
  have ra2 := hoa.rd
  clear b1 hba t1 hoa t0
  go_upto_region 3 with fail
  go_cut [1] (fun s wx => ∃ (A : Option Addr) (n c : Nat) (xs : List Int), s = .slice A n c ∧ n ≤ 18 ∧ Ow wx w2.heap.size A n c xs ∧ Below w2.heap.size w2 wx)
  case first =>
    rcases Nat.lt_or_ge 18 len1 with h | h
    · have hR := (t2.take 18 (by omega)).alloc (Nat.le_refl _) (.cells #[] 3)
      go_wp2_with (at_builtin; refine appS rfl (.tmp 25) (.tmp 30) rfl _ w2.heap.size _ _ _ [] _ _ _ _ _ (by rfl) (by rfl) (own_empty w2) hR (by omega) (by simp) ?_; intro A2 c2 w3 ho2 hg2 hb2 hat2 hcap2)
      go_meet
      exact ⟨_, _, _, _, rfl, by omega, ho2, ((Below.refl _ _).alloc (Nat.le_refl _) _).trans hb2⟩
    · have hR := t2.alloc (Nat.le_refl _) (.cells #[] 3)
      go_wp2_with (at_builtin; refine appS rfl (.tmp 25) (.tmp 30) rfl _ w2.heap.size _ _ _ [] _ _ _ _ _ (by rfl) (by rfl) (own_empty w2) hR (by omega) (by simp) ?_; intro A2 c2 w3 ho2 hg2 hb2 hat2 hcap2)
      rw [Nat.zero_add] at ho2
      go_meet
      exact ⟨_, _, _, _, rfl, by omega, ho2, ((Below.refl _ _).alloc (Nat.le_refl _) _).trans hb2⟩
  obtain ⟨A1, nb, cb, bs, rfl, hnb, hob, hbb⟩ := hcut
  obtain ⟨w3, rfl⟩ : ∃ w3 : World, w3 = wc := ⟨_, rfl⟩
  have b3 := below_call b2 hbb
  have ra3 := ra2.call (Nat.le_refl _) hbb
  have rb3 := hob.rd
  have hcb := hob.cap
  clear b2 hbb t2 ra2 hob
  go_upto_block 0 with fail
  go_cut [1] (fun s wx => ∃ (A : Option Addr) (n c : Nat) (ys : List Int), s = .slice A n c ∧ n ≤ 18 ∧ kd ys 0 ≠ 3 ∧ Rd w3 w3.heap.size A n ys ∧ wx = w3)
  case first =>
    go_wp2_with fail
    go_loop [1] (fun s => ∃ (A : Option Addr) (n c : Nat) (ys : List Int), s = .slice A n c ∧ n ≤ 18 ∧ n ≤ c ∧ Rd w3 w3.heap.size A n ys) (fun s => lenOf s)
    case atStart => exact ⟨_, _, _, _, rfl, hnb, hcb, rb3⟩
    case round =>
      obtain ⟨B, n, c, ys, rfl, hn, hnc, hr⟩ := hrel
      clear rb3 hcb
      cases ys with
      | nil =>
        obtain rfl : n = 0 := hr.len.symm
        go_wp2_with fail
        go_meet
        exact ⟨_, _, _, _, rfl, by omega, by decide, hr, rfl⟩
      | cons y ys =>
        obtain ⟨m, rfl⟩ : ∃ m, n = m + 1 := ⟨n - 1, by have := hr.len; simp at this; omega⟩
        obtain ⟨bb, oo, rfl, _, hc⟩ := hr.pos (by omega)
        have c0 : w3.cell? ⟨bb, oo, none⟩ = some (.int .i64 y) := hc 0 y rfl
        have hm0 : 0 < m + 1 := by omega
        clear hc
        by_cases h3 : kind y = 3
        · rcases Nat.lt_or_ge 1 c with hc1 | hc1
          · go_wp2_with (go_at_call 12; refine (kind_c _ _).mono ?_; rintro e w' ⟨rfl, rfl⟩)
            go_round
            case rel => exact ⟨_, m, _, ys, by simp; rfl, by omega, by omega, hr.tail _ (fun _ => rfl)⟩
            case measure => simp [lenOf]
          · obtain rfl : c = 1 := by omega
            obtain rfl : m = 0 := by omega
            go_wp2_with (go_at_call 12; refine (kind_c _ _).mono ?_; rintro e w' ⟨rfl, rfl⟩)
            go_round
            case rel => exact ⟨some ⟨bb, oo, none⟩, 0, 0, ys, rfl, by omega, by omega, hr.tail _ (fun h => by omega)⟩
            case measure => simp [lenOf]
        · have t3 : (kind y == 3) = false := by rw [beq_eq_false_iff_ne]; exact h3
          go_wp2_with (go_at_call 12; refine (kind_c _ _).mono ?_; rintro e w' ⟨rfl, rfl⟩)
          go_meet
          exact ⟨_, _, _, y :: ys, rfl, hn, h3, hr, rfl⟩
  obtain ⟨A4, n4, c4, ys, rfl, hn4, hky, rb, rfl⟩ := hcut
  have HKY := Lib.hid hky
  clear hky rb3 hcb
  obtain ⟨w4, rfl⟩ : ∃ w4 : World, w4 = wc := ⟨_, rfl⟩
  go_upto_region 6 with fail
  go_upto_if 46 with (go_at_call 12; refine (kind_c _ _).mono ?_; rintro e w' ⟨rfl, rfl⟩)
  go_cut [2] (fun s wx => s = .int .i64 P ∧ wx = w4)
  case first =>
    by_cases h0 : kind a2 = 0
    · have e := HP0.out h0
      subst e
      have t0 : (kind P != 0) = false := by rw [h0]; rfl
      go_wp2_with fail
      go_meet
      exact ⟨rfl, rfl⟩
    · have e := HP1.out h0
      have t0 : (kind a2 != 0) = true := by rw [bne_iff_ne]; exact h0
      go_wp2_with fail
      go_meet
      exact ⟨by rw [e], rfl⟩
  obtain ⟨rfl, rfl⟩ := hcut
  clear HP0 HP1
  have bs4 := b3.size
  go_wp2_with first
    | (at_builtin; refine appS rfl (.tmp 47) (.tmp 48) rfl _ wc.heap.size _ _ _ [] _ _ _ _ _ (by rfl) (by rfl) (own_empty wc) (ra3.alloc (Nat.le_refl _) _) (by omega) (by simp) ?_; intro A5 c5 w5 ho5 hg5 hb5 hat5 hcap5; rw [Nat.zero_add] at ho5; have bb5 := ((Below.refl wc.heap.size wc).alloc (Nat.le_refl _) (.cells #[] 3)).trans hb5; clear hg5 hat5 hcap5 hb5; have bs5 := bb5.size)
    | (at_builtin; refine app1 rfl (.tmp 49) (.tmp 51) rfl w5 wc.heap.size _ _ _ _ _ (by rfl) (by rfl) ho5 (by omega) (by omega) ?_; intro g6 c6 w6 ho6 hg6 hb6 hat6 hcap6; have bb6 := bb5.trans hb6; clear hg6 hat6 hcap6 hb6 bb5; have bs6 := bb6.size)
    | (at_builtin; refine appS rfl (.tmp 52) (.tmp 53) rfl w6 wc.heap.size _ _ _ _ _ _ _ _ _ (by rfl) (by rfl) ho6 (rb.below bb6) (by omega) (by omega) ?_; intro A7 c7 w7 ho7 hg7 hb7 hat7 hcap7; have bb7 := bb6.trans hb7; clear hg7 hat7 hcap7 hb7 bb6; have bs7 := bb7.size)
  have ra7 := ra3.call (Nat.le_refl _) bb7
  have rb7 := rb.call (Nat.le_refl _) bb7
  have b7 := below_call b3 bb7
  have rl7 := ho7.rd
  rw [List.nil_append] at rl7
  clear ho5 ho6 ho7 bb7 bs5 bs6 bs7 bs4 ra3 rb b3
  refine (order_c _ _ _ _ _ ra7 (by omega)).mono ?_
  rintro e w8 ⟨A8, m8, c8, rfl, hm8, ho8, hb8⟩
  have ol8 := ho8.len
  have bs8 := hb8.size
  have OL8 := Lib.hid ol8; clear ol8
  go_wp2_with (at_builtin; refine app1 rfl (.tmp 59) (.tmp 62) rfl w8 w7.heap.size _ _ _ _ _ (by rfl) (by rfl) ho8 (by omega) (by omega) ?_; intro g9 c9 w9 ho9 hg9 hb9 hat9 hcap9)
  have bb9 := hb8.trans hb9
  have ra9 := ra7.call (Nat.le_refl _) bb9
  have bs9 := bb9.size
  clear hg9 hat9 hcap9 hb9 hb8 ho8 bs8
  refine (clusters_c _ _ _ _ _ ra9 (by omega)).mono ?_
  rintro e w10 ⟨A10, m10, c10, rfl, hm10, ho10, hb10⟩
  have ol10 := ho10.len
  have bs10 := hb10.size
  have OL10 := Lib.hid ol10; clear ol10
  go_wp2_with (at_builtin; refine app1 rfl (.tmp 65) (.tmp 68) rfl w10 w9.heap.size _ _ _ _ _ (by rfl) (by rfl) ho10 (by omega) (by omega) ?_; intro g11 c11 w11 ho11 hg11 hb11 hat11 hcap11)
  have bd11 := hb10.trans hb11
  have ho9' := ho9.call bd11
  have bb11 := bb9.trans (bd11.mono bs9)
  have rb11 := rb7.call (Nat.le_refl _) bb11
  have ne1 : g9 ≠ g11 := by have := (ho9.lt g9 0 none rfl).2; have := (ho11.lt g11 0 none rfl).1; omega
  have lt9 := (ho9'.lt g9 0 none rfl).2
  have lt11 := (ho11.lt g11 0 none rfl).2
  have hoc := ho11.lower bs9
  have bs11 := bb11.size
  clear hg11 hat11 hcap11 hb11 hb10 ho10 bs10 bd11 ho9 ho11 bb9
  refine (order_c _ _ _ _ _ rb11 (by omega)).mono ?_
  rintro e w12 ⟨A12, m12, c12, rfl, hm12, ho12, hb12⟩
  have bb12 := bb11.trans (hb12.mono bs11)
  have hP3 : P3 w12 w7.heap.size g9 (m8 + 1) c9 (ints (orderL xs) ++ [(na : Int)]) g11 (m10 + 1) c11 (ints (clustersL xs) ++ [(na : Int)]) A12 m12 c12 (ints (orderL ys)) :=
    ⟨ho9'.call hb12, hoc.call hb12, ho12.lower bs11, ne1, fun b e => by have := (ho12.lt b 0 none e).1; omega, fun b e => by have := (ho12.lt b 0 none e).1; omega⟩
  have yl := rb7.len
  have YL := Lib.hid yl
  clear ho9' hoc bb11 hb12 ho12 ne1 lt9 lt11 bs11 ra9 rb11 yl bs9
  go_wp2_with fail
  have bs12 := bb12.size
  go_loopw [10, 13] (fun v i wr => ∃ (k g c : Nat), k ≤ m12 ∧ i = .int .i64 k ∧ v = .slice (some ⟨g, 0, none⟩) (m8 + 1 + k) c ∧ P3 wr w7.heap.size g (m8 + 1 + k) c (ints (orderL xs) ++ [(na : Int)] ++ shl ((na : Int) + 1) ((ints (orderL ys)).take k)) g11 (m10 + 1) c11 (ints (clustersL xs) ++ [(na : Int)]) A12 m12 c12 (ints (orderL ys)) ∧ Below w7.heap.size w7 wr) (fun _ i _ => m12 - (intOf i).toNat)
  case atStart => exact ⟨0, g9, c9, by omega, rfl, rfl, by simpa [shl] using hP3, bb12⟩
  case round =>
    obtain ⟨k, g, c, hk, rfl, rfl, hQ, hB⟩ := hrel
    clear hP3 bb12 bs12
    have bsr := hB.size
    by_cases hlt : k < m12
    · obtain ⟨x, hx⟩ := getD_some (ints (orderL ys)) k (by have := hQ.o3.len; omega)
      obtain ⟨b, o, rfl, _, hc⟩ := hQ.o3.rd.pos (by omega)
      have c1 := hc k x hx
      have hsn := shl_snoc ((na : Int) + 1) hx
      obtain ⟨p, hp, rfl⟩ := ints_get' hx
      have hpl := order_lt hp
      rw [YL.out] at hpl
      have HSN := Lib.hid hsn
      have HQ := Lib.hid hQ
      have o1 := hQ.o1
      clear hx hc hsn hp hQ
      go_wp2_with (at_builtin; refine app1 rfl (.tmp 78) (.tmp 85) rfl wr w7.heap.size _ _ _ _ _ (by rfl) (by rfl) o1 (by omega) (by omega) ?_; intro g2 c2 w2' ho2 hg2 hb2 hat2 hcap2)
      go_roundw
      case rel =>
        refine ⟨k + 1, g2, c2, by omega, by go_num, rfl, ?_, hB.trans hb2⟩
        have := HQ.out.app ho2 hg2 hat2
        rw [HSN.out, ← List.append_assoc]; exact this
      case measure => simp [intOf]; omega
    · obtain rfl : k = m12 := by omega
      have htk : (ints (orderL ys)).take k = ints (orderL ys) := List.take_of_length_le (by have := hQ.o3.len; omega)
      rw [htk] at hQ
      have hQ1 := hQ.o1
      have hQ2 := hQ.o2
      have hne := hQ.d12
      have rbr := rb7.call (Nat.le_refl _) hB
      have ltg := (hQ1.lt g 0 none rfl).2
      have lt11 := (hQ2.lt g11 0 none rfl).2
      clear htk hQ
      go_wp2_with fail
      refine (clusters_c _ _ _ _ _ rbr (by omega)).mono ?_
      rintro e w14 ⟨A14, m14, c14, rfl, hm14, ho14, hb14⟩
      have bb14 := hB.trans (hb14.mono bsr)
      have hP4 : P3 w14 w7.heap.size g11 (m10 + 1) c11 (ints (clustersL xs) ++ [(na : Int)]) g (m8 + 1 + k) c (ints (orderL xs) ++ [(na : Int)] ++ shl ((na : Int) + 1) (ints (orderL ys))) A14 m14 c14 (ints (clustersL ys)) :=
        ⟨hQ2.call hb14, hQ1.call hb14, ho14.lower bsr, hne.symm, fun b e => by have := (ho14.lt b 0 none e).1; omega, fun b e => by have := (ho14.lt b 0 none e).1; omega⟩
      clear hQ1 hQ2 hne rbr ltg lt11 hb14 ho14 hB bsr
      obtain ⟨w13, rfl⟩ : ∃ w13 : World, w13 = wr := ⟨_, rfl⟩
      go_wp2_with fail
      go_loopw [11, 15] (fun v i wr => ∃ (q g2 c2 : Nat), q ≤ m14 ∧ i = .int .i64 q ∧ v = .slice (some ⟨g2, 0, none⟩) (m10 + 1 + q) c2 ∧ P3 wr w7.heap.size g2 (m10 + 1 + q) c2 (ints (clustersL xs) ++ [(na : Int)] ++ shl ((na : Int) + 1) ((ints (clustersL ys)).take q)) g (m8 + 1 + k) c (ints (orderL xs) ++ [(na : Int)] ++ shl ((na : Int) + 1) (ints (orderL ys))) A14 m14 c14 (ints (clustersL ys)) ∧ Below w7.heap.size w7 wr) (fun _ i _ => m14 - (intOf i).toNat)
      case atStart => exact ⟨0, g11, c11, by omega, rfl, rfl, by simpa [shl] using hP4, bb14⟩
      case round =>
        obtain ⟨q, g2, c2, hq, rfl, rfl, hQ, hB⟩ := hrel
        clear hP4 bb14
        have bsr := hB.size
        by_cases hlt2 : q < m14
        · obtain ⟨x, hx⟩ := getD_some (ints (clustersL ys)) q (by have := hQ.o3.len; omega)
          obtain ⟨b, o, rfl, _, hc⟩ := hQ.o3.rd.pos (by omega)
          have c1 := hc q x hx
          have hsn := shl_snoc ((na : Int) + 1) hx
          obtain ⟨p, hp, rfl⟩ := ints_get' hx
          have hpl := (clusters_idx hp).1
          rw [YL.out] at hpl
          have HSN := Lib.hid hsn
          have HQ := Lib.hid hQ
          have o1 := hQ.o1
          clear hx hc hsn hp hQ
          go_wp2_with (at_builtin; refine app1 rfl (.tmp 95) (.tmp 102) rfl wr w7.heap.size _ _ _ _ _ (by rfl) (by rfl) o1 (by omega) (by omega) ?_; intro g3 c3 w3' ho2 hg2 hb2 hat2 hcap2)
          go_roundw
          case rel =>
            refine ⟨q + 1, g3, c3, by omega, by go_num, rfl, ?_, hB.trans hb2⟩
            have := HQ.out.app ho2 hg2 hat2
            rw [HSN.out, ← List.append_assoc]; exact this
          case measure => simp [intOf]; omega
        · obtain rfl : q = m14 := by omega
          have htk : (ints (clustersL ys)).take q = ints (clustersL ys) := List.take_of_length_le (by have := hQ.o3.len; omega)
          rw [htk] at hQ
          have hC := hQ.o1
          have hO := hQ.o2
          rw [shl_ints] at hC hO
          have br := below_call b7 hB
          have rar := ra7.call (Nat.le_refl _) hB
          have rbr := rb7.call (Nat.le_refl _) hB
          have rlr := rl7.call (Nat.le_refl _) hB
          have qC := hC.rd
          have qO := hO.rd
          clear htk hQ hC hO hB bsr
          obtain ⟨w15, rfl⟩ : ∃ w15 : World, w15 = wr := ⟨_, rfl⟩
          have xl := ra7.len
          have XL := Lib.hid xl
          clear xl ra7 rb7 rl7 b7
          go_wp2_with fail
          refine (forms_c _ _ _ _ _ rar (by omega)).mono ?_
          rintro e w16 ⟨A16, c16, rfl, ho16, hb16⟩
          have bs16 := hb16.size
          go_wp2_with (at_builtin; refine app1 rfl (.tmp 105) (.tmp 106) rfl w16 w15.heap.size _ _ _ _ _ (by rfl) (by rfl) ho16 (by omega) (by omega) ?_; intro g17 c17 w17 ho17 hg17 hb17 hat17 hcap17)
          have bb17 := hb16.trans hb17
          have rb17 := rbr.call (Nat.le_refl _) bb17
          have bs17 := bb17.size
          clear hg17 hat17 hcap17 hb17 hb16 ho16 bs16
          refine (forms_c _ _ _ _ _ rb17 (by omega)).mono ?_
          rintro e w18 ⟨A18, c18, rfl, ho18, hb18⟩
          have bb18 := bb17.trans (hb18.mono bs17)
          have ho17' := ho17.call hb18
          have r18 := ho18.rd
          have bs18 := bb18.size
          clear bb17 hb18 ho17 rb17 bs17 ho18
          go_wp2_with (at_builtin; refine appS rfl (.tmp 107) (.tmp 109) rfl w18 w15.heap.size _ _ _ _ _ _ _ _ _ (by rfl) (by rfl) ho17' r18 (by omega) (by omega) ?_; intro A19 c19 w19 ho19 hg19 hb19 hat19 hcap19)
          have bb19 := bb18.trans hb19
          have b19 := below_call br bb19
          have rl19 := rlr.call (Nat.le_refl _) bb19
          have rC19 := qC.call (Nat.le_refl _) bb19
          have rO19 := qO.call (Nat.le_refl _) bb19
          have rF19 := ho19.rd
          clear hg19 hat19 hcap19 hb19 bb18 ho17' r18 bs18 bb19 br rlr qC qO ho19 rar rbr
          have eO : ints (orderL (xs ++ [P] ++ ys)) = ints (orderL xs) ++ [(na : Int)] ++ ints ((orderL ys).map (fun q => na + 1 + q)) := by
            rw [List.append_assoc, List.singleton_append, order_parts HP.out HKY.out, ints_app, ints_app, XL.out]; rfl
          have eC : ints (clustersL (xs ++ [P] ++ ys)) = ints (clustersL xs) ++ [(na : Int)] ++ ints ((clustersL ys).map (fun q => na + 1 + q)) := by
            rw [List.append_assoc, List.singleton_append, clusters_parts HP.out HKY.out, ints_app, ints_app, XL.out]; rfl
          have eF : forms (xs ++ [P] ++ ys) = forms xs ++ [0] ++ forms ys := by
            unfold forms
            rw [List.append_assoc, List.singleton_append, formsR_parts HP.out]; simp
          have EO := Lib.hid eO; have EC := Lib.hid eC; have EF := Lib.hid eF
          clear eO eC eF
          refine (order_c _ _ _ _ _ rl19 (by omega)).mono ?_
          rintro e w20 ⟨A20, m20, c20, rfl, hm20, ho20, hb20⟩
          rw [EO.out] at ho20
          have b20 := below_call b19 hb20
          have rl20 := rl19.call (Nat.le_refl _) hb20
          have rC20 := rC19.call (Nat.le_refl _) hb20
          have rO20 := rO19.call (Nat.le_refl _) hb20
          have rF20 := rF19.call (Nat.le_refl _) hb20
          have q20 := ho20.rd
          clear b19 rl19 rC19 rO19 rF19 ho20 hb20
          go_wp2_with fail
          refine (same_b _ _ _ _ _ _ _ _ _ q20 rO20 (by omega) (by omega)).mono ?_
          rintro e w21 ⟨he, hb21⟩
          rw [decide_eq_true (by rfl)] at he
          subst he
          have b21 := below_call b20 hb21
          have rl21 := rl20.call (Nat.le_refl _) hb21
          have rC21 := rC20.call (Nat.le_refl _) hb21
          have rF21 := rF20.call (Nat.le_refl _) hb21
          clear b20 rl20 rC20 rO20 rF20 q20 hb21
          go_wp2_with fail
          refine (clusters_c _ _ _ _ _ rl21 (by omega)).mono ?_
          rintro e w22 ⟨A22, m22, c22, rfl, hm22, ho22, hb22⟩
          rw [EC.out] at ho22
          have b22 := below_call b21 hb22
          have rl22 := rl21.call (Nat.le_refl _) hb22
          have rC22 := rC21.call (Nat.le_refl _) hb22
          have rF22 := rF21.call (Nat.le_refl _) hb22
          have q22 := ho22.rd
          clear b21 rl21 rC21 rF21 ho22 hb22
          go_wp2_with fail
          refine (same_b _ _ _ _ _ _ _ _ _ q22 rC22 (by omega) (by omega)).mono ?_
          rintro e w23 ⟨he, hb23⟩
          rw [decide_eq_true (by rfl)] at he
          subst he
          have b23 := below_call b22 hb23
          have rl23 := rl22.call (Nat.le_refl _) hb23
          have rF23 := rF22.call (Nat.le_refl _) hb23
          clear b22 rl22 rC22 rF22 q22 hb23
          go_wp2_with fail
          refine (forms_c _ _ _ _ _ rl23 (by omega)).mono ?_
          rintro e w24 ⟨A24, c24, rfl, ho24, hb24⟩
          rw [EF.out] at ho24
          have b24 := below_call b23 hb24
          have rF24 := rF23.call (Nat.le_refl _) hb24
          have q24 := ho24.rd
          clear b23 rl23 rF23 ho24 hb24
          go_wp2_with fail
          refine (same_b _ _ _ _ _ _ _ _ _ q24 rF24 (by omega) (by omega)).mono ?_
          rintro e w25 ⟨he, hb25⟩
          rw [decide_eq_true (by rfl)] at he
          subst he
          have b25 := below_call b24 hb25
          go_wp2_with fail
          go_ret
          exact ⟨rfl, b25⟩

end Go.Proofs.Ytdacfcfgikllpaa
