/- Walks: the document's matches. -/
import Derived.Test.YtkoocipagndclaaR6
namespace Go.Proofs.Ytkoocipagndclaa
open Go.RowKit Go.Shelf

/-- The places from one on, and those ahead of one, by their numbers as ints. -/
def upR' (s : Nat → Bool) (n : Nat) (i : Int) : List Nat := if i < 0 then [] else upL s n i.toNat
def dnR' (s : Nat → Bool) (n : Nat) (i : Int) : List Nat := if (n : Int) ≤ i then [] else dnL s (i + 1).toNat
theorem upR_none (s : Nat → Bool) (n : Nat) (i : Int) (h : i < 0 ∨ (n : Int) ≤ i) : upR' s n i = [] := by
  unfold upR'; split
  · rfl
  · exact upL_end (by omega)
theorem upR_nat (s : Nat → Bool) (n k : Nat) : upR' s n (k : Int) = upL s n k := by unfold upR'; rw [if_neg (by omega), Int.toNat_natCast]
theorem upR_some (s : Nat → Bool) (n k : Nat) (h : k < n) : upR' s n k = if s k then k :: upR' s n (k + 1) else upR' s n (k + 1) := by
  rw [upR_nat, show (k : Int) + 1 = ((k + 1 : Nat) : Int) by omega, upR_nat, upL_step h]
theorem dnR_none (s : Nat → Bool) (n : Nat) (i : Int) (h : i < 0 ∨ (n : Int) ≤ i) : dnR' s n i = [] := by
  unfold dnR'; split
  · rfl
  · have : (i + 1).toNat = 0 := by omega
    rw [this]; rfl
theorem dnR_nat (s : Nat → Bool) (n k : Nat) (h : k ≤ n) : dnR' s n ((k : Int) + -1) = dnL s k := by
  unfold dnR'; rw [if_neg (by omega)]; congr 1; omega
theorem dnR_nat' (s : Nat → Bool) (n k : Nat) (h : k ≤ n) : dnR' s n ((k : Int) - 1) = dnL s k := by rw [show (k : Int) - 1 = (k : Int) + -1 from rfl, dnR_nat s n k h]
theorem dnR_some (s : Nat → Bool) (n k : Nat) (h : k < n) : dnR' s n k = if s k then k :: dnR' s n (k + -1) else dnR' s n (k + -1) := by
  rw [dnR_nat s n k (by omega)]
  unfold dnR'; rw [if_neg (by omega), show ((k : Int) + 1).toNat = k + 1 by omega]; rfl

theorem pb1 (p : Nat) : (-1 : Int) ≤ (p : Int) + 1 := by omega
theorem pb2 {p n : Nat} (h : p < n) : (p : Int) + 1 ≤ (n : Int) := by omega
theorem pb3 (p : Nat) : (-1 : Int) ≤ (p : Int) - 1 := by omega
theorem pb4 {p n : Nat} (h : p < n) : (p : Int) - 1 ≤ (n : Int) := by omega
/-- The cells of a rule. -/
abbrev rlc (x : Int) (A1 : Option Addr) (n1 c1 : Nat) (A2 : Option Addr) (n2 c2 : Nat) (A3 : Option Addr) (n3 c3 : Nat) (A4 : Option Addr) (n4 c4 : Nat) (A5 : Option Addr) (n5 c5 : Nat) : Array Value := #[.slice A1 n1 c1, .slice A2 n2 c2, .slice A3 n3 c3, .slice A4 n4 c4, .slice A5 n5 c5, .int .i64 x]
/-- The font, the lookup and the rule in variables, and the run. -/
structure MK (w W : World) (bf bl br : Nat) (f : FV) (F : Fnt) (lk : Lk) (LA : Option Addr) (ln lc : Nat) (r : Rul) (A1 : Option Addr) (n1 c1 : Nat) (A2 : Option Addr) (n2 c2 : Nat) (A3 : Option Addr) (n3 c3 : Nat) (A4 : Option Addr) (n4 c4 : Nat) (A5 : Option Addr) (n5 c5 : Nat) (RA : Option Addr) (rn : Nat) (run : List Itm) : Prop where
  kf : Bk W bf 31 f.cells
  kl : Bk W bl 44 (lkc lk LA ln lc)
  kr : Bk W br 48 (rlc r.x A1 n1 c1 A2 n2 c2 A3 n3 c3 A4 n4 c4 A5 n5 c5)
  hf : IsF W (lo W.heap.size) f F
  hI : RdI W (lo W.heap.size) RA rn run
  h1 : RdV W (lo W.heap.size) A1 n1 r.back
  h2 : RdV W (lo W.heap.size) A2 n2 r.inn
  h3 : RdV W (lo W.heap.size) A3 n3 r.ahead
  bw : Below w.heap.size w W
theorem MK.call {w W W' : World} {bf bl br : Nat} {f : FV} {F : Fnt} {lk : Lk} {LA : Option Addr} {ln lc : Nat} {r : Rul} {A1 : Option Addr} {n1 c1 : Nat} {A2 : Option Addr} {n2 c2 : Nat} {A3 : Option Addr} {n3 c3 : Nat} {A4 : Option Addr} {n4 c4 : Nat} {A5 : Option Addr} {n5 c5 : Nat} {RA : Option Addr} {rn : Nat} {run : List Itm} (h : MK w W bf bl br f F lk LA ln lc r A1 n1 c1 A2 n2 c2 A3 n3 c3 A4 n4 c4 A5 n5 c5 RA rn run) (b : Below W.heap.size W W') : MK w W' bf bl br f F lk LA ln lc r A1 n1 c1 A2 n2 c2 A3 n3 c3 A4 n4 c4 A5 n5 c5 RA rn run :=
  ⟨h.kf.call b, h.kl.call b, h.kr.call b, h.hf.call b, h.hI.call b, h.h1.call b, h.h2.call b, h.h3.call b, below_call h.bw b⟩

/-- What matches tells. -/
def FPost (w : World) (b : Bool) (ps : List Nat) (e : Ending) (w' : World) : Prop :=
  ∃ A m c, e = .returned (.tuple #[.slice A m c, .bool b]) ∧ (b = true → Ow 3 1 w' w.heap.size A m c (ic (natI ps))) ∧ Below w.heap.size w w'

set_option maxRecDepth 100000 in
set_option maxHeartbeats 4000000 in
theorem qmatches_c (f : FV) (F : Fnt) (lk : Lk) (LA : Option Addr) (ln lc : Nat) (r : Rul) (A1 : Option Addr) (n1 c1 : Nat) (A2 : Option Addr) (n2 c2 : Nat) (A3 : Option Addr) (n3 c3 : Nat) (A4 : Option Addr) (n4 c4 : Nat) (A5 : Option Addr) (n5 c5 : Nat) (RA : Option Addr) (rn rc : Nat) (run : List Itm) (k : Nat) (w : World)
    (hf : IsF w (lo w.heap.size) f F) (hI : RdI w (lo w.heap.size) RA rn run) (h1 : RdV w (lo w.heap.size) A1 n1 r.back) (h2 : RdV w (lo w.heap.size) A2 n2 r.inn) (h3 : RdV w (lo w.heap.size) A3 n3 r.ahead)
    (hrn : rn ≤ 1000000) (hn1 : n1 ≤ 1000000) (hn2 : n2 ≤ 1000000) (hn3 : n3 ≤ 1000000) (hk : k < rn) (hs : seenB F lk.ign run k = true) :
    Calls Try.prog 29 #[.agg f.cells, .agg (lkc lk LA ln lc), .agg (rlc r.x A1 n1 c1 A2 n2 c2 A3 n3 c3 A4 n4 c4 A5 n5 c5), .slice RA rn rc, .int .i64 (k : Int)] w (FPost w (fits run r (foreL F lk.ign run k) (backL F lk.ign run k)) ((foreL F lk.ign run k).take r.inn.length)) := by
  have HL2 := Lib.hid h2.len; have HLI := Lib.hid hI.len
  have b0 : Below w.heap.size w (((w.alloc (.cells f.cells 31)).alloc (.cells (lkc lk LA ln lc) 44)).alloc (.cells (rlc r.x A1 n1 c1 A2 n2 c2 A3 n3 c3 A4 n4 c4 A5 n5 c5) 48)) := below_lit _ _ (below_lit _ _ (below_lit _ _ (Below.refl _ _) _) _) _
  have hs0 : MK w (((w.alloc (.cells f.cells 31)).alloc (.cells (lkc lk LA ln lc) 44)).alloc (.cells (rlc r.x A1 n1 c1 A2 n2 c2 A3 n3 c3 A4 n4 c4 A5 n5 c5) 48)) w.heap.size (w.alloc (.cells f.cells 31)).heap.size ((w.alloc (.cells f.cells 31)).alloc (.cells (lkc lk LA ln lc) 44)).heap.size f F lk LA ln lc r A1 n1 c1 A2 n2 c2 A3 n3 c3 A4 n4 c4 A5 n5 c5 RA rn run :=
    ⟨((Bk.new w 31 f.cells).alloc _).alloc _, (Bk.new (w.alloc (.cells f.cells 31)) 44 (lkc lk LA ln lc)).alloc _, Bk.new _ _ _, hf.call b0, hI.call b0, h1.call b0, h2.call b0, h3.call b0, b0⟩
  have HC := Lib.hid fun (W : World) (SA : Option Addr) (sn sc : Nat) (sets : List (List Int)) (i : Int) (h1 : IsF W (lo W.heap.size) f F) (h2 : RdI W (lo W.heap.size) RA rn run) (h3 : RdV W (lo W.heap.size) SA sn sets) (h4 : sn ≤ 1000000) (h5 : -1 ≤ i) (h6 : i ≤ rn) => qwalk_c f F lk LA ln lc RA rn rc run SA sn sc sets (upR' (seenB F lk.ign run) rn) 1 i W h1 h2 h3 hrn h4 (.inl rfl) h5 h6 (upR_none _ _) (upR_some _ _)
  have HD := Lib.hid fun (W : World) (SA : Option Addr) (sn sc : Nat) (sets : List (List Int)) (i : Int) (h1 : IsF W (lo W.heap.size) f F) (h2 : RdI W (lo W.heap.size) RA rn run) (h3 : RdV W (lo W.heap.size) SA sn sets) (h4 : sn ≤ 1000000) (h5 : -1 ≤ i) (h6 : i ≤ rn) => qwalk_c f F lk LA ln lc RA rn rc run SA sn sc sets (dnR' (seenB F lk.ign run) rn) (-1) i W h1 h2 h3 hrn h4 (.inr rfl) h5 h6 (dnR_none _ _) (dnR_some _ _)
  unfold FV.cells lkc at HC HD
  unfold FV.cells lkc rlc at hs0 b0
  unfold FV.cells lkc rlc
  have HU : foreL F lk.ign run k = upL (seenB F lk.ign run) rn k := by unfold foreL; rw [hI.len]
  have HB : backL F lk.ign run k = dnL (seenB F lk.ign run) k := rfl
  rw [HU, HB]
  have hfirst : (upL (seenB F lk.ign run) rn k)[0]? = some k := upL_first hk hs
  generalize seenB F lk.ign run = s at *
  clear HU HB hf hI h1 h2 h3
  go_enter Try.func29, Try.ntmps29
  go_upto_region 1 with fail
  have hA1 : ((w.alloc (.cells #[.int .i64 f.u0, .slice f.ga f.gn f.gc, .slice f.ca f.cn f.cc, .slice f.la f.ln f.lc, .slice f.a4 f.n4 f.c4, .slice f.a5 f.n5 f.c5, .slice f.a6 f.n6 f.c6, .slice f.a7 f.n7 f.c7, .slice f.a8 f.n8 f.c8] 31)).alloc (.cells #[.int .i64 lk.kind, .bool lk.ign, .slice LA ln lc] 44)).heap.size = w.heap.size + 1 + 1 := by simp
  have hA2 : (w.alloc (.cells #[.int .i64 f.u0, .slice f.ga f.gn f.gc, .slice f.ca f.cn f.cc, .slice f.la f.ln f.lc, .slice f.a4 f.n4 f.c4, .slice f.a5 f.n5 f.c5, .slice f.a6 f.n6 f.c6, .slice f.a7 f.n7 f.c7, .slice f.a8 f.n8 f.c8] 31)).heap.size = w.heap.size + 1 := by simp
  rw [hA1, hA2] at hs0
  clear hA1 hA2 b0
  generalize ((w.alloc (.cells #[.int .i64 f.u0, .slice f.ga f.gn f.gc, .slice f.ca f.cn f.cc, .slice f.la f.ln f.lc, .slice f.a4 f.n4 f.c4, .slice f.a5 f.n5 f.c5, .slice f.a6 f.n6 f.c6, .slice f.a7 f.n7 f.c7, .slice f.a8 f.n8 f.c8] 31)).alloc (.cells #[.int .i64 lk.kind, .bool lk.ign, .slice LA ln lc] 44)).alloc (.cells #[.slice A1 n1 c1, .slice A2 n2 c2, .slice A3 n3 c3, .slice A4 n4 c4, .slice A5 n5 c5, .int .i64 r.x] 48) = W0 at hs0 ⊢
  generalize hbf : w.heap.size = bf at hs0 ⊢
  generalize bf + 1 + 1 = br at hs0 ⊢
  generalize bf + 1 = bl at hs0 ⊢
  have HBF := Lib.hid hbf
  clear hbf
  have k1 : W0.cell? ⟨br, 1, none⟩ = some (.slice A2 n2 c2) := hs0.kr.cell 1
  by_cases hz : n2 = 0
  · have hnil : r.inn = [] := List.eq_nil_of_length_eq_zero (by rw [HL2.out]; exact hz)
    have HF := Lib.hid (show fits run r (upL s rn k) (dnL s k) = false from fits_none hnil)
    subst hz
    clear HL2 HC HD hfirst hnil
    go_wp2
    go_ret2
    exact ⟨_, _, _, by rw [HF.out]; rfl, (fun h => by rw [HF.out] at h; cases h), hs0.bw⟩
  · have hne : r.inn ≠ [] := fun h => hz (by rw [← HL2.out, h]; rfl)
    have t0 : ((n2 : Int) == 0) = false := by simp; omega
    have t0' : (n2 == 0) = false := by simp; omega
    have HNE := Lib.hid hne
    have HFI := Lib.hid hfirst
    clear hne hfirst
    obtain ⟨y0, y1, y2, y3, y4, y5, y6, y7, y8⟩ := font_cells hs0.kf
    obtain ⟨l0, l1, l2⟩ := look_cells hs0.kl
    go_wp2_with fail
    clear y0 y1 y2 y3 y4 y5 y6 y7 y8 l0 l1 l2 k1
    with_reducible refine (HC.out _ _ _ _ _ _ hs0.hf hs0.hI hs0.h2 hn2 (by omega) (by omega)).mono ?_
    rintro e w1 ⟨A, m, c, xs, rfl, o1, hx1, b1⟩
    rw [upR_nat] at hx1 ⊢
    have hs1 := hs0.call b1
    have hsz := hs0.bw.size
    clear hs0 b1
    cases hb : inSets run r.inn (upL s rn k) with
    | false =>
      have HF := Lib.hid (show fits run r (upL s rn k) (dnL s k) = false by rw [fits_doc (p := 0) HNE.out (fun h => by rw [hb] at h; cases h), hb]; rfl)
      clear hx1 o1
      go_wp2
      go_ret2
      exact ⟨_, _, _, by rw [HF.out]; rfl, (fun h => by rw [HF.out] at h; cases h), hs1.bw⟩
    | true =>
      have hlen := inSets_len hb
      have hx := hx1 hb
      have hxl : xs.length = n2 := by rw [hx, List.length_take, HL2.out]; rw [HL2.out] at hlen; omega
      have hml := o1.rd.len
      rw [natI_len, hxl] at hml
      subst hml
      obtain ⟨q, hq⟩ : ∃ q : Nat, n2 = q + 1 := ⟨n2 - 1, by omega⟩
      obtain ⟨p, hp⟩ := at_some (upL s rn k) q (by rw [HL2.out] at hlen; omega)
      have hpx : xs[q]? = some p := by rw [hx, List.getElem?_take, if_pos (by rw [HL2.out]; omega)]; exact hp
      have h0x : xs[0]? = some k := by rw [hx, List.getElem?_take, if_pos (by rw [HL2.out]; omega)]; exact HFI.out
      have hpm := (upL_mem.1 (List.mem_of_getElem? hp)).2.1
      have hp5 : (-1 : Int) ≤ (p : Int) + 1 := pb1 p
      have hp6 : (p : Int) + 1 ≤ (rn : Int) := pb2 hpm
      have hk5 : (-1 : Int) ≤ (k : Int) - 1 := pb3 k
      have hk6 : (k : Int) - 1 ≤ (rn : Int) := pb4 hk
      obtain ⟨gi, rfl, _, _⟩ := o1.form (by omega)
      have g0 := o1.cell (j := 0) (x := .int .i64 (k : Int)) (by unfold ic; rw [List.getElem?_map, natI_at h0x]; rfl)
      have gq := o1.cell (j := q) (x := .int .i64 (p : Int)) (by unfold ic; rw [List.getElem?_map, natI_at hpx]; rfl)
      have HF := fits_doc (run := run) (s := s) (n := rn) (k := k) (r := r) (back := dnL s k) (p := p) HNE.out (fun _ => by rw [show r.inn.length - 1 = q by rw [HL2.out]; omega]; exact hp)
      rw [hb, Bool.true_and] at HF
      have qz : (0 : Int) ≤ (q : Int) := by omega
      have qn : (q : Int) < (n2 : Int) := by omega
      have hw1 : IntKind.i64.wrap ((n2 : Int) - 1) = (q : Int) := by rw [IntKind.wrap_i64]; omega
      have hw2 : wrap64 ((n2 : Int) - 1) = (q : Int) := by unfold wrap64; omega
      have hw3 : IntKind.i64.wrap ((p : Int) + 1) = (p : Int) + 1 := by rw [IntKind.wrap_i64]; omega
      have hw4 : wrap64 ((p : Int) + 1) = (p : Int) + 1 := by unfold wrap64; omega
      have hw5 : wrap64 ((k : Int) - 1) = (k : Int) - 1 := by unfold wrap64; omega
      have n2z : (0 : Int) < (n2 : Int) := by omega
      have kk : ((k : Int) != (k : Int)) = false := by simp
      have hcM : n2 ≤ 9223372036854775807 := by omega
      have HF := Lib.hid HF; have HX := Lib.hid hx; have HXL := Lib.hid hxl
      have HP := Lib.hid hpm
      clear hlen hx hxl hq hp hpx h0x hx1 hb HFI
      have HC3 := Lib.hid fun (W : World) (h1 : IsF W (lo W.heap.size) f F) (h2 : RdI W (lo W.heap.size) RA rn run) (h3 : RdV W (lo W.heap.size) A3 n3 r.ahead) => HC.out W A3 n3 c3 r.ahead ((p : Int) + 1) h1 h2 h3 hn3 hp5 hp6
      obtain ⟨y0, y1, y2, y3, y4, y5, y6, y7, y8⟩ := font_cells hs1.kf
      obtain ⟨l0, l1, l2⟩ := look_cells hs1.kl
      have k2 : w1.cell? ⟨br, 2, none⟩ = some (.slice A3 n3 c3) := hs1.kr.cell 2
      have HS := Lib.hid fun (W : World) (b : Below w1.heap.size w1 W) => (show W.cell? ⟨bf, 0, none⟩ = some (.int .i64 f.u0) ∧ W.cell? ⟨bf, 1, none⟩ = some (.slice f.ga f.gn f.gc) ∧ W.cell? ⟨bf, 2, none⟩ = some (.slice f.ca f.cn f.cc) ∧ W.cell? ⟨bf, 3, none⟩ = some (.slice f.la f.ln f.lc) ∧ W.cell? ⟨bf, 4, none⟩ = some (.slice f.a4 f.n4 f.c4) ∧ W.cell? ⟨bf, 5, none⟩ = some (.slice f.a5 f.n5 f.c5) ∧ W.cell? ⟨bf, 6, none⟩ = some (.slice f.a6 f.n6 f.c6) ∧ W.cell? ⟨bf, 7, none⟩ = some (.slice f.a7 f.n7 f.c7) ∧ W.cell? ⟨bf, 8, none⟩ = some (.slice f.a8 f.n8 f.c8) ∧ W.cell? ⟨bl, 0, none⟩ = some (.int .i64 lk.kind) ∧ W.cell? ⟨bl, 1, none⟩ = some (.bool lk.ign) ∧ W.cell? ⟨bl, 2, none⟩ = some (.slice LA ln lc) ∧ W.cell? ⟨br, 2, none⟩ = some (.slice A3 n3 c3) ∧ W.cell? ⟨gi, q, none⟩ = some (.int .i64 (p : Int)) from by
        obtain ⟨z0, z1, z2, z3, z4, z5, z6, z7, z8⟩ := font_cells (hs1.call b).kf
        obtain ⟨l0, l1, l2⟩ := look_cells (hs1.call b).kl
        exact And.intro z0 (And.intro z1 (And.intro z2 (And.intro z3 (And.intro z4 (And.intro z5 (And.intro z6 (And.intro z7 (And.intro z8 (And.intro l0 (And.intro l1 (And.intro l2 (And.intro (cell_call k2 b) ((cell_call gq b)))))))))))))))
      go_wp2
      go_region_held3 (fun w' => w'.cell? ⟨bf, 0, none⟩ = some (.int .i64 f.u0) ∧ w'.cell? ⟨bf, 1, none⟩ = some (.slice f.ga f.gn f.gc) ∧ w'.cell? ⟨bf, 2, none⟩ = some (.slice f.ca f.cn f.cc) ∧ w'.cell? ⟨bf, 3, none⟩ = some (.slice f.la f.ln f.lc) ∧ w'.cell? ⟨bf, 4, none⟩ = some (.slice f.a4 f.n4 f.c4) ∧ w'.cell? ⟨bf, 5, none⟩ = some (.slice f.a5 f.n5 f.c5) ∧ w'.cell? ⟨bf, 6, none⟩ = some (.slice f.a6 f.n6 f.c6) ∧ w'.cell? ⟨bf, 7, none⟩ = some (.slice f.a7 f.n7 f.c7) ∧ w'.cell? ⟨bf, 8, none⟩ = some (.slice f.a8 f.n8 f.c8) ∧ w'.cell? ⟨bl, 0, none⟩ = some (.int .i64 lk.kind) ∧ w'.cell? ⟨bl, 1, none⟩ = some (.bool lk.ign) ∧ w'.cell? ⟨bl, 2, none⟩ = some (.slice LA ln lc) ∧ w'.cell? ⟨br, 2, none⟩ = some (.slice A3 n3 c3) ∧ w'.cell? ⟨gi, q, none⟩ = some (.int .i64 (p : Int))) (first | ((with_reducible refine HS.out _ ?_); go_grown; done) | go_keep) (first
        | (go_at_call 44; (with_reducible refine (HC3.out _ ?_ ?_ ?_).mono ?_); exact hs1.hf; exact hs1.hI; exact hs1.h3; rintro e w2 ⟨A', m', c', xs', rfl, o2, hx2, hb2⟩; have b2 := below_undrew hb2))
      rw [show (p : Int) + 1 = ((p + 1 : Nat) : Int) by omega, upR_nat]
      have hs2 := hs1.call b2
      have o1' := o1.call b2
      clear y0 y1 y2 y3 y4 y5 y6 y7 y8 l0 l1 l2 k2 g0 gq HS hb2 hs1 o1 o2 hx2 b2
      generalize inSets run r.ahead (upL s rn (p + 1)) = ba at *
      obtain ⟨y0, y1, y2, y3, y4, y5, y6, y7, y8⟩ := font_cells hs2.kf
      obtain ⟨l0, l1, l2⟩ := look_cells hs2.kl
      have k0 : w2.cell? ⟨br, 0, none⟩ = some (.slice A1 n1 c1) := hs2.kr.cell 0
      go_wp2_with fail
      with_reducible refine (HD.out _ _ _ _ _ _ hs2.hf hs2.hI hs2.h1 hn1 hk5 hk6).mono ?_
      rintro e w3 ⟨A3', m3, c3', xs3, rfl, o3, hx3, b3⟩
      rw [dnR_nat' _ _ _ (Nat.le_of_lt hk)]
      have hs3 := hs2.call b3
      have o1'' := o1'.call b3
      clear y0 y1 y2 y3 y4 y5 y6 y7 y8 l0 l1 l2 k0 hs2 o1' o3 hx3 b3
      generalize inSets run r.back (dnL s k) = bb at *
      have fin : ∀ b, b = (ba && bb) → FPost w (fits run r (upL s rn k) (dnL s k)) ((upL s rn k).take r.inn.length) (.returned (.tuple #[.slice (some ⟨gi, 0, none⟩) n2 c, .bool b])) w3 := fun b hb =>
        ⟨some ⟨gi, 0, none⟩, n2, c, by rw [hb, HF.out], fun _ => by rw [← HX.out]; exact o1''.lower hsz, hs3.bw⟩
      have FIN := Lib.hid fin
      cases ba with
      | false =>
        go_wp2
        go_ret2
        exact FIN.out _ rfl
      | true =>
        go_wp2
        go_ret2
        exact FIN.out _ rfl

end Go.Proofs.Ytkoocipagndclaa
