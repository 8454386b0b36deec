/- Matching with sets that rise is matching; match in a work's midst; what 'do' must do. -/
import Derived.Test.YtkoocipagndclaaW14
namespace Go.Proofs.Ytkoocipagndclaa
open Go.RowKit Go.Shelf

theorem inSets_srt (run : List Itm) (sets : List (List Int)) (ps : List Nat) : inSets run (sets.map srtS) ps = inSets run sets ps := by
  induction sets generalizing ps with
  | nil => rfl
  | cons s ss ih =>
    cases ps with
    | nil => rfl
    | cons p ps => rw [List.map_cons, inSets_cons, inSets_cons, srtS_has, ih]
theorem fits_srt (run : List Itm) (r : Rul) (fore back : List Nat) : fits run (srtR r) fore back = fits run r fore back := by
  unfold fits
  simp only [srtR, inSets_srt, List.length_map, List.isEmpty_map]
theorem firstR_srt (p : Rul → Bool) (hp : ∀ r, p (srtR r) = p r) (rs : List Rul) (n : Nat) : firstR p (rs.map srtR) n = (firstR p rs n).map fun x => (x.1, srtR x.2) := by
  induction rs generalizing n with
  | nil => rfl
  | cons r rs ih =>
    rw [List.map_cons, firstR, firstR, hp r]
    split
    · rfl
    · exact ih (n + 1)
theorem matchL_srt (F : Fnt) (lk : Lk) (run : List Itm) (k : Int) (forms : List Int) : matchL F (srtLk lk) run k forms = matchL F lk run k forms := by
  unfold matchL
  simp only [srtLk]
  rw [firstR_srt _ (fun r => fits_srt run r _ _)]
  cases firstR (fun r => fits run r (foreL F lk.ign run k.toNat) (backL F lk.ign run k.toNat)) lk.rules 0 with
  | none => rfl
  | some x =>
    obtain ⟨n, r⟩ := x
    simp [srtR]

theorem firstR_mem {p : Rul → Bool} {rs : List Rul} {n m : Nat} {r : Rul} (h : firstR p rs n = some (m, r)) : n ≤ m ∧ rs[m - n]? = some r ∧ p r = true := by
  induction rs generalizing n with
  | nil => simp [firstR] at h
  | cons q rs ih =>
    rw [firstR] at h
    split at h
    · rename_i hq
      injection h with h; injection h with h1 h2; subst h1; subst h2
      exact ⟨Nat.le_refl _, by simp, hq⟩
    · obtain ⟨h1, h2, h3⟩ := ih h
      refine ⟨by omega, ?_, h3⟩
      rw [show m - n = (m - (n + 1)) + 1 by omega]; simpa using h2
/-- What is known of a match. -/
theorem matchL_some {F : Fnt} {lk : Lk} {run : List Itm} {k : Int} {forms : List Int} {n : Nat} {ps : List Nat} (h : matchL F lk run k forms = some (n, ps)) :
    ∃ r, lk.rules[n]? = some r ∧ 0 ≤ k ∧ k < run.length ∧ ps ≠ [] ∧ ps.head? = some k.toNat ∧ ps.length = r.inn.length ∧ (∀ p ∈ ps, k.toNat ≤ p ∧ p < run.length ∧ seenB F lk.ign run p = true) ∧ ps.Pairwise (· < ·) ∧ fits run r (foreL F lk.ign run k.toNat) (backL F lk.ign run k.toNat) = true ∧ ps = (foreL F lk.ign run k.toNat).take r.inn.length ∧ begL F lk.ign run k forms = true := by
  unfold matchL at h
  split at h
  · rename_i hb
    cases hf : firstR (fun r => fits run r (foreL F lk.ign run k.toNat) (backL F lk.ign run k.toNat)) lk.rules 0 with
    | none => rw [hf] at h; cases h
    | some x =>
      obtain ⟨m, r⟩ := x
      rw [hf] at h
      injection h with h; injection h with h1 h2; subst h1
      obtain ⟨_, hr, hfit⟩ := firstR_mem hf
      have hb' := hb
      unfold begL at hb'
      simp only [Bool.and_eq_true, decide_eq_true_eq] at hb'
      obtain ⟨⟨⟨k0, k1⟩, ks⟩, _⟩ := hb'
      have hfit2 := hfit
      unfold fits at hfit2
      simp only [Bool.and_eq_true, decide_eq_true_eq, Bool.not_eq_true'] at hfit2
      obtain ⟨⟨⟨i1, i2⟩, _⟩, _⟩ := hfit2
      have hin : 0 < r.inn.length := by
        cases hi : r.inn with
        | nil => rw [hi] at i1; simp at i1
        | cons _ _ => simp
      have hup : foreL F lk.ign run k.toNat = k.toNat :: upL (seenB F lk.ign run) run.length (k.toNat + 1) := upL_yes (by omega) ks
      refine ⟨r, by simpa using hr, k0, k1, ?_, ?_, ?_, ?_, ?_, hfit, h2.symm, hb⟩
      · rw [← h2, hup]; obtain ⟨q, hq⟩ : ∃ q, r.inn.length = q + 1 := ⟨r.inn.length - 1, by omega⟩
        rw [hq]; simp
      · rw [← h2, hup]; obtain ⟨q, hq⟩ : ∃ q, r.inn.length = q + 1 := ⟨r.inn.length - 1, by omega⟩
        rw [hq]; simp
      · rw [← h2, List.length_take]; omega
      · intro p hp
        rw [← h2] at hp
        obtain ⟨a, b, c⟩ := upL_mem.1 (List.mem_of_mem_take hp)
        exact ⟨a, b, c⟩
      · rw [← h2]
        exact (upL_sorted _ _ _).sublist (List.take_sublist _ _)
  · cases h

theorem IsF.up {w : World} {B : Nat} {f : FV} {F : Fnt} (h : IsF w (lo B) f F) (hB : B ≤ w.heap.size) : IsF w (lo w.heap.size) f F := h.mono (lo_mono hB) (Kept.refl _ _)
theorem WS.c1 {B : Nat} {W : World} {Bw Bm : Nat} {f : FV} {F : Fnt} {RA : Option Addr} {rn rc : Nat} {run : List Itm} (h : WS B W Bw Bm f F RA rn rc run) : W.cell? ⟨Bw, 1, none⟩ = some (.slice f.ga f.gn f.gc) := by have := h.wk.cell 1; simpa using this
theorem WS.c3 {B : Nat} {W : World} {Bw Bm : Nat} {f : FV} {F : Fnt} {RA : Option Addr} {rn rc : Nat} {run : List Itm} (h : WS B W Bw Bm f F RA rn rc run) : W.cell? ⟨Bw, 3, none⟩ = some (.slice f.la f.ln f.lc) := by have := h.wk.cell 3; simpa using this
theorem WS.c9 {B : Nat} {W : World} {Bw Bm : Nat} {f : FV} {F : Fnt} {RA : Option Addr} {rn rc : Nat} {run : List Itm} (h : WS B W Bw Bm f F RA rn rc run) : W.cell? ⟨Bw, 9, none⟩ = some (.slice RA rn rc) := by have := h.wk.cell 9; simpa using this
theorem WS.len {B : Nat} {W : World} {Bw Bm : Nat} {f : FV} {F : Fnt} {RA : Option Addr} {rn rc : Nat} {run : List Itm} (h : WS B W Bw Bm f F RA rn rc run) : run.length = rn := h.own.rdI.len
/-- A world that has all of the old one goes on. -/
theorem WS.call {B : Nat} {W W' : World} {Bw Bm : Nat} {f : FV} {F : Fnt} {RA : Option Addr} {rn rc : Nat} {run : List Itm} (h : WS B W Bw Bm f F RA rn rc run) (hb : Below W.heap.size W W') : WS B W' Bw Bm f F RA rn rc run := by
  refine ⟨Nat.le_trans h.hB hb.size, h.lw, h.lm, h.wk.below hb h.wk.lt, h.font.mono (fun _ h => h) (kept_below (hb.mono h.hB)), ?_, h.own.call hb⟩
  obtain ⟨g, hg, hgm⟩ := h.mts
  refine ⟨g, hg.keep (hb.block _ hg.lt), fun k v hv => ?_⟩
  obtain ⟨m, lk, h1, h2, h3⟩ := hgm k v hv
  exact ⟨m, lk, h1, h2, h3.kept (kept_sb h.hB hb)⟩

theorem match_ws (B Bw Bm : Nat) (f : FV) (F : Fnt) (RA : Option Addr) (rn rc : Nat) (run : List Itm) (lk : Lk) (m : Nat) (FA : Option Addr) (fn fc : Nat) (forms : List Int) (k : Int) (W : World) (hs : WS B W Bw Bm f F RA rn rc run) (hm : Mt B W 58 m (srtLk lk))
    (hsm : ∀ r ∈ lk.rules, SmR r) (hF : Rd W (lo W.heap.size) FA fn forms) (hfn : fn ≤ 9223372036854775807) (hrn : rn ≤ 1000000) (hmn : lk.rules.length ≤ 1000000) :
    Calls Try.prog 25 #[.pointer (some ⟨Bw, 0, none⟩), .pointer (some ⟨m, 0, none⟩), .int .i64 k, .slice FA fn fc] W (MPost W (matchL F lk run k forms)) := by
  obtain ⟨A, n, c, fo, ba, h1, h2, h3, h4, h5, h6, h7⟩ := hm
  have hl := h2.len
  have hl' : lk.rules.length = n := by simpa [srtLk] using hl
  rw [← matchL_srt]
  refine match_c 58 SrtS has_bin Bw m f F RA FA A rn rc fn fc n c run (srtLk lk) fo ba k forms W (hs.font.up hs.hB) hs.c1 hs.c9 hs.own.rdI ?_ ?_ ?_ ?_ ?_ (h2.sblo hs.hB) hF ?_ h4 h5 (by omega) hfn (by omega) h6 h7
  · have := h1.cell 0; simpa using this
  · have := h1.cell 1; simpa using this
  · have := h1.cell 2; simpa using this
  · have := h1.cell 3; simpa using this
  · have := h1.cell 4; simpa using this
  · intro r hr
    obtain ⟨q, hq, rfl⟩ := List.mem_map.1 hr
    obtain ⟨s1, s2, s3⟩ := hsm q hq
    refine ⟨fun s hs => ?_, fun s hs => ?_, fun s hs => ?_⟩
    all_goals
      obtain ⟨t, ht, rfl⟩ := List.mem_map.1 hs
      refine ⟨srtS_rises t, ?_⟩
      rw [srtS_len]
    · have := s2.2 t ht; omega
    · have := s3.2 t ht; omega
    · have := s1.2 t ht; omega

def w64 (x : Int) : Int := wrap64 x
/-- What 'do' is to do at a lookup, so deep. -/
def DPost (B Bw Bm : Nat) (f : FV) (F : Fnt) (W : World) (run' : List Itm) (e : Ending) (W' : World) : Prop :=
  e = .returned (.tuple #[]) ∧ ∃ RA rn rc, WS B W' Bw Bm f F RA rn rc run' ∧ Kept (SB B W) W W' ∧ Below B W W'
def DoOK (B Bw Bm : Nat) (f : FV) (F : Fnt) (k : Nat) (lk : Lk) (dp : Nat) : Prop :=
  ∀ (W : World) (RA : Option Addr) (rn rc : Nat) (run : List Itm) (rule : Nat) (r : Rul) (PA : Option Addr) (pn pc : Nat) (places : List Nat), WS B W Bw Bm f F RA rn rc run → lk.rules[rule]? = some r → Rd W (SB B W) PA pn (natI places) → Hd pn pc → r.inn ≠ [] → places ≠ [] → (∀ p ∈ places, p < run.length) → places.Pairwise (· < ·) → run.length ≤ 1000 →
    Calls Try.prog 47 #[.pointer (some ⟨Bw, 0, none⟩), .int .i64 (k : Int), .int .i64 (rule : Int), .slice PA pn pc, .int .i64 (dp : Int)] W (DPost B Bw Bm f F W (doL w64 F (4 - dp) lk r places run))

end Go.Proofs.Ytkoocipagndclaa
