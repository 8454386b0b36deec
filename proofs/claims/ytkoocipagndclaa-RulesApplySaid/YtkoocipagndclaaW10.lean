/- Walks: sortedSets. -/
import Derived.Test.YtkoocipagndclaaW9
import Derived.OwnWalk
namespace Go.Proofs.Ytkoocipagndclaa
open Go.RowKit Go.Shelf

/-- Blocks that nothing writes into any more: those below B, and those of no run and no work. -/
def SB (B : Nat) (w : World) (b : Nat) : Prop := b < B ∨ Sol w b
theorem SB.lt {B : Nat} {w : World} {b : Nat} (h : SB B w b) (hB : B ≤ w.heap.size) : b < w.heap.size := by
  rcases h with h | h
  · omega
  · exact h.lt
theorem SB.below {B : Nat} {w w' : World} {b : Nat} (h : SB B w b) (hb : Below w.heap.size w w') : SB B w' b := h.imp id fun h => h.below hb
theorem kept_sb {B : Nat} {w w' : World} (hB : B ≤ w.heap.size) (hb : Below w.heap.size w w') : Kept (SB B w) w w' := fun b h => hb.block b (h.lt hB)
theorem Rd.sb {B : Nat} {w w' : World} {A : Option Addr} {n : Nat} {xs : List Int} (h : Rd w (SB B w) A n xs) (hB : B ≤ w.heap.size) (hb : Below w.heap.size w w') : Rd w' (SB B w') A n xs := h.mono (fun _ h => h.below hb) (kept_sb hB hb)
theorem RdV.sb {B : Nat} {w w' : World} {A : Option Addr} {n : Nat} {xs : List (List Int)} (h : RdV w (SB B w) A n xs) (hB : B ≤ w.heap.size) (hb : Below w.heap.size w w') : RdV w' (SB B w') A n xs := h.mono (fun _ h => h.below hb) (kept_sb hB hb)
theorem Rd.sblo {B : Nat} {w : World} {A : Option Addr} {n : Nat} {xs : List Int} (h : Rd w (SB B w) A n xs) (hB : B ≤ w.heap.size) : Rd w (lo w.heap.size) A n xs := h.mono (fun _ h => h.lt hB) (Kept.refl _ _)
theorem RdV.sblo {B : Nat} {w : World} {A : Option Addr} {n : Nat} {xs : List (List Int)} (h : RdV w (SB B w) A n xs) (hB : B ≤ w.heap.size) : RdV w (lo w.heap.size) A n xs := h.mono (fun _ h => h.lt hB) (Kept.refl _ _)

/-- 'make([]T, n)'. -/
theorem mkG {t e k by' : Nat} {z : Value} (hT : ElT t e k by' z) {ops : Array Oper} {rest : List Oper} {o : Oper} {a : Act} {Q : Exit → Act → World → Prop} (hg : o.guard = none) (l c : Operand) (hop : o.op = Op.makeSlice t l c)
    (w : World) (base n : Nat) (L C : Int) (hl : a.eval l = .int .i64 L) (hc : a.eval c = .int .i64 C) (hL : L = (n : Int)) (hC : C = (n : Int)) (hn : by' * n ≤ 140737488355328) (hb : base ≤ w.heap.size)
    (hK : ∀ w', Ow e k w' base (some ⟨w.heap.size, 0, none⟩) n n (madeCells z.cells (n * k)).toList → Below w.heap.size w w' → w.heap.size < w'.heap.size → wpList Try.prog ops Q rest (a.put o.dst (.slice (some ⟨w.heap.size, 0, none⟩) n n)) w') :
    wpList Try.prog ops Q (o :: rest) a w := by
  obtain ⟨i0, hi, hz0, hz1, hz2⟩ := info_parts hT.hi
  have h63 : n ≤ maxLen := by
    have := Nat.le_mul_of_pos_left n hT.hb
    unfold maxLen; omega
  refine wpList_make_full w hg l c t hop base e i0 z k hT.ht hi hz0 hz1 .i64 .i64 L C n hl hc hL hC (by rw [hz2]; omega) h63 hb ?_
  intro w' ho hgr
  have ho2 : Ow e k w' base (some ⟨w.heap.size, 0, none⟩) n n (madeCells z.cells (n * k)).toList := ho
  exact hK w' ho2 ((Below.refl _ _).grown hgr (Nat.le_refl _) (fun k hk => by cases hk)) (ho2.lt _ _ _ rfl).2

def hv (h : Option Addr × Nat × Nat) : Value := .slice h.1 h.2.1 h.2.2
def hcs (hs : List (Option Addr × Nat × Nat)) : List Value := hs.map hv
theorem hcs_set (hs : List (Option Addr × Nat × Nat)) (i : Nat) (h : Option Addr × Nat × Nat) : (hcs hs).set i (hv h) = hcs (hs.set i h) := by simp [hcs, List.map_set]
/-- A set, made to rise. -/
def srtS (xs : List Int) : List Int := if riseB xs then xs else sortedI xs
theorem sortedI_rises (xs : List Int) : (sortedI xs).Pairwise (· ≤ ·) := by
  have h := List.pairwise_mergeSort (le := fun (x y : Int) => decide (x ≤ y)) (fun a b c h1 h2 => by simp at *; omega) (fun a b => by simp; omega) xs
  exact h.imp fun h => by simpa using h
theorem srtS_rises (xs : List Int) : (srtS xs).Pairwise (· ≤ ·) := by
  unfold srtS
  split
  · rename_i h; simpa [riseB] using h
  · exact sortedI_rises xs
theorem srtS_len (xs : List Int) : (srtS xs).length = xs.length := by
  unfold srtS
  split
  · rfl
  · simp [sortedI]
theorem srtS_has (xs : List Int) (x : Int) : (srtS xs).contains x = xs.contains x := by
  unfold srtS
  split
  · rfl
  · rw [Bool.eq_iff_iff]; simp [sortedI]

/-- Rows so far: each is one of the old ones, or lies in a block of ints. -/
def SI (S : Nat → Prop) (wr : World) (b : Nat) : Prop := S b ∨ ∃ cs fr, wr.heap[b]? = some (.cells cs 3 fr)
theorem SI.lt {S : Nat → Prop} {w wr : World} {b : Nat} (h : SI S wr b) (hS : ∀ b, S b → b < w.heap.size) (hb : w.heap.size ≤ wr.heap.size) : b < wr.heap.size := by
  rcases h with h | ⟨cs, fr, h⟩
  · have := hS b h; omega
  · exact (Array.getElem?_eq_some_iff.1 h).1
/-- .. or in one of rows of ints. -/
def SV (S : Nat → Prop) (wr : World) (b : Nat) : Prop := S b ∨ ∃ cs t fr, wr.heap[b]? = some (.cells cs t fr) ∧ (t = 3 ∨ t = 29)
theorem SV.lt {S : Nat → Prop} {w wr : World} {b : Nat} (h : SV S wr b) (hS : ∀ b, S b → b < w.heap.size) (hb : w.heap.size ≤ wr.heap.size) : b < wr.heap.size := by
  rcases h with h | ⟨cs, t, fr, h, _⟩
  · have := hS b h; omega
  · exact (Array.getElem?_eq_some_iff.1 h).1
theorem SV.keep {S : Nat → Prop} {wr wr' : World} {b : Nat} (h : SV S wr b) (hk : Kept (SV S wr) wr wr') : SV S wr' b := by
  have := hk b h
  rcases h with h | ⟨cs, t, fr, h, h2⟩
  · exact .inl h
  · exact .inr ⟨cs, t, fr, this.trans h, h2⟩
theorem SV.sb {B : Nat} {w wr : World} {b : Nat} (h : SV (SB B w) wr b) (hb : Below w.heap.size w wr) : SB B wr b := by
  rcases h with h | ⟨cs, t, fr, h, h2⟩
  · exact h.below hb
  · refine .inr ⟨cs, t, fr, h, ?_⟩
    rcases h2 with rfl | rfl <;> exact ⟨by decide, by decide⟩
def RowsAt (S : Nat → Prop) (wr : World) (sets : List (List Int)) (hs : List (Option Addr × Nat × Nat)) (k : Nat) : Prop :=
  hs.length = sets.length ∧ ∀ (i : Nat) (s : List Int), i < k → sets[i]? = some s → ∃ h, hs[i]? = some h ∧ Rd wr (SI S wr) h.1 h.2.1 (srtS s) ∧ Hd h.2.1 h.2.2
theorem RowsAt.keep {S : Nat → Prop} {wr wr' : World} {sets : List (List Int)} {hs : List (Option Addr × Nat × Nat)} {k : Nat} (h : RowsAt S wr sets hs k) (hk : Kept (SI S wr) wr wr') : RowsAt S wr' sets hs k := by
  refine ⟨h.1, fun i s hi hs => ?_⟩
  obtain ⟨x, h1, h2, h3⟩ := h.2 i s hi hs
  refine ⟨x, h1, h2.mono (fun b hb => ?_) hk, h3⟩
  have := hk b hb
  rcases hb with hb | ⟨cs, fr, hb⟩
  · exact .inl hb
  · exact .inr ⟨cs, fr, this.trans hb⟩
theorem RowsAt.next {S : Nat → Prop} {wr : World} {sets : List (List Int)} {hs : List (Option Addr × Nat × Nat)} {k : Nat} {s : List Int} {x : Option Addr × Nat × Nat} (h : RowsAt S wr sets hs k) (hk : sets[k]? = some s) (h2 : Rd wr (SI S wr) x.1 x.2.1 (srtS s)) (h3 : Hd x.2.1 x.2.2) : RowsAt S wr sets (hs.set k x) (k + 1) := by
  refine ⟨by simp [h.1], fun i t hi ht => ?_⟩
  by_cases e : i = k
  · subst e
    rw [hk] at ht; injection ht with ht; subst ht
    refine ⟨x, ?_, h2, h3⟩
    rw [List.getElem?_set_self]
    have := (List.getElem?_eq_some_iff.1 hk).1
    rw [h.1]; exact this
  · obtain ⟨y, h4, h5⟩ := h.2 i t (by omega) ht
    exact ⟨y, by rw [List.getElem?_set_ne (by omega)]; exact h4, h5⟩

set_option maxRecDepth 100000 in
set_option maxHeartbeats 2000000 in
theorem sortedSets_c (S : Nat → Prop) (A : Option Addr) (n c : Nat) (sets : List (List Int)) (w : World) (hS : ∀ b, S b → b < w.heap.size) (hA : RdV w S A n sets) (hn : n ≤ 1000000) (hs : ∀ s ∈ sets, s.length ≤ 1000000) :
    Calls Try.prog 63 #[.slice A n c] w fun e w' => ∃ A', e = .returned (.slice A' n n) ∧ RdV w' (SV S w') A' n (sets.map srtS) ∧ Below w.heap.size w w' := by
  have HL := Lib.hid hA.len
  have HS := Lib.hid hs; clear hs
  go_enter Try.func63, Try.ntmps63
  go_wp2_with (refine mkG elt_row rfl _ _ rfl w w.heap.size n _ _ (by rfl) (by rfl) (by rfl) (by rfl) (by omega) (Nat.le_refl _) ?_; intro w1 ho1 hb1 hlt1)
  have hsz1 := hb1.size
  have ho1' : Ow 29 1 w1 w.heap.size (some ⟨w.heap.size, 0, none⟩) n n (hcs (List.replicate n (none, 0, 0))) := by
    have e : (madeCells (Value.slice none 0 0).cells (n * 1)).toList = hcs (List.replicate n (none, 0, 0)) := by
      rw [show (Value.slice none 0 0).cells = #[Value.slice none 0 0] from rfl, toList_madeCells_one]
      simp [hcs, hv]
    rw [← e]; exact ho1
  clear ho1
  go_loopw [11] (fun i wr => ∃ (k : Nat) (hs : List (Option Addr × Nat × Nat)), k ≤ n ∧ i = .int .i64 k ∧ Ow 29 1 wr w.heap.size (some ⟨w.heap.size, 0, none⟩) n n (hcs hs) ∧ RowsAt S wr sets hs k ∧ Below w.heap.size w wr) (fun i _ => n - (intOf i).toNat)
  case atStart => exact ⟨0, _, by omega, rfl, ho1', ⟨by simp [HL.out], fun i s hi => by omega⟩, hb1⟩
  case round =>
    obtain ⟨k, hs, hk, rfl, hor, hrw, hbr⟩ := hrel
    clear ho1'
    have hszr := hbr.size
    have hrl := Lib.hid hrw.1
    have hglt := (hor.lt _ _ _ rfl).2
    by_cases hlt : k < n
    · obtain ⟨s, hsk⟩ := at_some sets k (by have := HL.out; omega)
      obtain ⟨b, o, rfl, _, hc⟩ := hA.pos (by omega)
      obtain ⟨cs, ⟨A1, n1, c1, rfl, hA1, hd1⟩, hcc⟩ := hc k s hsk
      have g0 := cell_call (hcc 0 _ rfl) hbr
      rw [Nat.mul_one, Nat.add_zero] at g0
      have kS : Kept S w wr := fun b hb => hbr.block b (hS b hb)
      have hA1r : Rd wr (lo wr.heap.size) A1 n1 s := hA1.mono (fun b hb => Nat.lt_of_lt_of_le (hS b hb) hszr) kS
      have hl1 := hA1.len
      have hn1 : n1 ≤ 1000000 := by have := HS.out s (List.mem_of_getElem? hsk); omega
      have HSK := Lib.hid hsk; have HL1 := Lib.hid hl1
      clear hsk hc hcc hl1
      have kz : (0 : Int) ≤ (k : Int) := by omega
      have kn : (k : Int) < (n : Int) := by omega
      have HI := Lib.hid (isSorted_c A1 n1 c1 s wr hA1r (by omega))
      cases hri : riseB s with
      | true =>
        rw [hri] at HI
        have HRI := Lib.hid hri; clear hri
        go_wp2_with fail
        refine HI.out.mono ?_
        rintro e w2 ⟨rfl, d, rfl⟩
        have cg := hor.cell (j := k) (x := hv (hs.getD k (none, 0, 0))) (by have := hrl.out; have := HL.out; simp [hcs, List.getElem?_map, List.getD_eq_getElem?_getD, List.getElem?_eq_getElem (show k < hs.length by omega)])
        have fg := hor.frozen k
        go_wp2
        go_roundw
        case rel =>
          refine ⟨k + 1, hs.set k (A1, n1, c1), by omega, by go_num, ?_, ?_, (below_drewN hbr d).setCell (by simp) _⟩
          · rw [← hcs_set]; exact (hor.drewN d).stored k (hv (A1, n1, c1))
          · have kp : Kept (SI S wr) wr ((wr.drewN d).setCell ⟨w.heap.size, k, none⟩ (.slice A1 n1 c1)) := fun b hb => Below.heap_setCell (wr.drewN d) _ _ b (by
              rcases hb with hb | ⟨cs, fr, hb⟩
              · have := hS b hb; dsimp only; omega
              · intro e; dsimp only at e; subst e
                obtain ⟨_, _, _, cur, hh⟩ := hor.blk _ rfl
                rw [hb] at hh; injection hh with hh; injection hh with _ h2; revert h2; decide)
            have h1 : Rd w S A1 n1 (srtS s) := by unfold srtS; rw [if_pos HRI.out]; exact hA1
            have kp2 : Kept S w ((wr.drewN d).setCell ⟨w.heap.size, k, none⟩ (.slice A1 n1 c1)) := fun b hb => (kp b (.inl hb)).trans (hbr.block b (hS b hb))
            exact (hrw.keep kp).next HSK.out (x := (A1, n1, c1)) (h1.mono (fun b hb => .inl hb) kp2) hd1
        case measure => simp [intOf]; omega
      | false =>
        rw [hri] at HI
        have HRI := Lib.hid hri; clear hri
        go_wp2_with fail
        refine HI.out.mono ?_
        rintro e w2 ⟨rfl, d, rfl⟩
        go_wp2_with fail
        refine (clone_c A1 n1 c1 s (wr.drewN d) hA1r (by omega)).mono ?_
        rintro e w3 ⟨A3, c3, rfl, ho3, hb3⟩
        replace hb3 : Below wr.heap.size wr w3 := ⟨hb3.os, hb3.tape, hb3.output, hb3.size, hb3.block⟩
        replace ho3 : Ow 3 1 w3 wr.heap.size A3 n1 c3 (ic s) := ho3
        have hs3 := hb3.size
        go_wp2_with fail
        refine (sort_c A3 n1 c3 wr.heap.size s w3 ho3 hs3 (by omega)).mono ?_
        rintro e w4 ⟨rfl, ho4, hb4⟩
        have hb4' : Below wr.heap.size wr w4 := hb3.trans hb4
        have hor4 := hor.call hb4'
        have cg := hor4.cell (j := k) (x := hv (hs.getD k (none, 0, 0))) (by have := hrl.out; have := HL.out; simp [hcs, List.getElem?_map, List.getD_eq_getElem?_getD, List.getElem?_eq_getElem (show k < hs.length by omega)])
        have fg := hor4.frozen k
        have hs4 := hb4'.size
        clear ho3 hb3 hb4 hs3
        go_wp2
        go_roundw
        case rel =>
          refine ⟨k + 1, hs.set k (A3, n1, c3), by omega, by go_num, ?_, ?_, (hbr.trans (hb4'.mono hszr)).setCell (by simp) _⟩
          · rw [← hcs_set]; exact hor4.stored k (hv (A3, n1, c3))
          · have hgc : ∀ b cs fr, w4.heap[b]? = some (.cells cs 3 fr) → b ≠ w.heap.size := by
              intro b cs fr hb e
              subst e
              obtain ⟨_, _, _, cur, hh⟩ := hor4.blk _ rfl
              rw [hb] at hh; injection hh with hh; injection hh with _ h2; revert h2; decide
            have kp : Kept (SI S wr) wr (w4.setCell ⟨w.heap.size, k, none⟩ (.slice A3 n1 c3)) := fun b hb => by
              have hbl := hb4'.block b (hb.lt hS hszr)
              rw [← hbl]
              refine Below.heap_setCell w4 _ _ b ?_
              rcases hb with hb | ⟨cs, fr, hb⟩
              · have := hS b hb; dsimp only; omega
              · exact hgc b cs fr (hbl.trans hb)
            have h1 : Rd w4 (SI S w4) A3 n1 (srtS s) := by
              unfold srtS; rw [if_neg (by rw [HRI.out]; simp)]
              refine ⟨ho4.rd.1, fun h0 => ?_⟩
              obtain ⟨b, o, e, _, hc⟩ := ho4.rd.2 h0
              obtain ⟨_, _, _, cur, hh⟩ := ho4.blk b (by rw [e]; rfl)
              exact ⟨b, o, e, .inr ⟨cur, _, hh⟩, hc⟩
            have kp2 : Kept (SI S w4) w4 (w4.setCell ⟨w.heap.size, k, none⟩ (.slice A3 n1 c3)) := fun b hb => Below.heap_setCell w4 _ _ b (by
              rcases hb with hb | ⟨cs, fr, hb⟩
              · have := hS b hb; dsimp only; omega
              · exact hgc b cs fr hb)
            refine (hrw.keep kp).next HSK.out (x := (A3, n1, c3)) (h1.mono (fun b hb => ?_) kp2) ho4.cap
            have := kp2 b hb
            rcases hb with hb | ⟨cs, fr, hb⟩
            · exact .inl hb
            · exact .inr ⟨cs, fr, this.trans hb⟩
        case measure => simp [intOf]; omega
    · go_wp2
      go_ret
      refine ⟨_, rfl, ⟨by simp [HL.out], fun h0 => ⟨w.heap.size, 0, rfl, .inr ?_, fun i x hx => ?_⟩⟩, hbr⟩
      · obtain ⟨_, _, _, cur, hh⟩ := hor.blk _ rfl
        exact ⟨cur, 29, _, hh, .inr rfl⟩
      · rw [List.getElem?_map] at hx
        obtain ⟨s, hs1, rfl⟩ := Option.map_eq_some_iff.1 hx
        obtain ⟨h, q1, q2, q3⟩ := hrw.2 i s (by have := (List.getElem?_eq_some_iff.1 hs1).1; have := HL.out; omega) hs1
        refine ⟨[hv h], ⟨h.1, h.2.1, h.2.2, rfl, q2.mono (fun b hb => ?_) (Kept.refl _ _), q3⟩, fun j v hv' => ?_⟩
        · rcases hb with hb | ⟨cs, fr, hb⟩
          · exact .inl hb
          · exact .inr ⟨cs, 3, fr, hb, .inl rfl⟩
        · match j, hv' with
          | 0, hv' =>
            simp at hv'; subst hv'
            have := hor.cell (j := i) (x := hv h) (by simp [hcs, q1])
            simpa using this

end Go.Proofs.Ytkoocipagndclaa
