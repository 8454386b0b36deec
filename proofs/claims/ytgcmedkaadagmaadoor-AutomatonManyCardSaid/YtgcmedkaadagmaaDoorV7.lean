/- The rows of all rules with their levels so far; walks: level. -/
import Derived.Test.YtgcmedkaadagmaaDoorV6
import Derived.Deep.RegionLaw
namespace Go.Proofs.YtgcmedkaadagmaaDoor
open Go.RowKit Go.Shelf

def nxL (rows : List (List (List Int))) (cls : List Int) (K met : Nat) : List Nat := (List.range K).map fun (c : Nat) => nextM rows cls met (c : Int)
theorem nxL_lt {rows : List (List (List Int))} (cls : List Int) (K met : Nat) (h : rows.length ≤ 64) : ∀ x ∈ nxL rows cls K met, x < 18446744073709551616 := fun x hx => by
  unfold nxL at hx
  obtain ⟨c, _, rfl⟩ := List.mem_map.1 hx
  exact bitsOf_lt64 _ h
theorem nxL_at (rows : List (List (List Int))) (cls : List Int) {K met c : Nat} (h : c < K) : (nxL rows cls K met)[c]? = some (nextM rows cls met (c : Int)) := by
  unfold nxL; rw [List.getElem?_map, List.getElem?_range h]; rfl
/-- A level's two cells: where its row lies, and its ends. -/
def LvAt (W : World) (D : Nat → Prop) (rows : List (List (List Int))) (cls : List Int) (K i : Nat) (cs : List Value) : Prop := ∃ nb, cs = [.slice (some ⟨nb, 0, none⟩) K K, .int .u64 (endsM rows i : Int)] ∧ D nb ∧ RdU W D (some ⟨nb, 0, none⟩) K (nxL rows cls K i)
/-- The rows of all rules: block P, with levels. D: blocks that nobody writes into any more. -/
structure RO (W : World) (B : Nat) (D : Nat → Prop) (P : Nat) (r : WV) (rows : List (List (List Int))) (cls : List Int) (la : Option Addr) (ln lc : Nat) : Prop where
  hP : Bk W P 150 (r.cells la ln lc)
  bP : B ≤ P
  nP : ¬ D P
  dl : ∀ b, D b → b < W.heap.size
  iw : IsW W D r rows cls
  lv : ∃ css : List (List Value), Ow 205 2 W B la ln lc css.flatten ∧ css.length = ln ∧ (∀ cs ∈ css, cs.length = 2) ∧ ∀ (i : Nat) (cs : List Value), css[i]? = some cs → LvAt W D rows cls r.K i cs
  nl : ∀ b, la.map (·.block) = some b → ¬ D b
  hl : ln ≤ 1000000
theorem LvAt.mono {W W' : World} {D D' : Nat → Prop} {rows : List (List (List Int))} {cls : List Int} {K i : Nat} {cs : List Value} (h : LvAt W D rows cls K i cs) (hD : ∀ b, D b → D' b) (hk : Kept D W W') : LvAt W' D' rows cls K i cs := by
  obtain ⟨nb, h1, h2, h3⟩ := h
  exact ⟨nb, h1, hD nb h2, h3.mono hD hk⟩
/-- What others do elsewhere. -/
theorem RO.keep {W W' : World} {B : Nat} {D D' : Nat → Prop} {P : Nat} {r : WV} {rows : List (List (List Int))} {cls : List Int} {la : Option Addr} {ln lc : Nat} (h : RO W B D P r rows cls la ln lc)
    (hk : ∀ b, D b ∨ b = P ∨ la.map (·.block) = some b → W'.heap[b]? = W.heap[b]?) (hD : ∀ b, D b → D' b) (hn : ∀ b, D' b → b < W'.heap.size ∧ b ≠ P ∧ la.map (·.block) ≠ some b) : RO W' B D' P r rows cls la ln lc := by
  have kD : Kept D W W' := fun b hb => hk b (.inl hb)
  refine ⟨h.hP.kept (S := fun b => b = P) (fun b hb => hk b (.inr (.inl hb))) rfl, h.bP, fun hp => (hn P hp).2.1 rfl, fun b hb => (hn b hb).1, h.iw.mono hD kD, ?_, fun b hb hd => (hn b hd).2.2 hb, h.hl⟩
  obtain ⟨css, h1, h2, h3, h4⟩ := h.lv
  refine ⟨css, h1.keep fun b e => hk b (.inr (.inr (by rw [e]; rfl))), h2, h3, fun i cs hc => (h4 i cs hc).mono hD kD⟩
/-- What a step does beside the rows: D grows by new blocks; all that was there stays, but P and the levels. -/
structure Stp (W W' : World) (B : Nat) (D D' : Nat → Prop) (P : Nat) (la la' : Option Addr) : Prop where
  bl : Below B W W'
  kd : Kept D W W'
  up : ∀ b, D b → D' b
  new : ∀ b, D' b → D b ∨ W.heap.size ≤ b
  oth : ∀ b, b < W.heap.size → b ≠ P → la.map (·.block) ≠ some b → W'.heap[b]? = W.heap[b]?
  lb : ∀ b, la'.map (·.block) = some b → la.map (·.block) = some b ∨ W.heap.size ≤ b
theorem Stp.refl (W : World) (B : Nat) (D : Nat → Prop) (P : Nat) (la : Option Addr) : Stp W W B D D P la la := ⟨Below.refl _ _, Kept.refl _ _, fun _ h => h, fun _ h => .inl h, fun _ _ _ _ => rfl, fun _ h => .inl h⟩
theorem Stp.trans {W W1 W2 : World} {B : Nat} {D D1 D2 : Nat → Prop} {P : Nat} {la la1 la2 : Option Addr} (h : Stp W W1 B D D1 P la la1) (k : Stp W1 W2 B D1 D2 P la1 la2) : Stp W W2 B D D2 P la la2 := by
  have hs := h.bl.size
  refine ⟨h.bl.trans k.bl, fun b hb => (k.kd b (h.up b hb)).trans (h.kd b hb), fun b hb => k.up b (h.up b hb), fun b hb => ?_, fun b hb hp hl => ?_, fun b hb => ?_⟩
  · rcases k.new b hb with h1 | h1
    · exact h.new b h1
    · right; omega
  · refine (k.oth b (by omega) hp (fun e => ?_)).trans (h.oth b hb hp hl)
    rcases h.lb b e with h1 | h1
    · exact hl h1
    · omega
  · rcases k.lb b hb with h1 | h1
    · exact h.lb b h1
    · right; omega
theorem Stp.drewN {W W' : World} {B : Nat} {D D' : Nat → Prop} {P : Nat} {la la' : Option Addr} (h : Stp W W' B D D' P la la') (n : Nat) : Stp W (W'.drewN n) B D D' P la la' := ⟨below_drewN h.bl n, h.kd, h.up, h.new, h.oth, h.lb⟩

section
variable {W W1 W2 : World} {B : Nat} {D : Nat → Prop} {P : Nat} {r : WV} {rows : List (List (List Int))} {cls : List Int} {la : Option Addr} {ln lc : Nat}
theorem RO.lt (h : RO W B D P r rows cls la ln lc) : P < W.heap.size := h.hP.lt
theorem RO.ltl (h : RO W B D P r rows cls la ln lc) : ∀ b, la.map (·.block) = some b → b < W.heap.size ∧ B ≤ b ∧ b ≠ P := fun b hb => by
  obtain ⟨css, h1, _⟩ := h.lv
  obtain ⟨h2, h3, h4, cur, h5⟩ := h1.blk b hb
  refine ⟨h3, h2, fun e => ?_⟩
  subst e
  have := h.hP
  unfold Bk at this; rw [this] at h5; injection h5 with h5; injection h5 with _ h6; revert h6; decide
theorem RO.call (h : RO W B D P r rows cls la ln lc) (hb : Below W.heap.size W W1) : RO W1 B D P r rows cls la ln lc := by
  refine h.keep (fun b hb' => hb.block b ?_) (fun _ h => h) (fun b hd => ?_)
  · rcases hb' with h1 | h1 | h1
    · exact h.dl b h1
    · subst h1; exact h.lt
    · exact (h.ltl b h1).1
  · refine ⟨Nat.lt_of_lt_of_le (h.dl b hd) hb.size, fun e => h.nP (e ▸ hd), fun e => h.nl b e hd⟩
/-- One level more: its row is new, it is put behind the others, and the rows' block says so. -/
theorem RO.grow (h : RO W B D P r rows cls la ln lc) (hB : B ≤ W.heap.size) {nb : Nat} (h1 : Below W.heap.size W W1) (ho : Ow 50 1 W1 W.heap.size (some ⟨nb, 0, none⟩) r.K r.K (uc (nxL rows cls r.K ln))) (hr : rows.length ≤ 64)
    {w2 : World} {la' : Option Addr} {lc' : Nat} (h2 : Below W1.heap.size W1 w2) (hl' : ln + 1 ≤ 1000000)
    {css : List (List Value)} (c2 : css.length = ln) (c3 : ∀ cs ∈ css, cs.length = 2) (c4 : ∀ (i : Nat) (cs : List Value), css[i]? = some cs → LvAt W D rows cls r.K i cs)
    (c1' : Ow 205 2 W2 B la' (ln + 1) lc' (css.flatten ++ [.slice (some ⟨nb, 0, none⟩) r.K r.K, .int .u64 (endsM rows ln : Int)])) (hg : w2.grownBy W2 (la.map (·.block))) (hat : la'.map (·.block) = la.map (·.block) ∨ la'.map (·.block) = some w2.heap.size) :
    RO (W2.setCell ⟨P, 4, none⟩ (.slice la' (ln + 1) lc')) B (fun b => D b ∨ b = nb) P r rows cls la' (ln + 1) lc' ∧ Stp W (W2.setCell ⟨P, 4, none⟩ (.slice la' (ln + 1) lc')) B D (fun b => D b ∨ b = nb) P la la' := by
  obtain ⟨nb0, hnb, hnl⟩ := (show ∃ g, (some ⟨nb, 0, none⟩ : Option Addr) = some ⟨g, 0, none⟩ ∧ W.heap.size ≤ nb ∧ nb < W1.heap.size from ⟨nb, rfl, (ho.lt nb 0 none rfl).1, (ho.lt nb 0 none rfl).2⟩)
  have s1 := h1.size
  have s2 := h2.size
  have s3 := hg.size
  have hlt := h.lt
  have key : ∀ b, b < W.heap.size → b ≠ P → la.map (·.block) ≠ some b → (W2.setCell ⟨P, 4, none⟩ (.slice la' (ln + 1) lc')).heap[b]? = W.heap[b]? := fun b hb hp hl => by
    rw [Below.heap_setCell W2 ⟨P, 4, none⟩ _ b hp, hg.block b (by omega) (fun e => hl e.symm), h2.block b (by omega), h1.block b hb]
  have kD : Kept D W (W2.setCell ⟨P, 4, none⟩ (.slice la' (ln + 1) lc')) := fun b hb => key b (h.dl b hb) (fun e => h.nP (e ▸ hb)) (fun e => h.nl b e hb)
  have hnbP : nb ≠ P := by omega
  have hnbl : la.map (·.block) ≠ some nb := fun e => by have := (h.ltl nb e).1; omega
  have hPk : Bk W2 P 150 (r.cells la ln lc) := by
    have e1 : W2.heap[P]? = W.heap[P]? := by
      rw [hg.block P (by omega) (fun e => (h.ltl P e.symm).2.2 rfl), h2.block P (by omega), h1.block P hlt]
    exact e1.trans h.hP
  have hla : ∀ b, la'.map (·.block) = some b → la.map (·.block) = some b ∨ w2.heap.size ≤ b := fun b hb => by
    rcases hat with e | e
    · left; rw [← e]; exact hb
    · right; rw [e] at hb; injection hb with hb; omega
  have hlaP : ∀ b, la'.map (·.block) = some b → b ≠ P ∧ b ≠ nb ∧ ¬ D b := fun b hb => by
    rcases hla b hb with e | e
    · exact ⟨(h.ltl b e).2.2, fun e2 => hnbl (e2 ▸ e), h.nl b e⟩
    · exact ⟨by omega, by omega, fun hd => by have := h.dl b hd; omega⟩
  have hnbk : (W2.setCell ⟨P, 4, none⟩ (.slice la' (ln + 1) lc')).heap[nb]? = W1.heap[nb]? := by
    rw [Below.heap_setCell W2 ⟨P, 4, none⟩ _ nb hnbP, hg.block nb (by omega) (fun e => hnbl e.symm), h2.block nb hnl.2]
  have hsz : (W2.setCell ⟨P, 4, none⟩ (.slice la' (ln + 1) lc')).heap.size = W2.heap.size := by simp
  refine ⟨⟨hPk.set_ 4 _, h.bP, ?_, ?_, h.iw.mono (fun b hb => .inl hb) kD, ⟨css ++ [[.slice (some ⟨nb, 0, none⟩) r.K r.K, .int .u64 (endsM rows ln : Int)]], ?_, by simp [c2], ?_, ?_⟩, ?_, hl'⟩, ⟨?_, kD, fun b hb => .inl hb, ?_, key, ?_⟩⟩
  · rintro (h1 | h1)
    · exact h.nP h1
    · omega
  · rintro b (hb | rfl)
    · rw [hsz]; have := h.dl b hb; omega
    · rw [hsz]; omega
  · rw [List.flatten_append]
    have : [[Value.slice (some ⟨nb, 0, none⟩) r.K r.K, Value.int .u64 (endsM rows ln : Int)]].flatten = [Value.slice (some ⟨nb, 0, none⟩) r.K r.K, Value.int .u64 (endsM rows ln : Int)] := rfl
    rw [this]
    exact c1'.setOther (fun b e => (hlaP b (by rw [e]; rfl)).1) _
  · intro cs hcs
    rcases List.mem_append.1 hcs with hcs | hcs
    · exact c3 cs hcs
    · rw [List.mem_singleton] at hcs; rw [hcs]; rfl
  · intro i cs hcs
    by_cases hi : i < css.length
    · rw [List.getElem?_append_left hi] at hcs
      exact (c4 i cs hcs).mono (fun b hb => .inl hb) kD
    · have hi2 : i = ln := by
        have := (List.getElem?_eq_some_iff.1 hcs).1
        simp at this; omega
      subst hi2
      rw [List.getElem?_append_right (by omega), c2, Nat.sub_self] at hcs
      simp at hcs; subst hcs
      refine ⟨nb, rfl, .inr rfl, ?_⟩
      have := ho.rdU (nxL_lt cls r.K i hr) (fun b => b = nb) (fun b e => by injection e with e; injection e with e; exact e.symm)
      exact this.mono (fun b hb => .inr hb) (fun b hb => by subst hb; exact hnbk)
  · rintro b hb (h1 | h1)
    · exact (hlaP b hb).2.2 h1
    · exact (hlaP b hb).2.1 h1
  · refine (Below.setCell ?_ (p := ⟨P, 4, none⟩) h.bP _)
    refine (((h1.mono hB).trans (h2.mono (by omega))).grown hg (by omega) (fun b hb => (h.ltl b hb).2.1))
  · rintro b (hb | rfl)
    · exact .inl hb
    · exact .inr hnl.1
  · intro b hb
    rcases hla b hb with e | e
    · exact .inl e
    · right; omega
end

end Go.Proofs.YtgcmedkaadagmaaDoor
