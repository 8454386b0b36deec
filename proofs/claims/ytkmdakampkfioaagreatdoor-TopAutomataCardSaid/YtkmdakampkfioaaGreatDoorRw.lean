/- Plain words: fonts, lookups, runs, and what lookups do with runs, by definition on lists. -/
import Derived.Test.YtkmdakampkfioaaGreatDoorProg
import Derived.WalkKit
import Derived.WalkSpells
import Derived.WalkLawsBesides
import Derived.Deep.Draws
import Derived.Deep.AppendLies
import Derived.Deep.QuietTactic
import Derived.BigQuiet
import Derived.Maps.AppendAt
import Derived.Lib.Hide
import Derived.Shelf.Abstract
import Derived.RangeFuncNested
import Derived.OwnWalkIn
import Derived.Handy
import Derived.Deep.Slices
namespace Go.Proofs.YtkmdakampkfioaaGreatDoor
structure Itm where
 g : Int
 c : Int
 f : Int
 a : Int
 x : Int
 y : Int
 deriving DecidableEq, Inhabited
structure Rul where
 back : List (List Int)
 inn : List (List Int)
 ahead : List (List Int)
 out : List Int
 calls : List (Int × Int)
 x : Int
 deriving Inhabited
structure Lk where
 kind : Int
 ign : Bool
 rules : List Rul
 deriving Inhabited
structure Anc where
 k : Int
 c : Int
 x : Int
 y : Int
 deriving Inhabited
structure Gly where
 mark : Bool
 anc : List Anc
 deriving Inhabited
structure Fnt where
 gly : List Gly
 lks : List Lk
 deriving Inhabited
def setG (it : Itm) (g : Int) : Itm := { it with g := g }
def lkAt (F : Fnt) (n : Int) : Option Lk := if n < 0 then none else F.lks[n.toNat]?
open Go.RowKit
def lo (B : Nat) : Nat → Prop := fun b => b < B
def Kept (S : Nat → Prop) (w w' : World) : Prop := ∀ b, S b → w'.heap[b]? = w.heap[b]?
theorem Kept.cell {S : Nat → Prop} {w w' : World} (h : Kept S w w') {p : Addr} (hp : S p.block) : w'.cell? p = w.cell? p := World.cell?_of_block (h _ hp)
theorem Kept.refl (S : Nat → Prop) (w : World) : Kept S w w := fun _ _ => rfl
theorem kept_below {B : Nat} {w w' : World} (h : Below B w w') : Kept (lo B) w w' := fun b hb => h.block b hb
def SlE {α : Type} (k : Nat) (E : List Value → α → Prop) (w : World) (S : Nat → Prop) (A : Option Addr) (n : Nat) (xs : List α) : Prop :=
 xs.length = n ∧ (0 < n → ∃ b o, A = some ⟨b, o, none⟩ ∧ S b ∧ ∀ (i : Nat) (x : α), xs[i]? = some x → ∃ cs, E cs x ∧ ∀ (j : Nat) (v : Value), cs[j]? = some v → w.cell? ⟨b, o + i * k + j, none⟩ = some v)
def Hd (n c : Nat) : Prop := n ≤ c ∧ c ≤ 9223372036854775807
section
variable {α : Type} {k : Nat} {E E' : List Value → α → Prop} {w w' : World} {S S' : Nat → Prop} {A : Option Addr} {n : Nat} {xs : List α}
theorem SlE.len (h : SlE k E w S A n xs) : xs.length = n := h.1
theorem SlE.nil : SlE k E w S A 0 [] := ⟨rfl, fun h => absurd h (by omega)⟩
theorem SlE.mono (h : SlE k E w S A n xs) (hS : ∀ b, S b → S' b) (hk : Kept S w w') (hE : ∀ cs x, E cs x → E' cs x) : SlE k E' w' S' A n xs :=
 ⟨h.1, fun hn => by
  obtain ⟨b, o, e, hb, hc⟩ := h.2 hn;refine ⟨b, o, e, hS b hb, fun i x hx => ?_⟩;obtain ⟨cs, h1, h2⟩ := hc i x hx;exact ⟨cs, hE cs x h1, fun j v hv => (hk.cell (p := ⟨b, o + i * k + j, none⟩) hb).trans (h2 j v hv)⟩⟩
theorem SlE.pos (h : SlE k E w S A n xs) (hn : 0 < n) : ∃ b o, A = some ⟨b, o, none⟩ ∧ S b ∧ ∀ (i : Nat) (x : α), xs[i]? = some x → ∃ cs, E cs x ∧ ∀ (j : Nat) (v : Value), cs[j]? = some v → w.cell? ⟨b, o + i * k + j, none⟩ = some v := h.2 hn
theorem SlE.take (h : SlE k E w S A n xs) (m : Nat) (hm : m ≤ n) : SlE k E w S A m (xs.take m) :=
 ⟨by rw [List.length_take, h.1]; omega, fun h0 => by
  obtain ⟨b, o, e, hb, hc⟩ := h.2 (by omega);refine ⟨b, o, e, hb, fun i x hx => hc i x ?_⟩;rw [List.getElem?_take] at hx;split at hx
  ·exact hx
  ·cases hx⟩
end
def EInt (cs : List Value) (x : Int) : Prop := cs = [.int .i64 x]
def Rd (w : World) (S : Nat → Prop) (A : Option Addr) (n : Nat) (xs : List Int) : Prop := SlE 1 EInt w S A n xs
def ERow (w : World) (S : Nat → Prop) (cs : List Value) (xs : List Int) : Prop := ∃ A n c, cs = [.slice A n c] ∧ Rd w S A n xs ∧ Hd n c
def RdV (w : World) (S : Nat → Prop) (A : Option Addr) (n : Nat) (xss : List (List Int)) : Prop := SlE 1 (ERow w S) w S A n xss
def ECall (cs : List Value) (p : Int × Int) : Prop := cs = [.int .i64 p.1, .int .i64 p.2] ∧ -9223372036854775808 ≤ p.1 ∧ p.1 ≤ 9223372036854775807
def RdC (w : World) (S : Nat → Prop) (A : Option Addr) (n : Nat) (xs : List (Int × Int)) : Prop := SlE 2 ECall w S A n xs
def ERul (w : World) (S : Nat → Prop) (cs : List Value) (r : Rul) : Prop :=
 ∃ A1 n1 c1 A2 n2 c2 A3 n3 c3 A4 n4 c4 A5 n5 c5, cs = [.slice A1 n1 c1, .slice A2 n2 c2, .slice A3 n3 c3, .slice A4 n4 c4, .slice A5 n5 c5, .int .i64 r.x] ∧
  RdV w S A1 n1 r.back ∧ RdV w S A2 n2 r.inn ∧ RdV w S A3 n3 r.ahead ∧ Rd w S A4 n4 r.out ∧ RdC w S A5 n5 r.calls ∧ Hd n1 c1 ∧ Hd n2 c2 ∧ Hd n3 c3 ∧ Hd n4 c4 ∧ Hd n5 c5
def RdR (w : World) (S : Nat → Prop) (A : Option Addr) (n : Nat) (xs : List Rul) : Prop := SlE 6 (ERul w S) w S A n xs
def ELk (w : World) (S : Nat → Prop) (cs : List Value) (l : Lk) : Prop := ∃ A n c, cs = [.int .i64 l.kind, .bool l.ign, .slice A n c] ∧ RdR w S A n l.rules ∧ Hd n c
def RdL (w : World) (S : Nat → Prop) (A : Option Addr) (n : Nat) (xs : List Lk) : Prop := SlE 3 (ELk w S) w S A n xs
def EAnc (cs : List Value) (a : Anc) : Prop := cs = [.int .i64 a.k, .int .i64 a.c, .int .i64 a.x, .int .i64 a.y]
def RdA (w : World) (S : Nat → Prop) (A : Option Addr) (n : Nat) (xs : List Anc) : Prop := SlE 4 EAnc w S A n xs
def EGly (w : World) (S : Nat → Prop) (cs : List Value) (g : Gly) : Prop := ∃ u0 u1 u3 u4 u5 A n c u7 u8, cs = [u0, u1, .bool g.mark, u3, u4, u5, .slice A n c, u7, u8] ∧ RdA w S A n g.anc ∧ Hd n c
def RdG (w : World) (S : Nat → Prop) (A : Option Addr) (n : Nat) (xs : List Gly) : Prop := SlE 9 (EGly w S) w S A n xs
section
variable {w w' : World} {S S' : Nat → Prop} {A : Option Addr} {n : Nat}
theorem Rd.mono {xs : List Int} (h : Rd w S A n xs) (hS : ∀ b, S b → S' b) (hk : Kept S w w') : Rd w' S' A n xs := SlE.mono h hS hk fun _ _ h => h
theorem RdC.mono {xs : List (Int × Int)} (h : RdC w S A n xs) (hS : ∀ b, S b → S' b) (hk : Kept S w w') : RdC w' S' A n xs := SlE.mono h hS hk fun _ _ h => h
theorem RdA.mono {xs : List Anc} (h : RdA w S A n xs) (hS : ∀ b, S b → S' b) (hk : Kept S w w') : RdA w' S' A n xs := SlE.mono h hS hk fun _ _ h => h
theorem RdV.mono {xs : List (List Int)} (h : RdV w S A n xs) (hS : ∀ b, S b → S' b) (hk : Kept S w w') : RdV w' S' A n xs :=
 SlE.mono h hS hk fun _ _ ⟨a, m, c, e, h1, h2⟩ => ⟨a, m, c, e, h1.mono hS hk, h2⟩
theorem ERul.mono {cs : List Value} {r : Rul} (h : ERul w S cs r) (hS : ∀ b, S b → S' b) (hk : Kept S w w') : ERul w' S' cs r := by
 obtain ⟨A1, n1, c1, A2, n2, c2, A3, n3, c3, A4, n4, c4, A5, n5, c5, e, h1, h2, h3, h4, h5, hd⟩ := h;exact ⟨A1, n1, c1, A2, n2, c2, A3, n3, c3, A4, n4, c4, A5, n5, c5, e, h1.mono hS hk, h2.mono hS hk, h3.mono hS hk, h4.mono hS hk, h5.mono hS hk, hd⟩
theorem RdR.mono {xs : List Rul} (h : RdR w S A n xs) (hS : ∀ b, S b → S' b) (hk : Kept S w w') : RdR w' S' A n xs := SlE.mono h hS hk fun _ _ h => h.mono hS hk
theorem RdL.mono {xs : List Lk} (h : RdL w S A n xs) (hS : ∀ b, S b → S' b) (hk : Kept S w w') : RdL w' S' A n xs :=
 SlE.mono h hS hk fun _ _ ⟨a, m, c, e, h1, h2⟩ => ⟨a, m, c, e, h1.mono hS hk, h2⟩
theorem RdG.mono {xs : List Gly} (h : RdG w S A n xs) (hS : ∀ b, S b → S' b) (hk : Kept S w w') : RdG w' S' A n xs :=
 SlE.mono h hS hk fun _ _ ⟨u0, u1, u3, u4, u5, a, m, c, u7, u8, e, h1, h2⟩ => ⟨u0, u1, u3, u4, u5, a, m, c, u7, u8, e, h1.mono hS hk, h2⟩
end
structure FV where
 u0 : Int
 ga : Option Addr
 gn : Nat
 gc : Nat
 ca : Option Addr
 cn : Nat
 cc : Nat
 la : Option Addr
 ln : Nat
 lc : Nat
 a4 : Option Addr
 n4 : Nat
 c4 : Nat
 a5 : Option Addr
 n5 : Nat
 c5 : Nat
 a6 : Option Addr
 n6 : Nat
 c6 : Nat
 a7 : Option Addr
 n7 : Nat
 c7 : Nat
 a8 : Option Addr
 n8 : Nat
 c8 : Nat
abbrev FV.cells (f : FV) : Array Value := #[.int .i64 f.u0, .slice f.ga f.gn f.gc, .slice f.ca f.cn f.cc, .slice f.la f.ln f.lc, .slice f.a4 f.n4 f.c4, .slice f.a5 f.n5 f.c5, .slice f.a6 f.n6 f.c6, .slice f.a7 f.n7 f.c7, .slice f.a8 f.n8 f.c8]
def IsF (w : World) (S : Nat → Prop) (f : FV) (F : Fnt) : Prop := RdG w S f.ga f.gn F.gly ∧ RdL w S f.la f.ln F.lks ∧ Hd f.gn f.gc ∧ Hd f.ln f.lc
theorem IsF.mono {w w' : World} {S S' : Nat → Prop} {f : FV} {F : Fnt} (h : IsF w S f F) (hS : ∀ b, S b → S' b) (hk : Kept S w w') : IsF w' S' f F := ⟨h.1.mono hS hk, h.2.1.mono hS hk, h.2.2⟩
theorem lo_mono {B B' : Nat} (h : B ≤ B') : ∀ b, lo B b → lo B' b := fun _ hb => Nat.lt_of_lt_of_le hb h
def Bk (w : World) (g : Nat) (t : TypeId) (cs : Array Value) : Prop := w.heap[g]? = some (.cells cs t (0, 0))
section
variable {w w' : World} {g : Nat} {t : TypeId} {cs : Array Value}
theorem Bk.lt (h : Bk w g t cs) : g < w.heap.size := (Array.getElem?_eq_some_iff.1 h).1
theorem Bk.cell (h : Bk w g t cs) (i : Nat) : w.cell? ⟨g, i, none⟩ = cs[i]? := by simp [World.cell?, show w.heap[g]? = _ from h]
theorem Bk.frozen (h : Bk w g t cs) (i : Nat) : w.frozen? ⟨g, i, none⟩ = false := by simp [World.frozen?, show w.heap[g]? = _ from h]
theorem Bk.new (w : World) (t : TypeId) (cs : Array Value) : Bk (w.alloc (.cells cs t)) w.heap.size t cs := heap_alloc_new w _
theorem Bk.alloc (h : Bk w g t cs) (o : Obj) : Bk (w.alloc o) g t cs := (Below.heap_alloc w o g h.lt).trans h
theorem Bk.set_ (h : Bk w g t cs) (i : Nat) (u : Value) : Bk (w.setCell ⟨g, i, none⟩ u) g t (cs.setIfInBounds i u) := by
 unfold Bk at h ⊢;simp [World.setCell, Array.getElem?_modify, h]
theorem Bk.far (h : Bk w g t cs) {p : Addr} (hp : g ≠ p.block) (u : Value) : Bk (w.setCell p u) g t cs := (Below.heap_setCell w p u g hp).trans h
theorem Bk.below {B : Nat} (h : Bk w g t cs) (hb : Below B w w') (hg : g < B) : Bk w' g t cs := (hb.block g hg).trans h
theorem Bk.grown {row : Option Nat} (h : Bk w g t cs) (hb : w.grownBy w' row) (hg : some g ≠ row) : Bk w' g t cs := (hb.block g h.lt hg).trans h
theorem Bk.kept {S : Nat → Prop} (h : Bk w g t cs) (hb : Kept S w w') (hg : S g) : Bk w' g t cs := (hb g hg).trans h
end
theorem below_drewN {B : Nat} {a w : World} (h : Below B a w) (n : Nat) : Below B a (w.drewN n) := ⟨h.os, h.tape, h.output, h.size, h.block⟩
theorem below_call {w0 w w' : World} (h : Below w0.heap.size w0 w) (k : Below w.heap.size w w') : Below w0.heap.size w0 w' := h.trans (k.mono h.size)
theorem below_lit (w0 w : World) (h : Below w0.heap.size w0 w) (o : Obj) : Below w0.heap.size w0 (w.alloc o) := h.alloc h.size o
theorem at_some {α : Type} (xs : List α) (k : Nat) (h : k < xs.length) : ∃ x, xs[k]? = some x := ⟨xs[k], List.getElem?_eq_getElem h⟩
theorem ret_int {k : IntKind} {a b : Int} (h : a = b) : Ending.returned (.int k a) = .returned (.int k b) := by rw [h]
open Go.RowKit Go.Shelf
theorem cell_lt {w : World} {p : Addr} {v : Value} (h : w.cell? p = some v) : p.block < w.heap.size := by
 unfold World.cell? at h;rcases Nat.lt_or_ge p.block w.heap.size with hlt | hge
 ·exact hlt
 ·rw [Array.getElem?_eq_none hge] at h; simp at h
theorem cell_alloc {w : World} {p : Addr} {v : Value} (h : w.cell? p = some v) (o : Obj) : (w.alloc o).cell? p = some v := (World.cell?_alloc_lt w o p (cell_lt h)).trans h
def Ow (e k : Nat) (w : World) (base : Nat) (A : Option Addr) (n c : Nat) (cs : List Value) : Prop := w.ownsRow base e k (.slice A n c) n cs
structure ElT (t e k by' : Nat) (z : Value) : Prop where
 ht : Tryz.prog.underlying t = some (.slice e)
 hi : (Tryz.prog.info? e).map (fun i => (i.zero, i.size, i.bytes)) = some (some z, k, by')
 hz : z.cells.size = k
 hk : 0 < k
 hb : 0 < by'
theorem elt_int : ElT 22 3 1 8 (.int .i64 0) := ⟨Tryz.underlying22, by kernel_rfl, rfl, by decide, by decide⟩
theorem elt_row : ElT 41 22 1 24 (.slice none 0 0) := ⟨Tryz.underlying41, by kernel_rfl, rfl, by decide, by decide⟩
theorem elt_look : ElT 28 40 3 40 (.agg #[.int .i64 0, .bool false, .slice none 0 0]) := ⟨Tryz.underlying28, by kernel_rfl, rfl, by decide, by decide⟩
theorem elt_rule : ElT 38 91 6 128 (.agg #[.slice none 0 0, .slice none 0 0, .slice none 0 0, .slice none 0 0, .slice none 0 0, .int .i64 0]) := ⟨Tryz.underlying38, by kernel_rfl, rfl, by decide, by decide⟩
theorem elt_u64 : ElT 42 102 1 8 (.int .u64 0) := ⟨Tryz.underlying42, by kernel_rfl, rfl, by decide, by decide⟩
theorem elt_level : ElT 135 188 2 32 (.agg #[.slice none 0 0, .int .u64 0]) := ⟨Tryz.underlying135, by kernel_rfl, rfl, by decide, by decide⟩
theorem elt_places : ElT 128 130 2 16 (.agg #[.int .i64 0, .int .u64 0]) := ⟨Tryz.underlying128, by kernel_rfl, rfl, by decide, by decide⟩
theorem elt_sets3 : ElT 134 41 1 24 (.slice none 0 0) := ⟨Tryz.underlying134, by kernel_rfl, rfl, by decide, by decide⟩
theorem elt_step : ElT 146 151 4 32 (.agg #[.int .i64 0, .int .u64 0, .int .i64 0, .int .u64 0]) := ⟨Tryz.underlying146, by kernel_rfl, rfl, by decide, by decide⟩
section
variable {e k : Nat} {w w' : World} {base n c : Nat} {A : Option Addr} {cs : List Value}
theorem Ow.len (h : Ow e k w base A n c cs) : cs.length = n * k := h.1
theorem Ow.nil (w : World) (base e k : Nat) : Ow e k w base none 0 0 [] := World.ownsRow_nil w base e k
theorem Ow.lt (h : Ow e k w base A n c cs) : ∀ b o s, A = some ⟨b, o, s⟩ → base ≤ b ∧ b < w.heap.size := fun b o s e => by
 subst e; exact World.ownsRow.lt h b rfl
theorem Ow.form (h : Ow e k w base A n c cs) (hn : 0 < n) : ∃ g, A = some ⟨g, 0, none⟩ ∧ base ≤ g ∧ g < w.heap.size := by
 obtain ⟨g, cap, hv, hb, hlt⟩ := World.ownsRow.form h hn;have hA : A = some ⟨g, 0, none⟩ := by injection hv
 subst hA;exact ⟨g, rfl, hb, hlt⟩
theorem Ow.cap (h : Ow e k w base A n c cs) : n ≤ c ∧ c ≤ 9223372036854775807 := by
 rcases h.2 with ⟨e, h0⟩ | ⟨_, cap, _, e, _, _, hle, hm, _⟩
 ·injection e with _ e2 e3; omega
 ·injection e with _ _ e3; unfold maxLen at hm; omega
theorem Ow.hd (h : Ow e k w base A n c cs) : Hd n c := h.cap
theorem Ow.alloc (h : Ow e k w base A n c cs) (o : Obj) : Ow e k (w.alloc o) base A n c cs := World.ownsRow.alloc h o
theorem Ow.drewN (h : Ow e k w base A n c cs) (d : Nat) : Ow e k (w.drewN d) base A n c cs := h
theorem Ow.lower (h : Ow e k w base A n c cs) {base' : Nat} (hb : base' ≤ base) : Ow e k w base' A n c cs := by
 refine ⟨h.1, ?_⟩;rcases h.2 with h2 | ⟨g, cap, cur, e, hg, r⟩
 ·exact .inl h2
 ·exact .inr ⟨g, cap, cur, e, by omega, r⟩
theorem Ow.keep (h : Ow e k w base A n c cs) (hk : ∀ b, A = some ⟨b, 0, none⟩ → w'.heap[b]? = w.heap[b]?) : Ow e k w' base A n c cs := by
 refine ⟨h.1, ?_⟩;rcases h.2 with h2 | ⟨g, cap, cur, e, hg, hh, r⟩
 ·exact .inl h2
 ·refine .inr ⟨g, cap, cur, e, hg, ?_, r⟩;rw [hk g (by injection e)]; exact hh
theorem Ow.below (h : Ow e k w base A n c cs) {K : Nat} (hb : Below K w w') (hK : w.heap.size ≤ K) : Ow e k w' base A n c cs :=
 h.keep fun b e => hb.block b (by have := (h.lt b 0 none e).2; omega)
theorem Ow.call (h : Ow e k w base A n c cs) (hb : Below w.heap.size w w') : Ow e k w' base A n c cs := h.below hb (Nat.le_refl _)
theorem Ow.setOther (h : Ow e k w base A n c cs) {p : Addr} (hp : ∀ b, A = some ⟨b, 0, none⟩ → b ≠ p.block) (u : Value) : Ow e k (w.setCell p u) base A n c cs :=
 h.keep fun b e => Below.heap_setCell w p u b (hp b e)
theorem Ow.frozen {g : Nat} (h : Ow e k w base (some ⟨g, 0, none⟩) n c cs) (j : Nat) : w.frozen? ⟨g, j, none⟩ = false := World.ownsRow.frozenAt h j
theorem Ow.cell {g : Nat} (h : Ow e k w base (some ⟨g, 0, none⟩) n c cs) {j : Nat} {x : Value} (hj : cs[j]? = some x) : w.cell? ⟨g, j, none⟩ = some x := by
 have := World.ownsRow.cellAt h j (by have h1 := h.len; have h2 := (List.getElem?_eq_some_iff.1 hj).1; omega);rw [this, hj]
theorem Ow.stored {g : Nat} (h : Ow e k w base (some ⟨g, 0, none⟩) n c cs) (j : Nat) (x : Value) : Ow e k (w.setCell ⟨g, j, none⟩ x) base (some ⟨g, 0, none⟩) n c (cs.set j x) := (World.ownsRow.stored h j x).1
theorem Ow.blk (h : Ow e k w base A n c cs) : ∀ b, A.map (·.block) = some b → base ≤ b ∧ b < w.heap.size ∧ A = some ⟨b, 0, none⟩ ∧ ∃ cur, w.heap[b]? = some (.cells cur e (0, 0)) := by
 intro b e1;rcases h.2 with ⟨h1, _⟩ | ⟨g, cap, cur, e1', h1, h2, rest⟩
 ·injection h1 with h1; subst h1; cases e1
 ·injection e1' with e1'; subst e1';simp at e1; subst e1;exact ⟨h1, (Array.getElem?_eq_some_iff.1 h2).1, rfl, cur, h2⟩
theorem Ow.grown (h : Ow e k w base A n c cs) {row : Option Nat} (hg : w.grownBy w' row) (hne : ∀ b, A = some ⟨b, 0, none⟩ → row ≠ some b) : Ow e k w' base A n c cs :=
 h.keep fun b e1 => hg.block b (h.lt b 0 none e1).2 (fun e2 => hne b e1 e2.symm)
end
theorem Bk.ne_own {w : World} {g : Nat} {t e k : Nat} {cs : Array Value} (h : Bk w g t cs) (ht : t ≠ e) {base n c : Nat} {A : Option Addr} {xs : List Value} (ho : Ow e k w base A n c xs) : some g ≠ A.map (·.block) := fun e1 => by
 obtain ⟨_, _, _, cur, hh⟩ := ho.blk g e1.symm;unfold Bk at h; rw [h] at hh; injection hh with hh; injection hh with _ h2; exact ht h2
theorem ownBlock_slice (A : Option Addr) (n c : Nat) : Value.ownBlock (.slice A n c) = A.map (·.block) := by cases A <;> rfl
theorem own_below {e k : Nat} {w w1 : World} {base n c : Nat} {A : Option Addr} {xs : List Value} (hown : Ow e k w base A n c xs) (hgr : w.grownBy w1 (A.map (·.block))) (hbase : base ≤ w.heap.size) : Below base w w1 :=
 (Below.refl _ _).grown hgr hbase (fun j hj => (hown.blk j hj).1)
theorem run_app {t e k by' : Nat} {z : Value} (hT : ElT t e k by' z) (ty : TypeId) (w : World) (base : Nat) (A : Option Addr) (n c : Nat) (cs : List Value) (hown : Ow e k w base A n c cs) (D : Option Addr) (m d : Nat) (news : List Value)
  (hl : news.length = m * k) (hnews : 0 < m → ∃ b o, D = some ⟨b, o, none⟩ ∧ ∀ j u, news[j]? = some u → w.cell? ⟨b, o + j, none⟩ = some u) (h1 : ∀ u ∈ news, u.oneCell' = true) (hlen : (n + m) * by' ≤ 140737488355328) (hbase : base ≤ w.heap.size) :
  ∃ A' c' w', (Builtin.append_ #[t, t] ty #[.slice A n c, .slice D m d]).run Tryz.prog w = .ok (.slice A' (n + m) c') w' ∧ Ow e k w' base A' (n + m) c' (cs ++ news) ∧ w.grownBy w' (A.map (·.block)) ∧ Below base w w' ∧
   (A'.map (·.block) = A.map (·.block) ∨ A'.map (·.block) = some w.heap.size) := by
 obtain ⟨i0, hi, hz0, hz1, hz2⟩ := info_parts hT.hi;have hbb := hlen;have h63 : n + m ≤ maxLen := by
  have := Nat.le_mul_of_pos_right (n + m) hT.hb;unfold maxLen; omega
 have fin : ∀ (v' : Value) (w' : World), (Builtin.append_ #[t, t] ty #[.slice A n c, .slice D m d]).run Tryz.prog w = .ok v' w' → w'.ownsRow base e k v' (n + m) (cs ++ news) → w.grownBy w' (Value.slice A n c).ownBlock → (v'.ownBlock = (Value.slice A n c).ownBlock ∨ v'.ownBlock = some w.heap.size) →
   ∃ A' c' w', (Builtin.append_ #[t, t] ty #[.slice A n c, .slice D m d]).run Tryz.prog w = .ok (.slice A' (n + m) c') w' ∧ Ow e k w' base A' (n + m) c' (cs ++ news) ∧ w.grownBy w' (A.map (·.block)) ∧ Below base w w' ∧ (A'.map (·.block) = A.map (·.block) ∨ A'.map (·.block) = some w.heap.size) := by
  intro v' w' hr ho hg hat;rw [ownBlock_slice] at hg hat;have hv : ∃ A' c', v' = .slice A' (n + m) c' := by
   rcases ho.2 with ⟨rfl, h0⟩ | ⟨g, cap, cur, rfl, _⟩
   ·exact ⟨none, 0, by rw [h0]⟩
   ·exact ⟨_, _, rfl⟩
  obtain ⟨A', c', rfl⟩ := hv;rw [ownBlock_slice] at hat;exact ⟨A', c', w', hr, ho, hg, own_below hown hg hbase, hat⟩
 rcases D with _ | ad
 ·have hm : m = 0 := by
   rcases Nat.eq_zero_or_pos m with h0 | h0
   ·exact h0
   ·obtain ⟨_, _, h, _⟩ := hnews h0;cases h
  subst hm;have hn : news = [] := List.eq_nil_of_length_eq_zero (by omega);subst hn;refine fin (.slice A n c) w ?_ (by rw [List.append_nil]; exact hown) (World.grownBy.refl w _) (.inl rfl);rcases hown.2 with ⟨e1, e2⟩ | ⟨g, cap, cur, e1, _, _, hnc, _⟩
  ·obtain ⟨e1, e3, e4⟩ := Value.slice.inj e1;rw [e1, e3, e4];simp [Builtin.append_, run_underlying hT.ht, sizeOf, typeInfo, hi, Builtin.lenOf, Builtin.firstCells]
  ·obtain ⟨e1, e3, e4⟩ := Value.slice.inj e1;rw [e1, e4];simp [Builtin.append_, run_underlying hT.ht, sizeOf, typeInfo, hi, Builtin.lenOf, Builtin.firstCells, hnc, storeCells]
 ·have hcells : ∀ j u, news[j]? = some u → w.cell? (ad.add j) = some u := by
   intro j u hu;have hpos : 0 < m := by
    rcases Nat.eq_zero_or_pos m with h0 | h0
    ·subst h0; have := (List.getElem?_eq_some_iff.1 hu).1; omega
    ·exact h0
   obtain ⟨b, o, e1, hc⟩ := hnews hpos;have e1 := Option.some.inj e1;subst e1;have := hc j u hu;rw [← this];unfold Addr.add;split
   ·rename_i h0; subst h0; rfl
   ·rfl
  obtain ⟨v', w', hrun, h2, h3, _, h5⟩ := run_append_own_at (P := Tryz.prog) w base t ty e i0 z k by' hT.ht hi hz0 hz1 hz2 hT.hz hT.hk (.slice A n c) n cs hown ad m d news hl hcells h1 h63 hbb hbase
  exact fin v' w' hrun h2 h3 h5
theorem appP {t e k by' : Nat} {z : Value} (hT : ElT t e k by' z) {ops : Array Oper} {rest : List Oper} {o : Oper} {a : Act} {Q : Exit → Act → World → Prop} (hgd : o.guard = none) (s x : Operand)
  (ho : o.op = .call { callee := .builtin .append, args := #[s, x], argTypes := #[t, t] })
  (w : World) (base : Nat) (A : Option Addr) (n c : Nat) (cs : List Value) (D : Option Addr) (m d : Nat) (news : List Value)
  (hs : a.eval s = .slice A n c) (hx : a.eval x = .slice D m d) (hown : Ow e k w base A n c cs)
  (hl : news.length = m * k) (hnews : 0 < m → ∃ b o, D = some ⟨b, o, none⟩ ∧ ∀ j u, news[j]? = some u → w.cell? ⟨b, o + j, none⟩ = some u) (h1 : ∀ u ∈ news, u.oneCell' = true) (hlen : (n + m) * by' ≤ 140737488355328) (hbase : base ≤ w.heap.size)
  (h : ∀ A' c' w', Ow e k w' base A' (n + m) c' (cs ++ news) → w.grownBy w' (A.map (·.block)) → Below base w w' → (A'.map (·.block) = A.map (·.block) ∨ A'.map (·.block) = some w.heap.size) → wpList Tryz.prog ops Q rest (a.put o.dst (.slice A' (n + m) c')) w') :
  wpList Tryz.prog ops Q (o :: rest) a w := by
 obtain ⟨A', c', w', hrun, h2, h3, h4, h5⟩ := run_app hT o.type w base A n c cs hown D m d news hl hnews h1 hlen hbase;refine wpList_plain hgd fun K hK => ?_;unfold Oper.wp execOp;simp only [ho, resolve, invoke, builtin, Sem.run_bind, Sem.run_pure, Result.andThen_ok, List.map_toArray, List.map_cons, List.map_nil, hs, hx, hrun];exact hK _ _ (h A' c' w' h2 h3 h4 h5)
theorem appStep {t e k by' : Nat} {z : Value} (hT : ElT t e k by' z) {ops : Array Oper} {o : Oper} {a : Act} {K : Act → World → Prop} {Q : Exit → Act → World → Prop} {E : Prop} (hw : Region.wanted o (yielded ops a.tmps) = true) (s x : Operand)
  (ho : o.op = .call { callee := .builtin .append, args := #[s, x], argTypes := #[t, t] })
  (w : World) (base : Nat) (A : Option Addr) (n c : Nat) (cs : List Value) (D : Option Addr) (m d : Nat) (news : List Value)
  (hs : a.eval s = .slice A n c) (hx : a.eval x = .slice D m d) (hown : Ow e k w base A n c cs)
  (hl : news.length = m * k) (hnews : 0 < m → ∃ b o, D = some ⟨b, o, none⟩ ∧ ∀ j u, news[j]? = some u → w.cell? ⟨b, o + j, none⟩ = some u) (h1 : ∀ u ∈ news, u.oneCell' = true) (hlen : (n + m) * by' ≤ 140737488355328) (hbase : base ≤ w.heap.size)
  (h : ∀ A' c' w', Ow e k w' base A' (n + m) c' (cs ++ news) → w.grownBy w' (A.map (·.block)) → Below base w w' → (A'.map (·.block) = A.map (·.block) ∨ A'.map (·.block) = some w.heap.size) → K (a.put o.dst (.slice A' (n + m) c')) w') :
  if Region.wanted o (yielded ops a.tmps) = true then Oper.wp Tryz.prog o a w K Q else E := by
 obtain ⟨A', c', w', hrun, h2, h3, h4, h5⟩ := run_app hT o.type w base A n c cs hown D m d news hl hnews h1 hlen hbase;rw [if_pos hw];unfold Oper.wp execOp;simp only [ho, resolve, invoke, builtin, Sem.run_bind, Sem.run_pure, Result.andThen_ok, List.map_toArray, List.map_cons, List.map_nil, hs, hx, hrun];exact h A' c' w' h2 h3 h4 h5
theorem news_new (w : World) (cs : List Value) (e : TypeId) : 0 < 1 → ∃ b o, some (⟨w.heap.size, 0, none⟩ : Addr) = some ⟨b, o, none⟩ ∧ ∀ j u, cs[j]? = some u → (w.alloc (.cells cs.toArray e)).cell? ⟨b, o + j, none⟩ = some u :=
 fun _ => ⟨_, _, rfl, fun j u hu => by rw [Nat.zero_add, World.cell?_alloc_new]; simpa using hu⟩
def ic (xs : List Int) : List Value := xs.map (Value.int .i64)
theorem ic_len (xs : List Int) : (ic xs).length = xs.length * 1 := by simp [ic]
theorem ic_one (xs : List Int) : ∀ u ∈ ic xs, u.oneCell' = true := by intro u hu; simp [ic] at hu; obtain ⟨a, _, rfl⟩ := hu; rfl
theorem ic_app (xs ys : List Int) : ic (xs ++ ys) = ic xs ++ ic ys := by simp [ic]
theorem Ow.rd {w : World} {base n c : Nat} {A : Option Addr} {xs : List Int} (h : Ow 3 1 w base A n c (ic xs)) : Rd w (lo w.heap.size) A n xs := by
 have hl := h.len;rw [ic_len] at hl;refine ⟨by omega, fun hn => ?_⟩;obtain ⟨g, rfl, hb, hlt⟩ := h.form hn;refine ⟨g, 0, rfl, hlt, fun i x hx => ⟨[.int .i64 x], rfl, fun j v hv => ?_⟩⟩
 match j, hv with
 | 0, hv =>
  simp at hv; subst hv;have := h.cell (j := i) (x := .int .i64 x) (by simp [ic, hx]);simpa using this
theorem Rd.call {w w' : World} {A : Option Addr} {n : Nat} {xs : List Int} (h : Rd w (lo w.heap.size) A n xs) (k : Below w.heap.size w w') : Rd w' (lo w'.heap.size) A n xs := h.mono (lo_mono k.size) (kept_below k)
theorem RdV.call {w w' : World} {A : Option Addr} {n : Nat} {xs : List (List Int)} (h : RdV w (lo w.heap.size) A n xs) (k : Below w.heap.size w w') : RdV w' (lo w'.heap.size) A n xs := h.mono (lo_mono k.size) (kept_below k)
theorem RdR.call {w w' : World} {A : Option Addr} {n : Nat} {xs : List Rul} (h : RdR w (lo w.heap.size) A n xs) (k : Below w.heap.size w w') : RdR w' (lo w'.heap.size) A n xs := h.mono (lo_mono k.size) (kept_below k)
theorem IsF.call {w w' : World} {f : FV} {F : Fnt} (h : IsF w (lo w.heap.size) f F) (k : Below w.heap.size w w') : IsF w' (lo w'.heap.size) f F := h.mono (lo_mono k.size) (kept_below k)
theorem cell_call {w w' : World} {p : Addr} {v : Value} (h : w.cell? p = some v) (k : Below w.heap.size w w') : w'.cell? p = some v := (k.cell (cell_lt h)).trans h
def RowOf {α : Type} (k : Nat) (E : List Value → α → Prop) (css : List (List Value)) (xs : List α) : Prop := css.length = xs.length ∧ (∀ cs ∈ css, cs.length = k) ∧ ∀ (i : Nat) (cs : List Value) (x : α), css[i]? = some cs → xs[i]? = some x → E cs x
theorem flat_len {k : Nat} : ∀ {css : List (List Value)}, (∀ cs ∈ css, cs.length = k) → css.flatten.length = css.length * k
 | [], _ => by simp
 | c :: css, h => by
  rw [List.flatten_cons, List.length_append, flat_len fun x hx => h x (List.mem_cons_of_mem _ hx), h c (List.mem_cons_self ..), List.length_cons, Nat.add_mul]; omega
theorem flat_at {k : Nat} : ∀ {css : List (List Value)} {i j : Nat} {cs : List Value} {v : Value}, (∀ cs ∈ css, cs.length = k) → css[i]? = some cs → cs[j]? = some v → css.flatten[i * k + j]? = some v
 | [], i, j, cs, v, _, h, _ => by simp at h
 | c :: css, 0, j, cs, v, hk, h, hv => by
  simp at h; subst h;rw [List.flatten_cons, Nat.zero_mul, Nat.zero_add, List.getElem?_append_left (List.getElem?_eq_some_iff.1 hv).1]; exact hv
 | c :: css, i + 1, j, cs, v, hk, h, hv => by
  have hc := hk c (List.mem_cons_self ..);rw [List.flatten_cons, List.getElem?_append_right (by rw [hc, Nat.add_mul]; omega), hc, show (i + 1) * k + j - k = i * k + j by rw [Nat.add_mul]; omega];exact flat_at (fun x hx => hk x (List.mem_cons_of_mem _ hx)) (by simpa using h) hv
theorem flat_of {k : Nat} : ∀ {css : List (List Value)} {p : Nat} {v : Value}, (∀ cs ∈ css, cs.length = k) → css.flatten[p]? = some v → ∃ i j cs, p = i * k + j ∧ css[i]? = some cs ∧ cs[j]? = some v
 | [], p, v, _, h => by simp at h
 | c :: css, p, v, hk, h => by
  have hc := hk c (List.mem_cons_self ..);rw [List.flatten_cons] at h;by_cases hp : p < c.length
  ·rw [List.getElem?_append_left hp] at h;exact ⟨0, p, c, by simp, rfl, h⟩
  ·rw [List.getElem?_append_right (by omega)] at h;obtain ⟨i, j, cs, e, h1, h2⟩ := flat_of (fun x hx => hk x (List.mem_cons_of_mem _ hx)) h;exact ⟨i + 1, j, cs, by rw [Nat.add_mul]; omega, by simpa using h1, h2⟩
theorem flat_set {k : Nat} : ∀ {css : List (List Value)} {i j : Nat} {cs : List Value} (v : Value), (∀ cs ∈ css, cs.length = k) → css[i]? = some cs → j < k → css.flatten.set (i * k + j) v = (css.set i (cs.set j v)).flatten
 | [], i, j, cs, v, _, h, _ => by simp at h
 | c :: css, 0, j, cs, v, hk, h, hj => by
  simp at h; subst h;have hc := hk c (List.mem_cons_self ..);rw [List.flatten_cons, Nat.zero_mul, Nat.zero_add, List.set_append_left _ _ (by omega), List.set_cons_zero, List.flatten_cons]
 | c :: css, i + 1, j, cs, v, hk, h, hj => by
  have hc := hk c (List.mem_cons_self ..);rw [List.flatten_cons, List.set_append_right _ _ (by rw [hc, Nat.add_mul]; omega), hc, show (i + 1) * k + j - k = i * k + j by rw [Nat.add_mul]; omega, flat_set v (fun x hx => hk x (List.mem_cons_of_mem _ hx)) (by simpa using h) hj, List.set_cons_succ, List.flatten_cons]
section
variable {α : Type} {k : Nat} {E E' : List Value → α → Prop} {css ds : List (List Value)} {xs ys : List α}
theorem RowOf.nil : RowOf k E [] ([] : List α) := ⟨rfl, (fun _ h => by cases h), fun i cs x h => by simp at h⟩
theorem RowOf.app (h : RowOf k E css xs) (h' : RowOf k E ds ys) : RowOf k E (css ++ ds) (xs ++ ys) := by
 refine ⟨by rw [List.length_append, List.length_append, h.1, h'.1], fun cs hc => ?_, fun i cs x h1 h2 => ?_⟩
 ·rcases List.mem_append.1 hc with hc | hc
  ·exact h.2.1 cs hc
  ·exact h'.2.1 cs hc
 ·by_cases hi : i < css.length
  ·rw [List.getElem?_append_left hi] at h1;rw [List.getElem?_append_left (by rw [← h.1]; exact hi)] at h2;exact h.2.2 i cs x h1 h2
  ·rw [List.getElem?_append_right (by omega)] at h1;rw [List.getElem?_append_right (by rw [← h.1]; omega), ← h.1] at h2;exact h'.2.2 _ cs x h1 h2
theorem RowOf.one {cs : List Value} {x : α} (h : E cs x) (hl : cs.length = k) : RowOf k E [cs] [x] := by
 refine ⟨rfl, fun c hc => by rw [List.mem_singleton] at hc; rw [hc]; exact hl, fun i c y h1 h2 => ?_⟩;cases i with
 | zero => simp at h1 h2; subst h1; subst h2; exact h
 | succ i => simp at h1
theorem RowOf.set (h : RowOf k E css xs) {i : Nat} {cs : List Value} {y : α} (hl : cs.length = k) (he : E cs y) : RowOf k E (css.set i cs) (xs.set i y) := by
 refine ⟨by simp [h.1], fun c hc => ?_, fun j c z h1 h2 => ?_⟩
 ·rcases List.mem_or_eq_of_mem_set hc with hc | hc
  ·exact h.2.1 c hc
  ·rw [hc]; exact hl
 ·by_cases e : i = j
  ·subst e;rw [List.getElem?_set] at h1 h2;simp at h1 h2;obtain ⟨_, rfl⟩ := h1;obtain ⟨_, rfl⟩ := h2;exact he
  ·rw [List.getElem?_set_ne e] at h1 h2;exact h.2.2 j c z h1 h2
theorem RowOf.mono (h : RowOf k E css xs) (hE : ∀ cs x, E cs x → E' cs x) : RowOf k E' css xs := ⟨h.1, h.2.1, fun i cs x h1 h2 => hE cs x (h.2.2 i cs x h1 h2)⟩
theorem RowOf.at (h : RowOf k E css xs) {i : Nat} {x : α} (hx : xs[i]? = some x) : ∃ cs, css[i]? = some cs ∧ E cs x ∧ cs.length = k := by
 have hi : i < css.length := by rw [h.1]; exact (List.getElem?_eq_some_iff.1 hx).1
 exact ⟨css[i], List.getElem?_eq_getElem hi, h.2.2 i _ x (List.getElem?_eq_getElem hi) hx, h.2.1 _ (List.getElem_mem hi)⟩
theorem RowOf.news [Inhabited α] {w : World} {S : Nat → Prop} {A : Option Addr} {n : Nat} (h : SlE k E w S A n xs) (hk : ∀ cs x, E cs x → cs.length = k) : ∃ css, RowOf k E css xs ∧ css.flatten.length = n * k ∧ (0 < n → ∃ b o, A = some ⟨b, o, none⟩ ∧ ∀ j u, css.flatten[j]? = some u → w.cell? ⟨b, o + j, none⟩ = some u) := by
 by_cases hn : n = 0
 ·subst hn;have : xs = [] := List.eq_nil_of_length_eq_zero h.1;subst this;exact ⟨[], RowOf.nil, by simp, fun h => absurd h (by omega)⟩
 ·obtain ⟨b, o, hA, _, hc⟩ := h.2 (by omega);have hch : ∀ i, i < xs.length → ∃ cs : List Value, ∃ x, xs[i]? = some x ∧ E cs x ∧ ∀ (j : Nat) (v : Value), cs[j]? = some v → w.cell? ⟨b, o + i * k + j, none⟩ = some v := fun i hi => by
   obtain ⟨cs, h1, h2⟩ := hc i xs[i] (List.getElem?_eq_getElem hi);exact ⟨cs, _, List.getElem?_eq_getElem hi, h1, h2⟩
  obtain ⟨g, hg⟩ := Deep.choose_lt hch;have hR : RowOf k E ((List.range xs.length).map g) xs := by
   refine ⟨by simp, fun cs hcs => ?_, fun i cs x h1 h2 => ?_⟩
   ·obtain ⟨i, hi, rfl⟩ := List.mem_map.1 hcs;obtain ⟨x, _, h1, _⟩ := hg i (List.mem_range.1 hi);exact hk _ x h1
   ·have hi := (List.getElem?_eq_some_iff.1 h2).1;simp [hi] at h1;subst h1;obtain ⟨y, h3, h4, _⟩ := hg i hi;rw [h2] at h3; injection h3 with h3; subst h3;exact h4
  refine ⟨_, hR, by rw [flat_len hR.2.1, hR.1, h.1], fun _ => ⟨b, o, hA, fun j u hu => ?_⟩⟩;obtain ⟨i, q, cs, rfl, h1, h2⟩ := flat_of hR.2.1 hu;have hi : i < xs.length := by have := (List.getElem?_eq_some_iff.1 h1).1; simpa using this
  simp [hi] at h1;subst h1;obtain ⟨_, _, _, h5⟩ := hg i hi;have := h5 q u h2;rw [← Nat.add_assoc]; exact this
theorem Ow.row {e : Nat} {w : World} {base n c : Nat} {A : Option Addr} (h : Ow e k w base A n c css.flatten) (hr : RowOf k E css xs) (hk : 0 < k) : SlE k E w (lo w.heap.size) A n xs := by
 have hl := h.len;rw [flat_len hr.2.1] at hl;have hn : css.length = n := Nat.eq_of_mul_eq_mul_right hk hl;refine ⟨by rw [← hr.1]; exact hn, fun h0 => ?_⟩;obtain ⟨g, rfl, _, hlt⟩ := h.form h0;refine ⟨g, 0, rfl, hlt, fun i x hx => ?_⟩;obtain ⟨cs, h1, h2, _⟩ := hr.at hx;refine ⟨cs, h2, fun j v hv => ?_⟩;rw [Nat.zero_add];exact h.cell (flat_at hr.2.1 h1 hv)
theorem Ow.put {e : Nat} {w : World} {base g n c : Nat} (h : Ow e k w base (some ⟨g, 0, none⟩) n c css.flatten) (hr : RowOf k E css xs) {i j : Nat} {cs : List Value} (hi : css[i]? = some cs) (hj : j < k) (v : Value) : Ow e k (w.setCell ⟨g, i * k + j, none⟩ v) base (some ⟨g, 0, none⟩) n c (css.set i (cs.set j v)).flatten := by
 have := h.stored (i * k + j) v;rw [flat_set v hr.2.1 hi hj] at this;exact this
theorem RowOf.one_cells (h : RowOf k E css xs) (h1 : ∀ cs x, E cs x → ∀ u ∈ cs, u.oneCell' = true) : ∀ u ∈ css.flatten, u.oneCell' = true := fun u hu => by
 obtain ⟨cs, h2, h3⟩ := List.mem_flatten.1 hu;obtain ⟨i, hi⟩ := List.mem_iff_getElem?.1 h2;have hil := (List.getElem?_eq_some_iff.1 hi).1;exact h1 cs _ (h.2.2 i cs _ hi (List.getElem?_eq_getElem (by rw [← h.1]; exact hil))) u h3
end
end Go.Proofs.YtkmdakampkfioaaGreatDoor
