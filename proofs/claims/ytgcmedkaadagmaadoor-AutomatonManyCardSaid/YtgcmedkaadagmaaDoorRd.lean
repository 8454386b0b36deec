/- Words on memory for the walks of this seat: what slices of numbers, rows, rules, lookups, glyphs and items read as. -/
import Derived.Test.YtgcmedkaadagmaaDoorProg
import Derived.Test.YtgcmedkaadagmaaDoorSpec
import Derived.WalkKit
import Derived.WalkSpells
import Derived.WalkLawsBesides
import Derived.Deep.Draws
import Derived.Deep.AppendLies
import Derived.Deep.QuietTactic
import Derived.BigQuiet
import Derived.Maps.AppendAt
import Derived.Lib.Hide
namespace Go.Proofs.YtgcmedkaadagmaaDoor
open Go.RowKit

def lo (B : Nat) : Nat → Prop := fun b => b < B
/-- What lies in the blocks of S is as it was. -/
def Kept (S : Nat → Prop) (w w' : World) : Prop := ∀ b, S b → w'.heap[b]? = w.heap[b]?
theorem Kept.cell {S : Nat → Prop} {w w' : World} (h : Kept S w w') {p : Addr} (hp : S p.block) : w'.cell? p = w.cell? p := World.cell?_of_block (h _ hp)
theorem Kept.refl (S : Nat → Prop) (w : World) : Kept S w w := fun _ _ => rfl
theorem Kept.trans {S : Nat → Prop} {a b c : World} (h : Kept S a b) (k : Kept S b c) : Kept S a c := fun i hi => (k i hi).trans (h i hi)
theorem kept_below {B : Nat} {w w' : World} (h : Below B w w') : Kept (lo B) w w' := fun b hb => h.block b hb
theorem Kept.sub {S T : Nat → Prop} {w w' : World} (h : Kept S w w') (hs : ∀ b, T b → S b) : Kept T w w' := fun b hb => h b (hs b hb)

/-- A slice whose elements take k cells each: E says of an element's cells what they read as. -/
def SlE {α : Type} (k : Nat) (E : List Value → α → Prop) (w : World) (S : Nat → Prop) (A : Option Addr) (n : Nat) (xs : List α) : Prop :=
  xs.length = n ∧ (0 < n → ∃ b o, A = some ⟨b, o, none⟩ ∧ S b ∧ ∀ (i : Nat) (x : α), xs[i]? = some x → ∃ cs, E cs x ∧ ∀ (j : Nat) (v : Value), cs[j]? = some v → w.cell? ⟨b, o + i * k + j, none⟩ = some v)
/-- Of a slice's header: its length and its capacity. -/
def Hd (n c : Nat) : Prop := n ≤ c ∧ c ≤ 9223372036854775807

section
variable {α : Type} {k : Nat} {E E' : List Value → α → Prop} {w w' : World} {S S' : Nat → Prop} {A : Option Addr} {n : Nat} {xs : List α}
theorem SlE.len (h : SlE k E w S A n xs) : xs.length = n := h.1
theorem SlE.nil : SlE k E w S A 0 [] := ⟨rfl, fun h => absurd h (by omega)⟩
theorem SlE.mono (h : SlE k E w S A n xs) (hS : ∀ b, S b → S' b) (hk : Kept S w w') (hE : ∀ cs x, E cs x → E' cs x) : SlE k E' w' S' A n xs :=
  ⟨h.1, fun hn => by
    obtain ⟨b, o, e, hb, hc⟩ := h.2 hn
    refine ⟨b, o, e, hS b hb, fun i x hx => ?_⟩
    obtain ⟨cs, h1, h2⟩ := hc i x hx
    exact ⟨cs, hE cs x h1, fun j v hv => (hk.cell (p := ⟨b, o + i * k + j, none⟩) hb).trans (h2 j v hv)⟩⟩
theorem SlE.pos (h : SlE k E w S A n xs) (hn : 0 < n) : ∃ b o, A = some ⟨b, o, none⟩ ∧ S b ∧ ∀ (i : Nat) (x : α), xs[i]? = some x → ∃ cs, E cs x ∧ ∀ (j : Nat) (v : Value), cs[j]? = some v → w.cell? ⟨b, o + i * k + j, none⟩ = some v := h.2 hn
theorem SlE.take (h : SlE k E w S A n xs) (m : Nat) (hm : m ≤ n) : SlE k E w S A m (xs.take m) :=
  ⟨by rw [List.length_take, h.1]; omega, fun h0 => by
    obtain ⟨b, o, e, hb, hc⟩ := h.2 (by omega)
    refine ⟨b, o, e, hb, fun i x hx => hc i x ?_⟩
    rw [List.getElem?_take] at hx
    split at hx
    · exact hx
    · cases hx⟩
end

def EInt (cs : List Value) (x : Int) : Prop := cs = [.int .i64 x]
def Rd (w : World) (S : Nat → Prop) (A : Option Addr) (n : Nat) (xs : List Int) : Prop := SlE 1 EInt w S A n xs
def ERow (w : World) (S : Nat → Prop) (cs : List Value) (xs : List Int) : Prop := ∃ A n c, cs = [.slice A n c] ∧ Rd w S A n xs ∧ Hd n c
def RdV (w : World) (S : Nat → Prop) (A : Option Addr) (n : Nat) (xss : List (List Int)) : Prop := SlE 1 (ERow w S) w S A n xss
def ECall (cs : List Value) (p : Int × Int) : Prop := cs = [.int .i64 p.1, .int .i64 p.2] ∧ -9223372036854775808 ≤ p.1 ∧ p.1 ≤ 9223372036854775807
def RdC (w : World) (S : Nat → Prop) (A : Option Addr) (n : Nat) (xs : List (Int × Int)) : Prop := SlE 2 ECall w S A n xs
/-- The six cells of a rule. -/
def ERul (w : World) (S : Nat → Prop) (cs : List Value) (r : Rul) : Prop :=
  ∃ A1 n1 c1 A2 n2 c2 A3 n3 c3 A4 n4 c4 A5 n5 c5, cs = [.slice A1 n1 c1, .slice A2 n2 c2, .slice A3 n3 c3, .slice A4 n4 c4, .slice A5 n5 c5, .int .i64 r.x] ∧
    RdV w S A1 n1 r.back ∧ RdV w S A2 n2 r.inn ∧ RdV w S A3 n3 r.ahead ∧ Rd w S A4 n4 r.out ∧ RdC w S A5 n5 r.calls ∧ Hd n1 c1 ∧ Hd n2 c2 ∧ Hd n3 c3 ∧ Hd n4 c4 ∧ Hd n5 c5
def RdR (w : World) (S : Nat → Prop) (A : Option Addr) (n : Nat) (xs : List Rul) : Prop := SlE 6 (ERul w S) w S A n xs
def ELk (w : World) (S : Nat → Prop) (cs : List Value) (l : Lk) : Prop := ∃ A n c, cs = [.int .i64 l.kind, .bool l.ign, .slice A n c] ∧ RdR w S A n l.rules ∧ Hd n c
def RdL (w : World) (S : Nat → Prop) (A : Option Addr) (n : Nat) (xs : List Lk) : Prop := SlE 3 (ELk w S) w S A n xs
def EAnc (cs : List Value) (a : Anc) : Prop := cs = [.int .i64 a.k, .int .i64 a.c, .int .i64 a.x, .int .i64 a.y]
def RdA (w : World) (S : Nat → Prop) (A : Option Addr) (n : Nat) (xs : List Anc) : Prop := SlE 4 EAnc w S A n xs
def EGly (w : World) (S : Nat → Prop) (cs : List Value) (g : Gly) : Prop := ∃ u0 u1 u3 u4 u5 A n c u7 u8, cs = [u0, u1, .bool g.mark, u3, u4, u5, .slice A n c, u7, u8] ∧ RdA w S A n g.anc ∧ Hd n c
def RdG (w : World) (S : Nat → Prop) (A : Option Addr) (n : Nat) (xs : List Gly) : Prop := SlE 9 (EGly w S) w S A n xs
def itmC (it : Itm) : List Value := [.int .i64 it.g, .int .i64 it.c, .int .i64 it.f, .int .i64 it.a, .int .i64 it.x, .int .i64 it.y]
def EItm (cs : List Value) (it : Itm) : Prop := cs = itmC it
def RdI (w : World) (S : Nat → Prop) (A : Option Addr) (n : Nat) (xs : List Itm) : Prop := SlE 6 EItm w S A n xs

section
variable {w w' : World} {S S' : Nat → Prop} {A : Option Addr} {n : Nat}
theorem Rd.mono {xs : List Int} (h : Rd w S A n xs) (hS : ∀ b, S b → S' b) (hk : Kept S w w') : Rd w' S' A n xs := SlE.mono h hS hk fun _ _ h => h
theorem RdC.mono {xs : List (Int × Int)} (h : RdC w S A n xs) (hS : ∀ b, S b → S' b) (hk : Kept S w w') : RdC w' S' A n xs := SlE.mono h hS hk fun _ _ h => h
theorem RdA.mono {xs : List Anc} (h : RdA w S A n xs) (hS : ∀ b, S b → S' b) (hk : Kept S w w') : RdA w' S' A n xs := SlE.mono h hS hk fun _ _ h => h
theorem RdI.mono {xs : List Itm} (h : RdI w S A n xs) (hS : ∀ b, S b → S' b) (hk : Kept S w w') : RdI w' S' A n xs := SlE.mono h hS hk fun _ _ h => h
theorem RdV.mono {xs : List (List Int)} (h : RdV w S A n xs) (hS : ∀ b, S b → S' b) (hk : Kept S w w') : RdV w' S' A n xs :=
  SlE.mono h hS hk fun _ _ ⟨a, m, c, e, h1, h2⟩ => ⟨a, m, c, e, h1.mono hS hk, h2⟩
theorem ERul.mono {cs : List Value} {r : Rul} (h : ERul w S cs r) (hS : ∀ b, S b → S' b) (hk : Kept S w w') : ERul w' S' cs r := by
  obtain ⟨A1, n1, c1, A2, n2, c2, A3, n3, c3, A4, n4, c4, A5, n5, c5, e, h1, h2, h3, h4, h5, hd⟩ := h
  exact ⟨A1, n1, c1, A2, n2, c2, A3, n3, c3, A4, n4, c4, A5, n5, c5, e, h1.mono hS hk, h2.mono hS hk, h3.mono hS hk, h4.mono hS hk, h5.mono hS hk, hd⟩
theorem RdR.mono {xs : List Rul} (h : RdR w S A n xs) (hS : ∀ b, S b → S' b) (hk : Kept S w w') : RdR w' S' A n xs := SlE.mono h hS hk fun _ _ h => h.mono hS hk
theorem RdL.mono {xs : List Lk} (h : RdL w S A n xs) (hS : ∀ b, S b → S' b) (hk : Kept S w w') : RdL w' S' A n xs :=
  SlE.mono h hS hk fun _ _ ⟨a, m, c, e, h1, h2⟩ => ⟨a, m, c, e, h1.mono hS hk, h2⟩
theorem RdG.mono {xs : List Gly} (h : RdG w S A n xs) (hS : ∀ b, S b → S' b) (hk : Kept S w w') : RdG w' S' A n xs :=
  SlE.mono h hS hk fun _ _ ⟨u0, u1, u3, u4, u5, a, m, c, u7, u8, e, h1, h2⟩ => ⟨u0, u1, u3, u4, u5, a, m, c, u7, u8, e, h1.mono hS hk, h2⟩
end

/-- The font's nine cells. -/
structure FV where
  u0 : Int
  ga : Option Addr
  gn : Nat
  gc : Nat
  ca : Option Addr
  cn : Nat
  cc : Nat
  la : Option Addr
  ln : Nat
  lc : Nat
  a4 : Option Addr
  n4 : Nat
  c4 : Nat
  a5 : Option Addr
  n5 : Nat
  c5 : Nat
  a6 : Option Addr
  n6 : Nat
  c6 : Nat
  a7 : Option Addr
  n7 : Nat
  c7 : Nat
  a8 : Option Addr
  n8 : Nat
  c8 : Nat
abbrev FV.cells (f : FV) : Array Value := #[.int .i64 f.u0, .slice f.ga f.gn f.gc, .slice f.ca f.cn f.cc, .slice f.la f.ln f.lc, .slice f.a4 f.n4 f.c4, .slice f.a5 f.n5 f.c5, .slice f.a6 f.n6 f.c6, .slice f.a7 f.n7 f.c7, .slice f.a8 f.n8 f.c8]
def IsF (w : World) (S : Nat → Prop) (f : FV) (F : Fnt) : Prop := RdG w S f.ga f.gn F.gly ∧ RdL w S f.la f.ln F.lks ∧ Hd f.gn f.gc ∧ Hd f.ln f.lc
theorem IsF.mono {w w' : World} {S S' : Nat → Prop} {f : FV} {F : Fnt} (h : IsF w S f F) (hS : ∀ b, S b → S' b) (hk : Kept S w w') : IsF w' S' f F := ⟨h.1.mono hS hk, h.2.1.mono hS hk, h.2.2⟩

theorem lo_mono {B B' : Nat} (h : B ≤ B') : ∀ b, lo B b → lo B' b := fun _ hb => Nat.lt_of_lt_of_le hb h

/-- A block that is known whole. -/
def Bk (w : World) (g : Nat) (t : TypeId) (cs : Array Value) : Prop := w.heap[g]? = some (.cells cs t (0, 0))
section
variable {w w' : World} {g : Nat} {t : TypeId} {cs : Array Value}
theorem Bk.lt (h : Bk w g t cs) : g < w.heap.size := (Array.getElem?_eq_some_iff.1 h).1
theorem Bk.cell (h : Bk w g t cs) (i : Nat) : w.cell? ⟨g, i, none⟩ = cs[i]? := by simp [World.cell?, show w.heap[g]? = _ from h]
theorem Bk.frozen (h : Bk w g t cs) (i : Nat) : w.frozen? ⟨g, i, none⟩ = false := by simp [World.frozen?, show w.heap[g]? = _ from h]
theorem Bk.new (w : World) (t : TypeId) (cs : Array Value) : Bk (w.alloc (.cells cs t)) w.heap.size t cs := heap_alloc_new w _
theorem Bk.alloc (h : Bk w g t cs) (o : Obj) : Bk (w.alloc o) g t cs := (Below.heap_alloc w o g h.lt).trans h
theorem Bk.set_ (h : Bk w g t cs) (i : Nat) (u : Value) : Bk (w.setCell ⟨g, i, none⟩ u) g t (cs.setIfInBounds i u) := by
  unfold Bk at h ⊢
  simp [World.setCell, Array.getElem?_modify, h]
theorem Bk.far (h : Bk w g t cs) {p : Addr} (hp : g ≠ p.block) (u : Value) : Bk (w.setCell p u) g t cs := (Below.heap_setCell w p u g hp).trans h
theorem Bk.below {B : Nat} (h : Bk w g t cs) (hb : Below B w w') (hg : g < B) : Bk w' g t cs := (hb.block g hg).trans h
theorem Bk.grown {row : Option Nat} (h : Bk w g t cs) (hb : w.grownBy w' row) (hg : some g ≠ row) : Bk w' g t cs := (hb.block g h.lt hg).trans h
theorem Bk.kept {S : Nat → Prop} (h : Bk w g t cs) (hb : Kept S w w') (hg : S g) : Bk w' g t cs := (hb g hg).trans h
end

theorem below_drewN {B : Nat} {a w : World} (h : Below B a w) (n : Nat) : Below B a (w.drewN n) := ⟨h.os, h.tape, h.output, h.size, h.block⟩
theorem below_call {w0 w w' : World} (h : Below w0.heap.size w0 w) (k : Below w.heap.size w w') : Below w0.heap.size w0 w' := h.trans (k.mono h.size)
theorem below_lit (w0 w : World) (h : Below w0.heap.size w0 w) (o : Obj) : Below w0.heap.size w0 (w.alloc o) := h.alloc h.size o
theorem at_some {α : Type} (xs : List α) (k : Nat) (h : k < xs.length) : ∃ x, xs[k]? = some x := ⟨xs[k], List.getElem?_eq_getElem h⟩
theorem ret_int {k : IntKind} {a b : Int} (h : a = b) : Ending.returned (.int k a) = .returned (.int k b) := by rw [h]
theorem ret_bool {a b : Bool} (h : a = b) : Ending.returned (.bool a) = .returned (.bool b) := by rw [h]
theorem drN (w : World) (a b : Nat) : ∃ k, (w.drewN a).drewN b = w.drewN k := ⟨a + b, by simp⟩

end Go.Proofs.YtgcmedkaadagmaaDoor
