/- Plain words: anchors, and how attach places items, by definition on lists. (w: how sums of numbers go around.) -/
import Derived.Test.YtbjcbcdccekbkaaGreatSpec
namespace Go.Proofs.YtbjcbcdccekbkaaGreat

def ancOf (F : Fnt) (g : Int) : List Anc := if g < 0 then [] else ((F.gly[g.toNat]?).map (·.anc)).getD []
def ancFind (l : List Anc) (k c : Int) : Option (Int × Int) := (l.find? fun a => decide (a.k = k) && decide (a.c = c)).map fun a => (a.x, a.y)
def anchorL (F : Fnt) (g k c : Int) : Option (Int × Int) := ancFind (ancOf F g) k c
def widthL (w : Int → Int) (run : List Itm) : Int := run.foldl (fun n it => w (n + it.a)) 0
def itAt (run : List Itm) (i : Nat) : Itm := run.getD i default
/-- The exit of one item laid on the entry of another one. -/
def joinA (w : Int → Int) (F : Fnt) (run : List Itm) (a b : Nat) (between : Int) : List Itm :=
  match anchorL F (gAt run a) 4 0, anchorL F (gAt run b) 3 0 with
  | some (ex, ey), some (nx, ny) =>
    let r1 := run.set a { itAt run a with a := w (w (w (w ((itAt run a).x + ex) - nx) - (itAt run b).x) - between) }
    r1.set b { itAt r1 b with y := w (w ((itAt r1 a).y + ey) - ny) }
  | _, _ => run
def cursStep (w : Int → Int) (F : Fnt) (ign : Bool) (st : Int × Int × List Itm) (i : Nat) : Int × Int × List Itm :=
  if ign && isMark F (gAt st.2.2 i) then (st.1, w (st.2.1 + (itAt st.2.2 i).a), st.2.2)
  else ((i : Int), 0, if 0 ≤ st.1 then joinA w F st.2.2 st.1.toNat i st.2.1 else st.2.2)
def cursL (w : Int → Int) (F : Fnt) (ign : Bool) (run : List Itm) : List Itm := ((List.range run.length).foldl (cursStep w F ign) (-1, 0, run)).2.2
/-- Where marks of a class may hang. -/
structure Bas where
  p : Int
  x : Int
  y : Int
  deriving Inhabited
def putB (bs : Int → Option Bas) (k : Int) (b : Bas) : Int → Option Bas := fun c => if c = k then some b else bs c
def offer1 (i : Nat) (bs : Int → Option Bas) (a : Anc) : Int → Option Bas :=
  if a.k = 1 then (match bs a.c with
    | some b => if b.p = (i : Int) then bs else putB bs a.c ⟨i, a.x, a.y⟩
    | none => putB bs a.c ⟨i, a.x, a.y⟩) else bs
def offerL (anc : List Anc) (i : Nat) (bs : Int → Option Bas) : Int → Option Bas := anc.foldl (offer1 i) bs
def hostsL (anc : List Anc) (bs : Int → Option Bas) : List (Anc × Bas) := anc.filterMap fun a => if a.k = 2 then (bs a.c).map fun b => (a, b) else none
def pickL (l : List (Anc × Bas)) (h : Bas) (by' : Anc) : Bas × Anc := l.foldl (fun s x => if s.1.p < x.2.p then (x.2, x.1) else s) (h, by')
def hangL (w : Int → Int) (F : Fnt) (run : List Itm) (i : Nat) (pens : List Int) (bs : Int → Option Bas) : List Itm :=
  let s := pickL (hostsL (ancOf F (gAt run i)) bs) ⟨-1, 0, 0⟩ default
  if s.1.p < 0 then run
  else
    let on := itAt run s.1.p.toNat
    run.set i { itAt run i with a := 0, x := w (w (w (w (pens.getD s.1.p.toNat 0 + on.x) + s.1.x) - pens.getD i 0) - s.2.x), y := w (w (on.y + s.1.y) - s.2.y) }
structure MSt where
  bs : Int → Option Bas
  pens : List Int
  pen : Int
  run : List Itm
def markStep (w : Int → Int) (F : Fnt) (ign : Bool) (s : MSt) (i : Nat) : MSt :=
  let pens := s.pens.set i s.pen
  let m := isMark F (gAt s.run i)
  let run := if m then hangL w F s.run i pens s.bs else s.run
  let bs := if m then s.bs else fun _ => none
  let bs := if !m || !ign then offerL (ancOf F (gAt run i)) i bs else bs
  { bs := bs, pens := pens, pen := w (s.pen + (itAt run i).a), run := run }
def marksL (w : Int → Int) (F : Fnt) (ign : Bool) (run : List Itm) : List Itm := ((List.range run.length).foldl (markStep w F ign) ⟨fun _ => none, List.replicate run.length 0, 0, run⟩).run
def attachL (w : Int → Int) (F : Fnt) (n : Int) (kind : Int) (run : List Itm) : List Itm :=
  match lkAt F n with
  | none => run
  | some lk =>
    if lk.kind = kind then
      if kind = 6 then applyL w F n run []
      else if kind = 7 then cursL w F lk.ign run
      else if kind = 8 then marksL w F lk.ign run
      else run
    else run

end Go.Proofs.YtbjcbcdccekbkaaGreat
