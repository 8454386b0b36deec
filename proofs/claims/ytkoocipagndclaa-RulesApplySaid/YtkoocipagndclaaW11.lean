/- Walks: newMatcher. -/
import Derived.Test.YtkoocipagndclaaW10
import Derived.RegionTactic
import Derived.BigRegion
namespace Go.Proofs.Ytkoocipagndclaa
open Go.RowKit Go.Shelf

theorem RdR.sb {B : Nat} {w w' : World} {A : Option Addr} {n : Nat} {xs : List Rul} (h : RdR w (SB B w) A n xs) (hB : B ≤ w.heap.size) (hb : Below w.heap.size w w') : RdR w' (SB B w') A n xs := h.mono (fun _ h => h.below hb) (kept_sb hB hb)
theorem RdR.sblo {B : Nat} {w : World} {A : Option Addr} {n : Nat} {xs : List Rul} (h : RdR w (SB B w) A n xs) (hB : B ≤ w.heap.size) : RdR w (lo w.heap.size) A n xs := h.mono (fun _ h => h.lt hB) (Kept.refl _ _)

def foL (rs : List Rul) : Nat := rs.foldl (fun m r => max m (r.inn.length + r.ahead.length)) 0
def baL (rs : List Rul) : Nat := rs.foldl (fun m r => max m r.back.length) 0
theorem foldl_max_ge {α : Type} (f : α → Nat) (l : List α) (m : Nat) : m ≤ l.foldl (fun m r => max m (f r)) m ∧ ∀ r ∈ l, f r ≤ l.foldl (fun m r => max m (f r)) m := by
  induction l generalizing m with
  | nil => exact ⟨Nat.le_refl _, fun r h => by cases h⟩
  | cons a t ih =>
    obtain ⟨h1, h2⟩ := ih (max m (f a))
    refine ⟨?_, fun r hr => ?_⟩
    · simp only [List.foldl_cons]; omega
    · simp only [List.foldl_cons]
      rcases List.mem_cons.1 hr with rfl | hr
      · omega
      · exact h2 r hr
theorem foldl_max_le {α : Type} (f : α → Nat) (l : List α) (m M : Nat) (hm : m ≤ M) (h : ∀ r ∈ l, f r ≤ M) : l.foldl (fun m r => max m (f r)) m ≤ M := by
  induction l generalizing m with
  | nil => exact hm
  | cons a t ih => exact ih (max m (f a)) (by have := h a (List.mem_cons_self ..); omega) fun r hr => h r (List.mem_cons_of_mem _ hr)
theorem foL_next {rs : List Rul} {k : Nat} {r : Rul} (h : rs[k]? = some r) : foL (rs.take (k + 1)) = max (foL (rs.take k)) (r.inn.length + r.ahead.length) := by
  unfold foL; rw [List.take_add_one, h]; simp
theorem baL_next {rs : List Rul} {k : Nat} {r : Rul} (h : rs[k]? = some r) : baL (rs.take (k + 1)) = max (baL (rs.take k)) r.back.length := by
  unfold baL; rw [List.take_add_one, h]; simp

/-- A lookup as matches look at it. -/
def Mt (B : Nat) (W : World) (h : FuncId) (Bm : Nat) (lk : Lk) : Prop := ∃ A n c fo ba, Bk W Bm 86 #[.slice A n c, .bool lk.ign, .func (.func h) #[] #[], .int .i64 ((fo : Nat) : Int), .int .i64 ((ba : Nat) : Int)] ∧ RdR W (SB B W) A n lk.rules ∧ Hd n c ∧
  (∀ r ∈ lk.rules, r.inn.length + r.ahead.length ≤ fo) ∧ (∀ r ∈ lk.rules, r.back.length ≤ ba) ∧ fo ≤ 9223372036854775807 ∧ ba ≤ 9223372036854775807

set_option maxRecDepth 100000 in
set_option maxHeartbeats 2000000 in
theorem newMatcher_c (B : Nat) (h : FuncId) (A : Option Addr) (n c : Nat) (lk : Lk) (w : World) (hB : B ≤ w.heap.size) (hA : RdR w (SB B w) A n lk.rules) (hd : Hd n c) (hn : n ≤ 9223372036854775806) (hsum : ∀ r ∈ lk.rules, r.inn.length + r.ahead.length ≤ 9223372036854775807) (hbk : ∀ r ∈ lk.rules, r.back.length ≤ 9223372036854775807) :
    Calls Try.prog 26 #[.agg #[.int .i64 lk.kind, .bool lk.ign, .slice A n c], .func (.func h) #[] #[]] w fun e w' => ∃ Bm, e = .returned (.pointer (some ⟨Bm, 0, none⟩)) ∧ w.heap.size ≤ Bm ∧ Mt B w' h Bm lk ∧ Below w.heap.size w w' := by
  have HL := Lib.hid hA.len
  have HS := Lib.hid hsum; have HK := Lib.hid hbk; clear hsum hbk
  go_enter Try.func26, Try.ntmps26
  go_wp2
  obtain ⟨Bm, hBm⟩ : ∃ Bm, Bm = w.heap.size + 1 := ⟨_, rfl⟩
  obtain ⟨w1, hw1⟩ : ∃ w1, w1 = (w.alloc (.cells #[.int .i64 lk.kind, .bool lk.ign, .slice A n c] 44)).alloc (.cells #[.slice A n c, .bool lk.ign, .func (.func h) #[] #[], .int .i64 0, .int .i64 0] 86) := ⟨_, rfl⟩
  have k1 : Bk w1 Bm 86 #[.slice A n c, .bool lk.ign, .func (.func h) #[] #[], .int .i64 0, .int .i64 0] := by
    have q := Bk.new (w.alloc (.cells #[.int .i64 lk.kind, .bool lk.ign, .slice A n c] 44)) 86 #[.slice A n c, .bool lk.ign, .func (.func h) #[] #[], .int .i64 0, .int .i64 0]
    rw [World.size_alloc] at q
    rw [hw1, hBm]; exact q
  have bw : Below w.heap.size w w1 := by rw [hw1]; exact below_lit _ _ (below_lit _ _ (Below.refl _ _) _) _
  rw [← hw1, ← hBm]
  have HBM := Lib.hid hBm
  have hBm2 : w.heap.size < Bm := by omega
  clear hw1 hBm
  go_loopw [18] (fun i wr => ∃ (k fo ba : Nat), k ≤ n ∧ i = .int .i64 k ∧ Bk wr Bm 86 #[.slice A n c, .bool lk.ign, .func (.func h) #[] #[], .int .i64 (fo : Int), .int .i64 (ba : Int)] ∧ fo = foL (lk.rules.take k) ∧ ba = baL (lk.rules.take k) ∧ Below w.heap.size w wr) (fun i _ => n - (intOf i).toNat)
  case atStart => exact ⟨0, 0, 0, by omega, rfl, k1, rfl, rfl, bw⟩
  case round =>
    obtain ⟨k, fo, ba, hk, rfl, kr, hfo, hba, hbr⟩ := hrel
    clear k1 bw
    have bfo : fo ≤ 9223372036854775807 := by rw [hfo]; exact foldl_max_le _ _ _ _ (by omega) fun r hr => HS.out r (List.mem_of_mem_take hr)
    have bba : ba ≤ 9223372036854775807 := by rw [hba]; exact foldl_max_le _ _ _ _ (by omega) fun r hr => HK.out r (List.mem_of_mem_take hr)
    have HFO := Lib.hid hfo; have HBA := Lib.hid hba; clear hfo hba
    by_cases hlt : k < n
    · obtain ⟨r, hr⟩ := at_some lk.rules k (by have := HL.out; omega)
      obtain ⟨b, o, rfl, _, hc⟩ := (hA.sb hB hbr).pos (by omega)
      obtain ⟨cs, he, hcc⟩ := hc k r hr
      obtain ⟨A1, n1, c1, A2, n2, c2, A3, n3, c3, A5, n5, c5, A7, n7, c7, rfl, r1, r2, r3, _, _, d1, d2, d3, _⟩ := he
      have L1 := Lib.hid r1.len; have L2 := Lib.hid r2.len; have L3 := Lib.hid r3.len
      have g0 := hcc 0 _ rfl
      have g1 := hcc 1 _ rfl
      have g2 := hcc 2 _ rfl
      have g3 := hcc 3 _ rfl
      have g4 := hcc 4 _ rfl
      have g5 := hcc 5 _ rfl
      rw [Nat.add_zero] at g0
      have s1 : n2 + n3 ≤ 9223372036854775807 := by have := HS.out r (List.mem_of_getElem? hr); have := L2.out; have := L3.out; omega
      have s2 : (n2 : Int) + (n3 : Int) ≤ 9223372036854775807 := by omega
      have HR := Lib.hid hr
      clear hcc hc hr r1 r2 r3 d1 d2 d3 s1
      have kz : (0 : Int) ≤ (k : Int) := by omega
      have kn : (k : Int) < (n : Int) := by omega
      have hbs := kr.lt
      have ce3 : wr.cell? ⟨Bm, 3, none⟩ = some (.int .i64 (fo : Int)) := by have := kr.cell 3; simpa using this
      have ce4 : wr.cell? ⟨Bm, 4, none⟩ = some (.int .i64 (ba : Int)) := by have := kr.cell 4; simpa using this
      have fe3 := kr.frozen 3
      have fe4 := kr.frozen 4
      have hne : Bm ≠ wr.heap.size := by omega
      go_wp2

      go_region
      have hx3 : max (fo : Int) ((n2 : Int) + (n3 : Int)) = ((max fo (n2 + n3) : Nat) : Int) := by omega
      rw [hx3]
      have bx3 : max fo (n2 + n3) ≤ 9223372036854775807 := by omega
      obtain ⟨fo', hfo'⟩ : ∃ fo', fo' = max fo (n2 + n3) := ⟨_, rfl⟩
      rw [← hfo'] at bx3 ⊢
      generalize hw5 : ((wr.setCell ⟨Bm, 3, none⟩ (.int .i64 (fo' : Int))).alloc (.cells #[.slice A1 n1 c1, .slice A2 n2 c2, .slice A3 n3 c3, .slice A5 n5 c5, .slice A7 n7 c7, .int .i64 r.x] 48)).drew = w5
      have k5 : Bk w5 Bm 86 #[.slice (some ⟨b, o, none⟩) n c, .bool lk.ign, .func (.func h) #[] #[], .int .i64 (fo' : Int), .int .i64 (ba : Int)] := by
        rw [← hw5]; exact (kr.set_ 3 _).alloc _
      have q5 : Bk w5 wr.heap.size 48 #[.slice A1 n1 c1, .slice A2 n2 c2, .slice A3 n3 c3, .slice A5 n5 c5, .slice A7 n7 c7, .int .i64 r.x] := by
        rw [← hw5]
        have q := Bk.new (wr.setCell ⟨Bm, 3, none⟩ (.int .i64 (fo' : Int))) 48 #[.slice A1 n1 c1, .slice A2 n2 c2, .slice A3 n3 c3, .slice A5 n5 c5, .slice A7 n7 c7, .int .i64 r.x]
        have hz : (wr.setCell ⟨Bm, 3, none⟩ (.int .i64 (fo' : Int))).heap.size = wr.heap.size := by simp
        rw [hz] at q
        exact q
      have b5 : Below w.heap.size w w5 := by
        rw [← hw5]
        have q := (hbr.setCell (p := ⟨Bm, 3, none⟩) (by dsimp only; omega) (.int .i64 (fo' : Int))).alloc (by simp; exact hbr.size) (.cells #[.slice A1 n1 c1, .slice A2 n2 c2, .slice A3 n3 c3, .slice A5 n5 c5, .slice A7 n7 c7, .int .i64 r.x] 48)
        exact ⟨q.os, q.tape, q.output, q.size, q.block⟩
      have HFP := Lib.hid hfo'
      clear hw5 ce3 ce4 fe3 fe4 hx3 hfo' g0 g1 g2 g3 g4 g5
      have ce4 : w5.cell? ⟨Bm, 4, none⟩ = some (.int .i64 (ba : Int)) := by have := k5.cell 4; simpa using this
      have fe4 := k5.frozen 4
      have ce0 : w5.cell? ⟨wr.heap.size, 0, none⟩ = some (.slice A1 n1 c1) := by have := q5.cell 0; simpa using this
      go_wp2
      go_region
      have hx4 : max (ba : Int) (n1 : Int) = ((max ba n1 : Nat) : Int) := by omega
      rw [hx4]
      have k6 : Bk (w5.setCell ⟨Bm, 4, none⟩ (.int .i64 ((max ba n1 : Nat) : Int))).drew Bm 86 #[.slice (some ⟨b, o, none⟩) n c, .bool lk.ign, .func (.func h) #[] #[], .int .i64 (fo' : Int), .int .i64 ((max ba n1 : Nat) : Int)] := k5.set_ 4 _
      have b6 : Below w.heap.size w (w5.setCell ⟨Bm, 4, none⟩ (.int .i64 ((max ba n1 : Nat) : Int))).drew := by
        have q := b5.setCell (p := ⟨Bm, 4, none⟩) (by dsimp only; omega) (.int .i64 ((max ba n1 : Nat) : Int))
        exact ⟨q.os, q.tape, q.output, q.size, q.block⟩
      go_wp2
      go_roundw
      case rel =>
        refine ⟨k + 1, fo', max ba n1, by omega, by go_num, k6, ?_, ?_, b6⟩
        · rw [HFP.out, HFO.out, foL_next HR.out, L2.out, L3.out]
        · rw [HBA.out, baL_next HR.out, L1.out]
      case measure => simp [intOf]; omega
    · go_wp2
      go_ret
      refine ⟨Bm, rfl, by omega, ?_, hbr⟩
      have e : lk.rules.take k = lk.rules := List.take_of_length_le (by have := HL.out; omega)
      have e1 := HFO.out
      have e2 := HBA.out
      rw [e] at e1 e2
      exact ⟨A, n, c, fo, ba, kr, hA.sb hB hbr, hd, by rw [e1]; exact (foldl_max_ge _ _ _).2, by rw [e2]; exact (foldl_max_ge _ _ _).2, bfo, bba⟩

end Go.Proofs.Ytkoocipagndclaa
