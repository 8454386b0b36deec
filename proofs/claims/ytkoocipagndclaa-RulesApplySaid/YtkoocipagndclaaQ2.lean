/- Walks: the document's ligated. -/
import Derived.Test.YtkoocipagndclaaQ1
namespace Go.Proofs.Ytkoocipagndclaa
open Go.RowKit Go.Shelf

/-- Without the items whose numbers, counted from n on, S tells. -/
def dropO (S : Nat → Bool) : Nat → List Itm → List Itm
  | _, [] => []
  | n, x :: xs => if S n then dropO S (n + 1) xs else x :: dropO S (n + 1) xs
theorem dropO_app (S : Nat → Bool) : ∀ (xs ys : List Itm) (n : Nat), dropO S n (xs ++ ys) = dropO S n xs ++ dropO S (n + xs.length) ys
  | [], ys, n => rfl
  | x :: xs, ys, n => by
    have ih := dropO_app S xs ys (n + 1)
    rw [List.cons_append, dropO, dropO, ih, List.length_cons, show n + 1 + xs.length = n + (xs.length + 1) by omega]
    split <;> rfl
theorem dropO_none (S : Nat → Bool) : ∀ (xs : List Itm) (n : Nat), (∀ i, n ≤ i → i < n + xs.length → S i = false) → dropO S n xs = xs
  | [], _, _ => rfl
  | x :: xs, n, h => by
    rw [dropO, if_neg (by rw [h n (Nat.le_refl _) (by simp)]; simp), dropO_none S xs (n + 1) (fun i h1 h2 => h i (by omega) (by simp; omega))]
theorem dropO_congr {S T : Nat → Bool} : ∀ (xs : List Itm) (n : Nat), (∀ i, n ≤ i → S i = T i) → dropO S n xs = dropO T n xs
  | [], _, _ => rfl
  | x :: xs, n, h => by
    rw [dropO, dropO, h n (Nat.le_refl _), dropO_congr xs (n + 1) fun i h1 => h i (by omega)]
theorem dropO_next {S : Nat → Bool} {xs : List Itm} {i : Nat} {x : Itm} (h : xs[i]? = some x) : dropO S 0 (xs.take (i + 1)) = dropO S 0 (xs.take i) ++ if S i then [] else [x] := by
  have hl := (List.getElem?_eq_some_iff.1 h).1
  rw [List.take_add_one, h, dropO_app, Nat.zero_add, List.length_take, Nat.min_eq_left (by omega)]
  show _ ++ dropO S i [x] = _
  rw [dropO, dropO]
theorem foldr_drop {run : List Itm} : ∀ {l : List Nat}, l.Pairwise (· < ·) → (∀ x ∈ l, x < run.length) → l.foldr (fun i r => r.eraseIdx i) run = dropO (fun i => l.contains i) 0 run
  | [], _, _ => (dropO_none _ _ _ fun i _ _ => rfl).symm
  | a :: t, hp, hb => by
    have ih := foldr_drop (List.pairwise_cons.1 hp).2 (fun x hx => hb x (List.mem_cons_of_mem _ hx))
    have ha := hb a (List.mem_cons_self ..)
    have hlt := (List.pairwise_cons.1 hp).1
    have hno : ∀ i, i ≤ a → t.contains i = false := fun i hi => by
      rw [Bool.eq_false_iff]
      intro h
      have hm : i ∈ t := by simpa using h
      have := hlt i hm
      omega
    have e : run = run.take a ++ run[a] :: run.drop (a + 1) := by rw [List.getElem_cons_drop, List.take_append_drop]
    have hta : (run.take a).length = a := by rw [List.length_take]; omega
    rw [List.foldr_cons, ih]
    have e1 : dropO (fun i => t.contains i) 0 run = run.take a ++ run[a] :: dropO (fun i => t.contains i) (a + 1) (run.drop (a + 1)) := by
      conv => lhs; rw [e]
      rw [dropO_app, dropO_none _ (run.take a) 0 (fun i _ h => hno i (by omega)), Nat.zero_add, hta, dropO, if_neg (by rw [hno a (Nat.le_refl _)]; simp)]
    have e2 : dropO (fun i => (a :: t).contains i) 0 run = run.take a ++ dropO (fun i => t.contains i) (a + 1) (run.drop (a + 1)) := by
      conv => lhs; rw [e]
      rw [dropO_app, dropO_none _ (run.take a) 0 (fun i _ h => by
        rw [List.contains_cons, hno i (by omega), Bool.or_false]
        simp; omega), Nat.zero_add, hta, dropO, if_pos (by simp)]
      congr 1
      refine dropO_congr _ _ fun i hi => ?_
      rw [List.contains_cons, show (i == a) = false by simp; omega, Bool.false_or]
    rw [e1, e2, List.eraseIdx_append_of_length_le (by omega), hta, Nat.sub_self]
    rfl
theorem nat_contains (l : List Nat) (i : Nat) : (natI l).contains (i : Int) = l.contains i := by
  rw [Bool.eq_iff_iff]
  simp [natI]
  constructor
  · rintro ⟨a, h, e⟩
    have : a = i := by omega
    subst this; exact h
  · intro h; exact ⟨i, h, rfl⟩
theorem news_two (w : World) (x : Obj) (cs : Array Value) (e : TypeId) : 0 < 1 → ∃ b o, some (⟨w.heap.size + 1, 0, none⟩ : Addr) = some ⟨b, o, none⟩ ∧ ∀ j u, cs.toList[j]? = some u → ((w.alloc x).alloc (.cells cs e)).cell? ⟨b, o + j, none⟩ = some u := by
  have h := news_new (w.alloc x) cs.toList e
  rw [World.size_alloc] at h
  simpa using h

set_option maxRecDepth 100000 in
set_option maxHeartbeats 4000000 in
theorem qligated_c (r : Rul) (A1 : Option Addr) (n1 c1 : Nat) (A2 : Option Addr) (n2 c2 : Nat) (A3 : Option Addr) (n3 c3 : Nat) (A4 : Option Addr) (n4 c4 : Nat) (A5 : Option Addr) (n5 c5 : Nat) (RA : Option Addr) (rn rc : Nat) (run : List Itm) (IA : Option Addr) (m mc : Nat) (p : Nat) (ps : List Nat) (gl : Int) (t : List Int) (w : World) (hI : RdI w (lo w.heap.size) RA rn run) (hP : Rd w (lo w.heap.size) IA m (natI (p :: ps))) (hpd : Hd m mc) (h4 : Rd w (lo w.heap.size) A4 n4 r.out) (d4 : Hd n4 c4)
    (ho : r.out = gl :: t) (hb : ∀ q ∈ p :: ps, q < run.length) (hpw : (p :: ps).Pairwise (· < ·)) (hrn : rn ≤ 1000) :
    Calls Try.prog 50 #[.slice RA rn rc, .agg #[.slice A1 n1 c1, .slice A2 n2 c2, .slice A3 n3 c3, .slice A4 n4 c4, .slice A5 n5 c5, .int .i64 r.x], .slice IA m mc] w (RPost w.heap.size w (joinL (p :: ps) gl run)) := by
  have hrl := hI.len
  have hpl := hb p (List.mem_cons_self ..)
  obtain ⟨ip, hip⟩ := at_some run p hpl
  obtain ⟨lst, hlst⟩ : ∃ x, x = leastC run ip.c (p :: ps) := ⟨_, rfl⟩
  obtain ⟨R, hR⟩ : ∃ R, R = joinL (p :: ps) gl run := ⟨_, rfl⟩
  rw [← hR]
  obtain ⟨run', hr'⟩ : ∃ l, l = run.set p { ip with g := gl, c := lst } := ⟨_, rfl⟩
  have hRR : R = dropO (fun i => ps.contains i) 0 run' := by
    rw [hR, join_eq hip, ← hlst, ← hr']
    exact foldr_drop (List.pairwise_cons.1 hpw).2 fun x hx => by rw [hr', List.length_set]; exact hb x (List.mem_cons_of_mem _ hx)
  have hpn : ps.contains p = false := by
    rw [Bool.eq_false_iff]
    intro h
    have hm : p ∈ ps := by simpa using h
    have := (List.pairwise_cons.1 hpw).1 p hm
    omega
  have hl' : run'.length = rn := by rw [hr', List.length_set, hrl]
  have HR' := Lib.hid hr'; have HRR := Lib.hid hRR; have HPN := Lib.hid hpn; have HL' := Lib.hid hl'; have HLST := Lib.hid hlst; have HRL := Lib.hid hrl; have HIP := Lib.hid hip; have HB := Lib.hid hb
  have HPL := Lib.hid (show (p :: ps).length = m by have := hP.len; rw [natI_len] at this; exact this)
  have hm0 : 0 < m := by rw [← HPL.out]; simp
  have m0 : (0 : Int) < (m : Int) := by omega
  have hmM : m ≤ 9223372036854775807 := Nat.le_trans hpd.1 hpd.2
  have hn4 : 0 < n4 := by have := h4.len; rw [ho] at this; simp at this; omega
  have n40 : (0 : Int) < (n4 : Int) := by omega
  have hn4M : n4 ≤ 9223372036854775807 := Nat.le_trans d4.1 d4.2
  have pz : (0 : Int) ≤ (p : Int) := by omega
  have pr : (p : Int) < (rn : Int) := by omega
  have b0 : Below w.heap.size w (w.alloc (.cells #[.slice A1 n1 c1, .slice A2 n2 c2, .slice A3 n3 c3, .slice A4 n4 c4, .slice A5 n5 c5, .int .i64 r.x] 48)) := (Below.refl _ _).alloc (Nat.le_refl _) _
  have kr := Bk.new w 48 #[.slice A1 n1 c1, .slice A2 n2 c2, .slice A3 n3 c3, .slice A4 n4 c4, .slice A5 n5 c5, .int .i64 r.x]
  replace hI := hI.call b0
  replace hP := hP.call b0
  replace h4 := h4.call b0
  clear hR hRR hpn hl' hr' hlst hip hrl hb
  go_enter Try.func50, Try.ntmps50
  go_upto_region 1 with fail
  generalize w.alloc (.cells #[.slice A1 n1 c1, .slice A2 n2 c2, .slice A3 n3 c3, .slice A4 n4 c4, .slice A5 n5 c5, .int .i64 r.x] 48) = W0 at kr b0 hI hP h4 ⊢
  have FIN := Lib.hid fun (A : Option Addr) (n c : Nat) (W : World) (h : Ow 51 6 W W0.heap.size A n c (itc R)) (hb : Below W0.heap.size W0 W) => (show RPost w.heap.size w R (.returned (.slice A n c)) W from ⟨A, n, c, rfl, h.lower b0.size, below_call b0 hb⟩)
  clear b0
  generalize w.heap.size = br at kr ⊢
  have bE : Below W0.heap.size W0 (W0.alloc (.cells #[] 51)) := (Below.refl _ _).alloc (Nat.le_refl _) _
  have hI1 := hI.call bE
  have hP1 := hP.call bE
  have oE := own_empty W0 51 6
  obtain ⟨pb, po, rfl, _, hpc⟩ := hP1.pos hm0
  have HPC := Lib.hid fun (W : World) (hb : Below W0.heap.size W0 W) (j q : Nat) (hq : (p :: ps)[j]? = some q) => (show W.cell? ⟨pb, po + j, none⟩ = some (.int .i64 (q : Int)) by
    obtain ⟨b2, o2, e2, _, hpc2⟩ := (hP.call hb).pos hm0
    injection e2 with e2; injection e2 with e2 e3; subst e2; subst e3
    obtain ⟨cs, rfl, hcc⟩ := hpc2 j (q : Int) (natI_at hq)
    have := hcc 0 _ rfl
    simpa using this)
  obtain ⟨rb, ro, rfl, _, hci⟩ := hI1.pos (by omega)
  have HIC := Lib.hid fun (W : World) (hb : Below W0.heap.size W0 W) (k : Nat) (it : Itm) (hk : run[k]? = some it) => (show W.cell? ⟨rb, ro + k * 6, none⟩ = some (.int .i64 it.g) ∧ W.cell? ⟨rb, ro + k * 6 + 1, none⟩ = some (.int .i64 it.c) ∧ W.cell? ⟨rb, ro + k * 6 + 2, none⟩ = some (.int .i64 it.f) ∧ W.cell? ⟨rb, ro + k * 6 + 3, none⟩ = some (.int .i64 it.a) ∧ W.cell? ⟨rb, ro + k * 6 + 4, none⟩ = some (.int .i64 it.x) ∧ W.cell? ⟨rb, ro + k * 6 + 5, none⟩ = some (.int .i64 it.y) by
    obtain ⟨b2, o2, e2, _, hc2⟩ := (hI.call hb).pos (by omega)
    injection e2 with e2; injection e2 with e2 e3; subst e2; subst e3
    obtain ⟨cs, rfl, hcc⟩ := hc2 k it hk
    exact ⟨hcc 0 _ rfl, hcc 1 _ rfl, hcc 2 _ rfl, hcc 3 _ rfl, hcc 4 _ rfl, hcc 5 _ rfl⟩)
  have y0 := HPC.out _ bE 0 p rfl
  rw [Nat.add_zero] at y0
  have x1 := (HIC.out _ bE p ip HIP.out).2.1
  clear hpc hci hI1 hP1
  go_upto_region 3 with fail
  clear y0 x1
  go_wp2
  go_loop [8, 9] (fun s8 s9 => ∃ k : Nat, k ≤ m ∧ s9 = .int .i64 (k : Int) ∧ s8 = .int .i64 (leastC run ip.c ((p :: ps).take k))) (fun _ i => m - (intOf i).toNat)
  case atStart => exact ⟨0, by omega, rfl, rfl⟩
  case round =>
    obtain ⟨k, hk, rfl, rfl⟩ := hrel
    by_cases hlt : k < m
    · obtain ⟨q, hq⟩ := at_some (p :: ps) k (by have := HPL.out; omega)
      have hqr := HB.out q (List.mem_of_getElem? hq)
      obtain ⟨iq, hiq⟩ := at_some run q hqr
      have yk := HPC.out _ bE k q hq
      have xq := (HIC.out _ bE q iq hiq).2.1
      have HNX := Lib.hid (leastC_next (run := run) (m := ip.c) hq)
      have HCQ := Lib.hid (cAt_some hiq)
      have kz : (0 : Int) ≤ (k : Int) := by omega
      have km : (k : Int) < (m : Int) := by omega
      have qz : (0 : Int) ≤ (q : Int) := by omega
      have qr : (q : Int) < (rn : Int) := by have := HRL.out; omega
      generalize hL : leastC run ip.c ((p :: ps).take k) = L at *
      clear hq hiq hL
      by_cases hc : iq.c < L
      · have tc : decide (iq.c < L) = true := by simp; omega
        go_wp2
        go_round
        case rel => exact ⟨k + 1, by omega, by go_num, by rw [HNX.out, HCQ.out]; congr 1; omega⟩
        case measure => simp [intOf]; omega
      · have tc : decide (iq.c < L) = false := by simp; omega
        go_wp2
        go_round
        case rel => exact ⟨k + 1, by omega, by go_num, by rw [HNX.out, HCQ.out]; congr 1; omega⟩
        case measure => simp [intOf]; omega
    · have km : decide ((k : Int) < (m : Int)) = false := by simp; omega
      have km' : decide (k < m) = false := by simp; omega
      have htk : leastC run ip.c ((p :: ps).take k) = lst := by rw [HLST.out, List.take_of_length_le (by have := HPL.out; omega)]
      rw [htk]
      clear htk
      go_wp2
      go_loopw [7, 10] (fun s7 s10 wr => ∃ (j n c : Nat) (A : Option Addr), j ≤ rn ∧ n ≤ j ∧ s10 = .int .i64 (j : Int) ∧ s7 = .slice A n c ∧ Ow 51 6 wr W0.heap.size A n c (itc (dropO (fun i => ps.contains i) 0 (run'.take j))) ∧ Below W0.heap.size W0 wr) (fun _ i _ => rn - (intOf i).toNat)
      case atStart => exact ⟨0, 0, 0, _, by omega, by omega, rfl, rfl, oE, bE⟩
      case round =>
        clear bE oE
        obtain ⟨j, n, c, A, hj, hnj, rfl, rfl, ho, hbr⟩ := hrel
        by_cases hlj : j < rn
        · obtain ⟨it, hit⟩ := at_some run j (by have := HRL.out; omega)
          obtain ⟨g0, g1, g2, g3, g4, g5⟩ := HIC.out _ hbr j it hit
          have y0 := HPC.out _ hbr 0 p rfl
          rw [Nat.add_zero] at y0
          have ly := cell_lt y0
          dsimp only at ly
          have jz : (0 : Int) ≤ (j : Int) := by omega
          have jn : (j : Int) < (rn : Int) := by omega
          by_cases hjp : j = p
          · subst hjp
            have eit : ip = it := by have := HIP.out; rw [hit] at this; injection this with this; exact this.symm
            subst eit
            have hit' : run'[j]? = some { ip with g := gl, c := lst } := by rw [HR'.out, List.getElem?_set_self (by have := HRL.out; omega)]
            have HDN := Lib.hid (dropO_next (S := fun i => ps.contains i) hit')
            have z3 : wr.cell? ⟨br, 3, none⟩ = some (.slice A4 n4 c4) := (kr.call hbr).cell 3
            obtain ⟨ob, oo, rfl, _, hoc⟩ := (h4.call hbr).pos hn4
            obtain ⟨cs, rfl, hcc⟩ := hoc 0 gl (by rw [‹r.out = gl :: t›]; rfl)
            have o0 := hcc 0 _ rfl
            simp only [Nat.zero_mul, Nat.add_zero] at o0
            have lz := cell_lt z3
            have lo := cell_lt o0
            dsimp only at lz lo
            clear hit hit' hoc hcc
            have ho2 := (ho.alloc (.cells #[.int .i64 gl, .int .i64 lst, .int .i64 ip.f, .int .i64 ip.a, .int .i64 ip.x, .int .i64 ip.y] 51)).alloc (.cells #[.int .i64 gl, .int .i64 lst, .int .i64 ip.f, .int .i64 ip.a, .int .i64 ip.x, .int .i64 ip.y] 51)
            have hb2 := (hbr.alloc hbr.size (.cells #[.int .i64 gl, .int .i64 lst, .int .i64 ip.f, .int .i64 ip.a, .int .i64 ip.x, .int .i64 ip.y] 51)).alloc (by have := hbr.size; simp; omega) (.cells #[.int .i64 gl, .int .i64 lst, .int .i64 ip.f, .int .i64 ip.a, .int .i64 ip.x, .int .i64 ip.y] 51)
            have hN := news_two wr (.cells #[.int .i64 gl, .int .i64 lst, .int .i64 ip.f, .int .i64 ip.a, .int .i64 ip.x, .int .i64 ip.y] 51) #[.int .i64 gl, .int .i64 lst, .int .i64 ip.f, .int .i64 ip.a, .int .i64 ip.x, .int .i64 ip.y] 51
            have hBB : W0.heap.size ≤ ((wr.alloc (.cells #[.int .i64 gl, .int .i64 lst, .int .i64 ip.f, .int .i64 ip.a, .int .i64 ip.x, .int .i64 ip.y] 51)).alloc (.cells #[.int .i64 gl, .int .i64 lst, .int .i64 ip.f, .int .i64 ip.a, .int .i64 ip.x, .int .i64 ip.y] 51)).heap.size := hb2.size
            go_wp2_with (at_builtin; refine appP elt_item rfl _ _ rfl _ W0.heap.size _ _ _ _ _ _ _ #[.int .i64 gl, .int .i64 lst, .int .i64 ip.f, .int .i64 ip.a, .int .i64 ip.x, .int .i64 ip.y].toList (by rfl) (by rfl) ho2 rfl hN (by simp [Value.oneCell']) (by omega) hBB ?_; intro A' c' w' ho' hg' hb' hat')
            go_roundw
            case rel => exact ⟨j + 1, n + 1, c', A', by omega, by omega, by go_num, rfl, by rw [HDN.out, HPN.out, if_neg (by simp), itc_app]; simpa [itc, itmC] using ho', hb2.trans hb'⟩
            case measure => simp [intOf]; omega
          · have tjp : ((j : Int) == (p : Int)) = false := by simp; omega
            have tjp' : (j == p) = false := by simpa using hjp
            have hit' : run'[j]? = some it := by rw [HR'.out, List.getElem?_set_ne (fun h => hjp h.symm)]; exact hit
            have HDN := Lib.hid (dropO_next (S := fun i => ps.contains i) hit')
            have hcn : (natI (p :: ps)).contains (j : Int) = ps.contains j := by rw [nat_contains, List.contains_cons, tjp', Bool.false_or]
            have HCI := Lib.hid fun (W : World) (h : Rd W (lo W.heap.size) (some ⟨pb, po, none⟩) m (natI (p :: ps))) => qIn_c (some ⟨pb, po, none⟩) m mc (natI (p :: ps)) (j : Int) W h hmM
            rw [hcn] at HCI
            clear hcn hit hit'
            have bx : Below wr.heap.size wr (wr.alloc (.cells #[.int .i64 it.g, .int .i64 it.c, .int .i64 it.f, .int .i64 it.a, .int .i64 it.x, .int .i64 it.y] 51)) := (Below.refl _ _).alloc (Nat.le_refl _) _
            have hPx := (hP.call hbr).call bx
            cases hcj : ps.contains j with
            | true =>
              rw [hcj] at HCI HDN
              have hb3 := hbr.alloc hbr.size (.cells #[.int .i64 it.g, .int .i64 it.c, .int .i64 it.f, .int .i64 it.a, .int .i64 it.x, .int .i64 it.y] 51)
              have ho3 := ho.alloc (.cells #[.int .i64 it.g, .int .i64 it.c, .int .i64 it.f, .int .i64 it.a, .int .i64 it.x, .int .i64 it.y] 51)
              go_wp2_with (go_at_call 43; refine (HCI.out _ hPx).mono ?_; rintro e w' ⟨rfl, rfl⟩)
              go_roundw
              case rel => exact ⟨j + 1, n, c, A, by omega, by omega, by go_num, rfl, by rw [HDN.out, if_pos trivial, List.append_nil]; exact ho3, hb3⟩
              case measure => simp [intOf]; omega
            | false =>
              rw [hcj] at HCI HDN
              have ho2 := (ho.alloc (.cells #[.int .i64 it.g, .int .i64 it.c, .int .i64 it.f, .int .i64 it.a, .int .i64 it.x, .int .i64 it.y] 51)).alloc (.cells #[.int .i64 it.g, .int .i64 it.c, .int .i64 it.f, .int .i64 it.a, .int .i64 it.x, .int .i64 it.y] 51)
              have hb2 := (hbr.alloc hbr.size (.cells #[.int .i64 it.g, .int .i64 it.c, .int .i64 it.f, .int .i64 it.a, .int .i64 it.x, .int .i64 it.y] 51)).alloc (by have := hbr.size; simp; omega) (.cells #[.int .i64 it.g, .int .i64 it.c, .int .i64 it.f, .int .i64 it.a, .int .i64 it.x, .int .i64 it.y] 51)
              have hN := news_two wr (.cells #[.int .i64 it.g, .int .i64 it.c, .int .i64 it.f, .int .i64 it.a, .int .i64 it.x, .int .i64 it.y] 51) #[.int .i64 it.g, .int .i64 it.c, .int .i64 it.f, .int .i64 it.a, .int .i64 it.x, .int .i64 it.y] 51
              have hBB : W0.heap.size ≤ ((wr.alloc (.cells #[.int .i64 it.g, .int .i64 it.c, .int .i64 it.f, .int .i64 it.a, .int .i64 it.x, .int .i64 it.y] 51)).alloc (.cells #[.int .i64 it.g, .int .i64 it.c, .int .i64 it.f, .int .i64 it.a, .int .i64 it.x, .int .i64 it.y] 51)).heap.size := hb2.size
              go_wp2_with (first | (go_at_call 43; refine (HCI.out _ hPx).mono ?_; rintro e w' ⟨rfl, rfl⟩) | (at_builtin; refine appP elt_item rfl _ _ rfl _ W0.heap.size _ _ _ _ _ _ _ #[.int .i64 it.g, .int .i64 it.c, .int .i64 it.f, .int .i64 it.a, .int .i64 it.x, .int .i64 it.y].toList (by rfl) (by rfl) ho2 rfl hN (by simp [Value.oneCell']) (by omega) hBB ?_; intro A' c' w' ho' hg' hb' hat'))
              go_roundw
              case rel => exact ⟨j + 1, n + 1, c', A', by omega, by omega, by go_num, rfl, by rw [HDN.out, if_neg (by simp), itc_app]; simpa [itc, itmC] using ho', hb2.trans hb'⟩
              case measure => simp [intOf]; omega
        · have jn : decide ((j : Int) < (rn : Int)) = false := by simp; omega
          have jn' : decide (j < rn) = false := by simp; omega
          have htk : run'.take j = run' := List.take_of_length_le (by have := HL'.out; omega)
          rw [htk, ← HRR.out] at ho
          have HF := Lib.hid (FIN.out _ _ _ _ ho hbr)
          clear htk ho hbr
          go_wp2
          go_ret
          exact HF.out

end Go.Proofs.Ytkoocipagndclaa
