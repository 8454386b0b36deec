/- Walks: the document's taken and Host. -/
import Derived.Test.YtbjcbcdccekbkaaGreatR2
import Derived.Handy
namespace Go.Proofs.YtbjcbcdccekbkaaGreat
open Go.RowKit Go.Shelf

def tmx (o : Option (Anc × Int × Int)) : Int := match o with | some t => t.1.x | none => 0
def tmy (o : Option (Anc × Int × Int)) : Int := match o with | some t => t.1.y | none => 0
def thx (o : Option (Anc × Int × Int)) : Int := match o with | some t => t.2.1 | none => 0
def thy (o : Option (Anc × Int × Int)) : Int := match o with | some t => t.2.2 | none => 0
def takV (o : Option (Anc × Int × Int)) : Value := .tuple #[.agg #[.int .i64 (tmx o), .int .i64 (tmy o)], .agg #[.int .i64 (thx o), .int .i64 (thy o)], .bool o.isSome]
def tk (a : Anc) (o : Option (Int × Int)) (r : Option (Anc × Int × Int)) : Option (Anc × Int × Int) := match o with | some p => some (a, p.1, p.2) | none => r
theorem takenA_drop {F : Fnt} {l : List Anc} {j : Nat} {a : Anc} {h : Int} (ha : l[j]? = some a) : takenA F (l.drop j) h = (if a.k = 2 then tk a (anchorL F h 1 a.c) (takenA F (l.drop (j + 1)) h) else takenA F (l.drop (j + 1)) h) := by
  obtain ⟨hl, rfl⟩ := List.getElem?_eq_some_iff.1 ha
  rw [List.drop_eq_getElem_cons hl]
  unfold takenA
  rw [List.findSome?_cons]
  by_cases hk : l[j].k = 2
  · rw [if_pos hk, if_pos hk]
    cases anchorL F h 1 l[j].c <;> rfl
  · rw [if_neg hk, if_neg hk]
theorem taken_hit (a : Anc) (o : Option (Int × Int)) (h : o.isSome = true) (r : Option (Anc × Int × Int)) : tk a o r = some (a, ax o, ay o) := by
  cases o with
  | none => cases h
  | some p => rfl
theorem taken_miss (a : Anc) (o : Option (Int × Int)) (h : o.isSome = false) (r : Option (Anc × Int × Int)) : tk a o r = r := by
  cases o with
  | none => rfl
  | some p => cases h

/-- Two points are written. -/
theorem pt4 {W : World} {b1 b2 : Nat} {u1 v1 u2 v2 : Value} (k1 : Bk W b1 80 #[u1, v1]) (k2 : Bk W b2 80 #[u2, v2]) (hne : b1 ≠ b2) (x1 y1 x2 y2 : Value) :
    Bk ((((W.setCell ⟨b1, 0, none⟩ x1).setCell ⟨b1, 1, none⟩ y1).setCell ⟨b2, 0, none⟩ x2).setCell ⟨b2, 1, none⟩ y2) b1 80 #[x1, y1] ∧ Bk ((((W.setCell ⟨b1, 0, none⟩ x1).setCell ⟨b1, 1, none⟩ y1).setCell ⟨b2, 0, none⟩ x2).setCell ⟨b2, 1, none⟩ y2) b2 80 #[x2, y2] ∧ Below (min b1 b2) W ((((W.setCell ⟨b1, 0, none⟩ x1).setCell ⟨b1, 1, none⟩ y1).setCell ⟨b2, 0, none⟩ x2).setCell ⟨b2, 1, none⟩ y2) :=
  ⟨(((k1.set_ 0 x1).set_ 1 y1).far (p := ⟨b2, 0, none⟩) hne _).far (p := ⟨b2, 1, none⟩) hne _, (((k2.far (p := ⟨b1, 0, none⟩) (Ne.symm hne) _).far (p := ⟨b1, 1, none⟩) (Ne.symm hne) _).set_ 0 x2).set_ 1 y2,
    ((((Below.refl _ _).setCell (p := ⟨b1, 0, none⟩) (Nat.min_le_left _ _) _).setCell (p := ⟨b1, 1, none⟩) (Nat.min_le_left _ _) _).setCell (p := ⟨b2, 0, none⟩) (Nat.min_le_right _ _) _).setCell (p := ⟨b2, 1, none⟩) (Nat.min_le_right _ _) _⟩
theorem pt_cells {W : World} {b : Nat} {x y : Value} (k : Bk W b 80 #[x, y]) : W.cell? ⟨b, 0, none⟩ = some x ∧ W.cell? ⟨b, 1, none⟩ = some y := ⟨k.cell 0, k.cell 1⟩

set_option maxRecDepth 100000 in
set_option maxHeartbeats 4000000 in
theorem rtaken_c (f : FV) (F : Fnt) (g h : Int) (w : World) (hf : IsF w (lo w.heap.size) f F) :
    Calls Tryz.prog 36 #[.agg f.cells, .int .i64 g, .int .i64 h] w fun e w' => e = .returned (takV (takenL F g h)) ∧ Below w.heap.size w w' := by
  have hl := hf.1.len
  have hd1 := hf.2.2.1.1
  have hd2 := hf.2.2.1.2
  obtain ⟨R, hR⟩ : ∃ R, R = takenL F g h := ⟨_, rfl⟩
  rw [← hR]
  unfold takenL at hR
  have HR := Lib.hid hR
  clear hR
  unfold FV.cells
  go_enter Tryz.func36, Tryz.ntmps36
  go_upto_region 1 with fail
  generalize hW : (((w.alloc (.cells #[.int .i64 f.u0, .slice f.ga f.gn f.gc, .slice f.ca f.cn f.cc, .slice f.la f.ln f.lc, .slice f.a4 f.n4 f.c4, .slice f.a5 f.n5 f.c5, .slice f.a6 f.n6 f.c6, .slice f.a7 f.n7 f.c7, .slice f.a8 f.n8 f.c8] 31)).alloc (.cells #[.int .i64 0, .int .i64 0] 80)).alloc (.cells #[.int .i64 0, .int .i64 0] 80)) = W0
  have b0 : Below w.heap.size w W0 := by rw [← hW]; exact (((Below.refl _ _).alloc (Nat.le_refl _) _).alloc (by simp) _).alloc (by simp; omega) _
  have kf : Bk W0 w.heap.size 31 f.cells := by rw [← hW]; exact ((Bk.new _ _ _).alloc _).alloc _
  have s1 : ∀ (v : World) (o : Obj), (v.alloc o).heap.size = v.heap.size + 1 := fun v o => by simp
  have k1 : Bk W0 (w.heap.size + 1) 80 #[.int .i64 0, .int .i64 0] := by rw [← hW, ← s1 w (.cells #[.int .i64 f.u0, .slice f.ga f.gn f.gc, .slice f.ca f.cn f.cc, .slice f.la f.ln f.lc, .slice f.a4 f.n4 f.c4, .slice f.a5 f.n5 f.c5, .slice f.a6 f.n6 f.c6, .slice f.a7 f.n7 f.c7, .slice f.a8 f.n8 f.c8] 31)]; exact (Bk.new _ _ _).alloc _
  have k2 : Bk W0 (w.heap.size + 1 + 1) 80 #[.int .i64 0, .int .i64 0] := by rw [← hW, ← s1 w (.cells #[.int .i64 f.u0, .slice f.ga f.gn f.gc, .slice f.ca f.cn f.cc, .slice f.la f.ln f.lc, .slice f.a4 f.n4 f.c4, .slice f.a5 f.n5 f.c5, .slice f.a6 f.n6 f.c6, .slice f.a7 f.n7 f.c7, .slice f.a8 f.n8 f.c8] 31), ← s1 _ (.cells #[.int .i64 0, .int .i64 0] 80)]; exact Bk.new _ _ _
  have hf0 := hf.call b0
  have hbs := b0.size
  clear hW hf
  have p1 := k1.lt
  have p2 := k2.lt
  have p3 := kf.lt
  have fr10 := k1.frozen 0; have fr11 := k1.frozen 1; have fr20 := k2.frozen 0; have fr21 := k2.frozen 1
  clear s1
  have q10 : W0.cell? ⟨w.heap.size + 1, 0, none⟩ = some (.int .i64 0) := k1.cell 0
  have q11 : W0.cell? ⟨w.heap.size + 1, 1, none⟩ = some (.int .i64 0) := k1.cell 1
  have q20 : W0.cell? ⟨w.heap.size + 1 + 1, 0, none⟩ = some (.int .i64 0) := k2.cell 0
  have q21 : W0.cell? ⟨w.heap.size + 1 + 1, 1, none⟩ = some (.int .i64 0) := k2.cell 1
  generalize hbf : w.heap.size = bf at *
  have y1 := (font_cells kf).2.1
  have hne : bf + 1 ≠ bf + 1 + 1 := by omega
  by_cases h0 : g < 0
  · have hr : R = none := by rw [HR.out, ancOf_out (.inl h0)]; rfl
    subst hr
    clear hl HR
    go_wp2
    obtain ⟨j1, j2, jb⟩ := pt4 k1 k2 hne (.int .i64 0) (.int .i64 0) (.int .i64 0) (.int .i64 0)
    obtain ⟨e0, e1⟩ := pt_cells j1
    obtain ⟨e2, e3⟩ := pt_cells j2
    exact bodyPost_ret (v := takV none) (by simp [results, Tryz.results36, go_sem, e0, e1, e2, e3]; rfl) rfl ⟨rfl, by first | exact b0.trans (jb.mono (by omega)) | (rw [hbf]; exact b0.trans (jb.mono (by omega)))⟩
  · have t0 : decide (g < 0) = false := by simp; omega
    by_cases h1 : (f.gn : Int) ≤ g
    · have hr : R = none := by rw [HR.out, ancOf_out (.inr (by omega))]; rfl
      subst hr
      clear hl HR
      go_wp2
      obtain ⟨j1, j2, jb⟩ := pt4 k1 k2 hne (.int .i64 0) (.int .i64 0) (.int .i64 0) (.int .i64 0)
      obtain ⟨e0, e1⟩ := pt_cells j1
      obtain ⟨e2, e3⟩ := pt_cells j2
      exact bodyPost_ret (v := takV none) (by simp [results, Tryz.results36, go_sem, e0, e1, e2, e3]; rfl) rfl ⟨rfl, by first | exact b0.trans (jb.mono (by omega)) | (rw [hbf]; exact b0.trans (jb.mono (by omega)))⟩
    · have t1 : decide ((f.gn : Int) ≤ g) = false := by simp; omega
      obtain ⟨q, rfl⟩ : ∃ q : Nat, g = q := ⟨g.toNat, by omega⟩
      have t2 : decide (f.gn ≤ q) = false := by simp; omega
      obtain ⟨gb, go', ha, hb0, hc⟩ := hf0.1.pos (by omega)
      obtain ⟨x, hx⟩ := at_some F.gly q (by omega)
      obtain ⟨cs, ⟨u0, u1, u3, u4, u5, A, n, c', u7, u8, rfl, hA, hdA⟩, hcc⟩ := hc q x hx
      have c6 := hcc 6 _ rfl
      have e : R = takenA F (x.anc.drop 0) h := by rw [HR.out, ancOf_in hx]; rfl
      have HR0 := Lib.hid e
      rw [ha] at y1
      have HGA := Lib.hid ha
      have t3 : (0 : Int) ≤ (q : Int) := by omega
      have t4 : (q : Int) < (f.gn : Int) := by omega
      have hnM : n ≤ 9223372036854775807 := Nat.le_trans hdA.1 hdA.2
      have HLA := Lib.hid hA.len
      clear e hl hc hcc hx ha HR hbs
      go_wp2
      go_loopw [10] (fun i wr => ∃ j : Nat, j ≤ n ∧ i = .int .i64 j ∧ takenA F (x.anc.drop j) h = R ∧ Below W0.heap.size W0 wr) (fun i _ => n - (intOf i).toNat)
      case atStart => exact ⟨0, by omega, rfl, HR0.out.symm, Below.refl _ _⟩
      case round =>
        obtain ⟨j, hj, rfl, hfd, hbr⟩ := hrel
        have HFD := Lib.hid hfd; clear hfd
        have kfr := kf.call hbr
        have k1r := k1.call hbr
        have k2r := k2.call hbr
        have hfr := hf0.call hbr
        clear q10 q11 q20 q21 fr10 fr11 fr20 fr21 y1 c6
        have fr10 := k1r.frozen 0; have fr11 := k1r.frozen 1; have fr20 := k2r.frozen 0; have fr21 := k2r.frozen 1
        have q10 : wr.cell? ⟨bf + 1, 0, none⟩ = some (.int .i64 0) := k1r.cell 0
        have q11 : wr.cell? ⟨bf + 1, 1, none⟩ = some (.int .i64 0) := k1r.cell 1
        have q20 : wr.cell? ⟨bf + 1 + 1, 0, none⟩ = some (.int .i64 0) := k2r.cell 0
        have q21 : wr.cell? ⟨bf + 1 + 1, 1, none⟩ = some (.int .i64 0) := k2r.cell 1
        by_cases hlt : j < n
        · obtain ⟨a, haj⟩ := at_some x.anc j (by have := HLA.out; omega)
          obtain ⟨b2, o2, rfl, hb2, hc2⟩ := hA.pos (by omega)
          obtain ⟨cs, rfl, hcc⟩ := hc2 j a haj
          have g0 := cell_call (hcc 0 _ rfl) hbr
          have g1 := cell_call (hcc 1 _ rfl) hbr
          have g2 := cell_call (hcc 2 _ rfl) hbr
          have g3 := cell_call (hcc 3 _ rfl) hbr
          rw [Nat.add_zero] at g0
          have hst := takenA_drop (F := F) (h := h) haj
          rw [HFD.out] at hst
          have HST := Lib.hid hst
          have jz : (0 : Int) ≤ (j : Int) := by omega
          have jn : (j : Int) < (n : Int) := by omega
          clear hst haj hc2 hcc
          by_cases hk : a.k = 2
          · have e1 : (a.k == 2) = true := by simp [hk]
            have HAC := Lib.hid fun (W : World) (hh : IsF W (lo W.heap.size) f F) => ranchor_c f F h 1 a.c W hh
            simp only [ancV_u] at HAC
            unfold FV.cells at HAC
            rw [HGA.out] at HAC
            generalize anchorL F h 1 a.c = o1 at *
            obtain ⟨y0, y1, y2, y3, y4, y5, y6, y7, y8⟩ := font_cells kfr
            rw [HGA.out] at y1
            go_wp2
            go_region_held3 (fun w' => w'.cell? ⟨bf, 0, none⟩ = some (.int .i64 f.u0) ∧ w'.cell? ⟨bf, 1, none⟩ = some (.slice (some ⟨gb, go', none⟩) f.gn f.gc) ∧ w'.cell? ⟨bf, 2, none⟩ = some (.slice f.ca f.cn f.cc) ∧ w'.cell? ⟨bf, 3, none⟩ = some (.slice f.la f.ln f.lc) ∧ w'.cell? ⟨bf, 4, none⟩ = some (.slice f.a4 f.n4 f.c4) ∧ w'.cell? ⟨bf, 5, none⟩ = some (.slice f.a5 f.n5 f.c5) ∧ w'.cell? ⟨bf, 6, none⟩ = some (.slice f.a6 f.n6 f.c6) ∧ w'.cell? ⟨bf, 7, none⟩ = some (.slice f.a7 f.n7 f.c7) ∧ w'.cell? ⟨bf, 8, none⟩ = some (.slice f.a8 f.n8 f.c8) ∧ w'.cell? ⟨b2, o2 + j * 4 + 1, none⟩ = some (.int .i64 a.c)) (first | (with_reducible exact z) | go_keep) (first
              | (go_at_call 33; (with_reducible refine (HAC.out _ ?_).mono ?_); exact hfr; rintro e w5 ⟨rfl, hb5⟩; obtain ⟨z0, z1, z2, z3, z4, z5, z6, z7, z8⟩ := font_cells (kfr.call (below_undrew hb5)); rw [HGA.out] at z1; have zg := cell_call (w := wr) g1 (below_undrew hb5); have z := And.intro z0 (And.intro z1 (And.intro z2 (And.intro z3 (And.intro z4 (And.intro z5 (And.intro z6 (And.intro z7 (And.intro z8 zg))))))))))
            have b5 := below_undrew hb5
            have hbr5 := below_call hbr b5
            have x2 := cell_call g2 b5
            have x3 := cell_call g3 b5
            have k15 := k1r.call b5
            have k25 := k2r.call b5
            clear z hb5 b5 y0 y1 y2 y3 y4 y5 y6 y7 y8 z0 z1 z2 z3 z4 z5 z6 z7 z8 zg g0 g1 g2 g3 hfr kfr HAC k1r k2r q10 q11 q20 q21 fr10 fr11 fr20 fr21
            by_cases hs : o1.isSome = true
            · have hres : R = some (a, ax o1, ay o1) := by rw [HST.out, if_pos hk]; exact taken_hit a o1 hs _
              subst hres
              rw [hs]
              have fr10 := k15.frozen 0; have fr11 := k15.frozen 1; have fr20 := k25.frozen 0; have fr21 := k25.frozen 1
              have q10 : w5.cell? ⟨bf + 1, 0, none⟩ = some (.int .i64 0) := k15.cell 0
              have q11 : w5.cell? ⟨bf + 1, 1, none⟩ = some (.int .i64 0) := k15.cell 1
              have q20 : w5.cell? ⟨bf + 1 + 1, 0, none⟩ = some (.int .i64 0) := k25.cell 0
              have q21 : w5.cell? ⟨bf + 1 + 1, 1, none⟩ = some (.int .i64 0) := k25.cell 1
              go_wp2
              go_region
              obtain ⟨j1, j2, jb⟩ := pt4 k15 k25 hne (.int .i64 a.x) (.int .i64 a.y) (.int .i64 (ax o1)) (.int .i64 (ay o1))
              obtain ⟨e0, e1'⟩ := pt_cells j1
              obtain ⟨e2, e3⟩ := pt_cells j2
              go_wp2
              exact bodyPost_ret (v := takV (some (a, ax o1, ay o1))) (by simp [results, Tryz.results36, go_sem, e0, e1', e2, e3]; rfl) rfl ⟨rfl, by rw [hbf]; exact below_drewN ((b0.trans (hbr5.mono (by omega))).trans (jb.mono (by omega))) 1⟩
            · have hs' : o1.isSome = false := by simpa using hs
              have hres : takenA F (x.anc.drop (j + 1)) h = R := by rw [HST.out, if_pos hk]; exact (taken_miss a o1 hs' _).symm
              have HRES := Lib.hid hres
              clear hres
              rw [hs']
              go_wp2
              go_roundw
              case rel => exact ⟨j + 1, by omega, by go_num, HRES.out, hbr5⟩
              case measure => simp [intOf]; omega
          · have e1 : (a.k == 2) = false := by simpa using hk
            have hres : takenA F (x.anc.drop (j + 1)) h = R := by rw [HST.out, if_neg hk]
            have HRES := Lib.hid hres
            clear hres
            go_wp2
            go_roundw
            case rel => exact ⟨j + 1, by omega, by go_num, HRES.out, hbr⟩
            case measure => simp [intOf]; omega
        · have hres : R = none := by rw [← HFD.out, List.drop_eq_nil_of_le (by have := HLA.out; omega)]; rfl
          subst hres
          go_wp2
          obtain ⟨j1, j2, jb⟩ := pt4 k1r k2r hne (.int .i64 0) (.int .i64 0) (.int .i64 0) (.int .i64 0)
          obtain ⟨e0, e1⟩ := pt_cells j1
          obtain ⟨e2, e3⟩ := pt_cells j2
          exact bodyPost_ret (v := takV none) (by simp [results, Tryz.results36, go_sem, e0, e1, e2, e3]; rfl) rfl ⟨rfl, by rw [hbf]; exact (b0.trans (hbr.mono (by omega))).trans (jb.mono (by omega))⟩

theorem al1 (w : World) (o : Obj) : Below w.heap.size w (w.drew.alloc o) := below_drewN (Below.refl _ _) 1 |>.alloc (Nat.le_refl _) _
theorem al2 (w : World) (o p : Obj) : Below w.heap.size w ((w.drew.alloc o).alloc p) := (al1 w o).alloc (by simp) _
theorem ptk1 {w w' : World} {t : TypeId} {cs : Array Value} (h : Below (w.drew.alloc (.cells cs t)).heap.size (w.drew.alloc (.cells cs t)) w') : Bk w' w.heap.size t cs := (Bk.new w.drew t cs).call h
theorem ptk2 {w w' : World} {t : TypeId} {cs : Array Value} {o : Obj} (h : Below ((w.drew.alloc (.cells cs t)).alloc o).heap.size ((w.drew.alloc (.cells cs t)).alloc o) w') : Bk w' w.heap.size t cs := ((Bk.new w.drew t cs).alloc o).call h
theorem ptk3 {w w' : World} {t : TypeId} {cs : Array Value} {o : Obj} (h : Below ((w.drew.alloc o).alloc (.cells cs t)).heap.size ((w.drew.alloc o).alloc (.cells cs t)) w') : Bk w' (w.heap.size + 1) t cs := by
  have := (Bk.new (w.drew.alloc o) t cs).call h
  rw [show (w.drew.alloc o).heap.size = w.heap.size + 1 by simp] at this
  exact this
def hostI (o : Option Nat) : Int := match o with | some k => (k : Int) | none => -1
set_option maxRecDepth 100000 in
set_option maxHeartbeats 4000000 in
theorem rhost_c (f : FV) (F : Fnt) (k : Nat) (lk : Lk) (RA : Option Addr) (rn rc : Nat) (run : List Itm) (i : Nat) (w : World) (hf : IsF w (lo w.heap.size) f F) (hI : RdI w (lo w.heap.size) RA rn run) (hlk : F.lks[k]? = some lk) (hi : i < rn) (hrn : rn ≤ 1000000) :
    Calls Tryz.prog 35 #[.agg f.cells, .int .i64 (k : Int), .slice RA rn rc, .int .i64 (i : Int)] w fun e w' => e = .returned (.int .i64 (hostI (hostR F lk.ign run (gAt run i) i))) ∧ Below w.heap.size w w' := by
  obtain ⟨ii, hii⟩ := at_some run i (by have := hI.len; omega)
  obtain ⟨R, hR⟩ : ∃ R, R = hostR F lk.ign run (gAt run i) i := ⟨_, rfl⟩
  rw [← hR]
  rw [gAt_some hii] at hR
  have HR := Lib.hid hR
  have hs_0 := LS.new hf hI
  unfold FV.cells at hs_0 ⊢
  have hln := hf.2.1.len
  have hld := hf.2.2.2
  have hlnM : f.ln ≤ 9223372036854775807 := Nat.le_trans hld.1 hld.2
  have hkl := (List.getElem?_eq_some_iff.1 hlk).1
  obtain ⟨lb, lo', hla, hlb, hc⟩ := hs_0.hf.2.1.pos (by omega)
  obtain ⟨cs, ⟨A, n, c, rfl, _, _⟩, hcc⟩ := hc k lk hlk
  have ig0 := hcc 1 _ rfl
  have HLA := Lib.hid hla
  have kz : (0 : Int) ≤ (k : Int) := by omega
  have kn : (k : Int) < (f.ln : Int) := by omega
  have iz : (0 : Int) ≤ (i : Int) := by omega
  have in' : (i : Int) < (rn : Int) := by omega
  obtain ⟨rb, ro, rfl, _, hcI⟩ := hs_0.hI.pos (by omega)
  obtain ⟨cs, rfl, hccI⟩ := hcI i ii hii
  have gi0 := hccI 0 _ rfl
  rw [Nat.add_zero] at gi0
  have hwi : IntKind.i64.wrap ((i : Int) - 1) = (i : Int) - 1 := IntWalk.i64_in _ (by omega)
  have HL := Lib.hid hI.len
  clear hla hc hcc hccI hln hld hkl hlk hii hR hI hf
  go_enter Tryz.func35, Tryz.ntmps35
  go_upto_region 1 with fail
  generalize w.alloc (.cells #[.int .i64 f.u0, .slice f.ga f.gn f.gc, .slice f.ca f.cn f.cc, .slice f.la f.ln f.lc, .slice f.a4 f.n4 f.c4, .slice f.a5 f.n5 f.c5, .slice f.a6 f.n6 f.c6, .slice f.a7 f.n7 f.c7, .slice f.a8 f.n8 f.c8] 31) = w0 at *
  have HB0 := Lib.hid hs_0.bw
  generalize hbf : w.heap.size = bf at hs_0 ⊢
  go_wp2
  go_loopw [9] (fun s wr => ∃ m : Nat, m ≤ i ∧ s = .int .i64 ((m : Int) - 1) ∧ hostR F lk.ign run ii.g m = R ∧ Below w0.heap.size w0 wr) (fun s _ => (intOf s + 1).toNat)
  case atStart => exact ⟨i, by omega, by go_num, HR.out.symm, Below.refl _ _⟩
  case round =>
    obtain ⟨m, hm, rfl, hfd, hbr⟩ := hrel
    have HFD := Lib.hid hfd; clear hfd
    rcases m with _ | p
    · have hres : R = none := by rw [← HFD.out]; rfl
      subst hres
      go_wp2
      go_ret
      exact ⟨rfl, below_call HB0.out hbr⟩
    · have hsr := hs_0.call hbr
      obtain ⟨ip, hip⟩ := at_some run p (by have := HL.out; omega)
      obtain ⟨cs, rfl, hcc⟩ := hcI p ip hip
      have gp0 := cell_call (hcc 0 _ rfl) hbr
      rw [Nat.add_zero] at gp0
      have gi := cell_call gi0 hbr
      have ig := cell_call ig0 hbr
      have e0 : (((p + 1 : Nat) : Int) - 1) = (p : Int) := by omega
      have hst : R = if (takenL F ii.g ip.g).isSome && !(isMark F ip.g && lk.ign) then some p else if isMark F ip.g then hostR F lk.ign run ii.g p else none := by
        rw [← HFD.out, hostR, gAt_some hip]
      have HST := Lib.hid hst
      have pz : (0 : Int) ≤ (p : Int) := by omega
      have pn : (p : Int) < (rn : Int) := by omega
      rw [e0]
      clear hst hip hcc
      have HM := Lib.hid fun (W : World) (hh : IsF W (lo W.heap.size) f F) => rmark_c f F ip.g W hh
      have HT := Lib.hid fun (W : World) (hh : IsF W (lo W.heap.size) f F) => rtaken_c f F ii.g ip.g W hh
      unfold FV.cells at HM HT
      unfold takV at HT
      rw [HLA.out] at HM HT
      generalize takenL F ii.g ip.g = ot at *
      obtain ⟨y0, y1, y2, y3, y4, y5, y6, y7, y8⟩ := font_cells hsr.kf
      rw [HLA.out] at y3
      go_wp2
      go_region_held3 (fun w' => w'.cell? ⟨bf, 0, none⟩ = some (.int .i64 f.u0) ∧ w'.cell? ⟨bf, 1, none⟩ = some (.slice f.ga f.gn f.gc) ∧ w'.cell? ⟨bf, 2, none⟩ = some (.slice f.ca f.cn f.cc) ∧ w'.cell? ⟨bf, 3, none⟩ = some (.slice (some ⟨lb, lo', none⟩) f.ln f.lc) ∧ w'.cell? ⟨bf, 4, none⟩ = some (.slice f.a4 f.n4 f.c4) ∧ w'.cell? ⟨bf, 5, none⟩ = some (.slice f.a5 f.n5 f.c5) ∧ w'.cell? ⟨bf, 6, none⟩ = some (.slice f.a6 f.n6 f.c6) ∧ w'.cell? ⟨bf, 7, none⟩ = some (.slice f.a7 f.n7 f.c7) ∧ w'.cell? ⟨bf, 8, none⟩ = some (.slice f.a8 f.n8 f.c8) ∧ w'.cell? ⟨rb, ro + p * 6, none⟩ = some (.int .i64 ip.g)) (first | (with_reducible exact z) | go_keep) (first
        | (go_at_call 32; (with_reducible refine (HM.out _ ?_).mono ?_); exact hsr.hf; rintro e w5 ⟨rfl, hb5⟩; have hs5 := hsr.call (below_undrew hb5); obtain ⟨z0, z1, z2, z3, z4, z5, z6, z7, z8⟩ := font_cells hs5.kf; rw [HLA.out] at z3; have zg := cell_call (w := wr) gp0 (below_undrew hb5); have z := And.intro z0 (And.intro z1 (And.intro z2 (And.intro z3 (And.intro z4 (And.intro z5 (And.intro z6 (And.intro z7 (And.intro z8 zg))))))))))
      have b5 := below_undrew hb5
      have hb5' := below_call hbr b5
      have gp5 := cell_call gp0 b5
      have gi5 := cell_call gi b5
      have ig5 := cell_call ig b5
      clear z hb5 b5 y0 y1 y2 y3 y4 y5 y6 y7 y8 z0 z1 z2 z3 z4 z5 z6 z7 z8 zg gp0 gi ig hsr HM hbr
      obtain ⟨y0, y1, y2, y3, y4, y5, y6, y7, y8⟩ := font_cells hs5.kf
      rw [HLA.out] at y3
      go_upto_region 5 with fail
      go_cut [13] (fun s wx => s = .bool ot.isSome ∧ Below w5.heap.size w5 wx)
      case first =>
        have HS := Lib.hid fun (W : World) (b : Below w5.heap.size w5 W) => (show W.cell? ⟨bf, 0, none⟩ = some (.int .i64 f.u0) ∧ W.cell? ⟨bf, 1, none⟩ = some (.slice f.ga f.gn f.gc) ∧ W.cell? ⟨bf, 2, none⟩ = some (.slice f.ca f.cn f.cc) ∧ W.cell? ⟨bf, 3, none⟩ = some (.slice (some ⟨lb, lo', none⟩) f.ln f.lc) ∧ W.cell? ⟨bf, 4, none⟩ = some (.slice f.a4 f.n4 f.c4) ∧ W.cell? ⟨bf, 5, none⟩ = some (.slice f.a5 f.n5 f.c5) ∧ W.cell? ⟨bf, 6, none⟩ = some (.slice f.a6 f.n6 f.c6) ∧ W.cell? ⟨bf, 7, none⟩ = some (.slice f.a7 f.n7 f.c7) ∧ W.cell? ⟨bf, 8, none⟩ = some (.slice f.a8 f.n8 f.c8) ∧ W.cell? ⟨rb, ro + p * 6, none⟩ = some (.int .i64 ip.g) ∧ W.cell? ⟨rb, ro + i * 6, none⟩ = some (.int .i64 ii.g) from by
          obtain ⟨z0, z1, z2, z3, z4, z5, z6, z7, z8⟩ := font_cells (hs5.call b).kf
          rw [HLA.out] at z3
          exact And.intro z0 (And.intro z1 (And.intro z2 (And.intro z3 (And.intro z4 (And.intro z5 (And.intro z6 (And.intro z7 (And.intro z8 (And.intro (cell_call gp5 b) ((cell_call gi5 b))))))))))))
        go_region_held3 (fun w' => w'.cell? ⟨bf, 0, none⟩ = some (.int .i64 f.u0) ∧ w'.cell? ⟨bf, 1, none⟩ = some (.slice f.ga f.gn f.gc) ∧ w'.cell? ⟨bf, 2, none⟩ = some (.slice f.ca f.cn f.cc) ∧ w'.cell? ⟨bf, 3, none⟩ = some (.slice (some ⟨lb, lo', none⟩) f.ln f.lc) ∧ w'.cell? ⟨bf, 4, none⟩ = some (.slice f.a4 f.n4 f.c4) ∧ w'.cell? ⟨bf, 5, none⟩ = some (.slice f.a5 f.n5 f.c5) ∧ w'.cell? ⟨bf, 6, none⟩ = some (.slice f.a6 f.n6 f.c6) ∧ w'.cell? ⟨bf, 7, none⟩ = some (.slice f.a7 f.n7 f.c7) ∧ w'.cell? ⟨bf, 8, none⟩ = some (.slice f.a8 f.n8 f.c8) ∧ w'.cell? ⟨rb, ro + p * 6, none⟩ = some (.int .i64 ip.g) ∧ w'.cell? ⟨rb, ro + i * 6, none⟩ = some (.int .i64 ii.g)) (first | ((with_reducible refine HS.out _ ?_); go_grown; done) | go_keep) (first
          | (go_at_call 36; (with_reducible refine (HT.out _ ?_).mono ?_); exact hs5.hf; rintro e w6 ⟨rfl, hb6⟩; have b6 : Below w5.heap.size w5 w6 := below_undrew hb6; have s6 := b6.size)
          | (go_at_call 36; (with_reducible refine (HT.out _ ?_).mono ?_); exact (hs5.call (al1 w5 _)).hf; rintro e w6 ⟨rfl, hb6⟩; have b6 : Below w5.heap.size w5 w6 := below_call (al1 w5 _) hb6; have s6 := b6.size; have kA := ptk1 hb6; have qaA : w6.cell? ⟨w5.heap.size, 0, none⟩ = some (.int .i64 0) := kA.cell 0; have qbA : w6.cell? ⟨w5.heap.size, 1, none⟩ = some (.int .i64 0) := kA.cell 1; have faA := kA.frozen 0; have fbA := kA.frozen 1; have ltA := kA.lt)
          | (go_at_call 36; (with_reducible refine (HT.out _ ?_).mono ?_); exact (hs5.call (al2 w5 _ _)).hf; rintro e w6 ⟨rfl, hb6⟩; have b6 : Below w5.heap.size w5 w6 := below_call (al2 w5 _ _) hb6; have s6 := b6.size; have kA := ptk2 hb6; have qaA : w6.cell? ⟨w5.heap.size, 0, none⟩ = some (.int .i64 0) := kA.cell 0; have qbA : w6.cell? ⟨w5.heap.size, 1, none⟩ = some (.int .i64 0) := kA.cell 1; have faA := kA.frozen 0; have fbA := kA.frozen 1; have ltA := kA.lt; have kB := ptk3 hb6; have qaB : w6.cell? ⟨w5.heap.size + 1, 0, none⟩ = some (.int .i64 0) := kB.cell 0; have qbB : w6.cell? ⟨w5.heap.size + 1, 1, none⟩ = some (.int .i64 0) := kB.cell 1; have faB := kB.frozen 0; have fbB := kB.frozen 1; have ltB := kB.lt))
        all_goals (go_wp2; go_meet; exact ⟨rfl, by go_grown⟩)
      obtain ⟨rfl, bc⟩ := hcut
      have hbc := below_call hb5' bc
      have igc := cell_call ig5 bc
      have y3c := (font_cells (hs5.call bc).kf).2.2.2.1
      rw [HLA.out] at y3c
      have hwp : IntKind.i64.wrap ((p : Int) - 1) = (p : Int) - 1 := IntWalk.i64_in _ (by omega)
      clear y0 y1 y2 y3 y4 y5 y6 y7 y8 gp5 gi5 ig5 hs5 HT hb5' bc
      by_cases c1 : ot.isSome = true
      · by_cases c2 : isMark F ip.g = true
        · by_cases c3 : lk.ign = true
          · have hres : hostR F lk.ign run ii.g p = R := by rw [HST.out, c1, c2, c3]; rfl
            have HRES := Lib.hid hres
            clear hres
            rw [c1, c2]
            rw [c3] at igc
            go_wp2
            go_roundw
            case rel => exact ⟨p, by omega, by go_num, HRES.out, hbc⟩
            case measure => simp [intOf]
          · have c3' : lk.ign = false := by simpa using c3
            have hres : R = some p := by rw [HST.out, c1, c2, c3']; rfl
            have HRES := Lib.hid hres
            clear hres
            rw [c1, c2]
            rw [c3'] at igc
            go_wp2
            go_ret
            exact ⟨by rw [HRES.out]; rfl, below_call HB0.out hbc⟩
        · have c2' : isMark F ip.g = false := by simpa using c2
          have hres : R = some p := by rw [HST.out, c1, c2']; rfl
          have HRES := Lib.hid hres
          clear hres
          rw [c1, c2']
          go_wp2
          go_ret
          exact ⟨by rw [HRES.out]; rfl, below_call HB0.out hbc⟩
      · have c1' : ot.isSome = false := by simpa using c1
        by_cases c2 : isMark F ip.g = true
        · have hres : hostR F lk.ign run ii.g p = R := by rw [HST.out, c1', c2]; rfl
          have HRES := Lib.hid hres
          clear hres
          rw [c1', c2]
          go_wp2
          go_roundw
          case rel => exact ⟨p, by omega, by go_num, HRES.out, hbc⟩
          case measure => simp [intOf]
        · have c2' : isMark F ip.g = false := by simpa using c2
          have hres : R = none := by rw [HST.out, c1', c2']; rfl
          have HRES := Lib.hid hres
          clear hres
          rw [c1', c2']
          go_wp2
          go_ret
          exact ⟨by rw [HRES.out]; rfl, below_call HB0.out hbc⟩

end Go.Proofs.YtbjcbcdccekbkaaGreat
