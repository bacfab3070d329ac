/- Chapter 6, the document's own detector: a tick. Conditions: its parts lie in blocks apart; the peers lie in memory, not in them. -/
import Derived.Test.YthndjhocmpelcaaGreatRdK
namespace Go.Proofs.YthndjhocmpelcaaGreat.Rd
open Go.RowKit Kit Tri3 Swi Go.Proofs.YthndjhocmpelcaaGreatW.PrintLast
open Go.Proofs.YthndjhocmpelcaaGreat.Hth (cmpI cmpC nodeB mayC)
set_option linter.unusedVariables false
theorem rdueWr {w w1 : World} {g : Nat} {A : Option Addr} {M : List Wat.Mom} (t : Wat.RDue w w1 g A M) : Rum.Wr w w1 (fun k => k = g) := by
  obtain ⟨A', k, f, r⟩ := t
  exact wrW r
theorem DetR.turnC0 {w w' : World} {S : Nat → Prop} {g gv gq go gc : Nat} {d : Dt} {A B C : Option Addr} {n c : Nat} {M : List Wat.Mom} (h : DetR w S g d gv gq go gc A B n c C) (t : Wat.RDue w w' gc C M) (hst : Wat.St M) : (∃ C', DetR w' S g { d with M := M } gv gq go gc A B n c C') ∧ Rum.Wr w w' S := by
  obtain ⟨C', k', f, hw0⟩ := t
  have hw := wrW hw0
  obtain ⟨col, c0, c1, c2, c3, c4⟩ := h.sep
  have cg : col gc = 4 := c4 gc (.inl rfl)
  obtain ⟨R, hR, hp⟩ := h.qu
  refine ⟨⟨C', ⟨h.ok.self, h.ok.inc, h.ok.now, h.ok.seq, h.ok.asked⟩, ?_, ?_, ⟨R, hR.wr hw (fun k hk hk2 => by have := c2 k hk; rw [hk2] at this; omega), hp⟩, h.st, h.lt, ?_, h.zl, k', hst, fun k hk => Nat.lt_of_lt_of_le (h.blk k hk) hw.size, h.sg, h.sv, h.sq, h.so, fun k hk => h.sc k (f k hk), ⟨col, c0, c1, c2, c3, fun k hk => c4 k (f k hk)⟩⟩, hw.mono (fun k hk => by rw [hk]; exact h.sc gc (.inl rfl))⟩
  · exact h.dcs.wr hw (fun hk => by rw [hk] at c0; omega)
  · exact (hw.block gv h.vw.lt (fun hk => by rw [hk] at c1; omega)).trans h.vw
  · exact h.od.wr (wrP' hw) (fun hk => by have := c3 go (.inl rfl); rw [hk] at this; omega) (fun b off eb hk => by have := c3 b (.inr ⟨off, eb⟩); rw [hk] at this; omega)
set_option maxRecDepth 100000 in
set_option maxHeartbeats 4000000 in
theorem tickR_left (w : World) (S : Nat → Prop) (g : Nat) (d : Dt) (hD : Hid (DetD w S g d)) (hl : d.left = true) (hn : d.now < 1000000) (v2 v3 : Value) (d' : Dt) (hd : Hid (d' = d1 d)) :
    Calls Tryz.prog 16 #[.pointer (some ⟨g, 0, none⟩), v2, v3] w fun e w' => e = .returned (.slice none 0 0) ∧ Hid (RTurn w w' S g d') := by
  obtain ⟨gv, gq, go, gc, A, B, n1, cc, C, X⟩ := hD.out
  have c2 : w.cell? ⟨g, 2, none⟩ = some (.int .i64 d.now) := X.dcs.cell 2
  have f2 : w.frozen? ⟨g, 2, none⟩ = false := X.dcs.fr 2
  have o6 := X.ok.now
  have hw1 : IntKind.i64.wrap (d.now + 1) = d.now + 1 := IntWalk.i64_in _ (by have : 0 ≤ d.now ∧ d.now ≤ 1000000 := o6; omega)
  have XH := Hid.mk_ X
  have O6 := Hid.mk_ o6
  have HN := Hid.mk_ hn
  clear X o6 hn
  go_enter Tryz.func16, Tryz.ntmps16
  go_upto_region 2 with fail
  have ws := Rum.Wr.set w g 2 (.int .i64 (d.now + 1))
  have X1 := Hid.mk_ (XH.out.turnD ws (XH.out.dcs.set 2 (.int .i64 (d.now + 1)) (d1 d) rfl) ⟨XH.out.ok.self, XH.out.ok.inc, by show 0 ≤ d.now + 1 ∧ d.now + 1 ≤ 1000000; have := O6.out; have := HN.out; omega, XH.out.ok.seq, XH.out.ok.asked⟩ ⟨rfl, rfl, rfl, rfl, rfl, rfl⟩)
  have R1 : Hid (Rum.Wr w (w.setCell ⟨g, 2, none⟩ (.int .i64 (d.now + 1))) S) := Hid.mk_ (ws.mono (fun i hi => by rw [hi]; exact XH.out.sg))
  clear c2 f2 ws
  generalize w.setCell ⟨g, 2, none⟩ (.int .i64 (d.now + 1)) = w1 at *
  have c6 : w1.cell? ⟨g, 6, none⟩ = some (.bool true) := by rw [← hl]; exact X1.out.dcs.cell 6
  go_wp2_with fail
  go_ret
  exact ⟨rfl, Hid.mk_ ⟨S, by rw [hd.out]; exact ⟨gv, gq, go, gc, A, B, n1, cc, C, X1.out⟩, fun k hk => .inl hk, R1.out⟩⟩
theorem SentR.cells {w w' : World} {S T : Nat → Prop} {g base : Nat} {d : Dt} {v' : Value} {ms' : List Om} (h : SentR w w' S T g base (dSent d) v' ms') : w'.cell? ⟨g, 0, none⟩ = some (.int .i64 d.self) ∧ w'.cell? ⟨g, 3, none⟩ = some (.int .i64 d.seq) ∧ w'.cell? ⟨g, 4, none⟩ = some (.int .i64 d.asked) := by
  obtain ⟨S', T', ⟨gv, gq, go, gc, A, B, n, c, C, X⟩, _⟩ := h
  exact ⟨X.dcs.cell 0, X.dcs.cell 3, X.dcs.cell 4⟩
theorem hl_8 (y : Dt) (ps : List Int) : oth y.asked (Prb.br y.self ps 8) = hlp ps y := oth_br _ _ _ _
set_option maxRecDepth 100000 in
set_option maxHeartbeats 16000000 in
theorem tickR_go (w : World) (S : Nat → Prop) (g : Nat) (d : Dt) (hD : Hid (DetD w S g d)) (hv : Hid (Vok d)) (hl : d.left = false) (hn : d.now < 1000000) (Ap : Option Addr) (np cp : Nat) (ps : List Int) (dr : Int) (hr : Hid (Prb.Row w Ap ps)) (hS : Hid (∀ b off, Ap = some ⟨b, off, none⟩ → 0 < np → ¬ S b)) (hnp : Hid (np = ps.length)) (hnc : np ≤ cp) (hcc : cp ≤ 9223372036854775807) (hdr : Hid (0 ≤ dr)) (x : Dt × List Om) (hx : Hid (x = tickA ps dr (dDue ps dr d))) :
    Calls Tryz.prog 16 #[.pointer (some ⟨g, 0, none⟩), .slice Ap np cp, .int .u64 dr] w fun e w' => ∃ v T, e = .returned v ∧ Hid (Outs w' w.heap.size v x.2 T) ∧ Hid (RTurnX w w' S g x.1 T) := by
  obtain ⟨gv, gq, go, gc, A, B, n1, cc, C, X⟩ := hD.out
  have c2 : w.cell? ⟨g, 2, none⟩ = some (.int .i64 d.now) := X.dcs.cell 2
  have f2 : w.frozen? ⟨g, 2, none⟩ = false := X.dcs.fr 2
  have o6 := X.ok.now
  have hw1 : IntKind.i64.wrap (d.now + 1) = d.now + 1 := IntWalk.i64_in _ (by have : 0 ≤ d.now ∧ d.now ≤ 1000000 := o6; omega)
  have XH := Hid.mk_ X
  have O6 := Hid.mk_ o6
  have HN := Hid.mk_ hn
  clear X o6 hn
  have DH : ∃ D, Wat.dueL (d.now + 1) d.M = D := ⟨_, rfl⟩
  obtain ⟨D, hDD⟩ := DH
  have HDD := Hid.mk_ hDD
  obtain ⟨M, hMM⟩ : ∃ M, Wat.restL (d.now + 1) d.M = M := ⟨_, rfl⟩
  have HMM := Hid.mk_ hMM
  have STM : Hid (Wat.St M) := Hid.mk_ (by rw [← hMM]; exact XH.out.cst.rest _)
  have DL : Hid (D.length ≤ 1000 ∧ ∀ i ∈ D, 0 ≤ i ∧ i ≤ 999) := Hid.mk_ (by
    have st := XH.out.cst
    rw [← hDD]
    unfold Wat.dueL
    refine ⟨?_, fun i hi => ?_⟩
    · have := st.len
      rw [List.length_map]
      exact Nat.le_trans (List.length_filter_le _ _) (by omega)
    · obtain ⟨m, hm, rfl⟩ := List.mem_map.1 hi
      exact st.id0 m (List.mem_filter.1 hm).1)
  clear hDD hMM
  go_enter Tryz.func16, Tryz.ntmps16
  go_upto_region 2 with fail
  have ws := Rum.Wr.set w g 2 (.int .i64 (d.now + 1))
  have X1 := Hid.mk_ (XH.out.turnD ws (XH.out.dcs.set 2 (.int .i64 (d.now + 1)) (d1 d) rfl) ⟨XH.out.ok.self, XH.out.ok.inc, by show 0 ≤ d.now + 1 ∧ d.now + 1 ≤ 1000000; have := O6.out; have := HN.out; omega, XH.out.ok.seq, XH.out.ok.asked⟩ ⟨rfl, rfl, rfl, rfl, rfl, rfl⟩)
  have R1 : Hid (Rum.Wr w (w.setCell ⟨g, 2, none⟩ (.int .i64 (d.now + 1))) S) := Hid.mk_ (ws.mono (fun i hi => by rw [hi]; exact XH.out.sg))
  clear c2 f2 ws XH
  generalize w.setCell ⟨g, 2, none⟩ (.int .i64 (d.now + 1)) = w1 at *
  have c6 : w1.cell? ⟨g, 6, none⟩ = some (.bool false) := by rw [← hl]; exact X1.out.dcs.cell 6
  have c10 : w1.cell? ⟨g, 10, none⟩ = some (.pointer (some ⟨gc, 0, none⟩)) := X1.out.dcs.cell 10
  have c2 : w1.cell? ⟨g, 2, none⟩ = some (.int .i64 (d.now + 1)) := X1.out.dcs.cell 2
  have CK : Hid (Wat.Ref w1 gc C d.M) := Hid.mk_ X1.out.ck
  have CST : Hid (Wat.St d.M) := Hid.mk_ X1.out.cst
  go_upto_region 5 with fail
  go_region_held3 (fun w' => w'.cell? ⟨g, 10, none⟩ = some (.pointer (some ⟨gc, 0, none⟩)) ∧ w'.cell? ⟨g, 2, none⟩ = some (.int .i64 (d.now + 1))) (first | exact ⟨by assumption, by assumption⟩ | go_keep) (first
    | (go_at_call 53; refine (Wat.rdue w1.drew gc C d.M (d.now + 1) (by exact Hid.mk_ (CK.out.below (Below.refl _ _).drew)) CST D HDD M HMM).mono ?_; rintro e w2 ⟨B8, n8, c8, rfl, o8, r8⟩; have r9 := rdueWr r8.out; have s2 := r9.cell (by exact c10) X1.out.gc; have s3 := r9.cell (by exact c2) X1.out.gc)
    | fail)
  have dr1 : Below w1.heap.size w1 w1.drew := (Below.refl _ _).drew
  obtain ⟨⟨C2, x2⟩, r2⟩ := (X1.out.below dr1).turnC0 r8.out STM.out
  obtain ⟨e0, he0⟩ : ∃ e0, e0 = { d1 d with M := M } := ⟨_, rfl⟩
  have x2' : DetR w2 S g e0 gv gq go gc A B n1 cc C2 := by rw [he0]; exact x2
  have D2 := Hid.mk_ (show DetD w2 S g e0 from ⟨_, _, _, _, _, _, _, _, _, x2'⟩)
  have R2 : Hid (Rum.Wr w w2 S) := Hid.mk_ ((R1.out.then_ (Rum.Wr.of_below dr1 (fun _ => False)) (fun _ h => h.elim)).then_ r2 (fun i hi => .inl hi))
  have HX2 : Hid (x = tickA ps dr (dueA ps dr (e0, []) D)) := Hid.mk_ (by rw [hx.out, he0, ← HDD.out, ← HMM.out]; rfl)
  have V0 : Hid (Vok e0) := Hid.mk_ (by rw [he0]; exact hv.out.of rfl rfl)
  have HB : Hid (n8 = D.length ∧ c8 ≤ 9223372036854775807 ∧ n8 ≤ c8 ∧ ∀ j i, D[j]? = some i → ∃ b, B8 = some ⟨b, 0, none⟩ ∧ ¬ S b ∧ w2.cell? ⟨b, j, none⟩ = some (.int .i64 i)) := Hid.mk_ (by
    have o : w2.ownsRow w1.drew.heap.size 3 1 (.slice B8 n8 c8) D.length (Wat.Ints.ints D) := by have h := o8.out; unfold Wat.Ints.Own at h; exact h
    obtain ⟨A', c', e', l1, l2, l3⟩ := Rowz.form o
    injection e' with e1 e2 e3
    subst e1 e2 e3
    refine ⟨rfl, l2, l1, fun j i hj => ?_⟩
    have hlt := (List.getElem?_eq_some_iff.1 hj).1
    rcases l3 with ⟨_, _, h0⟩ | ⟨b, rfl, hb1, hb2⟩
    · omega
    · refine ⟨b, rfl, fun hs => ?_, ?_⟩
      · have := X1.out.blk b hs; have := dr1.size; omega
      · have := World.ownsRow.cellAt o j (by omega)
        rw [this, Wat.Ints.ints, List.getElem?_map, hj]
        rfl)
  have hR2 : Hid (Prb.Row w2 Ap ps) := Hid.mk_ (Row_keep hr.out fun b off e h0 hlt => R2.out.block b hlt (hS.out b off e (by have := hnp.out; omega)))
  have hP : Hid (∀ b off, Ap = some ⟨b, off, none⟩ → 0 < np → ¬ S b) := hS
  clear c6 c10 c2 s2 s3 r9 r2 x2 x2' r8 o8 CK CST X1 R1 dr1 hx HDD HMM STM he0 hr hS hl hw1 HN O6 hD hv
  have n8b : n8 ≤ 1000 := by have := HB.out.1; have := DL.out.1; omega
  go_wp2_with fail
  go_loopw [7, 38] (fun v i wr => ∃ j : Nat, i = .int .i64 (j : Int) ∧ j ≤ n8 ∧ Hid (RTI w2 wr S g v (dueA ps dr (e0, []) (D.take j)).1 (dueA ps dr (e0, []) (D.take j)).2)) (fun _ i _ => n8 - (intOf i).toNat)
  case atStart => exact ⟨0, rfl, by omega, Hid.mk_ (RTI.start D2.out)⟩
  case round =>
    obtain ⟨j, rfl, hj, TH⟩ := hrel
    by_cases hlt : j < n8
    · obtain ⟨id, hid⟩ : ∃ id, D[j]? = some id := ⟨_, List.getElem?_eq_getElem (by have := HB.out.1; omega)⟩
      obtain ⟨b, rfl, nb, y0⟩ := HB.out.2.2.2 j id hid
      replace y0 := TH.out.wr.cell y0 nb
      have HI : Hid (0 ≤ id ∧ id ≤ 999) := Hid.mk_ (DL.out.2 id (List.mem_of_getElem? hid))
      have HT : Hid (D.take (j + 1) = D.take j ++ [id]) := Hid.mk_ (takeI hid)
      clear hid nb
      obtain ⟨y, hy⟩ : ∃ y, y = dueA ps dr (e0, []) (D.take j) := ⟨_, rfl⟩
      rw [← hy] at TH
      have HY : Hid (dueA ps dr (e0, []) (D.take (j + 1)) = dueS ps dr y id) := Hid.mk_ (by rw [HT.out, dueA_snoc, ← hy])
      have VY : Hid (Vok y.1) := Hid.mk_ (by rw [hy]; exact Vok.dueA _ V0.out)
      have LY : Hid (y.2.length ≤ 2000) := Hid.mk_ (by rw [hy]; have h1 := dueA_len ps dr (D.take j) (e0, []); have := DL.out.1; rw [List.length_take] at h1; simp only [List.length_nil] at h1; omega)
      clear HT hy
      have l1 : (j : Int) < (n8 : Int) := by omega
      have l0 : (0 : Int) ≤ (j : Int) := by omega
      have RP : Hid (Prb.Row wr Ap ps) := Hid.mk_ (Row_keep hR2.out fun b off e h0 hlt => TH.out.wr.block b hlt (hP.out b off e (by have := hnp.out; omega)))
      go_upto_region 8 with fail
      clear y0
      by_cases i3 : 100 ≤ id
      · have HYS : Hid (dueA ps dr (e0, []) (D.take (j + 1)) = (d100 y.1 id, y.2)) := Hid.mk_ (by rw [HY.out]; unfold dueS; rw [if_neg (by omega), if_neg (by omega)])
        clear HY
        obtain ⟨S0, T0⟩ := TH.out
        have HT0 := Hid.mk_ T0
        clear T0
        obtain ⟨gv0, gq0, go0, gc0, A0, B0, n0, cc0, C0, X0⟩ := HT0.out.det
        have c7 : wr.cell? ⟨g, 7, none⟩ = some (.pointer (some ⟨gv0, 0, none⟩)) := X0.dcs.cell 7
        have XH0 := Hid.mk_ X0
        clear X0
        have hwi : IntKind.i64.wrap (id - 100) = id - 100 := IntWalk.i64_in _ (by have := HI.out; omega)
        go_upto_region 10 with (go_at_call 24; refine (ofR (w := wr) XH0.out (id - 100)).mono ?_; rintro e w3 ⟨rfl, b3⟩)
        obtain ⟨q, hq⟩ : ∃ q, q = cOf y.1 (id - 100) := ⟨_, rfl⟩
        rw [← hq]
        have HQ := Hid.mk_ hq
        clear hq c7
        have bx := Rum.Box3.made w3 q.n q.i q.h
        have ax := (Below.refl w3.heap.size w3).alloc (Nat.le_refl _) (.cells #[.int .i64 q.n, .int .i64 q.i, .int .i64 q.h] 30)
        have BX := Hid.mk_ bx
        have HB3 := Hid.mk_ (b3.trans (ax.mono b3.size))
        have QL : Hid (wr.heap.size ≤ w3.heap.size) := Hid.mk_ b3.size
        clear bx ax b3
        generalize w3.alloc (.cells #[.int .i64 q.n, .int .i64 q.i, .int .i64 q.h] 30) = w5 at *
        generalize w3.heap.size = z at *
        obtain ⟨x0, x1, x2, f0, f1, f2⟩ := BX.out
        by_cases h2 : q.h = 2
        · have hqb : (q.h == 2) = true := by simp [h2]
          have HD : Hid (d100 y.1 id = dHears y.1 ⟨q.n, q.i, 3⟩) := Hid.mk_ (by unfold d100; rw [← HQ.out, if_pos h2])
          have MY : Hid (true = mayC q.n q.i 3) := Hid.mk_ (by rw [HQ.out]; exact (cOf_may VY.out (id - 100) 3 (by omega)).symm)
          clear h2 HQ
          go_upto_region 12 with fail
          have ws := Rum.Wr.set w5 z 2 (.int .i64 3)
          have y0 : (w5.setCell ⟨z, 2, none⟩ (.int .i64 3)).cell? ⟨z, 0, none⟩ = some (.int .i64 q.n) := (World.cell?_setCell_other _ _ _ _ (by simp)).trans x0
          have y1 : (w5.setCell ⟨z, 2, none⟩ (.int .i64 3)).cell? ⟨z, 1, none⟩ = some (.int .i64 q.i) := (World.cell?_setCell_other _ _ _ _ (by simp)).trans x1
          have y2 : (w5.setCell ⟨z, 2, none⟩ (.int .i64 3)).cell? ⟨z, 2, none⟩ = some (.int .i64 3) := World.cell?_setCell_same _ _ _ x2
          have T6 := Hid.mk_ (HT0.out.fresh QL.out HB3.out ws)
          clear x0 x1 x2 f0 f1 f2 ws HT0 XH0 BX
          generalize w5.setCell ⟨z, 2, none⟩ (.int .i64 3) = w6 at *
          go_wp2_with (go_at_call 39; refine (hearR w6 S0 g y.1 ⟨q.n, q.i, 3⟩ (Hid.mk_ T6.out.det) MY (d100 y.1 id) HD _ (Hid.mk_ rfl)).mono ?_; rintro e w7 ⟨rfl, t7⟩)
          go_roundw
          case rel => exact ⟨j + 1, by go_num, by omega, Hid.mk_ (by rw [HYS.out]; exact T6.out.turn t7.out)⟩
          case measure => simp [intOf]; omega
        · have hqb : (q.h == 2) = false := by simp [h2]
          have HD : Hid (d100 y.1 id = y.1) := Hid.mk_ (by unfold d100; rw [← HQ.out, if_neg h2])
          clear h2 HQ
          go_wp2_with fail
          go_roundw
          case rel => exact ⟨j + 1, by go_num, by omega, Hid.mk_ (by rw [HYS.out]; simp only; rw [HD.out]; exact ⟨S0, HT0.out.below HB3.out⟩)⟩
          case measure => simp [intOf]; omega
      · by_cases i1 : id = 1
        · have hb1 : (id == 1) = true := by simp [i1]
          have HYS : Hid (dueA ps dr (e0, []) (D.take (j + 1)) = askL y (someL ps dr y.1)) := Hid.mk_ (by rw [HY.out]; unfold dueS; rw [if_pos i1])
          clear HY HI i1
          obtain ⟨S0, T0⟩ := TH.out
          have HT0 := Hid.mk_ T0
          clear T0
          obtain ⟨gv0, gq0, go0, gc0, A0, B0, n0, cc0, C0, X0⟩ := HT0.out.det
          have c0 : wr.cell? ⟨g, 0, none⟩ = some (.int .i64 y.1.self) := X0.dcs.cell 0
          have c4 : wr.cell? ⟨g, 4, none⟩ = some (.int .i64 y.1.asked) := X0.dcs.cell 4
          clear X0
          have np0 : np ≤ 9223372036854775807 := by omega
          obtain ⟨l, hl⟩ : ∃ l, l = Prb.br y.1.self ps 8 := ⟨_, rfl⟩
          have HL := Hid.mk_ hl
          have HL8 : Hid (l.length ≤ 8) := Hid.mk_ (by rw [hl]; exact Prb.br_len _ _ 8)
          obtain ⟨l8, hl8⟩ : ∃ l8, l8 = hlp ps y.1 := ⟨_, rfl⟩
          have HO8 : Hid (oth y.1.asked l = l8) := Hid.mk_ (by rw [hl, hl8]; exact hl_8 _ _)
          have hz8 : Hid (l8.length ≤ 8) := Hid.mk_ (by rw [hl8]; exact hl_len y.1.self y.1.asked ps 8)
          obtain ⟨sh, hsh⟩ : ∃ sh, sh = shf ps dr y.1 := ⟨_, rfl⟩
          have HSH : Hid (Prb.shuf (l8.take 64).length dr (l8.take 64) = sh) := Hid.mk_ (by rw [hsh, hl8]; rfl)
          obtain ⟨r, hrr⟩ : ∃ r, Prb.many 2 sh.length = r := ⟨_, rfl⟩
          have HR := Hid.mk_ hrr
          have HSL : Hid (someL ps dr y.1 = sh.take r) := Hid.mk_ (by rw [← hrr, hsh]; rfl)
          have hr2 : Hid (r ≤ 2) := Hid.mk_ (by rw [← hrr]; unfold Prb.many; omega)
          clear hsh hrr hl8 hl
          obtain ⟨nl, hnl⟩ : ∃ nl, nl = l.length := ⟨_, rfl⟩
          have HNL := Hid.mk_ hnl
          have nl8 : nl ≤ 8 := by have := HL8.out; omega
          clear hnl
          go_upto_region 16 with (go_at_call 54; refine (Prb.peers Ap np cp ps y.1.self wr RP hnp np0).mono ?_; rintro e w3 ⟨A3, c3, rfl, o3, b3⟩; have o3' : Prb.Own w3 wr.heap.size (.slice A3 nl c3) l := (by rw [HNL.out, HL.out]; exact o3); have e3 : (Prb.br y.1.self ps 8).length = nl := (by rw [HNL.out, HL.out]); rw [e3])
          have cap3 := Prb_cap o3'
          have O3 := Hid.mk_ o3'
          have HB3 := Hid.mk_ b3
          clear o3 o3' e3
          replace c4 := keepC b3 c4
          have C4 := Hid.mk_ c4
          clear c0 c4 b3
          have own0 : Hid (Prb.Own w3 w3.heap.size (.slice none 0 0) (oth y.1.asked (l.take 0))) := Hid.mk_ (Prb.Own.nil _ _)
          go_loopw [11, 69] (fun vo i wq => ∃ k : Nat, k ≤ nl ∧ i = .int .i64 (k : Int) ∧ Hid (Prb.Own wq w3.heap.size vo (oth y.1.asked (l.take k))) ∧ Hid (Below w3.heap.size w3 wq)) (fun _ i _ => nl - (intOf i).toNat)
          case atStart => exact ⟨0, by omega, rfl, own0, Hid.mk_ (Below.refl _ _)⟩
          case round =>
            clear own0
            obtain ⟨k, hk, rfl, hown, hb⟩ := hrel
            obtain ⟨A9, n9, c9, rfl, en9⟩ := hown.out.lettered
            have hkl : (oth y.1.asked (l.take k)).length ≤ 8 := by have h1 := oth_len y.1.asked (l.take k); have := HL8.out; rw [List.length_take] at h1; omega
            by_cases hlt2 : k < nl
            · obtain ⟨xx, hxx⟩ : ∃ xx, l[k]? = some xx := ⟨_, List.getElem?_eq_getElem (by have := HNL.out; omega)⟩
              obtain ⟨b9, rfl, hb9, y1⟩ := Prb_at O3.out k xx hxx
              replace y1 := keepC hb.out y1
              have c4 := keepC hb.out C4.out
              have l3 : (k : Int) < (nl : Int) := by omega
              have l4 : (0 : Int) ≤ (k : Int) := by omega
              by_cases ha : xx = y.1.asked
              · have hab : (xx != y.1.asked) = false := by simp [ha]
                have HK := Hid.mk_ (oth_no hxx ha)
                clear hxx ha
                go_wp2_with fail
                go_roundw
                case rel => exact ⟨k + 1, by omega, by go_num, by rw [HK.out]; exact hown, hb⟩
                case measure => simp [intOf]; omega
              · have hab : (xx != y.1.asked) = true := by simp [ha]
                have HK := Hid.mk_ (oth_yes hxx ha)
                clear hxx ha
                have zb := hb.out.size
                generalize oth y.1.asked (l.take k) = ks at *
                go_wp2_with (at_builtin; refine Prb.wpList_app _ rfl _ _ rfl w3.heap.size _ ks rfl (hown.out.keep ((Below.refl _ _).alloc (Nat.le_refl _) _)) _ [xx] 1 _ rfl rfl (Prb.Row.one _ _ _) (by simp; omega) (by simp; omega) ?_; intro v9 w9 hown9 hb99)
                obtain ⟨A7, n7, c7, rfl, en7⟩ := hown9.lettered
                have H9 := Hid.mk_ hown9
                have B9 := Hid.mk_ ((hb.out.alloc zb (.cells #[.int .i64 xx] 3)).trans hb99)
                clear hown9 hb99 hown hb
                go_roundw
                case rel => exact ⟨k + 1, by omega, by go_num, by rw [HK.out]; exact H9, B9⟩
                case measure => simp [intOf]; omega
            · obtain rfl : k = nl := by omega
              have etk2 : l.take k = l := List.take_of_length_le (by have := HNL.out; omega)
              rw [etk2, HO8.out] at hown
              clear etk2 hlt2 hkl
              have OW := hown.out
              obtain ⟨rn, rr, _⟩ := OW.row
              have OR : Hid (Prb.Row wr A9 l8) := Hid.mk_ rr
              have ON : Hid (n9 = l8.length) := Hid.mk_ rn
              have n9b : n9 ≤ 9223372036854775807 := by have := hz8.out; omega
              have n9c : n9 ≤ c9 := Prb_cap OW
              clear OW rn rr
              go_upto_region 22 with (go_at_call 55; refine (Prb.someR0 A9 n9 c9 l8 2 dr wr OR ON n9b n9c hdr sh HSH r HR).mono ?_; rintro e w4 ⟨A4, c4, rfl, o4, hr4, b4⟩)
              have B34 := (HB3.out.trans (hb.out.mono HB3.out.size)).trans (b4.mono (by have := HB3.out.size; have := hb.out.size; omega))
              obtain ⟨U, HU, TU0⟩ := RUS.start HT0.out B34
              have HB4 : Hid (∀ k m, sh[k]? = some m → ∃ b, A4 = some ⟨b, 0, none⟩ ∧ ¬ U b ∧ w4.cell? ⟨b, k, none⟩ = some (.int .i64 m)) := Hid.mk_ (fun k m hm => by
                obtain ⟨b, e1, h1, h2⟩ := Prb_at o4 k m hm
                exact ⟨b, e1, fun hu => by have := HU.out b hu; have := HB3.out.size; have := hb.out.size; omega, h2⟩)
              have HR4 : Hid (r ≤ sh.length ∧ r ≤ c4) := Hid.mk_ ⟨hr4, by have := Prb_cap o4; omega⟩
              have r2 : r ≤ 2 := hr2.out
              clear o4 b4 B34 hr4 HSH HR HO8 hz8 HT0 TH hown hb O3 HB3 C4 OR ON
              go_loopw [7, 88] (fun v i wq => ∃ k : Nat, i = .int .i64 (k : Int) ∧ k ≤ r ∧ Hid (RTU w2 S w4 U wq g v (askL y (sh.take k)).1 (askL y (sh.take k)).2)) (fun _ i _ => r - (intOf i).toNat)
              case atStart => exact ⟨0, rfl, by omega, Hid.mk_ ⟨S0, TU0.out⟩⟩
              case round =>
                obtain ⟨k2, rfl, hk2, TK⟩ := hrel
                by_cases hlt2 : k2 < r
                · obtain ⟨m, hm⟩ : ∃ m, sh[k2]? = some m := ⟨_, List.getElem?_eq_getElem (by have := HR4.out.1; omega)⟩
                  obtain ⟨b4, rfl, nb, y1⟩ := HB4.out k2 m hm
                  replace y1 := TK.out.wr.cell y1 nb
                  have HT2 : Hid (sh.take (k2 + 1) = sh.take k2 ++ [m]) := Hid.mk_ (takeI hm)
                  clear hm nb
                  obtain ⟨xa, hx⟩ : ∃ xa, xa = askL y (sh.take k2) := ⟨_, rfl⟩
                  rw [← hx] at TK
                  have HX : Hid (askL y (sh.take (k2 + 1)) = ask1 xa m) := Hid.mk_ (by rw [HT2.out, askL_snoc, ← hx])
                  have LX : Hid (xa.2.length ≤ 100000) := Hid.mk_ (by rw [hx, askL_len]; have := LY.out; have := HR4.out.1; rw [List.length_take]; omega)
                  clear HT2 hx
                  obtain ⟨S5, T5⟩ := TK.out
                  have HT5 := Hid.mk_ T5
                  clear T5 TK
                  obtain ⟨gv0, gq0, go0, gc0, A0, B0, n0, cc0, C0, X0⟩ := HT5.out.det
                  have c3 : wr.cell? ⟨g, 3, none⟩ = some (.int .i64 xa.1.seq) := X0.dcs.cell 3
                  have c4 : wr.cell? ⟨g, 4, none⟩ = some (.int .i64 xa.1.asked) := X0.dcs.cell 4
                  clear X0
                  have l3 : (k2 : Int) < (r : Int) := by omega
                  have l4 : (0 : Int) ≤ (k2 : Int) := by omega
                  have HT6 := Hid.mk_ (HT5.out.below (Below.refl _ _).drew)
                  obtain ⟨TT, OT, BT, NT, KT⟩ := HT6.out.sent
                  have KT := Hid.mk_ KT
                  have D6 := Hid.mk_ HT6.out.det
                  go_upto_region 24 with fail
                  clear y1
                  go_region_held3 (fun w' => w'.cell? ⟨g, 3, none⟩ = some (.int .i64 xa.1.seq) ∧ w'.cell? ⟨g, 4, none⟩ = some (.int .i64 xa.1.asked)) (first | exact ⟨by assumption, by assumption⟩ | go_keep) (first
                    | (go_at_call 46; refine (sendR wr.drew S5 g xa.1 3 0 m xa.1.seq 0 xa.1.asked (.slice none 0 0) D6 w2.heap.size _ xa.2 TT OT BT NT LX _ (Hid.mk_ rfl)).mono ?_; rintro e w6 ⟨v7, rfl, t7⟩; have s3 := t7.out.cells.2.1; have s4 := t7.out.cells.2.2)
                    | fail)
                  have tu7 := Hid.mk_ (KT.out _ _ _ _ t7.out)
                  clear HT5 HT6 c3 c4 s3 s4 t7 KT D6
                  go_wp2_with fail
                  go_roundw
                  case rel => exact ⟨k2 + 1, by go_num, by omega, Hid.mk_ (by rw [HX.out]; exact tu7.out)⟩
                  case measure => simp [intOf]; omega
                · obtain rfl : k2 = r := by omega
                  go_wp2_with fail
                  go_roundw
                  case rel => exact ⟨j + 1, by go_num, by omega, Hid.mk_ (by rw [HYS.out, HSL.out]; exact TK.out.ti)⟩
                  case measure => simp [intOf]; omega
        · have hb1 : (id == 1) = false := by simp [i1]
          by_cases i2 : id = 2
          · have hb2 : (id == 2) = true := by simp [i2]
            have HYS : Hid (dueA ps dr (e0, []) (D.take (j + 1)) = (d2 y.1, y.2)) := Hid.mk_ (by rw [HY.out]; unfold dueS; rw [if_neg i1, if_pos i2])
            clear HY HI i1 i2
            obtain ⟨S0, T0⟩ := TH.out
            have HT0 := Hid.mk_ T0
            clear T0
            obtain ⟨gv0, gq0, go0, gc0, A0, B0, n0, cc0, C0, X0⟩ := HT0.out.det
            have c7 : wr.cell? ⟨g, 7, none⟩ = some (.pointer (some ⟨gv0, 0, none⟩)) := X0.dcs.cell 7
            have c4 : wr.cell? ⟨g, 4, none⟩ = some (.int .i64 y.1.asked) := X0.dcs.cell 4
            have XH0 := Hid.mk_ X0
            have gl := Hid.mk_ X0.dcs.lt
            clear X0
            obtain ⟨q, hq⟩ : ∃ q, q = cOf y.1 y.1.asked := ⟨_, rfl⟩
            have HQ := Hid.mk_ hq
            clear hq
            go_upto_region 27 with fail
            go_cut [16] from 109 to 118 (fun s5 wx => ∃ q5, s5 = .pointer (some ⟨q5, 0, none⟩) ∧ Hid (Rum.Box3 wx q5 q.n q.i q.h) ∧ Hid (Below wr.heap.size wr wx) ∧ Hid (wr.heap.size ≤ q5))
            case first =>
              have n1 := World.new_ne wr _ c7
              have n2 := World.new_ne wr _ c4
              have ax := (Below.refl wr.heap.size wr).alloc (Nat.le_refl _) (.cells #[.int .i64 0, .int .i64 0, .int .i64 0] 30)
              have BX0 := Rum.Box3.made wr 0 0 0
              have BX := Hid.mk_ (box3k BX0 (Below.refl _ _).drew)
              have AX := Hid.mk_ ax.drew
              have k2 := Hid.mk_ (keepC ax.drew c7)
              have k3 := Hid.mk_ (keepC ax.drew c4)
              clear ax BX0
              go_region_held3 (fun w' => w'.cell? ⟨g, 7, none⟩ = some (.pointer (some ⟨gv0, 0, none⟩)) ∧ w'.cell? ⟨g, 4, none⟩ = some (.int .i64 y.1.asked)) (first | exact ⟨by assumption, by assumption⟩ | go_keep) (first
                | (go_at_call 24; refine (ofR (w := wr.drew) (by exact XH0.out.below (Below.refl _ _).drew) y.1.asked).mono ?_; rintro e0 w5 ⟨rfl, b5⟩; have s2 := keepC b5 (by exact c7); have s3 := keepC b5 (by exact c4); have n3 := World.new_ne w5 _ s2; have n4 := World.new_ne w5 _ s3)
                | (go_at_call 24; refine (ofR (w := (wr.alloc (.cells #[.int .i64 0, .int .i64 0, .int .i64 0] 30)).drew) (by exact XH0.out.below AX.out) y.1.asked).mono ?_; rintro e0 w5 ⟨rfl, b5⟩; have s2 := keepC b5 k2.out; have s3 := keepC b5 k3.out; have b0 := (box3k BX.out b5).c0; have b1 := (box3k BX.out b5).c1; have b2 := (box3k BX.out b5).c2; have g0 := (box3k BX.out b5).f0; have g1 := (box3k BX.out b5).f1; have g2 := (box3k BX.out b5).f2; have n5 : g ≠ wr.heap.size := Nat.ne_of_lt gl.out)
                | fail)
              · go_wp2_with fail
                go_meet
                have z5 := ((Below.refl wr.heap.size wr).drew.trans b5)
                exact ⟨w5.heap.size, rfl, Hid.mk_ (by rw [HQ.out]; exact Rum.Box3.made w5 _ _ _), Hid.mk_ (z5.alloc z5.size _), Hid.mk_ z5.size⟩
              · go_wp2_with fail
                go_meet
                have z5 := AX.out.trans (b5.mono AX.out.size)
                exact ⟨wr.heap.size, rfl, Hid.mk_ (by rw [HQ.out]; exact (box3k BX.out b5).set _ _ _), Hid.mk_ (Rum.below_set (Rum.below_set (Rum.below_set z5 (Nat.le_refl _)) (Nat.le_refl _)) (Nat.le_refl _)), Hid.mk_ (Nat.le_refl _)⟩
            case rest =>
              obtain ⟨z, rfl, BX, HB3, QL⟩ := hcut
              have T5 := Hid.mk_ (HT0.out.below HB3.out)
              clear c7 c4 XH0 gl
              obtain ⟨x0, x1, x2, f0, f1, f2⟩ := BX.out
              by_cases h2 : q.h = 1
              · have hqb : (q.h == 1) = true := by simp [h2]
                have HD : Hid (d2 y.1 = { dHears y.1 ⟨q.n, q.i, 2⟩ with asked := -1 }) := Hid.mk_ (by unfold d2; rw [← HQ.out, if_pos h2])
                have MY : Hid (true = mayC q.n q.i 2) := Hid.mk_ (by rw [HQ.out]; exact (cOf_may VY.out y.1.asked 2 (by omega)).symm)
                obtain ⟨e1, he1⟩ : ∃ e1, e1 = dHears y.1 ⟨q.n, q.i, 2⟩ := ⟨_, rfl⟩
                rw [← he1] at HD
                have HE1 := Hid.mk_ he1
                clear h2 HQ he1
                go_upto_region 30 with fail
                have ws := Rum.Wr.set wc z 2 (.int .i64 2)
                have y0 : (wc.setCell ⟨z, 2, none⟩ (.int .i64 2)).cell? ⟨z, 0, none⟩ = some (.int .i64 q.n) := (World.cell?_setCell_other _ _ _ _ (by simp)).trans x0
                have y1 : (wc.setCell ⟨z, 2, none⟩ (.int .i64 2)).cell? ⟨z, 1, none⟩ = some (.int .i64 q.i) := (World.cell?_setCell_other _ _ _ _ (by simp)).trans x1
                have y2 : (wc.setCell ⟨z, 2, none⟩ (.int .i64 2)).cell? ⟨z, 2, none⟩ = some (.int .i64 2) := World.cell?_setCell_same _ _ _ x2
                have T6 := Hid.mk_ (HT0.out.fresh QL.out HB3.out ws)
                clear x0 x1 x2 f0 f1 f2 ws HT0 BX T5
                generalize wc.setCell ⟨z, 2, none⟩ (.int .i64 2) = w6 at *
                go_upto_region 31 with (go_at_call 39; refine (hearR w6 S0 g y.1 ⟨q.n, q.i, 2⟩ (Hid.mk_ T6.out.det) MY e1 HE1 _ (Hid.mk_ rfl)).mono ?_; rintro e w7 ⟨rfl, t7⟩)
                obtain ⟨S7, T7⟩ := T6.out.turn t7.out
                have HT7 := Hid.mk_ T7
                clear y0 y1 y2 T7 T6 t7
                obtain ⟨gv7, gq7, go7, gc7, A7, B7, n7, cc7, C7, X7⟩ := HT7.out.det
                have c4 : w7.cell? ⟨g, 4, none⟩ = some (.int .i64 e1.asked) := X7.dcs.cell 4
                have f4 : w7.frozen? ⟨g, 4, none⟩ = false := X7.dcs.fr 4
                have ws := Rum.Wr.set w7 g 4 (.int .i64 (-1))
                have t8 : Hid (RTurn w7 (w7.setCell ⟨g, 4, none⟩ (.int .i64 (-1))) S7 g { e1 with asked := -1 }) := Hid.mk_ ⟨S7, ⟨_, _, _, _, _, _, _, _, _, X7.turnD ws (X7.dcs.set 4 (.int .i64 (-1)) { e1 with asked := -1 } rfl) ⟨X7.ok.self, X7.ok.inc, X7.ok.now, X7.ok.seq, by show (-1 : Int) ≤ -1 ∧ (-1 : Int) ≤ 7; omega⟩ ⟨rfl, rfl, rfl, rfl, rfl, rfl⟩⟩, fun i hi => .inl hi, ws.mono (fun i hi => by rw [hi]; exact X7.sg)⟩
                clear X7 ws
                go_wp2_with fail
                go_roundw
                case rel => exact ⟨j + 1, by go_num, by omega, Hid.mk_ (by rw [HYS.out]; simp only; rw [HD.out]; exact HT7.out.turn t8.out)⟩
                case measure => simp [intOf]; omega
              · have hqb : (q.h == 1) = false := by simp [h2]
                obtain ⟨e1, he1⟩ : ∃ e1, e1 = y.1 := ⟨_, rfl⟩
                have HD : Hid (d2 y.1 = { e1 with asked := -1 }) := Hid.mk_ (by unfold d2; rw [← HQ.out, if_neg h2, he1])
                rw [← he1] at T5
                have HT7 := T5
                clear h2 HQ he1 f0 f1 f2 T5 HT0
                go_upto_region 31 with fail
                clear x0 x1 x2
                obtain ⟨w7, hw7⟩ : ∃ w7, w7 = wc := ⟨_, rfl⟩
                rw [← hw7] at HT7 ⊢
                clear hw7
                obtain ⟨S7, hS7⟩ : ∃ S7, S7 = S0 := ⟨_, rfl⟩
                rw [← hS7] at HT7
                clear hS7
                obtain ⟨gv7, gq7, go7, gc7, A7, B7, n7, cc7, C7, X7⟩ := HT7.out.det
                have c4 : w7.cell? ⟨g, 4, none⟩ = some (.int .i64 e1.asked) := X7.dcs.cell 4
                have f4 : w7.frozen? ⟨g, 4, none⟩ = false := X7.dcs.fr 4
                have ws := Rum.Wr.set w7 g 4 (.int .i64 (-1))
                have t8 : Hid (RTurn w7 (w7.setCell ⟨g, 4, none⟩ (.int .i64 (-1))) S7 g { e1 with asked := -1 }) := Hid.mk_ ⟨S7, ⟨_, _, _, _, _, _, _, _, _, X7.turnD ws (X7.dcs.set 4 (.int .i64 (-1)) { e1 with asked := -1 } rfl) ⟨X7.ok.self, X7.ok.inc, X7.ok.now, X7.ok.seq, by show (-1 : Int) ≤ -1 ∧ (-1 : Int) ≤ 7; omega⟩ ⟨rfl, rfl, rfl, rfl, rfl, rfl⟩⟩, fun i hi => .inl hi, ws.mono (fun i hi => by rw [hi]; exact X7.sg)⟩
                clear X7 ws
                go_wp2_with fail
                go_roundw
                case rel => exact ⟨j + 1, by go_num, by omega, Hid.mk_ (by rw [HYS.out]; simp only; rw [HD.out]; exact HT7.out.turn t8.out)⟩
                case measure => simp [intOf]; omega
          · have hb2 : (id == 2) = false := by simp [i2]
            have HYS : Hid (dueA ps dr (e0, []) (D.take (j + 1)) = (y.1, y.2)) := Hid.mk_ (by rw [HY.out]; unfold dueS; rw [if_neg i1, if_neg i2, d100_low _ _ (by omega)])
            clear HY i1 i2
            go_wp2_with fail
            go_roundw
            case rel => exact ⟨j + 1, by go_num, by omega, Hid.mk_ (by rw [HYS.out]; exact TH.out)⟩
            case measure => simp [intOf]; omega
    · obtain rfl : j = n8 := by omega
      have etk : D.take j = D := List.take_of_length_le (by have := HB.out.1; omega)
      rw [etk] at TH
      obtain ⟨y, hy⟩ : ∃ y, y = dueA ps dr (e0, []) D := ⟨_, rfl⟩
      rw [← hy] at TH HX2
      have VY : Hid (Vok y.1) := Hid.mk_ (by rw [hy]; exact Vok.dueA _ V0.out)
      have LY : Hid (y.2.length ≤ 2000) := Hid.mk_ (by rw [hy]; have h1 := dueA_len ps dr D (e0, []); have := DL.out.1; simp only [List.length_nil] at h1; omega)
      clear hy etk hlt
      obtain ⟨S0, T0⟩ := TH.out
      have HT0 := Hid.mk_ T0
      have RP : Hid (Prb.Row wr Ap ps) := Hid.mk_ (Row_keep hR2.out fun b off e h0 hlt => TH.out.wr.block b hlt (hP.out b off e (by have := hnp.out; omega)))
      obtain ⟨gv0, gq0, go0, gc0, A0, B0, n0, cc0, C0, X0⟩ := HT0.out.det
      have XH0 := Hid.mk_ X0
      have c4 : wr.cell? ⟨g, 4, none⟩ = some (.int .i64 y.1.asked) := X0.dcs.cell 4
      have c9 : wr.cell? ⟨g, 9, none⟩ = some (.pointer (some ⟨go0, 0, none⟩)) := X0.dcs.cell 9
      have AK : Hid (-1 ≤ y.1.asked ∧ y.1.asked ≤ 7) := Hid.mk_ X0.ok.asked
      clear X0 T0 TH
      by_cases ha : y.1.asked = -1
      · obtain ⟨e4, he4⟩ : ∃ e4, e4 = dNxt ps dr y.1 := ⟨_, rfl⟩
        have HXA : Hid (x = if e4.asked = -1 then (e4, y.2) else (dSet (dSent (dAsk e4)), y.2 ++ [pOm (dAsk e4)])) := Hid.mk_ (by rw [HX2.out]; unfold tickA; rw [if_neg (fun h => h ha), ← he4])
        have HE4 := Hid.mk_ he4
        have hneg : ¬ 0 ≤ y.1.asked := by omega
        clear HX2 ha he4
        have np0 : np ≤ 9223372036854775807 := by omega
        go_upto_region 36 with (go_at_call 56; refine (Prb.nextR (w := wr) (Hid.mk_ XH0.out.od) XH0.out.zl Ap np cp ps RP hnp np0 dr hdr).mono ?_; rintro e w3 ⟨rfl, t3⟩; obtain ⟨B9, n9, c9x, S9, x9, h9, r9⟩ := XH0.out.turnO t3 (nxt_len _ _ _ _ XH0.out.zl); have c4' : w3.cell? ⟨g, 4, none⟩ = some (.int .i64 y.1.asked) := x9.dcs.cell 4; have f4' : w3.frozen? ⟨g, 4, none⟩ = false := x9.dcs.fr 4)
        have ws := Rum.Wr.set w3 g 4 (.int .i64 (Prb.nxt y.1.self ps y.1.zs dr).1)
        have x4 := x9.turnD ws (x9.dcs.set 4 (.int .i64 (Prb.nxt y.1.self ps y.1.zs dr).1) (dNxt ps dr y.1) rfl) ⟨x9.ok.self, x9.ok.inc, x9.ok.now, x9.ok.seq, nxt_ok _ _ _ _⟩ ⟨rfl, rfl, rfl, rfl, rfl, rfl⟩
        have t4 : RTurn wr (w3.setCell ⟨g, 4, none⟩ (.int .i64 (Prb.nxt y.1.self ps y.1.zs dr).1)) S0 g e4 := ⟨S9, by rw [HE4.out]; exact ⟨_, _, _, _, _, _, _, _, _, x4⟩, h9, r9.then_ ws (fun i hi => .inl (by rw [hi]; exact XH0.out.sg))⟩
        obtain ⟨S4, T4⟩ := HT0.out.turn t4
        have HT4 := Hid.mk_ T4
        clear T4 t4 x4 ws c4' f4' x9 h9 r9 t3 c4 c9 XH0 HT0 HE4
        generalize w3.setCell ⟨g, 4, none⟩ (.int .i64 (Prb.nxt y.1.self ps y.1.zs dr).1) = w4 at *
        obtain ⟨gv4, gq4, go4, gc4, A4, B4, n4, cc4, C4, X4⟩ := HT4.out.det
        have c4 : w4.cell? ⟨g, 4, none⟩ = some (.int .i64 e4.asked) := X4.dcs.cell 4
        have XH4 := Hid.mk_ X4
        have AK4 : Hid (-1 ≤ e4.asked ∧ e4.asked ≤ 7) := Hid.mk_ X4.ok.asked
        clear X4
        by_cases hb : e4.asked = -1
        · have hbb : e4.asked < 0 := by omega
          have E : x = (e4, y.2) := by rw [HXA.out, if_pos hb]
          have HE := Hid.mk_ E
          clear hb E HXA
          go_wp2_with fail
          go_ret
          obtain ⟨T, h1, h2⟩ := RTI.done ⟨S4, HT4.out⟩ R2.out
          rw [HE.out]
          exact ⟨_, T, rfl, h1, h2⟩
        · have hbb : ¬ e4.asked < 0 := by have := AK4.out; omega
          obtain ⟨e5, he5⟩ : ∃ e5, e5 = dAsk e4 := ⟨_, rfl⟩
          have HXB : Hid (x = (dSet (dSent e5), y.2 ++ [pOm e5])) := Hid.mk_ (by rw [HXA.out, if_neg hb, he5])
          have HE5 := Hid.mk_ he5
          clear hb HXA he5
          have sq := Hid.mk_ XH4.out.ok.seq
          obtain ⟨s1, hs1e⟩ : ∃ s1, s1 = e4.seq + 1 := ⟨_, rfl⟩
          have hs1 : IntKind.i64.wrap (e4.seq + 1) = s1 := (IntWalk.i64_in _ (by have : 0 ≤ e4.seq ∧ e4.seq ≤ 1000000 := sq.out; omega)).trans hs1e.symm
          have HS1 := Hid.mk_ hs1e
          clear hs1e
          have c3 : w4.cell? ⟨g, 3, none⟩ = some (.int .i64 e4.seq) := XH4.out.dcs.cell 3
          have f3 : w4.frozen? ⟨g, 3, none⟩ = false := XH4.out.dcs.fr 3
          go_upto_region 39 with fail
          have WS := Hid.mk_ (Rum.Wr.set w4 g 3 (.int .i64 s1))
          have y3 : (w4.setCell ⟨g, 3, none⟩ (.int .i64 s1)).cell? ⟨g, 3, none⟩ = some (.int .i64 s1) := World.cell?_setCell_same _ _ _ c3
          have g3 : (w4.setCell ⟨g, 3, none⟩ (.int .i64 s1)).frozen? ⟨g, 3, none⟩ = false := (World.frozen?_setCell _ _ _ _).trans f3
          have HH : Hid ((w4.setCell ⟨g, 3, none⟩ (.int .i64 s1)).heap[g]? = some (.cells ((rc e4 gv4 gq4 go4 gc4).setIfInBounds 3 (.int .i64 s1)) 63 (0, 0))) := Hid.mk_ (heap_setCell_same w4 g 3 _ 63 _ XH4.out.dcs)
          clear c3 f3 c4
          generalize w4.setCell ⟨g, 3, none⟩ (.int .i64 s1) = w5 at *
          go_upto_if 162 with fail
          go_cut [4] from 158 to 166 (fun s4 wx => Hid (RTurn w4 wx S4 g e5))
          case first =>
            by_cases hm1 : e4.seq = 1000000
            · have hgt : 1000000 < s1 := by have := HS1.out; omega
              have eq1 : seq1 e4.seq = 1 := by unfold seq1; rw [hm1]; rfl
              have EQ1 := Hid.mk_ eq1
              clear eq1 hm1
              go_wp2_with fail
              go_meet
              have ws2 := Rum.Wr.set w5 g 3 (.int .i64 1)
              have hh2 : RC (w5.setCell ⟨g, 3, none⟩ (.int .i64 1)) g (dAsk e4) gv4 gq4 go4 gc4 := by
                have h := heap_setCell_same w5 g 3 _ 63 (.int .i64 1) HH.out
                unfold RC
                rw [h]
                unfold dAsk
                rw [EQ1.out]
                rfl
              have ww := WS.out.then_ ws2 (fun i hi => .inl hi)
              have x5 := XH4.out.turnD ww hh2 ⟨XH4.out.ok.self, XH4.out.ok.inc, XH4.out.ok.now, seq1_ok XH4.out.ok.seq, XH4.out.ok.asked⟩ ⟨rfl, rfl, rfl, rfl, rfl, rfl⟩
              exact Hid.mk_ ⟨S4, by rw [HE5.out]; exact ⟨_, _, _, _, _, _, _, _, _, x5⟩, fun i hi => .inl hi, ww.mono (fun i hi => by rw [hi]; exact XH4.out.sg)⟩
            · have hgt : ¬ 1000000 < s1 := by have : 0 ≤ e4.seq ∧ e4.seq ≤ 1000000 := sq.out; have := HS1.out; omega
              have eq1 : seq1 e4.seq = s1 := by
                rw [HS1.out]
                unfold seq1
                have : 0 ≤ e4.seq ∧ e4.seq ≤ 1000000 := sq.out
                rw [Int.tmod_eq_emod_of_nonneg this.1]
                omega
              have EQ1 := Hid.mk_ eq1
              clear eq1 hm1
              go_wp2_with fail
              go_meet
              have hh2 : RC w5 g (dAsk e4) gv4 gq4 go4 gc4 := by
                unfold RC
                rw [HH.out]
                unfold dAsk
                rw [EQ1.out]
                rfl
              have x5 := XH4.out.turnD WS.out hh2 ⟨XH4.out.ok.self, XH4.out.ok.inc, XH4.out.ok.now, seq1_ok XH4.out.ok.seq, XH4.out.ok.asked⟩ ⟨rfl, rfl, rfl, rfl, rfl, rfl⟩
              exact Hid.mk_ ⟨S4, by rw [HE5.out]; exact ⟨_, _, _, _, _, _, _, _, _, x5⟩, fun i hi => .inl hi, WS.out.mono (fun i hi => by rw [hi]; exact XH4.out.sg)⟩
          case rest =>
            have T5 := HT4.out.turn hcut.out
            obtain ⟨S5, T5⟩ := T5
            have HT5 := Hid.mk_ T5
            clear T5 hcut y3 g3 HH WS XH4 HT4 HE5 hs1 HS1 sq hbb hneg
            clear w5
            generalize wc = w5 at *
            obtain ⟨gv5, gq5, go5, gc5, A5, B5, n5, cc5, C5, X5⟩ := HT5.out.det
            have c0 : w5.cell? ⟨g, 0, none⟩ = some (.int .i64 e5.self) := X5.dcs.cell 0
            have c3 : w5.cell? ⟨g, 3, none⟩ = some (.int .i64 e5.seq) := X5.dcs.cell 3
            have c4 : w5.cell? ⟨g, 4, none⟩ = some (.int .i64 e5.asked) := X5.dcs.cell 4
            clear X5
            obtain ⟨U, HU, TU5⟩ := RUS.start HT5.out (Below.refl _ _)
            have HT6 := Hid.mk_ (TU5.out.below (Below.refl _ _).drew)
            have LX : Hid (y.2.length ≤ 100000) := Hid.mk_ (by have := LY.out; omega)
            obtain ⟨TT, OT, BT, NT, KT⟩ := HT6.out.sent
            have KT := Hid.mk_ KT
            have D6 := Hid.mk_ HT6.out.det
            have MP : Hid (pOm e5 = ⟨1, e5.self, e5.asked, e5.seq, e5.self, 0, dClaims e5 e5.asked⟩) := Hid.mk_ rfl
            go_upto_region 41 with fail
            go_region_held3 (fun w' => w'.cell? ⟨g, 0, none⟩ = some (.int .i64 e5.self) ∧ w'.cell? ⟨g, 3, none⟩ = some (.int .i64 e5.seq) ∧ w'.cell? ⟨g, 4, none⟩ = some (.int .i64 e5.asked)) (first | exact ⟨by assumption, by assumption, by assumption⟩ | go_keep) (first
              | (go_at_call 46; refine (sendR w5.drew S5 g e5 1 0 e5.asked e5.seq e5.self 0 (.slice none 0 0) D6 w2.heap.size _ y.2 TT OT BT NT LX _ MP).mono ?_; rintro e w6 ⟨v7, rfl, t7⟩; have s2 := t7.out.cells.1; have s3 := t7.out.cells.2.1; have s4 := t7.out.cells.2.2)
              | fail)
            have tu7 := KT.out _ _ _ _ t7.out
            obtain ⟨S7, T7⟩ := tu7.ti
            have HT7 := Hid.mk_ T7
            clear c0 c3 c4 s2 s3 s4 HT5 HT6 T7 tu7 t7 KT D6 OT BT NT TU5 MP
            obtain ⟨e6, he6⟩ : ∃ e6, e6 = dSent e5 := ⟨_, rfl⟩
            rw [← he6] at HT7 HXB
            have HXC : Hid (x = ({ e6 with M := Wat.setLq 2 (e6.now + 4) (Wat.setLq 1 (e6.now + 2) e6.M) }, y.2 ++ [pOm e5])) := HXB
            clear he6 HXB
            obtain ⟨M1, hM1⟩ : ∃ M1, M1 = Wat.setLq 1 (e6.now + 2) e6.M := ⟨_, rfl⟩
            have HM1 := Hid.mk_ hM1
            rw [← hM1] at HXC
            obtain ⟨M2, hM2⟩ : ∃ M2, M2 = Wat.setLq 2 (e6.now + 4) M1 := ⟨_, rfl⟩
            have HM2 := Hid.mk_ hM2
            rw [← hM2] at HXC
            clear hM1 hM2
            generalize w6 = w7 at *
            obtain ⟨gv7, gq7, go7, gc7, A7, B7, n7, cc7, C7, X7⟩ := HT7.out.det
            have nw := X7.ok.now
            have hw2 : IntKind.i64.wrap (e6.now + 2) = e6.now + 2 := IntWalk.i64_in _ (by have : 0 ≤ e6.now ∧ e6.now ≤ 1000000 := nw; omega)
            have hw4 : IntKind.i64.wrap (e6.now + 4) = e6.now + 4 := IntWalk.i64_in _ (by have : 0 ≤ e6.now ∧ e6.now ≤ 1000000 := nw; omega)
            have HOK1 : Hid (Wat.okM 1 (e6.now + 2) = true) := Hid.mk_ (by have h3 : 0 ≤ e6.now ∧ e6.now ≤ 1000000 := nw; rw [Wat.okM_iff]; omega)
            have HOK2 : Hid (Wat.okM 2 (e6.now + 4) = true) := Hid.mk_ (by have h3 : 0 ≤ e6.now ∧ e6.now ≤ 1000000 := nw; rw [Wat.okM_iff]; omega)
            have HMA : Hid (M1 = Wat.setL 1 (e6.now + 2) e6.M) := Hid.mk_ (by rw [HM1.out, Wat.setLq_ok HOK1.out])
            have HMB : Hid (M2 = Wat.setL 2 (e6.now + 4) M1) := Hid.mk_ (by rw [HM2.out, Wat.setLq_ok HOK2.out])
            clear nw
            have c10 : w7.cell? ⟨g, 10, none⟩ = some (.pointer (some ⟨gc7, 0, none⟩)) := X7.dcs.cell 10
            have c2 : w7.cell? ⟨g, 2, none⟩ = some (.int .i64 e6.now) := X7.dcs.cell 2
            have CK : Hid (Wat.Ref w7 gc7 C7 e6.M) := Hid.mk_ X7.ck
            have CST : Hid (Wat.St e6.M) := Hid.mk_ X7.cst
            have ST1 : Hid (Wat.St M1) := Hid.mk_ (by rw [HMA.out]; exact CST.out.setL HOK1.out)
            have ST2 : Hid (Wat.St M2) := Hid.mk_ (by rw [HMB.out]; exact ST1.out.setL HOK2.out)
            have XH7 := Hid.mk_ X7
            clear X7
            go_upto_region 42 with fail
            go_region_held3 (fun w' => w'.cell? ⟨g, 10, none⟩ = some (.pointer (some ⟨gc7, 0, none⟩)) ∧ w'.cell? ⟨g, 2, none⟩ = some (.int .i64 e6.now)) (first | exact ⟨by assumption, by assumption⟩ | go_keep) (first
              | (go_at_call 57; refine (Wat.rset_yes w7.drew gc7 C7 e6.M 1 (e6.now + 2) (by exact Hid.mk_ (CK.out.below (Below.refl _ _).drew)) CST HOK1.out M1 HMA).mono ?_; rintro e w8 ⟨rfl, t8⟩; have r8 := rturnWrC t8.out; have s2 := r8.cell (by exact c10) XH7.out.gc; have s3 := r8.cell (by exact c2) XH7.out.gc)
              | fail)
            have dr : Below w7.heap.size w7 w7.drew := (Below.refl _ _).drew
            obtain ⟨C8, S8, x8, hS8, rS8⟩ := (XH7.out.below dr).turnC t8.out ST1.out
            obtain ⟨S8', T8⟩ := HT7.out.turn (w1 := w8) (d' := { e6 with M := M1 }) ⟨S8, ⟨_, _, _, _, _, _, _, _, _, x8⟩, fun i hi => (hS8 i hi).elim .inl (fun h => .inr (Nat.le_trans dr.size h)), (Rum.Wr.of_below dr S7).then_ rS8 (fun i hi => .inl hi)⟩
            have HT8 := Hid.mk_ T8
            clear c10 c2 s2 s3 r8 XH7 CK x8 hS8 rS8 t8 dr T8 HT7
            obtain ⟨gv8, gq8, go8, gc8, A8, B8x, n8x, cc8, C8x, X8⟩ := HT8.out.det
            have c10 : w8.cell? ⟨g, 10, none⟩ = some (.pointer (some ⟨gc8, 0, none⟩)) := X8.dcs.cell 10
            have c2 : w8.cell? ⟨g, 2, none⟩ = some (.int .i64 e6.now) := X8.dcs.cell 2
            have CK : Hid (Wat.Ref w8 gc8 C8x M1) := Hid.mk_ X8.ck
            have XH8 := Hid.mk_ X8
            clear X8
            go_upto_region 43 with fail
            go_region_held3 (fun w' => w'.cell? ⟨g, 10, none⟩ = some (.pointer (some ⟨gc8, 0, none⟩)) ∧ w'.cell? ⟨g, 2, none⟩ = some (.int .i64 e6.now)) (first | exact ⟨by assumption, by assumption⟩ | go_keep) (first
              | (go_at_call 57; refine (Wat.rset_yes w8.drew gc8 C8x M1 2 (e6.now + 4) (by exact Hid.mk_ (CK.out.below (Below.refl _ _).drew)) ST1 HOK2.out M2 HMB).mono ?_; rintro e w9 ⟨rfl, t9⟩; have r9 := rturnWrC t9.out; have s2 := r9.cell (by exact c10) XH8.out.gc; have s3 := r9.cell (by exact c2) XH8.out.gc)
              | fail)
            have dr : Below w8.heap.size w8 w8.drew := (Below.refl _ _).drew
            obtain ⟨C9, S9, x9, hS9, rS9⟩ := (XH8.out.below dr).turnC t9.out ST2.out
            have T9 := Hid.mk_ (HT8.out.turn (w1 := w9) (d' := { e6 with M := M2 }) ⟨S9, ⟨_, _, _, _, _, _, _, _, _, x9⟩, fun i hi => (hS9 i hi).elim .inl (fun h => .inr (Nat.le_trans dr.size h)), (Rum.Wr.of_below dr S8').then_ rS9 (fun i hi => .inl hi)⟩)
            clear c10 c2 s2 s3 r9 XH8 CK x9 hS9 rS9 t9 dr HT8
            go_wp2_with fail
            go_ret
            obtain ⟨T, h1, h2⟩ := RTI.done T9.out R2.out
            rw [HXC.out]
            exact ⟨_, T, rfl, h1, h2⟩
      · have hneg : 0 ≤ y.1.asked := by have := AK.out; omega
        have E : x = y := by rw [HX2.out]; unfold tickA; rw [if_pos ha]
        have HE := Hid.mk_ E
        clear ha E HX2
        go_wp2_with fail
        go_ret
        obtain ⟨T, h1, h2⟩ := RTI.done ⟨S0, HT0.out⟩ R2.out
        rw [HE.out]
        exact ⟨_, T, rfl, h1, h2⟩
theorem tickR (w : World) (S : Nat → Prop) (g : Nat) (d : Dt) (hD : Hid (DetD w S g d)) (hv : Hid (Vok d)) (hn : d.now < 1000000) (Ap : Option Addr) (np cp : Nat) (ps : List Int) (dr : Int) (hr : Hid (Prb.Row w Ap ps)) (hS : Hid (∀ b off, Ap = some ⟨b, off, none⟩ → 0 < np → ¬ S b)) (hnp : Hid (np = ps.length)) (hnc : np ≤ cp) (hcc : cp ≤ 9223372036854775807) (hdr : Hid (0 ≤ dr)) (d' : Dt) (hd : Hid (d' = (dTick ps dr d).1)) (ms : List Om) (hm : Hid (ms = (dTick ps dr d).2)) :
    Calls Tryz.prog 16 #[.pointer (some ⟨g, 0, none⟩), .slice Ap np cp, .int .u64 dr] w fun e w' => ∃ v T, e = .returned v ∧ Hid (Outs w' w.heap.size v ms T) ∧ Hid (RTurnX w w' S g d' T) := by
  have ed := hd.out
  have em := hm.out
  unfold dTick at ed em
  cases hl : d.left with
  | true =>
    rw [hl, if_pos rfl] at ed em
    refine (tickR_left w S g d hD hl hn _ _ d' (Hid.mk_ ed)).mono ?_
    rintro e w' ⟨rfl, t⟩
    subst em
    obtain ⟨S', k1, k2, k3⟩ := t.out
    exact ⟨_, _, rfl, Hid.mk_ (Outs.nil _ _), Hid.mk_ ⟨S', k1, k2, k3, fun _ _ h => h⟩⟩
  | false =>
    rw [hl, if_neg (by simp)] at ed em
    refine (tickR_go w S g d hD hv hl hn Ap np cp ps dr hr hS hnp hnc hcc hdr _ (Hid.mk_ rfl)).mono ?_
    rintro e w' ⟨v, T, rfl, h1, h2⟩
    rw [← ed] at h2
    rw [← em] at h1
    exact ⟨v, T, rfl, h1, h2⟩
end Go.Proofs.YthndjhocmpelcaaGreat.Rd
