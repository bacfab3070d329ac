/- Chapter 6: a tick. Conditions: the detector's parts lie in blocks apart; the peers lie in memory, not in them. -/
import Derived.Test.YthndjhocmpelcaaGreatGk
namespace Go.Proofs.YthndjhocmpelcaaGreat.Swi
open Go.RowKit Kit Hth Tri3 Rum Go.Proofs.YthndjhocmpelcaaGreatW.PrintLast
set_option linter.unusedVariables false
theorem takeI {l : List Int} {j : Nat} {x : Int} (h : l[j]? = some x) : l.take (j + 1) = l.take j ++ [x] := by rw [List.take_add_one, h]; rfl
set_option maxRecDepth 100000 in
set_option maxHeartbeats 16000000 in
theorem tick_go (w : World) (S : Nat → Prop) (g : Nat) (d : Dt) (hD : Hid (Det w S g d)) (hv : Hid (Vok d)) (hl : d.left = false) (hn : d.now < 1000000) (Ap : Option Addr) (np cp : Nat) (ps : List Int) (dr : Int) (hr : Hid (Prb.Row w Ap ps)) (hS : Hid (∀ b off, Ap = some ⟨b, off, none⟩ → 0 < np → ¬ S b)) (hnp : Hid (np = ps.length)) (hnc : np ≤ cp) (hcc : cp ≤ 9223372036854775807) (hdr : Hid (0 ≤ dr)) (x : Dt × List Om) (hx : Hid (x = tickA ps dr (dDue ps dr d))) :
    Calls Tryz.prog 15 #[.pointer (some ⟨g, 0, none⟩), .slice Ap np cp, .int .u64 dr] w fun e w' => ∃ v T, e = .returned v ∧ Hid (Outs w' w.heap.size v x.2 T) ∧ Hid (DTurnX w w' S g x.1 T) := by
  obtain ⟨gv, gq, go, gc, A, B, n1, cc, C, X⟩ := hD.out
  have c6 : w.cell? ⟨g, 6, none⟩ = some (.int .i64 d.now) := X.dcs.cell 6
  have f6 : w.frozen? ⟨g, 6, none⟩ = false := X.dcs.fr 6
  have o6 := X.ok.now
  have hw1 : IntKind.i64.wrap (d.now + 1) = d.now + 1 := IntWalk.i64_in _ (by have : 0 ≤ d.now ∧ d.now ≤ 1000000 := o6; omega)
  have hmf : ∀ (fn : Fn) (first cap : Array Value) (w : World), (Instr.makeFunc fn first cap).run Tryz.prog w = .ok (.func fn first cap) w := fun _ _ _ _ => rfl
  have XH := Hid.mk_ X
  have O6 := Hid.mk_ o6
  have HN := Hid.mk_ hn
  clear X o6 hn
  have DH : ∃ D, Wat.dueL (d.now + 1) d.M = D := ⟨_, rfl⟩
  obtain ⟨D, hDD⟩ := DH
  have HDD := Hid.mk_ hDD
  obtain ⟨M, hMM⟩ : ∃ M, Wat.restL (d.now + 1) d.M = M := ⟨_, rfl⟩
  have HMM := Hid.mk_ hMM
  have DL : Hid (D.length ≤ 1000 ∧ ∀ i ∈ D, 0 ≤ i ∧ i ≤ 999) := Hid.mk_ (by
    have st := XH.out.ck.st
    rw [← hDD]
    unfold Wat.dueL
    refine ⟨?_, fun i hi => ?_⟩
    · have := st.len
      rw [List.length_map]
      exact Nat.le_trans (List.length_filter_le _ _) (by omega)
    · obtain ⟨m, hm, rfl⟩ := List.mem_map.1 hi
      exact st.id0 m (List.mem_filter.1 hm).1)
  clear hDD hMM
  go_enter Tryz.func15, Tryz.ntmps15
  go_upto_region 4 with fail
  have ws := Rum.Wr.set w g 6 (.int .i64 (d.now + 1))
  have X1 := Hid.mk_ (XH.out.turnD ws (XH.out.dcs.set 6 (.int .i64 (d.now + 1)) (d1 d) rfl) ⟨XH.out.ok.self, XH.out.ok.inc, by show 0 ≤ d.now + 1 ∧ d.now + 1 ≤ 1000000; have := O6.out; have := HN.out; omega, XH.out.ok.seq, XH.out.ok.asked⟩ ⟨rfl, rfl, rfl, rfl, rfl, rfl⟩)
  have R1 : Hid (Rum.Wr w (w.setCell ⟨g, 6, none⟩ (.int .i64 (d.now + 1))) S) := Hid.mk_ (ws.mono (fun i hi => by rw [hi]; exact XH.out.sg))
  clear c6 f6 ws XH
  generalize w.setCell ⟨g, 6, none⟩ (.int .i64 (d.now + 1)) = w1 at *
  have c10 : w1.cell? ⟨g, 10, none⟩ = some (.bool false) := by rw [← hl]; exact X1.out.dcs.cell 10
  have c5 : w1.cell? ⟨g, 5, none⟩ = some (.pointer (some ⟨gc, 0, none⟩)) := X1.out.dcs.cell 5
  have c6 : w1.cell? ⟨g, 6, none⟩ = some (.int .i64 (d.now + 1)) := X1.out.dcs.cell 6
  have CK : Hid (Wat.Clk w1 gc C d.M) := Hid.mk_ X1.out.ck
  go_upto_region 8 with fail
  go_region_held3 (fun w' => w'.cell? ⟨g, 5, none⟩ = some (.pointer (some ⟨gc, 0, none⟩)) ∧ w'.cell? ⟨g, 6, none⟩ = some (.int .i64 (d.now + 1))) (first | exact ⟨by assumption, by assumption⟩ | go_keep) (first
    | (go_at_call 47; refine (Wat.due0 w1.drew gc C d.M (d.now + 1) (by exact Hid.mk_ (CK.out.below (Below.refl _ _).drew)) D HDD M HMM).mono ?_; rintro e w2 ⟨B8, n8, c8, rfl, o8, k8, r8⟩; have r9 := wrW r8.out; have s2 := r9.cell (by exact c5) X1.out.ne.2.2.1; have s3 := r9.cell (by exact c6) X1.out.ne.2.2.1)
    | fail)
  have dr1 : Below w1.heap.size w1 w1.drew := (Below.refl _ _).drew
  obtain ⟨x2, r2⟩ := (X1.out.below dr1).turnC0 k8.out r8.out
  obtain ⟨e0, he0⟩ : ∃ e0, e0 = { d1 d with M := M } := ⟨_, rfl⟩
  have x2' : DetX w2 S g e0 gv gq go gc A B n1 cc C := by rw [he0]; exact x2
  have D2 := Hid.mk_ (show Det w2 S g e0 from ⟨_, _, _, _, _, _, _, _, _, x2'⟩)
  have R2 : Hid (Rum.Wr w w2 S) := Hid.mk_ ((R1.out.then_ (Rum.Wr.of_below dr1 (fun _ => False)) (fun _ h => h.elim)).then_ r2 (fun i hi => .inl hi))
  have HX2 : Hid (x = tickA ps dr (dueA ps dr (e0, []) D)) := Hid.mk_ (by rw [hx.out, he0, ← HDD.out, ← HMM.out]; rfl)
  have V0 : Hid (Vok e0) := Hid.mk_ (by rw [he0]; exact hv.out.of rfl rfl)
  have N0 : Hid (e0.now = d.now + 1) := Hid.mk_ (by rw [he0]; rfl)
  have LW : Hid (w1.heap.size ≤ w2.heap.size) := Hid.mk_ (Nat.le_trans dr1.size r2.size)
  have HB : Hid (n8 = D.length ∧ c8 ≤ 9223372036854775807 ∧ n8 ≤ c8 ∧ ∀ j i, D[j]? = some i → ∃ b, B8 = some ⟨b, 0, none⟩ ∧ ¬ S b ∧ w2.cell? ⟨b, j, none⟩ = some (.int .i64 i)) := Hid.mk_ (by
    have o : w2.ownsRow w1.drew.heap.size 3 1 (.slice B8 n8 c8) D.length (Wat.Ints.ints D) := by have h := o8.out; unfold Wat.Ints.Own at h; exact h
    obtain ⟨A', c', e', l1, l2, l3⟩ := Rowz.form o
    injection e' with e1 e2 e3
    subst e1 e2 e3
    refine ⟨rfl, l2, l1, fun j i hj => ?_⟩
    have hlt := (List.getElem?_eq_some_iff.1 hj).1
    rcases l3 with ⟨_, _, h0⟩ | ⟨b, rfl, hb1, hb2⟩
    · omega
    · refine ⟨b, rfl, fun hs => ?_, ?_⟩
      · have := X1.out.blk b hs; have := dr1.size; omega
      · have := World.ownsRow.cellAt o j (by omega)
        rw [this, Wat.Ints.ints, List.getElem?_map, hj]
        rfl)
  have hR2 : Hid (Prb.Row w2 Ap ps) := Hid.mk_ (Row_keep hr.out fun b off e h0 hlt => R2.out.block b hlt (hS.out b off e (by have := hnp.out; omega)))
  have hP : Hid (∀ b off, Ap = some ⟨b, off, none⟩ → 0 < np → ¬ S b) := hS
  clear c5 c6 c10 s2 s3 r9 r2 x2 x2' k8 r8 o8 CK X1 R1 dr1 hx HDD HMM he0 hr hS hl hw1 HN O6 hD hv
  have n8b : n8 ≤ 1000 := by have := HB.out.1; have := DL.out.1; omega
  go_wp2_with fail
  go_loopw [7, 40] (fun v i wr => ∃ j : Nat, i = .int .i64 (j : Int) ∧ j ≤ n8 ∧ Hid (TI w2 wr S g v (dueA ps dr (e0, []) (D.take j)).1 (dueA ps dr (e0, []) (D.take j)).2)) (fun _ i _ => n8 - (intOf i).toNat)
  case atStart => exact ⟨0, rfl, by omega, Hid.mk_ (TI.start D2.out)⟩
  case round =>
    obtain ⟨j, rfl, hj, TH⟩ := hrel
    by_cases hlt : j < n8
    · obtain ⟨id, hid⟩ : ∃ id, D[j]? = some id := ⟨_, List.getElem?_eq_getElem (by have := HB.out.1; omega)⟩
      obtain ⟨b, rfl, nb, y0⟩ := HB.out.2.2.2 j id hid
      replace y0 := TH.out.wr.cell y0 nb
      have HI : Hid (0 ≤ id ∧ id ≤ 999) := Hid.mk_ (DL.out.2 id (List.mem_of_getElem? hid))
      have HT : Hid (D.take (j + 1) = D.take j ++ [id]) := Hid.mk_ (takeI hid)
      clear hid nb
      obtain ⟨y, hy⟩ : ∃ y, y = dueA ps dr (e0, []) (D.take j) := ⟨_, rfl⟩
      rw [← hy] at TH
      have HY : Hid (dueA ps dr (e0, []) (D.take (j + 1)) = dueS ps dr y id) := Hid.mk_ (by rw [HT.out, dueA_snoc, ← hy])
      have VY : Hid (Vok y.1) := Hid.mk_ (by rw [hy]; exact Vok.dueA _ V0.out)
      have LY : Hid (y.2.length ≤ 2000) := Hid.mk_ (by rw [hy]; have h1 := dueA_len ps dr (D.take j) (e0, []); have := DL.out.1; rw [List.length_take] at h1; simp only [List.length_nil] at h1; omega)
      clear HT hy
      have l1 : (j : Int) < (n8 : Int) := by omega
      have l0 : (0 : Int) ≤ (j : Int) := by omega
      have RP : Hid (Prb.Row wr Ap ps) := Hid.mk_ (Row_keep hR2.out fun b off e h0 hlt => TH.out.wr.block b hlt (hP.out b off e (by have := hnp.out; omega)))
      go_upto_region 16 with fail
      clear y0
      by_cases i1 : id = 1
      · have hb1 : (id == 1) = true := by simp [i1]
        have HYS : Hid (dueA ps dr (e0, []) (D.take (j + 1)) = askL y (someL ps dr y.1)) := Hid.mk_ (by rw [HY.out]; unfold dueS; rw [if_pos i1])
        clear HY HI i1
        obtain ⟨S0, T0⟩ := TH.out
        have HT0 := Hid.mk_ T0
        clear T0
        have HD0 := Hid.mk_ HT0.out.det
        have hz8 : Hid ((hlp ps y.1).length ≤ 8) := Hid.mk_ (hl_len y.1.self y.1.asked ps 8)
        obtain ⟨l8, hl8⟩ : ∃ l8, l8 = hlp ps y.1 := ⟨_, rfl⟩
        have HL8 := Hid.mk_ hl8
        obtain ⟨sh, hsh⟩ : ∃ sh, sh = shf ps dr y.1 := ⟨_, rfl⟩
        have HSH : Hid (Prb.shuf (l8.take 64).length dr (l8.take 64) = sh) := Hid.mk_ (by rw [hsh, hl8]; rfl)
        obtain ⟨r, hrr⟩ : ∃ r, Prb.many 2 sh.length = r := ⟨_, rfl⟩
        have HR := Hid.mk_ hrr
        have HSL : Hid (someL ps dr y.1 = sh.take r) := Hid.mk_ (by rw [← hrr, hsh]; rfl)
        have hr2 : Hid (r ≤ 2) := Hid.mk_ (by rw [← hrr]; unfold Prb.many; omega)
        clear hsh hrr hl8
        have np0 : np ≤ 9223372036854775807 := by omega
        go_upto_region 18 with (first
          | (go_at_call 49; refine (helpers wr S0 g y.1 HD0 Ap np cp ps RP hnp np0).mono ?_; rintro e w3 ⟨A3, c3, rfl, o3, b3⟩; have o3' : Prb.Own w3 wr.heap.size (.slice A3 l8.length c3) l8 := by (rw [HL8.out]; exact o3))
          | (go_at_call 48; refine (Prb.some0 A3 _ c3 l8 2 dr w3 (Hid.mk_ o3'.row.2.1) (Hid.mk_ (by rw [HL8.out]; rfl)) (by have := hz8.out; unfold hlp at this; omega) (by have := Prb_cap o3; omega) hdr sh HSH r HR).mono ?_; rintro e w4 ⟨A4, c4, rfl, o4, hr4, b4⟩))
        have B34 := b3.trans (b4.mono b3.size)
        obtain ⟨U, HU, TU0⟩ := US.start HT0.out B34
        have HB4 : Hid (∀ k m, sh[k]? = some m → ∃ b, A4 = some ⟨b, 0, none⟩ ∧ ¬ U b ∧ w4.cell? ⟨b, k, none⟩ = some (.int .i64 m)) := Hid.mk_ (fun k m hm => by
          obtain ⟨b, e1, h1, h2⟩ := Prb_at o4 k m hm
          exact ⟨b, e1, fun hu => by have := HU.out b hu; have := b3.size; omega, h2⟩)
        have HR4 : Hid (r ≤ sh.length ∧ r ≤ c4) := Hid.mk_ ⟨hr4, by have := Prb_cap o4; omega⟩
        have r2 : r ≤ 2 := hr2.out
        clear o3 o3' o4 b3 b4 B34 HD0 hr4 HSH HR HL8 hz8 HT0 TH
        go_loopw [7, 67] (fun v i wq => ∃ k : Nat, i = .int .i64 (k : Int) ∧ k ≤ r ∧ Hid (TU w2 S w4 U wq g v (askL y (sh.take k)).1 (askL y (sh.take k)).2)) (fun _ i _ => r - (intOf i).toNat)
        case atStart => exact ⟨0, rfl, by omega, Hid.mk_ ⟨S0, TU0.out⟩⟩
        case round =>
          obtain ⟨k, rfl, hk, TK⟩ := hrel
          by_cases hlt2 : k < r
          · obtain ⟨m, hm⟩ : ∃ m, sh[k]? = some m := ⟨_, List.getElem?_eq_getElem (by have := HR4.out.1; omega)⟩
            obtain ⟨b4, rfl, nb, y1⟩ := HB4.out k m hm
            replace y1 := TK.out.wr.cell y1 nb
            have HT2 : Hid (sh.take (k + 1) = sh.take k ++ [m]) := Hid.mk_ (takeI hm)
            clear hm nb
            obtain ⟨xa, hx⟩ : ∃ xa, xa = askL y (sh.take k) := ⟨_, rfl⟩
            rw [← hx] at TK
            have HX : Hid (askL y (sh.take (k + 1)) = ask1 xa m) := Hid.mk_ (by rw [HT2.out, askL_snoc, ← hx])
            have LX : Hid (xa.2.length ≤ 100000) := Hid.mk_ (by rw [hx, askL_len]; have := LY.out; have := HR4.out.1; rw [List.length_take]; omega)
            clear HT2 hx
            obtain ⟨S5, T5⟩ := TK.out
            have HT5 := Hid.mk_ T5
            clear T5 TK
            obtain ⟨gv0, gq0, go0, gc0, A0, B0, n0, cc0, C0, X0⟩ := HT5.out.det
            have c7 : wr.cell? ⟨g, 7, none⟩ = some (.int .i64 xa.1.seq) := X0.dcs.cell 7
            have c8 : wr.cell? ⟨g, 8, none⟩ = some (.int .i64 xa.1.asked) := X0.dcs.cell 8
            clear X0
            have l3 : (k : Int) < (r : Int) := by omega
            have l4 : (0 : Int) ≤ (k : Int) := by omega
            have ltd := HT5.out.det.blk
            have HT6 := Hid.mk_ (HT5.out.below (Below.refl _ _).drew)
            go_upto_region 20 with fail
            clear y1
            refine wp_region_last_drew (S := fun w' => w'.cell? ⟨g, 7, none⟩ = some (.int .i64 xa.1.seq) ∧ w'.cell? ⟨g, 8, none⟩ = some (.int .i64 xa.1.asked)) (ds := [12, 13, 14]) (by kernel_rfl) (by exact ⟨c7, c8⟩) (fun hHeld => ?_)
            refine' any_take (i := 0) (oi := _) (v := _) ?hi0a (by kernel_rfl) (by kernel_rfl) (by kernel_rfl) ?hQ0a (Or.inl ⟨?hw0a, ?hy0a⟩) ?rest0a
            case hi0a => exact (by simp only [List.getElem?_toArray, List.getElem?_cons_zero]; rfl)
            case hQ0a => exact fun _ _ _ h => h
            case hw0a => rfl
            case hy0a =>
              intro w
              go_simp
              all_goals with_reducible rfl
            try simp only [Act.put, List.setIfInBounds_toArray, List.set_cons_zero, List.set_cons_succ]
            refine' wpAnyLast_take (i := 1) (oi := _) (v := _) ?hi1a (by kernel_rfl) (by kernel_rfl) (by kernel_rfl) (by kernel_rfl) (by kernel_rfl) ?hQ1a (Or.inl ⟨?hw1a, ?hy1a⟩) (by assumption) ?rest1a
            case hi1a => exact (by simp only [List.getElem?_toArray, List.getElem?_cons_zero, List.getElem?_cons_succ]; rfl)
            case hQ1a => exact fun _ _ _ h => h
            case hw1a => rfl
            case hy1a =>
              intro w hSw
              try dsimp only at hSw
              obtain ⟨hS0a, hS1a⟩ := hSw
              go_simp
              all_goals with_reducible rfl
            try simp only [Act.put, List.setIfInBounds_toArray, List.set_cons_zero, List.set_cons_succ]
            refine' wpAnyLast_take (i := 2) (oi := _) (v := _) ?hi2a (by kernel_rfl) (by kernel_rfl) (by kernel_rfl) (by kernel_rfl) (by kernel_rfl) ?hQ2a (Or.inl ⟨?hw2a, ?hy2a⟩) (by assumption) ?rest2a
            case hi2a => exact (by simp only [List.getElem?_toArray, List.getElem?_cons_zero, List.getElem?_cons_succ]; rfl)
            case hQ2a => exact fun _ _ _ h => h
            case hw2a => rfl
            case hy2a =>
              intro w hSw
              try dsimp only at hSw
              obtain ⟨hS0a, hS1a⟩ := hSw
              go_simp
              all_goals with_reducible rfl
            try simp only [Act.put, List.setIfInBounds_toArray, List.set_cons_zero, List.set_cons_succ]
            refine' wpAnyLast_take (i := 3) (oi := _) (v := _) ?hi3a (by kernel_rfl) (by kernel_rfl) (by kernel_rfl) (by kernel_rfl) (by kernel_rfl) ?hQ3a (Or.inl ⟨?hw3a, ?hy3a⟩) (by assumption) ?rest3a
            case hi3a => exact (by simp only [List.getElem?_toArray, List.getElem?_cons_zero, List.getElem?_cons_succ]; rfl)
            case hQ3a => exact fun _ _ _ h => h
            case hw3a => rfl
            case hy3a =>
              intro w hSw
              try dsimp only at hSw
              obtain ⟨hS0a, hS1a⟩ := hSw
              go_simp
              all_goals with_reducible rfl
            try simp only [Act.put, List.setIfInBounds_toArray, List.set_cons_zero, List.set_cons_succ]
            refine' wpAnyLast_take (i := 4) (oi := _) (v := _) ?hi4a (by kernel_rfl) (by kernel_rfl) (by kernel_rfl) (by kernel_rfl) (by kernel_rfl) ?hQ4a (Or.inl ⟨?hw4a, ?hy4a⟩) (by assumption) ?rest4a
            case hi4a => exact (by simp only [List.getElem?_toArray, List.getElem?_cons_zero, List.getElem?_cons_succ]; rfl)
            case hQ4a => exact fun _ _ _ h => h
            case hw4a => rfl
            case hy4a =>
              intro w hSw
              try dsimp only at hSw
              obtain ⟨hS0a, hS1a⟩ := hSw
              go_simp
              all_goals with_reducible rfl
            try simp only [Act.put, List.setIfInBounds_toArray, List.set_cons_zero, List.set_cons_succ]
            refine' wpAnyLast_take (i := 5) (oi := _) (v := _) ?hi5a (by kernel_rfl) (by kernel_rfl) (by kernel_rfl) (by kernel_rfl) (by kernel_rfl) ?hQ5a (Or.inl ⟨?hw5a, ?hy5a⟩) (by assumption) ?rest5a
            case hi5a => exact (by simp only [List.getElem?_toArray, List.getElem?_cons_zero, List.getElem?_cons_succ]; rfl)
            case hQ5a => exact fun _ _ _ h => h
            case hw5a => rfl
            case hy5a =>
              intro w hSw
              try dsimp only at hSw
              obtain ⟨hS0a, hS1a⟩ := hSw
              go_simp
              all_goals with_reducible rfl
            try simp only [Act.put, List.setIfInBounds_toArray, List.set_cons_zero, List.set_cons_succ]
            refine' wpAnyLast_take (i := 6) (oi := _) (v := _) ?hi6a (by kernel_rfl) (by kernel_rfl) (by kernel_rfl) (by kernel_rfl) (by kernel_rfl) ?hQ6a (Or.inl ⟨?hw6a, ?hy6a⟩) (by assumption) ?rest6a
            case hi6a => exact (by simp only [List.getElem?_toArray, List.getElem?_cons_zero, List.getElem?_cons_succ]; rfl)
            case hQ6a => exact fun _ _ _ h => h
            case hw6a => rfl
            case hy6a =>
              intro w hSw
              try dsimp only at hSw
              obtain ⟨hS0a, hS1a⟩ := hSw
              go_simp
              all_goals with_reducible rfl
            try simp only [Act.put, List.setIfInBounds_toArray, List.set_cons_zero, List.set_cons_succ]
            refine' wpAnyLast_take (i := 7) (oi := _) (v := _) ?hi7a (by kernel_rfl) (by kernel_rfl) (by kernel_rfl) (by kernel_rfl) (by kernel_rfl) ?hQ7a (Or.inl ⟨?hw7a, ?hy7a⟩) (by assumption) ?rest7a
            case hi7a => exact (by simp only [List.getElem?_toArray, List.getElem?_cons_zero, List.getElem?_cons_succ]; rfl)
            case hQ7a => exact fun _ _ _ h => h
            case hw7a => rfl
            case hy7a =>
              intro w hSw
              try dsimp only at hSw
              obtain ⟨hS0a, hS1a⟩ := hSw
              go_simp
              all_goals with_reducible rfl
            try simp only [Act.put, List.setIfInBounds_toArray, List.set_cons_zero, List.set_cons_succ]
            refine' wpAnyLast_take (i := 8) (oi := _) (v := _) ?hi8a (by kernel_rfl) (by kernel_rfl) (by kernel_rfl) (by kernel_rfl) (by kernel_rfl) ?hQ8a (Or.inl ⟨?hw8a, ?hy8a⟩) (by assumption) ?rest8a
            case hi8a => exact (by simp only [List.getElem?_toArray, List.getElem?_cons_zero, List.getElem?_cons_succ]; rfl)
            case hQ8a => exact fun _ _ _ h => h
            case hw8a => rfl
            case hy8a =>
              intro w hSw
              try dsimp only at hSw
              obtain ⟨hS0a, hS1a⟩ := hSw
              go_simp
              all_goals with_reducible rfl
            try simp only [Act.put, List.setIfInBounds_toArray, List.set_cons_zero, List.set_cons_succ]
            refine' wpAnyLast_take (i := 9) (oi := _) (v := _) ?hi9a (by kernel_rfl) (by kernel_rfl) (by kernel_rfl) (by kernel_rfl) (by kernel_rfl) ?hQ9a (Or.inl ⟨?hw9a, ?hy9a⟩) (by assumption) ?rest9a
            case hi9a => exact (by simp only [List.getElem?_toArray, List.getElem?_cons_zero, List.getElem?_cons_succ]; rfl)
            case hQ9a => exact fun _ _ _ h => h
            case hw9a => rfl
            case hy9a =>
              intro w hSw
              try dsimp only at hSw
              obtain ⟨hS0a, hS1a⟩ := hSw
              go_simp
              all_goals with_reducible rfl
            try simp only [Act.put, List.setIfInBounds_toArray, List.set_cons_zero, List.set_cons_succ]
            refine' wpAnyLast_take (i := 10) (oi := _) (v := _) ?hi10a (by kernel_rfl) (by kernel_rfl) (by kernel_rfl) (by kernel_rfl) (by kernel_rfl) ?hQ10a (Or.inl ⟨?hw10a, ?hy10a⟩) (by assumption) ?rest10a
            case hi10a => exact (by simp only [List.getElem?_toArray, List.getElem?_cons_zero, List.getElem?_cons_succ]; rfl)
            case hQ10a => exact fun _ _ _ h => h
            case hw10a => rfl
            case hy10a =>
              intro w hSw
              try dsimp only at hSw
              obtain ⟨hS0a, hS1a⟩ := hSw
              go_simp
              all_goals with_reducible rfl
            try simp only [Act.put, List.setIfInBounds_toArray, List.set_cons_zero, List.set_cons_succ]
            refine' wpAnyLast_take (i := 11) (oi := _) (v := _) ?hi11a (by kernel_rfl) (by kernel_rfl) (by kernel_rfl) (by kernel_rfl) (by kernel_rfl) ?hQ11a (Or.inl ⟨?hw11a, ?hy11a⟩) (by assumption) ?rest11a
            case hi11a => exact (by simp only [List.getElem?_toArray, List.getElem?_cons_zero, List.getElem?_cons_succ]; rfl)
            case hQ11a => exact fun _ _ _ h => h
            case hw11a => rfl
            case hy11a =>
              intro w hSw
              try dsimp only at hSw
              obtain ⟨hS0a, hS1a⟩ := hSw
              go_simp
              all_goals with_reducible rfl
            try simp only [Act.put, List.setIfInBounds_toArray, List.set_cons_zero, List.set_cons_succ]
            refine wpAnyLast_ready (rs := [12]) (by kernel_rfl) (by simp) ?_
            refine AllReadyL.cons_last (by simp only [List.getElem?_toArray, List.getElem?_cons_zero, List.getElem?_cons_succ]; rfl) (by simp) (fun K hK => ?_) AllReadyL.nil
            refine goesF_ (N := some 83) (.pointer (some ⟨g, 0, none⟩)) (.agg (msg 3 0 m xa.1.seq 0 xa.1.asked (.slice none 0 0))) Tryz.func44 (by kernel_rfl) rfl (by rfl) rfl rfl (by rfl) (by rfl) ?_
            refine (sends wr.drew S5 g xa.1 3 0 m xa.1.seq 0 xa.1.asked (.slice none 0 0) (Hid.mk_ HT6.out.det)).mono ?_
            rintro e w6 ⟨P6, np6, cp6, rfl, o6, t6⟩
            refine ⟨_, rfl, ?_⟩
            refine hK.out _ _ ?_
            clear hK K
            try simp only [Act.put, List.setIfInBounds_toArray, List.set_cons_zero, List.set_cons_succ]
            refine wpAnyLast_ready (rs := [13]) (by kernel_rfl) (by simp) ?_
            refine AllReadyL.cons_last (by simp only [List.getElem?_toArray, List.getElem?_cons_zero, List.getElem?_cons_succ]; rfl) (by simp) (fun K hK => ?_) AllReadyL.nil
            refine value_ (N := some 84) (by rfl) rfl (runs_msgs (x := .tmp 83) (cs := rowM (⟨3, xa.1.self, m, xa.1.seq, 0, xa.1.asked, dClaims xa.1 m⟩ : Om) ⟨P6, np6, cp6⟩) rfl (by rfl) rfl) ?_
            refine hK.out _ _ ?_
            clear hK K
            try simp only [Act.put, List.setIfInBounds_toArray, List.set_cons_zero, List.set_cons_succ]
            obtain ⟨v7, w7, hr7, tu7⟩ := HT6.out.send (w1 := w6) ⟨3, xa.1.self, m, xa.1.seq, 0, xa.1.asked, dClaims xa.1 m⟩ ⟨P6, np6, cp6⟩ _ t6.out o6.out rfl rfl LX.out _
            refine wpAnyLast_ready (rs := [14]) (by kernel_rfl) (by simp) ?_
            refine AllReadyL.cons_last (by simp only [List.getElem?_toArray, List.getElem?_cons_zero, List.getElem?_cons_succ]; rfl) (by simp) (fun K hK => ?_) AllReadyL.nil
            refine value_ (N := some 85) (by rfl) rfl (runs_app (by rfl) (by rfl) (by rfl) hr7) ?_
            refine hK.out _ _ ?_
            clear hK K
            try simp only [Act.put, List.setIfInBounds_toArray, List.set_cons_zero, List.set_cons_succ]
            refine' any_take (i := 15) (oi := _) (v := _) ?hi15az (by kernel_rfl) (by kernel_rfl) (by kernel_rfl) ?hQ15az (Or.inl ⟨?hw15az, ?hy15az⟩) ?rest15az
            case hi15az => exact (by simp only [List.getElem?_toArray, List.getElem?_cons_zero, List.getElem?_cons_succ]; rfl)
            case hQ15az => exact fun _ _ _ h => h
            case hw15az => rfl
            case hy15az =>
              intro w
              go_simp
              all_goals with_reducible rfl
            try simp only [Act.put, List.setIfInBounds_toArray, List.set_cons_zero, List.set_cons_succ]
            refine wpAnyLast_done (by kernel_rfl) ?_ _
            go_wp2_with fail
            go_roundw
            case rel => exact ⟨k + 1, by go_num, by omega, Hid.mk_ (by rw [HX.out]; exact tu7.out)⟩
            case measure => simp [intOf]; omega
          · obtain rfl : k = r := by omega
            go_wp2_with fail
            go_roundw
            case rel => exact ⟨j + 1, by go_num, by omega, Hid.mk_ (by rw [HYS.out, HSL.out]; exact TK.out.ti)⟩
            case measure => simp [intOf]; omega
      · have hb1 : (id == 1) = false := by simp [i1]
        by_cases i2 : id = 2
        · have hb2 : (id == 2) = true := by simp [i2]
          have HYS : Hid (dueA ps dr (e0, []) (D.take (j + 1)) = (d2 y.1, y.2)) := Hid.mk_ (by rw [HY.out]; unfold dueS; rw [if_neg i1, if_pos i2])
          clear HY HI i1 i2
          obtain ⟨S0, T0⟩ := TH.out
          have HT0 := Hid.mk_ T0
          clear T0
          obtain ⟨gv0, gq0, go0, gc0, A0, B0, n0, cc0, C0, X0⟩ := HT0.out.det
          have c2 : wr.cell? ⟨g, 2, none⟩ = some (.pointer (some ⟨gv0, 0, none⟩)) := X0.dcs.cell 2
          have c8 : wr.cell? ⟨g, 8, none⟩ = some (.int .i64 y.1.asked) := X0.dcs.cell 8
          have XH0 := Hid.mk_ X0
          have gl := Hid.mk_ X0.dcs.lt
          clear X0
          obtain ⟨q, hq⟩ : ∃ q, q = cOf y.1 y.1.asked := ⟨_, rfl⟩
          have HQ := Hid.mk_ hq
          clear hq
          go_upto_region 23 with fail
          go_cut [13] from 89 to 97 (fun s5 wx => ∃ q5, s5 = .pointer (some ⟨q5, 0, none⟩) ∧ Hid (Rum.Box3 wx q5 q.n q.i q.h) ∧ Hid (Below wr.heap.size wr wx) ∧ Hid (wr.heap.size ≤ q5))
          case first =>
            have n1 := World.new_ne wr _ c2
            have n2 := World.new_ne wr _ c8
            have ax := (Below.refl wr.heap.size wr).alloc (Nat.le_refl _) (.cells #[.int .i64 0, .int .i64 0, .int .i64 0] 30)
            have BX0 := Rum.Box3.made wr 0 0 0
            have BX := Hid.mk_ (box3k BX0 (Below.refl _ _).drew)
            have AX := Hid.mk_ ax.drew
            have k2 := Hid.mk_ (keepC ax.drew c2)
            have k3 := Hid.mk_ (keepC ax.drew c8)
            clear ax BX0
            go_region_held3 (fun w' => w'.cell? ⟨g, 2, none⟩ = some (.pointer (some ⟨gv0, 0, none⟩)) ∧ w'.cell? ⟨g, 8, none⟩ = some (.int .i64 y.1.asked)) (first | exact ⟨by assumption, by assumption⟩ | go_keep) (first
              | (go_at_call 50; refine (of1 (w := wr.drew) (by exact XH0.out.below (Below.refl _ _).drew) y.1.asked).mono ?_; rintro e0 w5 ⟨rfl, b5⟩; have s2 := keepC b5 (by exact c2); have s3 := keepC b5 (by exact c8); have n3 := World.new_ne w5 _ s2; have n4 := World.new_ne w5 _ s3)
              | (go_at_call 50; refine (of1 (w := (wr.alloc (.cells #[.int .i64 0, .int .i64 0, .int .i64 0] 30)).drew) (by exact XH0.out.below AX.out) y.1.asked).mono ?_; rintro e0 w5 ⟨rfl, b5⟩; have s2 := keepC b5 k2.out; have s3 := keepC b5 k3.out; have b0 := (box3k BX.out b5).c0; have b1 := (box3k BX.out b5).c1; have b2 := (box3k BX.out b5).c2; have g0 := (box3k BX.out b5).f0; have g1 := (box3k BX.out b5).f1; have g2 := (box3k BX.out b5).f2; have n5 : g ≠ wr.heap.size := Nat.ne_of_lt gl.out)
              | fail)
            · go_wp2_with fail
              go_meet
              have z5 := ((Below.refl wr.heap.size wr).drew.trans b5)
              exact ⟨w5.heap.size, rfl, Hid.mk_ (by rw [HQ.out]; exact Rum.Box3.made w5 _ _ _), Hid.mk_ (z5.alloc z5.size _), Hid.mk_ z5.size⟩
            · go_wp2_with fail
              go_meet
              have z5 := AX.out.trans (b5.mono AX.out.size)
              exact ⟨wr.heap.size, rfl, Hid.mk_ (by rw [HQ.out]; exact (box3k BX.out b5).set _ _ _), Hid.mk_ (Rum.below_set (Rum.below_set (Rum.below_set z5 (Nat.le_refl _)) (Nat.le_refl _)) (Nat.le_refl _)), Hid.mk_ (Nat.le_refl _)⟩
          case rest =>
            obtain ⟨z, rfl, BX, HB3, QL⟩ := hcut
            have T5 := Hid.mk_ (HT0.out.below HB3.out)
            clear c2 c8 XH0 gl
            obtain ⟨x0, x1, x2, f0, f1, f2⟩ := BX.out
            by_cases h2 : q.h = 1
            · have hqb : (q.h == 1) = true := by simp [h2]
              have HD : Hid (d2 y.1 = { dHears y.1 ⟨q.n, q.i, 2⟩ with asked := -1 }) := Hid.mk_ (by unfold d2; rw [← HQ.out, if_pos h2])
              have MY : Hid (true = mayC q.n q.i 2) := Hid.mk_ (by rw [HQ.out]; exact (cOf_may VY.out y.1.asked 2 (by omega)).symm)
              obtain ⟨e1, he1⟩ : ∃ e1, e1 = dHears y.1 ⟨q.n, q.i, 2⟩ := ⟨_, rfl⟩
              rw [← he1] at HD
              have HE1 := Hid.mk_ he1
              clear h2 HQ he1
              go_upto_region 26 with fail
              have ws := Rum.Wr.set wc z 2 (.int .i64 2)
              have y0 : (wc.setCell ⟨z, 2, none⟩ (.int .i64 2)).cell? ⟨z, 0, none⟩ = some (.int .i64 q.n) := (World.cell?_setCell_other _ _ _ _ (by simp)).trans x0
              have y1 : (wc.setCell ⟨z, 2, none⟩ (.int .i64 2)).cell? ⟨z, 1, none⟩ = some (.int .i64 q.i) := (World.cell?_setCell_other _ _ _ _ (by simp)).trans x1
              have y2 : (wc.setCell ⟨z, 2, none⟩ (.int .i64 2)).cell? ⟨z, 2, none⟩ = some (.int .i64 2) := World.cell?_setCell_same _ _ _ x2
              have T6 := Hid.mk_ (HT0.out.fresh QL.out HB3.out ws)
              clear x0 x1 x2 f0 f1 f2 ws HT0 BX T5
              generalize wc.setCell ⟨z, 2, none⟩ (.int .i64 2) = w6 at *
              go_upto_region 27 with (go_at_call 36; refine (hears w6 S0 g y.1 ⟨q.n, q.i, 2⟩ (Hid.mk_ T6.out.det) MY e1 HE1 _ (Hid.mk_ rfl)).mono ?_; rintro e w7 ⟨rfl, t7⟩)
              obtain ⟨S7, T7⟩ := T6.out.turn t7.out
              have HT7 := Hid.mk_ T7
              clear y0 y1 y2 T7 T6 t7
              obtain ⟨gv7, gq7, go7, gc7, A7, B7, n7, cc7, C7, X7⟩ := HT7.out.det
              have c8 : w7.cell? ⟨g, 8, none⟩ = some (.int .i64 e1.asked) := X7.dcs.cell 8
              have f8 : w7.frozen? ⟨g, 8, none⟩ = false := X7.dcs.fr 8
              have ws := Rum.Wr.set w7 g 8 (.int .i64 (-1))
              have t8 : Hid (DTurn w7 (w7.setCell ⟨g, 8, none⟩ (.int .i64 (-1))) S7 g { e1 with asked := -1 }) := Hid.mk_ ⟨S7, ⟨_, _, _, _, _, _, _, _, _, X7.turnD ws (X7.dcs.set 8 (.int .i64 (-1)) { e1 with asked := -1 } rfl) ⟨X7.ok.self, X7.ok.inc, X7.ok.now, X7.ok.seq, by show (-1 : Int) ≤ -1 ∧ (-1 : Int) ≤ 7; omega⟩ ⟨rfl, rfl, rfl, rfl, rfl, rfl⟩⟩, fun i hi => .inl hi, ws.mono (fun i hi => by rw [hi]; exact X7.sg)⟩
              clear X7 ws
              go_wp2_with fail
              go_roundw
              case rel => exact ⟨j + 1, by go_num, by omega, Hid.mk_ (by rw [HYS.out]; simp only; rw [HD.out]; exact HT7.out.turn t8.out)⟩
              case measure => simp [intOf]; omega
            · have hqb : (q.h == 1) = false := by simp [h2]
              obtain ⟨e1, he1⟩ : ∃ e1, e1 = y.1 := ⟨_, rfl⟩
              have HD : Hid (d2 y.1 = { e1 with asked := -1 }) := Hid.mk_ (by unfold d2; rw [← HQ.out, if_neg h2, he1])
              rw [← he1] at T5
              have HT7 := T5
              clear h2 HQ he1 f0 f1 f2 T5 HT0
              go_upto_region 27 with fail
              clear x0 x1 x2
              obtain ⟨w7, hw7⟩ : ∃ w7, w7 = wc := ⟨_, rfl⟩
              rw [← hw7] at HT7 ⊢
              clear hw7
              obtain ⟨S7, hS7⟩ : ∃ S7, S7 = S0 := ⟨_, rfl⟩
              rw [← hS7] at HT7
              clear hS7
              obtain ⟨gv7, gq7, go7, gc7, A7, B7, n7, cc7, C7, X7⟩ := HT7.out.det
              have c8 : w7.cell? ⟨g, 8, none⟩ = some (.int .i64 e1.asked) := X7.dcs.cell 8
              have f8 : w7.frozen? ⟨g, 8, none⟩ = false := X7.dcs.fr 8
              have ws := Rum.Wr.set w7 g 8 (.int .i64 (-1))
              have t8 : Hid (DTurn w7 (w7.setCell ⟨g, 8, none⟩ (.int .i64 (-1))) S7 g { e1 with asked := -1 }) := Hid.mk_ ⟨S7, ⟨_, _, _, _, _, _, _, _, _, X7.turnD ws (X7.dcs.set 8 (.int .i64 (-1)) { e1 with asked := -1 } rfl) ⟨X7.ok.self, X7.ok.inc, X7.ok.now, X7.ok.seq, by show (-1 : Int) ≤ -1 ∧ (-1 : Int) ≤ 7; omega⟩ ⟨rfl, rfl, rfl, rfl, rfl, rfl⟩⟩, fun i hi => .inl hi, ws.mono (fun i hi => by rw [hi]; exact X7.sg)⟩
              clear X7 ws
              go_wp2_with fail
              go_roundw
              case rel => exact ⟨j + 1, by go_num, by omega, Hid.mk_ (by rw [HYS.out]; simp only; rw [HD.out]; exact HT7.out.turn t8.out)⟩
              case measure => simp [intOf]; omega
        · have hb2 : (id == 2) = false := by simp [i2]
          have HYS : Hid (dueA ps dr (e0, []) (D.take (j + 1)) = (d100 y.1 id, y.2)) := Hid.mk_ (by rw [HY.out]; unfold dueS; rw [if_neg i1, if_neg i2])
          clear HY i1 i2
          obtain ⟨S0, T0⟩ := TH.out
          have HT0 := Hid.mk_ T0
          clear T0
          obtain ⟨gv0, gq0, go0, gc0, A0, B0, n0, cc0, C0, X0⟩ := HT0.out.det
          have c2 : wr.cell? ⟨g, 2, none⟩ = some (.pointer (some ⟨gv0, 0, none⟩)) := X0.dcs.cell 2
          have XH0 := Hid.mk_ X0
          clear X0
          have hwi : IntKind.i64.wrap (id - 100) = id - 100 := IntWalk.i64_in _ (by have := HI.out; omega)
          go_upto_region 13 with (go_at_call 50; refine (of1 (w := wr) XH0.out (id - 100)).mono ?_; rintro e w3 ⟨rfl, b3⟩)
          obtain ⟨q, hq⟩ : ∃ q, q = cOf y.1 (id - 100) := ⟨_, rfl⟩
          rw [← hq]
          have HQ := Hid.mk_ hq
          clear hq c2
          have bx := Rum.Box3.made w3 q.n q.i q.h
          have ax := (Below.refl w3.heap.size w3).alloc (Nat.le_refl _) (.cells #[.int .i64 q.n, .int .i64 q.i, .int .i64 q.h] 30)
          have BX := Hid.mk_ bx
          have HB3 := Hid.mk_ (b3.trans (ax.mono b3.size))
          have QL : Hid (wr.heap.size ≤ w3.heap.size) := Hid.mk_ b3.size
          clear bx ax b3
          generalize w3.alloc (.cells #[.int .i64 q.n, .int .i64 q.i, .int .i64 q.h] 30) = w5 at *
          generalize w3.heap.size = z at *
          obtain ⟨x0, x1, x2, f0, f1, f2⟩ := BX.out
          by_cases h2 : q.h = 2
          · have hqb : (q.h == 2) = true := by simp [h2]
            have HD : Hid (d100 y.1 id = dHears y.1 ⟨q.n, q.i, 3⟩) := Hid.mk_ (by unfold d100; rw [← HQ.out, if_pos h2])
            have MY : Hid (true = mayC q.n q.i 3) := Hid.mk_ (by rw [HQ.out]; exact (cOf_may VY.out (id - 100) 3 (by omega)).symm)
            clear h2 HQ
            go_upto_region 15 with fail
            have ws := Rum.Wr.set w5 z 2 (.int .i64 3)
            have y0 : (w5.setCell ⟨z, 2, none⟩ (.int .i64 3)).cell? ⟨z, 0, none⟩ = some (.int .i64 q.n) := (World.cell?_setCell_other _ _ _ _ (by simp)).trans x0
            have y1 : (w5.setCell ⟨z, 2, none⟩ (.int .i64 3)).cell? ⟨z, 1, none⟩ = some (.int .i64 q.i) := (World.cell?_setCell_other _ _ _ _ (by simp)).trans x1
            have y2 : (w5.setCell ⟨z, 2, none⟩ (.int .i64 3)).cell? ⟨z, 2, none⟩ = some (.int .i64 3) := World.cell?_setCell_same _ _ _ x2
            have T6 := Hid.mk_ (HT0.out.fresh QL.out HB3.out ws)
            clear x0 x1 x2 f0 f1 f2 ws HT0 XH0 BX
            generalize w5.setCell ⟨z, 2, none⟩ (.int .i64 3) = w6 at *
            go_wp2_with (go_at_call 36; refine (hears w6 S0 g y.1 ⟨q.n, q.i, 3⟩ (Hid.mk_ T6.out.det) MY (d100 y.1 id) HD _ (Hid.mk_ rfl)).mono ?_; rintro e w7 ⟨rfl, t7⟩)
            go_roundw
            case rel => exact ⟨j + 1, by go_num, by omega, Hid.mk_ (by rw [HYS.out]; exact T6.out.turn t7.out)⟩
            case measure => simp [intOf]; omega
          · have hqb : (q.h == 2) = false := by simp [h2]
            have HD : Hid (d100 y.1 id = y.1) := Hid.mk_ (by unfold d100; rw [← HQ.out, if_neg h2])
            clear h2 HQ
            go_wp2_with fail
            go_roundw
            case rel => exact ⟨j + 1, by go_num, by omega, Hid.mk_ (by rw [HYS.out]; simp only; rw [HD.out]; exact ⟨S0, HT0.out.below HB3.out⟩)⟩
            case measure => simp [intOf]; omega
    · obtain rfl : j = n8 := by omega
      have etk : D.take j = D := List.take_of_length_le (by have := HB.out.1; omega)
      rw [etk] at TH
      obtain ⟨y, hy⟩ : ∃ y, y = dueA ps dr (e0, []) D := ⟨_, rfl⟩
      rw [← hy] at TH HX2
      have VY : Hid (Vok y.1) := Hid.mk_ (by rw [hy]; exact Vok.dueA _ V0.out)
      have LY : Hid (y.2.length ≤ 2000) := Hid.mk_ (by rw [hy]; have h1 := dueA_len ps dr D (e0, []); have := DL.out.1; simp only [List.length_nil] at h1; omega)
      clear hy etk hlt
      obtain ⟨S0, T0⟩ := TH.out
      have HT0 := Hid.mk_ T0
      have RP : Hid (Prb.Row wr Ap ps) := Hid.mk_ (Row_keep hR2.out fun b off e h0 hlt => TH.out.wr.block b hlt (hP.out b off e (by have := hnp.out; omega)))
      obtain ⟨gv0, gq0, go0, gc0, A0, B0, n0, cc0, C0, X0⟩ := HT0.out.det
      have XH0 := Hid.mk_ X0
      have c8 : wr.cell? ⟨g, 8, none⟩ = some (.int .i64 y.1.asked) := X0.dcs.cell 8
      have c4 : wr.cell? ⟨g, 4, none⟩ = some (.pointer (some ⟨go0, 0, none⟩)) := X0.dcs.cell 4
      clear X0 T0 TH
      by_cases ha : y.1.asked = -1
      · have hab : (y.1.asked != -1) = false := by simp [ha]
        obtain ⟨e4, he4⟩ : ∃ e4, e4 = dNxt ps dr y.1 := ⟨_, rfl⟩
        have HXA : Hid (x = if e4.asked = -1 then (e4, y.2) else (dSet (dSent (dAsk e4)), y.2 ++ [pOm (dAsk e4)])) := Hid.mk_ (by rw [HX2.out]; unfold tickA; rw [if_neg (fun h => h ha), ← he4])
        have HE4 := Hid.mk_ he4
        clear HX2 ha he4
        have np0 : np ≤ 9223372036854775807 := by omega
        go_upto_region 32 with (go_at_call 51; refine (Prb.next (w := wr) (Hid.mk_ XH0.out.od) Ap np cp ps RP hnp np0 dr hdr).mono ?_; rintro e w3 ⟨rfl, t3⟩; obtain ⟨B9, n9, c9, S9, x9, h9, r9⟩ := XH0.out.turnO t3; have c8' : w3.cell? ⟨g, 8, none⟩ = some (.int .i64 y.1.asked) := x9.dcs.cell 8; have f8' : w3.frozen? ⟨g, 8, none⟩ = false := x9.dcs.fr 8)
        have ws := Rum.Wr.set w3 g 8 (.int .i64 (Prb.nxt y.1.self ps y.1.zs dr).1)
        have x4 := x9.turnD ws (x9.dcs.set 8 (.int .i64 (Prb.nxt y.1.self ps y.1.zs dr).1) (dNxt ps dr y.1) rfl) ⟨x9.ok.self, x9.ok.inc, x9.ok.now, x9.ok.seq, nxt_ok _ _ _ _⟩ ⟨rfl, rfl, rfl, rfl, rfl, rfl⟩
        have t4 : DTurn wr (w3.setCell ⟨g, 8, none⟩ (.int .i64 (Prb.nxt y.1.self ps y.1.zs dr).1)) S0 g e4 := ⟨S9, by rw [HE4.out]; exact ⟨_, _, _, _, _, _, _, _, _, x4⟩, h9, r9.then_ ws (fun i hi => .inl (by rw [hi]; exact XH0.out.sg))⟩
        obtain ⟨S4, T4⟩ := HT0.out.turn t4
        have HT4 := Hid.mk_ T4
        clear T4 t4 x4 ws c8' f8' x9 h9 r9 t3 c8 c4 XH0 HT0 HE4
        generalize w3.setCell ⟨g, 8, none⟩ (.int .i64 (Prb.nxt y.1.self ps y.1.zs dr).1) = w4 at *
        obtain ⟨gv4, gq4, go4, gc4, A4, B4, n4, cc4, C4, X4⟩ := HT4.out.det
        have c8 : w4.cell? ⟨g, 8, none⟩ = some (.int .i64 e4.asked) := X4.dcs.cell 8
        have XH4 := Hid.mk_ X4
        clear X4
        by_cases hb : e4.asked = -1
        · have hbb : (e4.asked == -1) = true := by simp [hb]
          have E : x = (e4, y.2) := by rw [HXA.out, if_pos hb]
          have HE := Hid.mk_ E
          clear hb E HXA
          go_wp2_with fail
          go_ret
          obtain ⟨T, h1, h2⟩ := TI.done ⟨S4, HT4.out⟩ R2.out
          rw [HE.out]
          exact ⟨_, T, rfl, h1, h2⟩
        · have hbb : (e4.asked == -1) = false := by simp [hb]
          obtain ⟨e5, he5⟩ : ∃ e5, e5 = dAsk e4 := ⟨_, rfl⟩
          have HXB : Hid (x = (dSet (dSent e5), y.2 ++ [pOm e5])) := Hid.mk_ (by rw [HXA.out, if_neg hb, he5])
          have HE5 := Hid.mk_ he5
          have sq := XH4.out.ok.seq
          have hs1 : IntKind.i64.wrap (e4.seq.tmod 1000000) = e4.seq.tmod 1000000 := IntWalk.i64_in _ (by rw [Int.tmod_eq_emod_of_nonneg sq.1]; omega)
          have hs2 : IntKind.i64.wrap (e4.seq.tmod 1000000 + 1) = seq1 e4.seq := IntWalk.i64_in _ (by rw [Int.tmod_eq_emod_of_nonneg sq.1]; omega)
          clear hb HXA he5 sq
          have c7 : w4.cell? ⟨g, 7, none⟩ = some (.int .i64 e4.seq) := XH4.out.dcs.cell 7
          have f7 : w4.frozen? ⟨g, 7, none⟩ = false := XH4.out.dcs.fr 7
          go_upto_region 35 with fail
          have ws := Rum.Wr.set w4 g 7 (.int .i64 (seq1 e4.seq))
          have x5 := XH4.out.turnD ws (XH4.out.dcs.set 7 (.int .i64 (seq1 e4.seq)) (dAsk e4) rfl) ⟨XH4.out.ok.self, XH4.out.ok.inc, XH4.out.ok.now, seq1_ok XH4.out.ok.seq, XH4.out.ok.asked⟩ ⟨rfl, rfl, rfl, rfl, rfl, rfl⟩
          have t5 : DTurn w4 (w4.setCell ⟨g, 7, none⟩ (.int .i64 (seq1 e4.seq))) S4 g e5 := ⟨S4, by rw [HE5.out]; exact ⟨_, _, _, _, _, _, _, _, _, x5⟩, fun i hi => .inl hi, ws.mono (fun i hi => by rw [hi]; exact XH4.out.sg)⟩
          obtain ⟨S5, T5⟩ := HT4.out.turn t5
          have HT5 := Hid.mk_ T5
          clear T5 t5 x5 ws c7 f7 c8 XH4 HT4 HE5 hs1 hs2
          generalize w4.setCell ⟨g, 7, none⟩ (.int .i64 (seq1 e4.seq)) = w5 at *
          obtain ⟨gv5, gq5, go5, gc5, A5, B5, n5, cc5, C5, X5⟩ := HT5.out.det
          have c0 : w5.cell? ⟨g, 0, none⟩ = some (.int .i64 e5.self) := X5.dcs.cell 0
          have c7 : w5.cell? ⟨g, 7, none⟩ = some (.int .i64 e5.seq) := X5.dcs.cell 7
          have c8 : w5.cell? ⟨g, 8, none⟩ = some (.int .i64 e5.asked) := X5.dcs.cell 8
          clear X5
          have HT6 := Hid.mk_ (HT5.out.below (Below.refl _ _).drew)
          have LX : Hid (y.2.length ≤ 100000) := Hid.mk_ (by have := LY.out; omega)
          refine wp_region_last_drew (S := fun w' => w'.cell? ⟨g, 0, none⟩ = some (.int .i64 e5.self) ∧ w'.cell? ⟨g, 7, none⟩ = some (.int .i64 e5.seq) ∧ w'.cell? ⟨g, 8, none⟩ = some (.int .i64 e5.asked)) (ds := [15, 16, 17]) (by kernel_rfl) (by exact ⟨c0, c7, c8⟩) (fun hHeld => ?_)
          refine' any_take (i := 0) (oi := _) (v := _) ?hi0b (by kernel_rfl) (by kernel_rfl) (by kernel_rfl) ?hQ0b (Or.inl ⟨?hw0b, ?hy0b⟩) ?rest0b
          case hi0b => exact (by simp only [List.getElem?_toArray, List.getElem?_cons_zero]; rfl)
          case hQ0b => exact fun _ _ _ h => h
          case hw0b => rfl
          case hy0b =>
            intro w
            go_simp
            all_goals with_reducible rfl
          try simp only [Act.put, List.setIfInBounds_toArray, List.set_cons_zero, List.set_cons_succ]
          refine' wpAnyLast_take (i := 1) (oi := _) (v := _) ?hi1b (by kernel_rfl) (by kernel_rfl) (by kernel_rfl) (by kernel_rfl) (by kernel_rfl) ?hQ1b (Or.inl ⟨?hw1b, ?hy1b⟩) (by assumption) ?rest1b
          case hi1b => exact (by simp only [List.getElem?_toArray, List.getElem?_cons_zero, List.getElem?_cons_succ]; rfl)
          case hQ1b => exact fun _ _ _ h => h
          case hw1b => rfl
          case hy1b =>
            intro w hSw
            try dsimp only at hSw
            obtain ⟨hS0b, hS1b, hS2b⟩ := hSw
            go_simp
            all_goals with_reducible rfl
          try simp only [Act.put, List.setIfInBounds_toArray, List.set_cons_zero, List.set_cons_succ]
          refine' wpAnyLast_take (i := 2) (oi := _) (v := _) ?hi2b (by kernel_rfl) (by kernel_rfl) (by kernel_rfl) (by kernel_rfl) (by kernel_rfl) ?hQ2b (Or.inl ⟨?hw2b, ?hy2b⟩) (by assumption) ?rest2b
          case hi2b => exact (by simp only [List.getElem?_toArray, List.getElem?_cons_zero, List.getElem?_cons_succ]; rfl)
          case hQ2b => exact fun _ _ _ h => h
          case hw2b => rfl
          case hy2b =>
            intro w hSw
            try dsimp only at hSw
            obtain ⟨hS0b, hS1b, hS2b⟩ := hSw
            go_simp
            all_goals with_reducible rfl
          try simp only [Act.put, List.setIfInBounds_toArray, List.set_cons_zero, List.set_cons_succ]
          refine' wpAnyLast_take (i := 3) (oi := _) (v := _) ?hi3b (by kernel_rfl) (by kernel_rfl) (by kernel_rfl) (by kernel_rfl) (by kernel_rfl) ?hQ3b (Or.inl ⟨?hw3b, ?hy3b⟩) (by assumption) ?rest3b
          case hi3b => exact (by simp only [List.getElem?_toArray, List.getElem?_cons_zero, List.getElem?_cons_succ]; rfl)
          case hQ3b => exact fun _ _ _ h => h
          case hw3b => rfl
          case hy3b =>
            intro w hSw
            try dsimp only at hSw
            obtain ⟨hS0b, hS1b, hS2b⟩ := hSw
            go_simp
            all_goals with_reducible rfl
          try simp only [Act.put, List.setIfInBounds_toArray, List.set_cons_zero, List.set_cons_succ]
          refine' wpAnyLast_take (i := 4) (oi := _) (v := _) ?hi4b (by kernel_rfl) (by kernel_rfl) (by kernel_rfl) (by kernel_rfl) (by kernel_rfl) ?hQ4b (Or.inl ⟨?hw4b, ?hy4b⟩) (by assumption) ?rest4b
          case hi4b => exact (by simp only [List.getElem?_toArray, List.getElem?_cons_zero, List.getElem?_cons_succ]; rfl)
          case hQ4b => exact fun _ _ _ h => h
          case hw4b => rfl
          case hy4b =>
            intro w hSw
            try dsimp only at hSw
            obtain ⟨hS0b, hS1b, hS2b⟩ := hSw
            go_simp
            all_goals with_reducible rfl
          try simp only [Act.put, List.setIfInBounds_toArray, List.set_cons_zero, List.set_cons_succ]
          refine' wpAnyLast_take (i := 5) (oi := _) (v := _) ?hi5b (by kernel_rfl) (by kernel_rfl) (by kernel_rfl) (by kernel_rfl) (by kernel_rfl) ?hQ5b (Or.inl ⟨?hw5b, ?hy5b⟩) (by assumption) ?rest5b
          case hi5b => exact (by simp only [List.getElem?_toArray, List.getElem?_cons_zero, List.getElem?_cons_succ]; rfl)
          case hQ5b => exact fun _ _ _ h => h
          case hw5b => rfl
          case hy5b =>
            intro w hSw
            try dsimp only at hSw
            obtain ⟨hS0b, hS1b, hS2b⟩ := hSw
            go_simp
            all_goals with_reducible rfl
          try simp only [Act.put, List.setIfInBounds_toArray, List.set_cons_zero, List.set_cons_succ]
          refine' wpAnyLast_take (i := 6) (oi := _) (v := _) ?hi6b (by kernel_rfl) (by kernel_rfl) (by kernel_rfl) (by kernel_rfl) (by kernel_rfl) ?hQ6b (Or.inl ⟨?hw6b, ?hy6b⟩) (by assumption) ?rest6b
          case hi6b => exact (by simp only [List.getElem?_toArray, List.getElem?_cons_zero, List.getElem?_cons_succ]; rfl)
          case hQ6b => exact fun _ _ _ h => h
          case hw6b => rfl
          case hy6b =>
            intro w hSw
            try dsimp only at hSw
            obtain ⟨hS0b, hS1b, hS2b⟩ := hSw
            go_simp
            all_goals with_reducible rfl
          try simp only [Act.put, List.setIfInBounds_toArray, List.set_cons_zero, List.set_cons_succ]
          refine' wpAnyLast_take (i := 7) (oi := _) (v := _) ?hi7b (by kernel_rfl) (by kernel_rfl) (by kernel_rfl) (by kernel_rfl) (by kernel_rfl) ?hQ7b (Or.inl ⟨?hw7b, ?hy7b⟩) (by assumption) ?rest7b
          case hi7b => exact (by simp only [List.getElem?_toArray, List.getElem?_cons_zero, List.getElem?_cons_succ]; rfl)
          case hQ7b => exact fun _ _ _ h => h
          case hw7b => rfl
          case hy7b =>
            intro w hSw
            try dsimp only at hSw
            obtain ⟨hS0b, hS1b, hS2b⟩ := hSw
            go_simp
            all_goals with_reducible rfl
          try simp only [Act.put, List.setIfInBounds_toArray, List.set_cons_zero, List.set_cons_succ]
          refine' wpAnyLast_take (i := 8) (oi := _) (v := _) ?hi8b (by kernel_rfl) (by kernel_rfl) (by kernel_rfl) (by kernel_rfl) (by kernel_rfl) ?hQ8b (Or.inl ⟨?hw8b, ?hy8b⟩) (by assumption) ?rest8b
          case hi8b => exact (by simp only [List.getElem?_toArray, List.getElem?_cons_zero, List.getElem?_cons_succ]; rfl)
          case hQ8b => exact fun _ _ _ h => h
          case hw8b => rfl
          case hy8b =>
            intro w hSw
            try dsimp only at hSw
            obtain ⟨hS0b, hS1b, hS2b⟩ := hSw
            go_simp
            all_goals with_reducible rfl
          try simp only [Act.put, List.setIfInBounds_toArray, List.set_cons_zero, List.set_cons_succ]
          refine' wpAnyLast_take (i := 9) (oi := _) (v := _) ?hi9b (by kernel_rfl) (by kernel_rfl) (by kernel_rfl) (by kernel_rfl) (by kernel_rfl) ?hQ9b (Or.inl ⟨?hw9b, ?hy9b⟩) (by assumption) ?rest9b
          case hi9b => exact (by simp only [List.getElem?_toArray, List.getElem?_cons_zero, List.getElem?_cons_succ]; rfl)
          case hQ9b => exact fun _ _ _ h => h
          case hw9b => rfl
          case hy9b =>
            intro w hSw
            try dsimp only at hSw
            obtain ⟨hS0b, hS1b, hS2b⟩ := hSw
            go_simp
            all_goals with_reducible rfl
          try simp only [Act.put, List.setIfInBounds_toArray, List.set_cons_zero, List.set_cons_succ]
          refine' wpAnyLast_take (i := 10) (oi := _) (v := _) ?hi10b (by kernel_rfl) (by kernel_rfl) (by kernel_rfl) (by kernel_rfl) (by kernel_rfl) ?hQ10b (Or.inl ⟨?hw10b, ?hy10b⟩) (by assumption) ?rest10b
          case hi10b => exact (by simp only [List.getElem?_toArray, List.getElem?_cons_zero, List.getElem?_cons_succ]; rfl)
          case hQ10b => exact fun _ _ _ h => h
          case hw10b => rfl
          case hy10b =>
            intro w hSw
            try dsimp only at hSw
            obtain ⟨hS0b, hS1b, hS2b⟩ := hSw
            go_simp
            all_goals with_reducible rfl
          try simp only [Act.put, List.setIfInBounds_toArray, List.set_cons_zero, List.set_cons_succ]
          refine' wpAnyLast_take (i := 11) (oi := _) (v := _) ?hi11b (by kernel_rfl) (by kernel_rfl) (by kernel_rfl) (by kernel_rfl) (by kernel_rfl) ?hQ11b (Or.inl ⟨?hw11b, ?hy11b⟩) (by assumption) ?rest11b
          case hi11b => exact (by simp only [List.getElem?_toArray, List.getElem?_cons_zero, List.getElem?_cons_succ]; rfl)
          case hQ11b => exact fun _ _ _ h => h
          case hw11b => rfl
          case hy11b =>
            intro w hSw
            try dsimp only at hSw
            obtain ⟨hS0b, hS1b, hS2b⟩ := hSw
            go_simp
            all_goals with_reducible rfl
          try simp only [Act.put, List.setIfInBounds_toArray, List.set_cons_zero, List.set_cons_succ]
          refine' wpAnyLast_take (i := 12) (oi := _) (v := _) ?hi12b (by kernel_rfl) (by kernel_rfl) (by kernel_rfl) (by kernel_rfl) (by kernel_rfl) ?hQ12b (Or.inl ⟨?hw12b, ?hy12b⟩) (by assumption) ?rest12b
          case hi12b => exact (by simp only [List.getElem?_toArray, List.getElem?_cons_zero, List.getElem?_cons_succ]; rfl)
          case hQ12b => exact fun _ _ _ h => h
          case hw12b => rfl
          case hy12b =>
            intro w hSw
            try dsimp only at hSw
            obtain ⟨hS0b, hS1b, hS2b⟩ := hSw
            go_simp
            all_goals with_reducible rfl
          try simp only [Act.put, List.setIfInBounds_toArray, List.set_cons_zero, List.set_cons_succ]
          refine' wpAnyLast_take (i := 13) (oi := _) (v := _) ?hi13b (by kernel_rfl) (by kernel_rfl) (by kernel_rfl) (by kernel_rfl) (by kernel_rfl) ?hQ13b (Or.inl ⟨?hw13b, ?hy13b⟩) (by assumption) ?rest13b
          case hi13b => exact (by simp only [List.getElem?_toArray, List.getElem?_cons_zero, List.getElem?_cons_succ]; rfl)
          case hQ13b => exact fun _ _ _ h => h
          case hw13b => rfl
          case hy13b =>
            intro w hSw
            try dsimp only at hSw
            obtain ⟨hS0b, hS1b, hS2b⟩ := hSw
            go_simp
            all_goals with_reducible rfl
          try simp only [Act.put, List.setIfInBounds_toArray, List.set_cons_zero, List.set_cons_succ]
          refine' wpAnyLast_take (i := 14) (oi := _) (v := _) ?hi14b (by kernel_rfl) (by kernel_rfl) (by kernel_rfl) (by kernel_rfl) (by kernel_rfl) ?hQ14b (Or.inl ⟨?hw14b, ?hy14b⟩) (by assumption) ?rest14b
          case hi14b => exact (by simp only [List.getElem?_toArray, List.getElem?_cons_zero, List.getElem?_cons_succ]; rfl)
          case hQ14b => exact fun _ _ _ h => h
          case hw14b => rfl
          case hy14b =>
            intro w hSw
            try dsimp only at hSw
            obtain ⟨hS0b, hS1b, hS2b⟩ := hSw
            go_simp
            all_goals with_reducible rfl
          try simp only [Act.put, List.setIfInBounds_toArray, List.set_cons_zero, List.set_cons_succ]
          refine wpAnyLast_ready (rs := [15]) (by kernel_rfl) (by simp) ?_
          refine AllReadyL.cons_last (by simp only [List.getElem?_toArray, List.getElem?_cons_zero, List.getElem?_cons_succ]; rfl) (by simp) (fun K hK => ?_) AllReadyL.nil
          refine goesF_ (N := some 155) (.pointer (some ⟨g, 0, none⟩)) (.agg (msg 1 0 e5.asked e5.seq e5.self 0 (.slice none 0 0))) Tryz.func44 (by kernel_rfl) rfl (by rfl) rfl rfl (by rfl) (by rfl) ?_
          refine (sends w5.drew S5 g e5 1 0 e5.asked e5.seq e5.self 0 (.slice none 0 0) (Hid.mk_ HT6.out.det)).mono ?_
          rintro e w6 ⟨P6, np6, cp6, rfl, o6, t6⟩
          refine ⟨_, rfl, ?_⟩
          refine hK.out _ _ ?_
          clear hK K
          try simp only [Act.put, List.setIfInBounds_toArray, List.set_cons_zero, List.set_cons_succ]
          refine wpAnyLast_ready (rs := [16]) (by kernel_rfl) (by simp) ?_
          refine AllReadyL.cons_last (by simp only [List.getElem?_toArray, List.getElem?_cons_zero, List.getElem?_cons_succ]; rfl) (by simp) (fun K hK => ?_) AllReadyL.nil
          refine value_ (N := some 156) (by rfl) rfl (runs_msgs (x := .tmp 155) (cs := rowM (pOm e5) ⟨P6, np6, cp6⟩) rfl (by rfl) rfl) ?_
          refine hK.out _ _ ?_
          clear hK K
          try simp only [Act.put, List.setIfInBounds_toArray, List.set_cons_zero, List.set_cons_succ]
          obtain ⟨v7, w7, hr7, tu7⟩ := HT6.out.send (w1 := w6) (pOm e5) ⟨P6, np6, cp6⟩ _ t6.out o6.out rfl rfl LX.out _
          refine wpAnyLast_ready (rs := [17]) (by kernel_rfl) (by simp) ?_
          refine AllReadyL.cons_last (by simp only [List.getElem?_toArray, List.getElem?_cons_zero, List.getElem?_cons_succ]; rfl) (by simp) (fun K hK => ?_) AllReadyL.nil
          refine value_ (N := some 157) (by rfl) rfl (runs_app (by rfl) (by rfl) (by rfl) hr7) ?_
          refine hK.out _ _ ?_
          clear hK K
          try simp only [Act.put, List.setIfInBounds_toArray, List.set_cons_zero, List.set_cons_succ]
          refine' any_take (i := 18) (oi := _) (v := _) ?hi18bz (by kernel_rfl) (by kernel_rfl) (by kernel_rfl) ?hQ18bz (Or.inl ⟨?hw18bz, ?hy18bz⟩) ?rest18bz
          case hi18bz => exact (by simp only [List.getElem?_toArray, List.getElem?_cons_zero, List.getElem?_cons_succ]; rfl)
          case hQ18bz => exact fun _ _ _ h => h
          case hw18bz => rfl
          case hy18bz =>
            intro w
            go_simp
            all_goals with_reducible rfl
          try simp only [Act.put, List.setIfInBounds_toArray, List.set_cons_zero, List.set_cons_succ]
          refine wpAnyLast_done (by kernel_rfl) ?_ _
          obtain ⟨S7, T7⟩ := tu7.out
          have HT7 := Hid.mk_ T7
          clear c0 c7 c8 HT5 HT6 T7 hr7 o6 t6
          obtain ⟨e6, he6⟩ : ∃ e6, e6 = dSent e5 := ⟨_, rfl⟩
          rw [← he6] at HT7 HXB
          have HXC : Hid (x = ({ e6 with M := Wat.setLq 2 (e6.now + 4) (Wat.setLq 1 (e6.now + 2) e6.M) }, y.2 ++ [pOm e5])) := HXB
          clear he6 HXB
          obtain ⟨M1, hM1⟩ : ∃ M1, M1 = Wat.setLq 1 (e6.now + 2) e6.M := ⟨_, rfl⟩
          have HM1 := Hid.mk_ hM1
          rw [← hM1] at HXC
          obtain ⟨M2, hM2⟩ : ∃ M2, M2 = Wat.setLq 2 (e6.now + 4) M1 := ⟨_, rfl⟩
          have HM2 := Hid.mk_ hM2
          rw [← hM2] at HXC
          clear hM1 hM2
          obtain ⟨gv7, gq7, go7, gc7, A7, B7, n7, cc7, C7, X7⟩ := HT7.out.det
          have nw := X7.ok.now
          have hw2 : IntKind.i64.wrap (e6.now + 2) = e6.now + 2 := IntWalk.i64_in _ (by have : 0 ≤ e6.now ∧ e6.now ≤ 1000000 := nw; omega)
          have hw4 : IntKind.i64.wrap (e6.now + 4) = e6.now + 4 := IntWalk.i64_in _ (by have : 0 ≤ e6.now ∧ e6.now ≤ 1000000 := nw; omega)
          clear nw
          have c5 : w7.cell? ⟨g, 5, none⟩ = some (.pointer (some ⟨gc7, 0, none⟩)) := X7.dcs.cell 5
          have c6 : w7.cell? ⟨g, 6, none⟩ = some (.int .i64 e6.now) := X7.dcs.cell 6
          have CK : Hid (Wat.Clk w7 gc7 C7 e6.M) := Hid.mk_ X7.ck
          have XH7 := Hid.mk_ X7
          clear X7
          go_upto_region 36 with fail
          go_region_held3 (fun w' => w'.cell? ⟨g, 5, none⟩ = some (.pointer (some ⟨gc7, 0, none⟩)) ∧ w'.cell? ⟨g, 6, none⟩ = some (.int .i64 e6.now)) (first | exact ⟨by assumption, by assumption⟩ | go_keep) (first
            | (go_at_call 52; refine (Wat.set0 w7.drew gc7 C7 e6.M 1 (e6.now + 2) (by exact Hid.mk_ (CK.out.below (Below.refl _ _).drew)) _ (Hid.mk_ rfl) M1 HM1).mono ?_; rintro e w8 ⟨rfl, t8⟩; have r8 := turnWrC t8.out; have s2 := r8.cell (by exact c5) XH7.out.ne.2.2.1; have s3 := r8.cell (by exact c6) XH7.out.ne.2.2.1)
            | fail)
          have dr : Below w7.heap.size w7 w7.drew := (Below.refl _ _).drew
          obtain ⟨C8, S8, x8, hS8, rS8⟩ := (XH7.out.below dr).turnC t8.out
          obtain ⟨S8', T8⟩ := HT7.out.turn (w1 := w8) (d' := { e6 with M := M1 }) ⟨S8, ⟨_, _, _, _, _, _, _, _, _, x8⟩, fun i hi => (hS8 i hi).elim .inl (fun h => .inr (Nat.le_trans dr.size h)), (Rum.Wr.of_below dr S7).then_ rS8 (fun i hi => .inl hi)⟩
          have HT8 := Hid.mk_ T8
          clear c5 c6 s2 s3 r8 XH7 CK x8 hS8 rS8 t8 dr T8 HT7
          obtain ⟨gv8, gq8, go8, gc8, A8, B8x, n8x, cc8, C8x, X8⟩ := HT8.out.det
          have c5 : w8.cell? ⟨g, 5, none⟩ = some (.pointer (some ⟨gc8, 0, none⟩)) := X8.dcs.cell 5
          have c6 : w8.cell? ⟨g, 6, none⟩ = some (.int .i64 e6.now) := X8.dcs.cell 6
          have CK : Hid (Wat.Clk w8 gc8 C8x M1) := Hid.mk_ X8.ck
          have XH8 := Hid.mk_ X8
          clear X8
          go_upto_region 37 with fail
          go_region_held3 (fun w' => w'.cell? ⟨g, 5, none⟩ = some (.pointer (some ⟨gc8, 0, none⟩)) ∧ w'.cell? ⟨g, 6, none⟩ = some (.int .i64 e6.now)) (first | exact ⟨by assumption, by assumption⟩ | go_keep) (first
            | (go_at_call 52; refine (Wat.set0 w8.drew gc8 C8x M1 2 (e6.now + 4) (by exact Hid.mk_ (CK.out.below (Below.refl _ _).drew)) _ (Hid.mk_ rfl) M2 HM2).mono ?_; rintro e w9 ⟨rfl, t9⟩; have r9 := turnWrC t9.out; have s2 := r9.cell (by exact c5) XH8.out.ne.2.2.1; have s3 := r9.cell (by exact c6) XH8.out.ne.2.2.1)
            | fail)
          have dr : Below w8.heap.size w8 w8.drew := (Below.refl _ _).drew
          obtain ⟨C9, S9, x9, hS9, rS9⟩ := (XH8.out.below dr).turnC t9.out
          have T9 := Hid.mk_ (HT8.out.turn (w1 := w9) (d' := { e6 with M := M2 }) ⟨S9, ⟨_, _, _, _, _, _, _, _, _, x9⟩, fun i hi => (hS9 i hi).elim .inl (fun h => .inr (Nat.le_trans dr.size h)), (Rum.Wr.of_below dr S8').then_ rS9 (fun i hi => .inl hi)⟩)
          clear c5 c6 s2 s3 r9 XH8 CK x9 hS9 rS9 t9 dr HT8
          go_wp2_with fail
          go_ret
          obtain ⟨T, h1, h2⟩ := TI.done T9.out R2.out
          rw [HXC.out]
          exact ⟨_, T, rfl, h1, h2⟩
      · have hab : (y.1.asked != -1) = true := by simp [ha]
        have E : x = y := by rw [HX2.out]; unfold tickA; rw [if_pos ha]
        have HE := Hid.mk_ E
        clear ha E HX2
        go_wp2_with fail
        go_ret
        obtain ⟨T, h1, h2⟩ := TI.done ⟨S0, HT0.out⟩ R2.out
        rw [HE.out]
        exact ⟨_, T, rfl, h1, h2⟩
end Go.Proofs.YthndjhocmpelcaaGreat.Swi
