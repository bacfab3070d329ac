/- The document's claims and messages that are the same. Conditions: as each theorem says. -/
import Derived.Test.YthndjhocmpelcaaGreatRvw
import Derived.Test.YthndjhocmpelcaaGreatSwF
import Derived.Test.YthndjhocmpelcaaGreatGl
namespace Go.Proofs.YthndjhocmpelcaaGreat.Rvw
open Go.RowKit Kit
open Go.Proofs.YthndjhocmpelcaaGreat.Bel (listC cntC clC cnt_le list_yes list_no cnt_yes cnt_no)
set_option linter.unusedVariables false
/-- Who is not unknown. -/
@[reducible] def sel (p q : Nat → Int) : Nat → Bool := fun k => !(decide (p k = 0 ∧ q k = 0))
theorem cells8 {w : World} {g : Nat} {p q : Nat → Int} (h : Vw w g p q) (k : Nat) (hk : k < 8) : w.cell? ⟨g, k * 3, none⟩ = some (.int .i64 (k : Int)) ∧ w.cell? ⟨g, k * 3 + 1, none⟩ = some (.int .i64 (p k)) ∧ w.cell? ⟨g, k * 3 + 2, none⟩ = some (.int .i64 (q k)) := by
  have e8 : k = 0 ∨ k = 1 ∨ k = 2 ∨ k = 3 ∨ k = 4 ∨ k = 5 ∨ k = 6 ∨ k = 7 := by omega
  rcases e8 with rfl | rfl | rfl | rfl | rfl | rfl | rfl | rfl
  all_goals exact ⟨h.cell _, h.cell _, h.cell _⟩
set_option maxRecDepth 100000 in
set_option maxHeartbeats 4000000 in
theorem all0 (p q : Nat → Int) (g : Nat) (w : World) (hv : Hid (Vw w g p q)) : Calls Tryz.prog 22 #[.pointer (some ⟨g, 0, none⟩)] w (Bel.Listed w (sel p q) p q) := by
  obtain ⟨i0, hi0, hz0, hz1, hz2⟩ := Rowz.info_parts Rum.info53
  have HI := Hid.mk_ hi0
  have HZ0 := Hid.mk_ hz0
  have HZ1 := Hid.mk_ hz1
  have HZ2 := Hid.mk_ hz2
  clear hi0 hz0 hz1 hz2
  go_enter Tryz.func22, Tryz.ntmps22
  go_wp2_with fail
  go_loopw [3, 8] (fun v i wr => ∃ k : Nat, k ≤ 8 ∧ i = .int .i64 (k : Int) ∧ Hid (wr.ownsRow w.heap.size 30 3 v (cntC (sel p q) k) (listC (sel p q) p q k)) ∧ Hid (Below w.heap.size w wr)) (fun _ i _ => 8 - (intOf i).toNat)
  case atStart => exact ⟨0, by omega, rfl, Hid.mk_ (World.ownsRow_nil _ _ _ _), Hid.mk_ (Below.refl _ _)⟩
  case round =>
    obtain ⟨k, hk, rfl, OW, BW⟩ := hrel
    obtain ⟨B, cB, rfl, _, _⟩ := Rowz.form OW.out
    by_cases hlt : k < 8
    · have hvk := hv.out.below BW.out hv.out.lt
      obtain ⟨z0, z1, z2⟩ := cells8 hvk k hlt
      have l1 : (k : Int) < 8 := by omega
      have l0 : (0 : Int) ≤ (k : Int) := by omega
      clear hvk
      go_upto_region 5 with fail
      have BX := Hid.mk_ (Rum.Box3.made wr (k : Int) (p k) (q k))
      have ax := (Below.refl wr.heap.size wr).alloc (Nat.le_refl _) (.cells #[.int .i64 (k : Int), .int .i64 (p k), .int .i64 (q k)] 30)
      have BW2 := Hid.mk_ (BW.out.trans (ax.mono BW.out.size))
      have OW2 := Hid.mk_ (Rowz.below OW.out ax)
      clear ax z0 z1 z2 OW BW
      generalize wr.alloc (.cells #[.int .i64 (k : Int), .int .i64 (p k), .int .i64 (q k)] 30) = wx at *
      generalize wr.heap.size = z at *
      obtain ⟨x0, x1, x2, _, _, _⟩ := BX.out
      cases hs : sel p q k with
      | false =>
        have HN : Hid (true = decide (p k = 0 ∧ q k = 0)) := Hid.mk_ (by unfold sel at hs; simpa using hs)
        have E1 := Hid.mk_ (list_no (s := sel p q) p q hs)
        have E2 := Hid.mk_ (cnt_no (s := sel p q) hs)
        clear hs
        go_wp2_with (go_at_call 38; refine (Rth.nothing1 _ _ _ _ true HN).mono ?_; rintro e w3 ⟨rfl, b3⟩)
        go_roundw
        case rel => exact ⟨k + 1, by omega, by go_num, Hid.mk_ (by rw [E1.out, E2.out]; exact Rowz.below OW2.out b3), Hid.mk_ (BW2.out.trans (b3.mono BW2.out.size))⟩
        case measure => simp [intOf]; omega
      | true =>
        have HN : Hid (false = decide (p k = 0 ∧ q k = 0)) := Hid.mk_ (by unfold sel at hs; cases hx : decide (p k = 0 ∧ q k = 0) with
          | false => rfl
          | true => rw [hx] at hs; cases hs)
        have E1 := Hid.mk_ (list_yes (s := sel p q) p q hs)
        have E2 := Hid.mk_ (cnt_yes (s := sel p q) hs)
        have hcl := cnt_le (sel p q) k
        clear hs
        have i0h := HI.out
        have z0h := HZ0.out
        have z1h := HZ1.out
        have z2h := HZ2.out
        go_wp2_with (first
          | (go_at_call 38; refine (Rth.nothing1 _ _ _ _ false HN).mono ?_; rintro e w3 ⟨rfl, b3⟩; have y0 := Swi.box3k BX.out b3; have u0 := y0.c0; have u1 := y0.c1; have u2 := y0.c2)
          | (at_builtin; refine Rowz.wpList_app1 _ rfl _ _ 44 30 rfl i0 (.agg #[.int .i64 0, .int .i64 0, .int .i64 0]) 3 24 Tryz.underlying44 i0h z0h z1h z2h rfl (by decide) w.heap.size (.slice B (cntC (sel p q) k) cB) (cntC (sel p q) k) (listC (sel p q) p q k) rfl (Rowz.below (Rowz.below OW2.out b3) ((Below.refl _ _).alloc (Nat.le_refl _) _)) _ _ (Rum.cellsC [⟨(k : Int), p k, q k⟩]) rfl rfl (Rum.claimAt _ (Rum.Tld.mk (k : Int) (p k) (q k) 0)) (Rum.cellsC_one _) (by omega) (by decide) (by have := BW2.out.size; have := b3.size; simp; omega) ?_; intro v7 w7 g7; obtain ⟨P1, k1, rfl, _, _⟩ := Rowz.form g7.out.own))
        go_roundw
        case rel =>
          have B3 := BW2.out.trans (b3.mono BW2.out.size)
          have B4 := B3.alloc B3.size (.cells #[.int .i64 (k : Int), .int .i64 (p k), .int .i64 (q k)] 30)
          have o4 := Rowz.below (Rowz.below OW2.out b3) ((Below.refl _ _).alloc (Nat.le_refl _) (.cells #[.int .i64 (k : Int), .int .i64 (p k), .int .i64 (q k)] 30))
          exact ⟨k + 1, by omega, by go_num, Hid.mk_ (by rw [E1.out, E2.out]; exact g7.out.own), Hid.mk_ (B4.trans (g7.out.below o4 B4.size))⟩
        case measure => simp [intOf]; omega
    · obtain rfl : k = 8 := by omega
      go_wp2_with fail
      go_ret
      exact ⟨_, rfl, OW.out, BW.out⟩
end Go.Proofs.YthndjhocmpelcaaGreat.Rvw
namespace Go.Proofs.YthndjhocmpelcaaGreat.Swi
open Go.RowKit Kit Hth Tri3
set_option linter.unusedVariables false
set_option maxRecDepth 100000 in
set_option maxHeartbeats 4000000 in
theorem sameClaims (w : World) (A B : Option Addr) (n c d : Nat) (ls : List Cl) (hA : Hid (ClAt w A ls)) (hB : Hid (ClAt w B ls)) (hn : Hid (n = ls.length)) (hc : n ≤ 9223372036854775807) :
    Calls Tryz.prog 20 #[.slice A n c, .slice B n d] w fun e w' => e = .returned (.bool true) ∧ Below w.heap.size w w' := by
  go_enter Tryz.func20, Tryz.ntmps20
  go_wp2_with fail
  go_loopw [13] (fun i wr => ∃ k : Nat, i = .int .i64 (k : Int) ∧ k ≤ n ∧ Hid (Below w.heap.size w wr)) (fun i _ => n - (intOf i).toNat)
  case atStart => exact ⟨0, rfl, by omega, Hid.mk_ (Below.refl _ _)⟩
  case round =>
    obtain ⟨k, rfl, hk, BW⟩ := hrel
    by_cases hlt : k < n
    · obtain ⟨x, hx⟩ : ∃ x, ls[k]? = some x := ⟨_, List.getElem?_eq_getElem (by have := hn.out; omega)⟩
      obtain ⟨ba, oa, rfl, la, a0, a1, a2⟩ := (hA.out.keep BW.out) k x hx
      obtain ⟨bb, ob, rfl, lb, b0, b1, b2⟩ := (hB.out.keep BW.out) k x hx
      clear hx
      have l1 : (k : Int) < (n : Int) := by omega
      have l0 : (0 : Int) ≤ (k : Int) := by omega
      have ne := neq48_self x.n x.i x.h
      go_upto_region 6 with fail
      refine wp_draws _ (Below.refl _ _) (by kernel_rfl) (by kernel_rfl) (fun hne hN => ?_)
      repeat (go_big_quiet_step (fail))
      refine wpQuiet_nil (after_cells ?_)
      intro w2 bw2 hc2
      clear hne hN hc2 a0 a1 a2 b0 b1 b2 la lb
      go_wp2_with fail
      go_roundw
      case rel => exact ⟨k + 1, by go_num, by omega, Hid.mk_ (BW.out.trans (bw2.mono BW.out.size))⟩
      case measure => simp [intOf]; omega
    · obtain rfl : k = n := by omega
      go_wp2_with fail
      go_ret
      exact ⟨rfl, BW.out⟩
end Go.Proofs.YthndjhocmpelcaaGreat.Swi
namespace Go.Proofs.YthndjhocmpelcaaGreat.Swi
open Go.RowKit Kit Hth Tri3
set_option linter.unusedVariables false
/-- Messages lie from A on. -/
def MsAt (w : World) (A : Option Addr) (ms : List Om) : Prop := ∀ (i : Nat) (m : Om), ms[i]? = some m → ∃ b P np cp, A = some ⟨b, 0, none⟩ ∧ b < w.heap.size ∧ w.rangeAt b (i * 62) (msg m.k m.f m.t m.s m.fo m.ab (.slice P np cp)).toList ∧ ClAt w P m.cs ∧ np = m.cs.length ∧ np ≤ 9223372036854775807
theorem Outs.msAt {w : World} {base : Nat} {A : Option Addr} {n c : Nat} {ms : List Om} {T : Nat → Prop} (h : Outs w base (.slice A n c) ms T) : MsAt w A ms := fun i m hm => by
  obtain ⟨b, P, np, cp, e, _, hb, M, C, _, R⟩ := h.mat i m hm
  exact ⟨b, P, np, cp, e, hb, R, C, M.len, by have := M.cap; have := M.max; omega⟩
theorem MsAt.keep {w w' : World} {A : Option Addr} {ms : List Om} (h : MsAt w A ms) (hb : Below w.heap.size w w') : MsAt w' A ms := fun i m hm => by
  obtain ⟨b, P, np, cp, e, h1, h2, h3, h4, h5⟩ := h i m hm
  refine ⟨b, P, np, cp, e, Nat.lt_of_lt_of_le h1 hb.size, fun j v hv => ?_, h3.keep hb, h4, h5⟩
  rw [← h2 j v hv]
  simp [World.cell?, hb.block b h1]
theorem msg_box (wr : World) (cs : Array Value) (hc : cs.size = 62) : ((wr.alloc (.cells zmsg 46)).setRow wr.heap.size cs).heap[wr.heap.size]? = some (.cells cs 46 (0, 0)) ∧ Below wr.heap.size wr ((wr.alloc (.cells zmsg 46)).setRow wr.heap.size cs) := by
  have b1 := (Below.refl wr.heap.size wr).alloc (Nat.le_refl _) (.cells zmsg 46)
  exact ⟨setRow_heap _ _ _ _ 46 (0, 0) (heap_alloc_new wr (.cells zmsg 46)), b1.trans ((wr_row _ _ _).below b1.size (fun i hi => by omega))⟩
set_option maxRecDepth 100000 in
set_option maxHeartbeats 8000000 in
theorem sameMsgs (w : World) (A B : Option Addr) (n c d : Nat) (ms : List Om) (hA : Hid (MsAt w A ms)) (hB : Hid (MsAt w B ms)) (hn : Hid (n = ms.length)) (hc : n ≤ 9223372036854775807) :
    Calls Tryz.prog 12 #[.slice A n c, .slice B n d] w fun e w' => e = .returned (.int .i64 0) ∧ Below w.heap.size w w' := by
  go_enter Tryz.func12, Tryz.ntmps12
  go_wp2_with fail
  go_loopw [15] (fun i wr => ∃ k : Nat, i = .int .i64 (k : Int) ∧ k ≤ n ∧ Hid (Below w.heap.size w wr)) (fun i _ => n - (intOf i).toNat)
  case atStart => exact ⟨0, rfl, by omega, Hid.mk_ (Below.refl _ _)⟩
  case round =>
    obtain ⟨k, rfl, hk, BW⟩ := hrel
    by_cases hlt : k < n
    · obtain ⟨m, hm⟩ : ∃ m, ms[k]? = some m := ⟨_, List.getElem?_eq_getElem (by have := hn.out; omega)⟩
      obtain ⟨ba, Pa, na, ca, rfl, la, ra, cla, ea, maxa⟩ := (hA.out.keep BW.out) k m hm
      obtain ⟨bb, Pb, nb, cb, rfl, lb, rb, clb, eb, maxb⟩ := (hB.out.keep BW.out) k m hm
      have enb : nb = na := by omega
      subst enb
      have EN := Hid.mk_ eb
      have CLA := Hid.mk_ cla
      have CLB := Hid.mk_ clb
      clear hm la lb ea eb cla clb maxb
      have l1 : (k : Int) < (n : Int) := by omega
      have l0 : (0 : Int) ≤ (k : Int) := by omega
      obtain ⟨mm1, hm1⟩ : ∃ mm1, mm1 = msg m.k m.f m.t m.s m.fo m.ab (.slice Pa nb ca) := ⟨_, rfl⟩
      obtain ⟨mm2, hm2⟩ : ∃ mm2, mm2 = msg m.k m.f m.t m.s m.fo m.ab (.slice Pb nb cb) := ⟨_, rfl⟩
      rw [← hm1] at ra
      rw [← hm2] at rb
      have HRA := Hid.mk_ ra
      have HRB := Hid.mk_ rb
      have HM1 := Hid.mk_ hm1
      have HM2 := Hid.mk_ hm2
      have SL1 : Hid ((Tryz.prog.info? 46).map (·.size) = some mm1.toList.length) := Hid.mk_ (by rw [hm1]; exact size42)
      have SL2 : Hid ((Tryz.prog.info? 46).map (·.size) = some mm2.toList.length) := Hid.mk_ (by rw [hm2]; exact size42)
      have SS1 : Hid ((Tryz.prog.info? 46).map (·.size) = some mm1.size) := Hid.mk_ (by rw [hm1]; exact size42)
      have SS2 : Hid ((Tryz.prog.info? 46).map (·.size) = some mm2.size) := Hid.mk_ (by rw [hm2]; exact size42)
      have SZ1 : Hid (zmsg.size = mm1.size) := Hid.mk_ (by rw [hm1]; rfl)
      have SZ2 : Hid (zmsg.size = mm2.size) := Hid.mk_ (by rw [hm2]; rfl)
      have O1 : Hid (mm1.all (·.oneCell') = true) := Hid.mk_ (by rw [hm1]; exact msg_one rfl)
      have O2 : Hid (mm2.all (·.oneCell') = true) := Hid.mk_ (by rw [hm2]; exact msg_one rfl)
      have CB := Hid.mk_ (msg_box wr mm1 (by rw [hm1]; rfl))
      have ZZ := Hid.mk_ (heap_alloc_new wr (.cells zmsg 46))
      have t1 : mm1.toList.toArray = mm1 := Array.toArray_toList
      have t2 : mm2.toList.toArray = mm2 := Array.toArray_toList
      clear hm1 hm2 ra rb
      go_upto_region 6 with (first
        | (refine wpList_load_mid rfl 46 _ rfl ba (k * 62) rfl _ _ HRA.out Tryz.underlying46 rfl SL1.out ?_; rw [t1])
        | (refine wpList_store_row rfl 46 _ _ rfl wr.heap.size mm1 rfl rfl 46 _ ZZ.out SS1.out SZ1.out O1.out ?_))
      have B2 := Hid.mk_ CB.out.2
      have M1 := Hid.mk_ CB.out.1
      have HRB2 : Hid (((wr.alloc (.cells zmsg 46)).setRow wr.heap.size mm1).rangeAt bb (k * 62) mm2.toList) := Hid.mk_ (fun j v hv => by
        have h0 := HRB.out j v hv
        rw [← h0]
        have hlt2 := World.block_lt_of_cell? wr _ h0
        simp [World.cell?, B2.out.block bb hlt2])
      clear ZZ CB HRA HRB SL1 SS1 SZ1 O1 t1
      generalize (wr.alloc (.cells zmsg 46)).setRow wr.heap.size mm1 = w2 at *
      obtain ⟨z1, hz1⟩ : ∃ z1, z1 = wr.heap.size := ⟨_, rfl⟩
      rw [← hz1] at M1 ⊢
      clear hz1
      have CB2 := Hid.mk_ (msg_box w2 mm2 (by rw [HM2.out]; rfl))
      have ZZ2 := Hid.mk_ (heap_alloc_new w2 (.cells zmsg 46))
      have M13 := Hid.mk_ (rowk M1.out CB2.out.2)
      have x0 : ((w2.alloc (.cells zmsg 46)).setRow w2.heap.size mm2).cell? ⟨z1, 0, none⟩ = some (.int .i64 m.k) := by rw [cell_of_row _ _ 0 _ 46 (0, 0) M13.out, HM1.out]; rfl
      have x1 : ((w2.alloc (.cells zmsg 46)).setRow w2.heap.size mm2).cell? ⟨z1, 1, none⟩ = some (.int .i64 m.f) := by rw [cell_of_row _ _ 1 _ 46 (0, 0) M13.out, HM1.out]; rfl
      have x2 : ((w2.alloc (.cells zmsg 46)).setRow w2.heap.size mm2).cell? ⟨z1, 2, none⟩ = some (.int .i64 m.t) := by rw [cell_of_row _ _ 2 _ 46 (0, 0) M13.out, HM1.out]; rfl
      have x3 : ((w2.alloc (.cells zmsg 46)).setRow w2.heap.size mm2).cell? ⟨z1, 3, none⟩ = some (.int .i64 m.s) := by rw [cell_of_row _ _ 3 _ 46 (0, 0) M13.out, HM1.out]; rfl
      have x4 : ((w2.alloc (.cells zmsg 46)).setRow w2.heap.size mm2).cell? ⟨z1, 4, none⟩ = some (.int .i64 m.fo) := by rw [cell_of_row _ _ 4 _ 46 (0, 0) M13.out, HM1.out]; rfl
      have x5 : ((w2.alloc (.cells zmsg 46)).setRow w2.heap.size mm2).cell? ⟨z1, 5, none⟩ = some (.int .i64 m.ab) := by rw [cell_of_row _ _ 5 _ 46 (0, 0) M13.out, HM1.out]; rfl
      have x6 : ((w2.alloc (.cells zmsg 46)).setRow w2.heap.size mm2).cell? ⟨z1, 6, none⟩ = some (.int .i64 0) := by rw [cell_of_row _ _ 6 _ 46 (0, 0) M13.out, HM1.out]; rfl
      have x7 : ((w2.alloc (.cells zmsg 46)).setRow w2.heap.size mm2).cell? ⟨z1, 7, none⟩ = some (.int .i64 0) := by rw [cell_of_row _ _ 7 _ 46 (0, 0) M13.out, HM1.out]; rfl
      have x8 : ((w2.alloc (.cells zmsg 46)).setRow w2.heap.size mm2).cell? ⟨z1, 8, none⟩ = some (.string ⟨#[]⟩) := by rw [cell_of_row _ _ 8 _ 46 (0, 0) M13.out, HM1.out]; rfl
      have x17 : ((w2.alloc (.cells zmsg 46)).setRow w2.heap.size mm2).cell? ⟨z1, 17, none⟩ = some (.slice none 0 0) := by rw [cell_of_row _ _ 17 _ 46 (0, 0) M13.out, HM1.out]; rfl
      have x61 : ((w2.alloc (.cells zmsg 46)).setRow w2.heap.size mm2).cell? ⟨z1, 61, none⟩ = some (.slice Pa nb ca) := by rw [cell_of_row _ _ 61 _ 46 (0, 0) M13.out, HM1.out]; rfl
      have v0 : ((w2.alloc (.cells zmsg 46)).setRow w2.heap.size mm2).cell? ⟨w2.heap.size, 0, none⟩ = some (.int .i64 m.k) := by rw [cell_of_row _ _ 0 _ 46 (0, 0) CB2.out.1, HM2.out]; rfl
      have v1 : ((w2.alloc (.cells zmsg 46)).setRow w2.heap.size mm2).cell? ⟨w2.heap.size, 1, none⟩ = some (.int .i64 m.f) := by rw [cell_of_row _ _ 1 _ 46 (0, 0) CB2.out.1, HM2.out]; rfl
      have v2 : ((w2.alloc (.cells zmsg 46)).setRow w2.heap.size mm2).cell? ⟨w2.heap.size, 2, none⟩ = some (.int .i64 m.t) := by rw [cell_of_row _ _ 2 _ 46 (0, 0) CB2.out.1, HM2.out]; rfl
      have v3 : ((w2.alloc (.cells zmsg 46)).setRow w2.heap.size mm2).cell? ⟨w2.heap.size, 3, none⟩ = some (.int .i64 m.s) := by rw [cell_of_row _ _ 3 _ 46 (0, 0) CB2.out.1, HM2.out]; rfl
      have v4 : ((w2.alloc (.cells zmsg 46)).setRow w2.heap.size mm2).cell? ⟨w2.heap.size, 4, none⟩ = some (.int .i64 m.fo) := by rw [cell_of_row _ _ 4 _ 46 (0, 0) CB2.out.1, HM2.out]; rfl
      have v5 : ((w2.alloc (.cells zmsg 46)).setRow w2.heap.size mm2).cell? ⟨w2.heap.size, 5, none⟩ = some (.int .i64 m.ab) := by rw [cell_of_row _ _ 5 _ 46 (0, 0) CB2.out.1, HM2.out]; rfl
      have v61 : ((w2.alloc (.cells zmsg 46)).setRow w2.heap.size mm2).cell? ⟨w2.heap.size, 61, none⟩ = some (.slice Pb nb cb) := by rw [cell_of_row _ _ 61 _ 46 (0, 0) CB2.out.1, HM2.out]; rfl
      have BW3 := Hid.mk_ ((BW.out.trans (B2.out.mono BW.out.size)).trans (CB2.out.2.mono (Nat.le_trans BW.out.size B2.out.size)))
      have CLA3 := Hid.mk_ ((CLA.out.keep B2.out).keep CB2.out.2)
      have CLB3 := Hid.mk_ ((CLB.out.keep B2.out).keep CB2.out.2)
      clear CB2 M13 M1 B2 BW CLA CLB HM1 HM2
      go_wp2_with (first
        | (refine wpList_load_mid rfl 46 _ rfl bb (k * 62) rfl _ _ HRB2.out Tryz.underlying46 rfl SL2.out ?_; rw [t2])
        | (refine wpList_store_row rfl 46 _ _ rfl w2.heap.size mm2 rfl rfl 46 _ ZZ2.out SS2.out SZ2.out O2.out ?_)
        | (go_at_call 20; refine (sameClaims _ Pa Pb nb ca cb m.cs CLA3 CLB3 EN maxa).mono ?_; rintro e w4 ⟨rfl, b4⟩))
      go_roundw
      case rel => exact ⟨k + 1, by go_num, by omega, Hid.mk_ (BW3.out.trans (b4.mono BW3.out.size))⟩
      case measure => simp [intOf]; omega
    · obtain rfl : k = n := by omega
      go_wp2_with fail
      go_ret
      exact ⟨rfl, BW.out⟩
end Go.Proofs.YthndjhocmpelcaaGreat.Swi
