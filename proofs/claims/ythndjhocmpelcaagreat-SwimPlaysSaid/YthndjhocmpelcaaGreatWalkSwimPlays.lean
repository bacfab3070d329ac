/- SwimPlays: the walk of the law: any calls, any messages: each answer, all that is believed, its incarnation. No condition. -/
import Derived.Test.YthndjhocmpelcaaGreatRdN
import Derived.Test.YthndjhocmpelcaaGreatGt
namespace Go.Proofs.YthndjhocmpelcaaGreat.WSwimPlays
open Go.RowKit Kit Tri3 Swi Rd
set_option linter.unusedVariables false
@[reducible] def sh2 : Sh := shCall
theorem rowW {w w' : World} {z : Nat} {o : Obj} {S : Nat → Prop} (h : w.heap[z]? = some o) (r : Rum.Wr w w' S) (hn : ¬ S z) : w'.heap[z]? = some o := (r.block z (Array.getElem?_eq_some_iff.1 h).1 hn).trans h
theorem bdrew (w : World) : Below w.heap.size w w.drew := (Below.refl _ _).drew
theorem chk12 {w8 w9 : World} {b1 b2 c8 c9 : Nat} {A8 A9 : Option Addr} {ms : List Om} {T8 T9 R : Nat → Prop} (o8 : Hid (Outs w8 b1 (.slice A8 ms.length c8) ms T8)) (r9 : Hid (Rum.Wr w8 w9 R)) (hR : ∀ k, R k → k < b1) (o9 : Hid (Outs w9 b2 (.slice A9 ms.length c9) ms T9)) (l8 : ms.length ≤ c8) (m8 : c8 ≤ 9223372036854775807) :
    Calls Tryz.prog 12 #[.slice A8 ms.length c8, .slice A9 ms.length c9] w9 fun e w' => e = .returned (.int .i64 0) ∧ Below w9.heap.size w9 w' :=
  sameMsgs w9 A8 A9 ms.length c8 c9 ms (Hid.mk_ ((o8.out.wr r9.out (fun k hk ht => by have h1 := hR k hk; have h2 := (o8.out.2.2 k ht).1; omega)).msAt)) (Hid.mk_ o9.out.msAt) (Hid.mk_ rfl) (by omega)
theorem chk20 {w7 w8 : World} {b7 b8 n c7 c8 : Nat} {A7 A8 : Option Addr} {ls : List Cl} (o7 : Rum.OwnC w7 b7 (.slice A7 n c7) n ls) (b : Below w7.heap.size w7 w8) (o8 : Rum.OwnC w8 b8 (.slice A8 n c8) n ls) (h7 : n ≤ c7) (m7 : c7 ≤ 9223372036854775807) :
    Calls Tryz.prog 20 #[.slice A7 n c7, .slice A8 n c8] w8 fun e w' => e = .returned (.bool true) ∧ Below w8.heap.size w8 w' :=
  sameClaims w8 A7 A8 n c7 c8 ls (Hid.mk_ (o7.row.keep b)) (Hid.mk_ o8.row) (Hid.mk_ o7.1) (by omega)
theorem own_len {w w' : World} {b b' n n' : Nat} {v v' : Value} {l : List Cl} (h : Rum.OwnC w b v n l) (k : Rum.OwnC w' b' v' n' l) : n' = n := k.1.trans h.1.symm
set_option maxRecDepth 100000 in
set_option maxHeartbeats 32000000 in
theorem law (w : World) (self i : Int) (hs : Hid (0 ≤ self ∧ self ≤ 7)) (hi : Hid (0 ≤ i ∧ i ≤ 1000000)) (A : Option Addr) (n c : Nat) (qs : List Qc) (hq : Hid (QsAt w A qs)) (hn : Hid (n = qs.length)) (hc : n ≤ c) (hcc : c ≤ 9223372036854775807) : Calls Tryz.prog 3 #[.int .i64 self, .int .i64 i, .slice A n c] w fun e w' => e = .returned (.bool true) ∧ Below w.heap.size w w' := by
  have HL := Hid.mk_ (light1 w A n c qs hq hn hc hcc)
  go_enter Tryz.func3, Tryz.ntmps3
  go_wp2_with fail
  refine HL.out.mono ?_
  rintro e w1 ⟨b, rfl, hb, b1⟩
  have B1 := Hid.mk_ b1
  clear b1 HL
  cases b with
  | false =>
    go_wp2_with (go_at_call 5; refine (awake _).mono ?_; rintro e w2 ⟨rfl, b2⟩)
    go_ret
    exact ⟨rfl, B1.out.trans (b2.mono B1.out.size)⟩
  | true =>
    have n80 : n ≤ 80 := hb.out rfl
    clear hb
    have Z0 := Hid.mk_ (Zok.new self i)
    have V0 := Hid.mk_ (Vok.new self i)
    go_wp2_with (first
      | (have _t := D3; go_at_call 7; refine (newR w3 self i hs hi).mono ?_; rintro e w4 ⟨gb, R4, rfl, D4, HR4, b4⟩)
      | (go_at_call 6; refine (newD w1 self i hs hi).mono ?_; rintro e w3 ⟨ga, S3, rfl, D3, HS3, b3⟩))
    have BO : Hid (Both w.heap.size w w4 ga gb (dNew self i)) := Hid.mk_ (both_new B1.out D3.out HS3.out b3 D4.out HR4.out b4)
    have BLE : Hid (w.heap.size ≤ w.heap.size) := Hid.mk_ (Nat.le_refl _)
    clear b3 HS3 b4 HR4 D3 D4 B1
    go_loopw [32] (fun ix wr => ∃ (j : Nat) (dj : Dt), ix = .int .i64 (j : Int) ∧ j ≤ n ∧ Hid (dj.now ≤ (j : Int)) ∧ Hid (Vok dj) ∧ Hid (Zok dj) ∧ Hid (Both w.heap.size w wr ga gb dj)) (fun ix _ => n - (intOf ix).toNat)
    case atStart => exact ⟨0, dNew self i, rfl, by omega, Hid.mk_ (by rw [(dNew_ok _ _).1]; decide), V0, Z0, BO⟩
    case round =>
      clear BO V0 Z0
      obtain ⟨j, dj, rfl, hj, NJ, VJ, ZJ, BJ⟩ := hrel
      by_cases hlt : j < n
      · obtain ⟨S5, R5, U5⟩ := BJ.out
        have HU5 := Hid.mk_ U5
        clear U5 BJ
        obtain ⟨q, hqj⟩ : ∃ q, qs[j]? = some q := ⟨_, List.getElem?_eq_getElem (by have := hn.out; omega)⟩
        obtain ⟨b, off, es, rfl, hb, hr, hl⟩ := hq.out j q hqj
        have HL := Hid.mk_ hl
        have HR : Hid (wr.rangeAt b (off + j * 68) es) := Hid.mk_ (range_keep hr (fun h => HU5.out.bw.block b h))
        clear hqj hb hr hl
        have l1 : (j : Int) < (n : Int) := by omega
        have l0 : (0 : Int) ≤ (j : Int) := by omega
        have CB := Hid.mk_ (call_box wr es)
        have ZZ := Hid.mk_ (heap_alloc_new wr (.cells Tryz.zeroCells49 49))
        go_upto_region 12 with (first
          | (refine wpList_load_mid rfl 49 _ rfl b (off + j * 68) rfl es _ HR.out Tryz.underlying49 rfl (call_size2 HL.out) ?_)
          | (refine wpList_store_row rfl 49 _ _ rfl wr.heap.size es.toArray rfl rfl 49 _ ZZ.out (call_size HL.out) (call_size3 HL.out) (call_one HL.out) ?_))
        have BB := Hid.mk_ CB.out.2
        have M0 := Hid.mk_ CB.out.1
        have HUb := Hid.mk_ (HU5.out.below BB.out (HU5.out.size BLE.out))
        have NZA : Hid (¬ S5 wr.heap.size) := Hid.mk_ (fun h => by have := HU5.out.a.blk _ h; omega)
        have NZB : Hid (¬ R5 wr.heap.size) := Hid.mk_ (fun h => by have := HU5.out.b.blk _ h; omega)
        clear ZZ CB HU5 BB
        generalize (wr.alloc (.cells Tryz.zeroCells49 49)).setRow wr.heap.size es.toArray = wb at *
        generalize wr.heap.size = z at M0 NZA NZB ⊢
        have y0 : wb.cell? ⟨z, 0, none⟩ = some (.int .i64 q.d) := rowe M0.out HL.out.e0
        go_upto_block 2 with fail
        go_cut [11] from 38 to 83 (fun s11 wx => ∃ d2, s11 = .bool true ∧ Hid (Both w.heap.size w wx ga gb d2) ∧ Hid (Nz d2 j) ∧ Hid (wx.heap[z]? = some (.cells es.toArray 49 (0, 0))))
        case first =>
          have lz := (Array.getElem?_eq_some_iff.1 M0.out).1
          have HUD := Hid.mk_ (HUb.out.below (bdrew wb) (HUb.out.size BLE.out))
          have MD : Hid (wb.drew.heap[z]? = some (.cells es.toArray 49 (0, 0))) := Hid.mk_ (rowk M0.out (bdrew wb))
          by_cases c0 : q.d = 0
          · have b0 : (q.d == 0) = true := by simp [c0]
            clear c0
            obtain ⟨d8, hd8⟩ : ∃ d8, d8 = dHear dj q.c := ⟨_, rfl⟩
            have HD8 := Hid.mk_ hd8
            obtain ⟨e8, he8⟩ : ∃ e8, e8 = hE dj q.c := ⟨_, rfl⟩
            have HE8 := Hid.mk_ he8
            have NX8 : Hid (Nz d8 j) := Hid.mk_ ⟨by rw [hd8]; exact VJ.out.hear q.c, by rw [hd8]; exact ZJ.out.hear q.c, by rw [hd8, (hear_kp dj q.c).now]; have := NJ.out; omega⟩
            clear hd8 he8
            go_upto_region 15 with fail
            have y1 : wb.cell? ⟨z, 1, none⟩ = some (.int .i64 q.c.n) := rowe M0.out HL.out.e1
            have y2 : wb.cell? ⟨z, 2, none⟩ = some (.int .i64 q.c.i) := rowe M0.out HL.out.e2
            have y3 : wb.cell? ⟨z, 3, none⟩ = some (.int .i64 q.c.h) := rowe M0.out HL.out.e3
            go_region_held3 (fun w' => w'.cell? ⟨z, 1, none⟩ = some (.int .i64 q.c.n) ∧ w'.cell? ⟨z, 2, none⟩ = some (.int .i64 q.c.i) ∧ w'.cell? ⟨z, 3, none⟩ = some (.int .i64 q.c.h)) (first | exact ⟨by assumption, by assumption, by assumption⟩ | go_keep) (first
              | (have _t := r8; go_at_call 9; refine (hear9 w8 R5 gb dj q.c (Hid.mk_ U8.out.b) d8 HD8 e8 HE8).mono ?_; rintro e w9 ⟨rfl, t9⟩; obtain ⟨R9, U9, k9, r9⟩ := U8.out.turnB t9.out BLE.out; have p1 := r9.out.cell s1 NZB.out; have p2 := r9.out.cell s2 NZB.out; have p3 := r9.out.cell s3 NZB.out)
              | (go_at_call 8; refine (hear1 wb.drew S5 ga dj q.c (Hid.mk_ HUD.out.a) d8 HD8 e8 HE8).mono ?_; rintro e w8 ⟨rfl, t8⟩; obtain ⟨S8, U8, k8, r8⟩ := HUD.out.turnA t8.out BLE.out; have s1 := r8.out.cell (by exact y1) NZA.out; have s2 := r8.out.cell (by exact y2) NZA.out; have s3 := r8.out.cell (by exact y3) NZA.out)
              | fail)
            have M9 : Hid (w9.heap[z]? = some (.cells es.toArray 49 (0, 0))) := Hid.mk_ (rowW (rowW MD.out r8.out NZA.out) r9.out NZB.out)
            clear y0 y1 y2 y3 s1 s2 s3 p1 p2 p3 lz
            go_wp2_with fail
            go_meet
            exact ⟨d8, rfl, Hid.mk_ ⟨S8, R9, U9.out⟩, NX8, M9⟩
          · have b0 : (q.d == 0) = false := by simp [c0]
            by_cases c1 : q.d = 1
            · have b1 : (q.d == 1) = true := by simp [c1]
              clear c0 c1
              obtain ⟨d8, hd8⟩ : ∃ d8, d8 = dLeave dj := ⟨_, rfl⟩
              have HD8 := Hid.mk_ hd8
              have NX8 : Hid (Nz d8 j) := Hid.mk_ ⟨by rw [hd8]; exact VJ.out.leave, by rw [hd8]; exact ZJ.out.leave, by rw [hd8, now_leave]; have := NJ.out; omega⟩
              have ne := eql48_self dj.self dj.inc 4
              clear hd8
              go_wp2_with (first
                | (have _t := r8; go_at_call 11; refine (leaveR w8 R5 gb dj (Hid.mk_ U8.out.b) d8 HD8 _ (Hid.mk_ rfl)).mono ?_; rintro e w9 ⟨rfl, t9⟩; obtain ⟨R9, U9, k9, r9⟩ := U8.out.turnB t9.out BLE.out)
                | (go_at_call 10; refine (leave1 wb S5 ga dj (Hid.mk_ HUb.out.a) d8 HD8 _ (Hid.mk_ rfl)).mono ?_; rintro e w8 ⟨rfl, t8⟩; obtain ⟨S8, U8, k8, r8⟩ := HUb.out.turnA t8.out BLE.out))
              have M9 : Hid (w9.heap[z]? = some (.cells es.toArray 49 (0, 0))) := Hid.mk_ (rowW (rowW M0.out r8.out NZA.out) r9.out NZB.out)
              go_meet
              exact ⟨d8, rfl, Hid.mk_ ⟨S8, R9, U9.out⟩, NX8, M9⟩
            · have b1 : (q.d == 1) = false := by simp [c1]
              by_cases c2 : q.d = 2
              · have b2 : (q.d == 2) = true := by simp [c2]
                clear c0 c1 c2
                obtain ⟨d8, hd8⟩ : ∃ d8, d8 = dHandle dj q.k q.f q.t q.s q.fo q.ab q.ls := ⟨_, rfl⟩
                have HD8 := Hid.mk_ hd8
                obtain ⟨ms, hms⟩ : ∃ ms, ms = oHandle dj q.k q.f q.t q.s q.fo q.ab q.ls := ⟨_, rfl⟩
                have HMS := Hid.mk_ hms
                have NX8 : Hid (Nz d8 j) := Hid.mk_ ⟨by rw [hd8]; exact VJ.out.handle _ _ _ _ _ _ _, by rw [hd8]; exact ZJ.out.handle _ _ _ _ _ _ _, by rw [hd8, now_handle]; have := NJ.out; omega⟩
                clear hd8 hms
                obtain ⟨L, hL⟩ : ∃ L, L = (es.drop 4).take 62 := ⟨_, rfl⟩
                have HMC : Hid (MsgC L.toArray q.k q.f q.t q.s q.fo q.ab (.slice q.P q.n q.cc)) := Hid.mk_ (by rw [hL]; exact HL.out.msg)
                have HLS : Hid ((Tryz.prog.info? 46).map (·.size) = some L.length) := Hid.mk_ (by rw [hL]; exact range_len HL.out.len)
                have HRM : Hid (∀ w' : World, w'.heap[z]? = some (.cells es.toArray 49 (0, 0)) → w'.rangeAt z 4 L) := Hid.mk_ (fun w' h => by rw [hL]; exact rowe_msg h)
                clear hL
                have hLM : ∀ w' : World, w'.rangeAt z 4 L → (Instr.loadAt 46 (.pointer (some ⟨z, 4, none⟩))).run Tryz.prog w' = .ok (.agg L.toArray) w' := fun w' h => run_loadAt_mid w' z 4 46 L _ h Tryz.underlying46 rfl HLS.out
                go_upto_region 20 with fail
                have yL := HRM.out _ MD.out
                refine wp_region_held_drew (S := fun w' => w'.rangeAt z 4 L) (by kernel_rfl) yL (fun hHeld => ?_)
                refine' wpAnyH_take (i := 0) (oi := _) (v := _) ?hi0 (by kernel_rfl) (by kernel_rfl) (by kernel_rfl) ?hQ0 (Or.inl ⟨?hw0, ?hy0⟩) (by assumption) ?rest0
                case hi0 => exact (by simp only [List.getElem?_toArray, List.getElem?_cons_zero]; rfl)
                case hQ0 => exact fun _ _ _ h => h
                case hw0 => rfl
                case hy0 =>
                  intro w hSw
                  try dsimp only at hSw
                  go_simp
                  all_goals with_reducible rfl
                try simp only [Act.put, List.setIfInBounds_toArray, List.set_cons_zero, List.set_cons_succ]
                refine' wpAnyH_take (i := 1) (oi := _) (v := _) ?hi1 (by kernel_rfl) (by kernel_rfl) (by kernel_rfl) ?hQ1 (Or.inl ⟨?hw1, ?hy1⟩) (by assumption) ?rest1
                case hi1 => exact (by simp only [List.getElem?_toArray, List.getElem?_cons_zero, List.getElem?_cons_succ]; rfl)
                case hQ1 => exact fun _ _ _ h => h
                case hw1 => rfl
                case hy1 =>
                  intro w hSw
                  try dsimp only at hSw
                  go_simp
                  all_goals with_reducible rfl
                try simp only [Act.put, List.setIfInBounds_toArray, List.set_cons_zero, List.set_cons_succ]
                refine' wpAnyH_take (i := 2) (oi := _) (v := _) ?hi2 (by kernel_rfl) (by kernel_rfl) (by kernel_rfl) ?hQ2 (yieldsIf_load_mid ?hw2 46 _ ?ho2 z 4 ?hx2 L _ ?hS2 Tryz.underlying46 ?hd2 HLS.out) (by assumption) ?rest2
                case hi2 => exact (by simp only [List.getElem?_toArray, List.getElem?_cons_zero, List.getElem?_cons_succ]; rfl)
                case hQ2 => exact fun _ _ _ h => h
                case hw2 => rfl
                case ho2 => rfl
                case hx2 => rfl
                case hS2 => exact fun w h => h
                case hd2 => rfl
                try simp only [Act.put, List.setIfInBounds_toArray, List.set_cons_zero, List.set_cons_succ]
                refine' wpAnyH_take (i := 4) (oi := _) (v := _) ?hi4 (by kernel_rfl) (by kernel_rfl) (by kernel_rfl) ?hQ4 (Or.inl ⟨?hw4, ?hy4⟩) (by assumption) ?rest4
                case hi4 => exact (by simp only [List.getElem?_toArray, List.getElem?_cons_zero, List.getElem?_cons_succ]; rfl)
                case hQ4 => exact fun _ _ _ h => h
                case hw4 => rfl
                case hy4 =>
                  intro w hSw
                  try dsimp only at hSw
                  go_simp
                  all_goals with_reducible rfl
                try simp only [Act.put, List.setIfInBounds_toArray, List.set_cons_zero, List.set_cons_succ]
                refine' wpAnyH_take (i := 5) (oi := _) (v := _) ?hi5 (by kernel_rfl) (by kernel_rfl) (by kernel_rfl) ?hQ5 (Or.inl ⟨?hw5, ?hy5⟩) (by assumption) ?rest5
                case hi5 => exact (by simp only [List.getElem?_toArray, List.getElem?_cons_zero, List.getElem?_cons_succ]; rfl)
                case hQ5 => exact fun _ _ _ h => h
                case hw5 => rfl
                case hy5 =>
                  intro w hSw
                  try dsimp only at hSw
                  go_simp
                  all_goals with_reducible rfl
                try simp only [Act.put, List.setIfInBounds_toArray, List.set_cons_zero, List.set_cons_succ]
                refine' wpAnyH_take (i := 6) (oi := _) (v := _) ?hi6 (by kernel_rfl) (by kernel_rfl) (by kernel_rfl) ?hQ6 (yieldsIf_load_mid ?hw6 46 _ ?ho6 z 4 ?hx6 L _ ?hS6 Tryz.underlying46 ?hd6 HLS.out) (by assumption) ?rest6
                case hi6 => exact (by simp only [List.getElem?_toArray, List.getElem?_cons_zero, List.getElem?_cons_succ]; rfl)
                case hQ6 => exact fun _ _ _ h => h
                case hw6 => rfl
                case ho6 => rfl
                case hx6 => rfl
                case hS6 => exact fun w h => h
                case hd6 => rfl
                try simp only [Act.put, List.setIfInBounds_toArray, List.set_cons_zero, List.set_cons_succ]
                refine wpAnyH_ready (rs := [3]) (by kernel_rfl) (by simp) ?_
                refine AllReadyH.cons (by simp only [List.getElem?_toArray, List.getElem?_cons_zero, List.getElem?_cons_succ]; rfl) (fun K hK => ?_) AllReadyH.nil
                go_simp
                refine (handle1 wb.drew S5 ga dj L.toArray q.k q.f q.t q.s q.fo q.ab q.P q.n q.cc q.ls (Hid.mk_ HUD.out.a) VJ HMC (Hid.mk_ (HL.out.cl.keep HUD.out.bw)) (HL.out.noS HUD.out.sa) (Hid.mk_ HL.out.ln) HL.out.nc HL.out.max d8 HD8 ms HMS).mono ?_
                rintro e w8 ⟨v8, T8, rfl, o8, t8⟩
                obtain ⟨A8, c8, rfl, l8, m8⟩ := o8.out.form
                obtain ⟨S8, U8, k8, r8⟩ := HUD.out.turnA t8.out.turn BLE.out
                have M8 := Hid.mk_ (rowW MD.out r8.out NZA.out)
                have s1 := HRM.out _ M8.out
                refine hK.out _ _ s1 (fun hHeld => ?_)
                clear hK K
                try simp only [Act.put, List.setIfInBounds_toArray, List.set_cons_zero, List.set_cons_succ]
                refine wpAnyH_ready (rs := [7]) (by kernel_rfl) (by simp) ?_
                refine AllReadyH.cons (by simp only [List.getElem?_toArray, List.getElem?_cons_zero, List.getElem?_cons_succ]; rfl) (fun K hK => ?_) AllReadyH.nil
                go_simp
                refine (handleR w8 R5 gb dj L.toArray q.k q.f q.t q.s q.fo q.ab q.P q.n q.cc q.ls (Hid.mk_ U8.out.b) VJ HMC (Hid.mk_ (HL.out.cl.keep U8.out.bw)) (HL.out.noS HUD.out.sb) (Hid.mk_ HL.out.ln) HL.out.nc HL.out.max d8 HD8 ms HMS).mono ?_
                rintro e w9 ⟨v9, T9, rfl, o9, t9⟩
                obtain ⟨A9, c9, rfl, l9, m9⟩ := o9.out.form
                obtain ⟨R9, U9, k9, r9⟩ := U8.out.turnB t9.out.turn BLE.out
                have M9 := Hid.mk_ (rowW M8.out r9.out NZB.out)
                have s2 := HRM.out _ M9.out
                refine hK.out _ _ s2 (fun hHeld => ?_)
                clear hK K
                try simp only [Act.put, List.setIfInBounds_toArray, List.set_cons_zero, List.set_cons_succ]
                refine wpAnyH_ready (rs := [8]) (by kernel_rfl) (by simp) ?_
                refine AllReadyH.cons (by simp only [List.getElem?_toArray, List.getElem?_cons_zero, List.getElem?_cons_succ]; rfl) (fun K hK => ?_) AllReadyH.nil
                go_simp
                refine (chk12 o8 r9 (fun k hk => HUD.out.b.blk k hk) o9 l8 m8).mono ?_
                rintro e w10 ⟨rfl, b10⟩
                have M10 := Hid.mk_ (rowk M9.out b10)
                have s3 := HRM.out _ M10.out
                refine hK.out _ _ s3 (fun hHeld => ?_)
                clear hK K
                try simp only [Act.put, List.setIfInBounds_toArray, List.set_cons_zero, List.set_cons_succ]
                refine' wpAnyH_take (i := 9) (oi := _) (v := _) ?hi9 (by kernel_rfl) (by kernel_rfl) (by kernel_rfl) ?hQ9 (Or.inl ⟨?hw9, ?hy9⟩) (by assumption) ?rest9
                case hi9 => exact (by simp only [List.getElem?_toArray, List.getElem?_cons_zero, List.getElem?_cons_succ]; rfl)
                case hQ9 => exact fun _ _ _ h => h
                case hw9 => rfl
                case hy9 =>
                  intro w hSw
                  try dsimp only at hSw
                  go_simp
                  all_goals with_reducible rfl
                try simp only [Act.put, List.setIfInBounds_toArray, List.set_cons_zero, List.set_cons_succ]
                refine' wpAnyH_take (i := 10) (oi := _) (v := _) ?hi10 (by kernel_rfl) (by kernel_rfl) (by kernel_rfl) ?hQ10 (Or.inl ⟨?hw10, ?hy10⟩) (by assumption) ?rest10
                case hi10 => exact (by simp only [List.getElem?_toArray, List.getElem?_cons_zero, List.getElem?_cons_succ]; rfl)
                case hQ10 => exact fun _ _ _ h => h
                case hw10 => rfl
                case hy10 =>
                  intro w hSw
                  try dsimp only at hSw
                  go_simp
                  all_goals with_reducible rfl
                try simp only [Act.put, List.setIfInBounds_toArray, List.set_cons_zero, List.set_cons_succ]
                refine wpAnyH_done (by kernel_rfl) ?_ _
                have U10 := Hid.mk_ (U9.out.below b10 (U9.out.size BLE.out))
                clear y0 yL s1 s2 s3 lz hLM
                go_wp2_with fail
                go_meet
                exact ⟨d8, rfl, Hid.mk_ ⟨S8, R9, U10.out⟩, NX8, M10⟩
              · have b2 : (q.d == 2) = false := by simp [c2]
                by_cases c3 : q.d = 3
                · have b3 : (q.d == 3) = true := by simp [c3]
                  clear c0 c1 c2 c3
                  obtain ⟨d8, hd8⟩ : ∃ d8, d8 = dHandle dj q.k q.f q.t q.s q.fo q.ab q.ls := ⟨_, rfl⟩
                  have HD8 := Hid.mk_ hd8
                  obtain ⟨ms, hms⟩ : ∃ ms, ms = oHandle dj q.k q.f q.t q.s q.fo q.ab q.ls := ⟨_, rfl⟩
                  have HMS := Hid.mk_ hms
                  have NX8 : Hid (Nz d8 j) := Hid.mk_ ⟨by rw [hd8]; exact VJ.out.handle _ _ _ _ _ _ _, by rw [hd8]; exact ZJ.out.handle _ _ _ _ _ _ _, by rw [hd8, now_handle]; have := NJ.out; omega⟩
                  clear hd8 hms
                  obtain ⟨L, hL⟩ : ∃ L, L = (es.drop 4).take 62 := ⟨_, rfl⟩
                  have HMC : Hid (MsgC L.toArray q.k q.f q.t q.s q.fo q.ab (.slice q.P q.n q.cc)) := Hid.mk_ (by rw [hL]; exact HL.out.msg)
                  have HLS : Hid ((Tryz.prog.info? 46).map (·.size) = some L.length) := Hid.mk_ (by rw [hL]; exact range_len HL.out.len)
                  have HRM : Hid (∀ w' : World, w'.heap[z]? = some (.cells es.toArray 49 (0, 0)) → w'.rangeAt z 4 L) := Hid.mk_ (fun w' h => by rw [hL]; exact rowe_msg h)
                  clear hL
                  have hLM : ∀ w' : World, w'.rangeAt z 4 L → (Instr.loadAt 46 (.pointer (some ⟨z, 4, none⟩))).run Tryz.prog w' = .ok (.agg L.toArray) w' := fun w' h => run_loadAt_mid w' z 4 46 L _ h Tryz.underlying46 rfl HLS.out
                  go_upto_region 20 with fail
                  have yL := HRM.out _ MD.out
                  refine wp_region_held_drew (S := fun w' => w'.rangeAt z 4 L) (by kernel_rfl) yL (fun hHeld => ?_)
                  refine' wpAnyH_take (i := 0) (oi := _) (v := _) ?hi0b (by kernel_rfl) (by kernel_rfl) (by kernel_rfl) ?hQ0b (Or.inl ⟨?hw0b, ?hy0b⟩) (by assumption) ?rest0b
                  case hi0b => exact (by simp only [List.getElem?_toArray, List.getElem?_cons_zero]; rfl)
                  case hQ0b => exact fun _ _ _ h => h
                  case hw0b => rfl
                  case hy0b =>
                    intro w hSw
                    try dsimp only at hSw
                    go_simp
                    all_goals with_reducible rfl
                  try simp only [Act.put, List.setIfInBounds_toArray, List.set_cons_zero, List.set_cons_succ]
                  refine' wpAnyH_take (i := 1) (oi := _) (v := _) ?hi1b (by kernel_rfl) (by kernel_rfl) (by kernel_rfl) ?hQ1b (Or.inl ⟨?hw1b, ?hy1b⟩) (by assumption) ?rest1b
                  case hi1b => exact (by simp only [List.getElem?_toArray, List.getElem?_cons_zero, List.getElem?_cons_succ]; rfl)
                  case hQ1b => exact fun _ _ _ h => h
                  case hw1b => rfl
                  case hy1b =>
                    intro w hSw
                    try dsimp only at hSw
                    go_simp
                    all_goals with_reducible rfl
                  try simp only [Act.put, List.setIfInBounds_toArray, List.set_cons_zero, List.set_cons_succ]
                  refine' wpAnyH_take (i := 2) (oi := _) (v := _) ?hi2b (by kernel_rfl) (by kernel_rfl) (by kernel_rfl) ?hQ2b (yieldsIf_load_mid ?hw2b 46 _ ?ho2b z 4 ?hx2b L _ ?hS2b Tryz.underlying46 ?hd2b HLS.out) (by assumption) ?rest2b
                  case hi2b => exact (by simp only [List.getElem?_toArray, List.getElem?_cons_zero, List.getElem?_cons_succ]; rfl)
                  case hQ2b => exact fun _ _ _ h => h
                  case hw2b => rfl
                  case ho2b => rfl
                  case hx2b => rfl
                  case hS2b => exact fun w h => h
                  case hd2b => rfl
                  try simp only [Act.put, List.setIfInBounds_toArray, List.set_cons_zero, List.set_cons_succ]
                  refine' wpAnyH_take (i := 4) (oi := _) (v := _) ?hi4b (by kernel_rfl) (by kernel_rfl) (by kernel_rfl) ?hQ4b (Or.inl ⟨?hw4b, ?hy4b⟩) (by assumption) ?rest4b
                  case hi4b => exact (by simp only [List.getElem?_toArray, List.getElem?_cons_zero, List.getElem?_cons_succ]; rfl)
                  case hQ4b => exact fun _ _ _ h => h
                  case hw4b => rfl
                  case hy4b =>
                    intro w hSw
                    try dsimp only at hSw
                    go_simp
                    all_goals with_reducible rfl
                  try simp only [Act.put, List.setIfInBounds_toArray, List.set_cons_zero, List.set_cons_succ]
                  refine' wpAnyH_take (i := 5) (oi := _) (v := _) ?hi5b (by kernel_rfl) (by kernel_rfl) (by kernel_rfl) ?hQ5b (Or.inl ⟨?hw5b, ?hy5b⟩) (by assumption) ?rest5b
                  case hi5b => exact (by simp only [List.getElem?_toArray, List.getElem?_cons_zero, List.getElem?_cons_succ]; rfl)
                  case hQ5b => exact fun _ _ _ h => h
                  case hw5b => rfl
                  case hy5b =>
                    intro w hSw
                    try dsimp only at hSw
                    go_simp
                    all_goals with_reducible rfl
                  try simp only [Act.put, List.setIfInBounds_toArray, List.set_cons_zero, List.set_cons_succ]
                  refine' wpAnyH_take (i := 6) (oi := _) (v := _) ?hi6b (by kernel_rfl) (by kernel_rfl) (by kernel_rfl) ?hQ6b (yieldsIf_load_mid ?hw6b 46 _ ?ho6b z 4 ?hx6b L _ ?hS6b Tryz.underlying46 ?hd6b HLS.out) (by assumption) ?rest6b
                  case hi6b => exact (by simp only [List.getElem?_toArray, List.getElem?_cons_zero, List.getElem?_cons_succ]; rfl)
                  case hQ6b => exact fun _ _ _ h => h
                  case hw6b => rfl
                  case ho6b => rfl
                  case hx6b => rfl
                  case hS6b => exact fun w h => h
                  case hd6b => rfl
                  try simp only [Act.put, List.setIfInBounds_toArray, List.set_cons_zero, List.set_cons_succ]
                  refine wpAnyH_ready (rs := [3]) (by kernel_rfl) (by simp) ?_
                  refine AllReadyH.cons (by simp only [List.getElem?_toArray, List.getElem?_cons_zero, List.getElem?_cons_succ]; rfl) (fun K hK => ?_) AllReadyH.nil
                  go_simp
                  refine (handle1 wb.drew S5 ga dj L.toArray q.k q.f q.t q.s q.fo q.ab q.P q.n q.cc q.ls (Hid.mk_ HUD.out.a) VJ HMC (Hid.mk_ (HL.out.cl.keep HUD.out.bw)) (HL.out.noS HUD.out.sa) (Hid.mk_ HL.out.ln) HL.out.nc HL.out.max d8 HD8 ms HMS).mono ?_
                  rintro e w8 ⟨v8, T8, rfl, o8, t8⟩
                  obtain ⟨A8, c8, rfl, l8, m8⟩ := o8.out.form
                  obtain ⟨S8, U8, k8, r8⟩ := HUD.out.turnA t8.out.turn BLE.out
                  have M8 := Hid.mk_ (rowW MD.out r8.out NZA.out)
                  have s1 := HRM.out _ M8.out
                  refine hK.out _ _ s1 (fun hHeld => ?_)
                  clear hK K
                  try simp only [Act.put, List.setIfInBounds_toArray, List.set_cons_zero, List.set_cons_succ]
                  refine wpAnyH_ready (rs := [7]) (by kernel_rfl) (by simp) ?_
                  refine AllReadyH.cons (by simp only [List.getElem?_toArray, List.getElem?_cons_zero, List.getElem?_cons_succ]; rfl) (fun K hK => ?_) AllReadyH.nil
                  go_simp
                  refine (handleR w8 R5 gb dj L.toArray q.k q.f q.t q.s q.fo q.ab q.P q.n q.cc q.ls (Hid.mk_ U8.out.b) VJ HMC (Hid.mk_ (HL.out.cl.keep U8.out.bw)) (HL.out.noS HUD.out.sb) (Hid.mk_ HL.out.ln) HL.out.nc HL.out.max d8 HD8 ms HMS).mono ?_
                  rintro e w9 ⟨v9, T9, rfl, o9, t9⟩
                  obtain ⟨A9, c9, rfl, l9, m9⟩ := o9.out.form
                  obtain ⟨R9, U9, k9, r9⟩ := U8.out.turnB t9.out.turn BLE.out
                  have M9 := Hid.mk_ (rowW M8.out r9.out NZB.out)
                  have s2 := HRM.out _ M9.out
                  refine hK.out _ _ s2 (fun hHeld => ?_)
                  clear hK K
                  try simp only [Act.put, List.setIfInBounds_toArray, List.set_cons_zero, List.set_cons_succ]
                  refine wpAnyH_ready (rs := [8]) (by kernel_rfl) (by simp) ?_
                  refine AllReadyH.cons (by simp only [List.getElem?_toArray, List.getElem?_cons_zero, List.getElem?_cons_succ]; rfl) (fun K hK => ?_) AllReadyH.nil
                  go_simp
                  refine (chk12 o8 r9 (fun k hk => HUD.out.b.blk k hk) o9 l8 m8).mono ?_
                  rintro e w10 ⟨rfl, b10⟩
                  have M10 := Hid.mk_ (rowk M9.out b10)
                  have s3 := HRM.out _ M10.out
                  refine hK.out _ _ s3 (fun hHeld => ?_)
                  clear hK K
                  try simp only [Act.put, List.setIfInBounds_toArray, List.set_cons_zero, List.set_cons_succ]
                  refine' wpAnyH_take (i := 9) (oi := _) (v := _) ?hi9b (by kernel_rfl) (by kernel_rfl) (by kernel_rfl) ?hQ9b (Or.inl ⟨?hw9b, ?hy9b⟩) (by assumption) ?rest9b
                  case hi9b => exact (by simp only [List.getElem?_toArray, List.getElem?_cons_zero, List.getElem?_cons_succ]; rfl)
                  case hQ9b => exact fun _ _ _ h => h
                  case hw9b => rfl
                  case hy9b =>
                    intro w hSw
                    try dsimp only at hSw
                    go_simp
                    all_goals with_reducible rfl
                  try simp only [Act.put, List.setIfInBounds_toArray, List.set_cons_zero, List.set_cons_succ]
                  refine' wpAnyH_take (i := 10) (oi := _) (v := _) ?hi10b (by kernel_rfl) (by kernel_rfl) (by kernel_rfl) ?hQ10b (Or.inl ⟨?hw10b, ?hy10b⟩) (by assumption) ?rest10b
                  case hi10b => exact (by simp only [List.getElem?_toArray, List.getElem?_cons_zero, List.getElem?_cons_succ]; rfl)
                  case hQ10b => exact fun _ _ _ h => h
                  case hw10b => rfl
                  case hy10b =>
                    intro w hSw
                    try dsimp only at hSw
                    go_simp
                    all_goals with_reducible rfl
                  try simp only [Act.put, List.setIfInBounds_toArray, List.set_cons_zero, List.set_cons_succ]
                  refine wpAnyH_done (by kernel_rfl) ?_ _
                  have U10 := Hid.mk_ (U9.out.below b10 (U9.out.size BLE.out))
                  clear y0 yL s1 s2 s3 lz hLM
                  go_wp2_with fail
                  go_meet
                  exact ⟨d8, rfl, Hid.mk_ ⟨S8, R9, U10.out⟩, NX8, M10⟩
                · have b3 : (q.d == 3) = false := by simp [c3]
                  clear c0 c1 c2 c3
                  obtain ⟨d8, hd8⟩ : ∃ d8, d8 = (dTick q.ps q.dr dj).1 := ⟨_, rfl⟩
                  have HD8 := Hid.mk_ hd8
                  obtain ⟨ms, hms⟩ : ∃ ms, ms = (dTick q.ps q.dr dj).2 := ⟨_, rfl⟩
                  have HMS := Hid.mk_ hms
                  have NX8 : Hid (Nz d8 j) := Hid.mk_ ⟨by rw [hd8]; exact VJ.out.tick, by rw [hd8]; exact ZJ.out.tick, by rw [hd8, now_tick]; have := NJ.out; omega⟩
                  clear hd8 hms
                  have hnow : dj.now < 1000000 := by have := NJ.out; omega
                  have y66 : wb.cell? ⟨z, 66, none⟩ = some (.slice q.Ap q.np q.cp) := rowe M0.out HL.out.e66
                  have y67 : wb.cell? ⟨z, 67, none⟩ = some (.int .u64 q.dr) := rowe M0.out HL.out.e67
                  go_upto_region 13 with fail
                  go_region_held3 (fun w' => w'.cell? ⟨z, 66, none⟩ = some (.slice q.Ap q.np q.cp) ∧ w'.cell? ⟨z, 67, none⟩ = some (.int .u64 q.dr)) (first | exact ⟨by assumption, by assumption⟩ | go_keep) (first
                    | (have _t := r9; go_at_call 12; refine (chk12 o8 r9 (fun k hk => HUD.out.b.blk k hk) o9 l8 m8).mono ?_; rintro e w10 ⟨rfl, b10⟩; have M10 := Hid.mk_ (rowk M9.out b10); have s31 := keepC b10 s21; have s32 := keepC b10 s22)
                    | (have _t := r8; go_at_call 16; refine (tickR w8 R5 gb dj (Hid.mk_ U8.out.b) VJ hnow q.Ap q.np q.cp q.ps q.dr (Hid.mk_ (HL.out.row.below U8.out.bw)) (HL.out.noA HUD.out.sb) (Hid.mk_ HL.out.pn) HL.out.pc HL.out.pmax (Hid.mk_ HL.out.dr) d8 HD8 ms HMS).mono ?_; rintro e w9 ⟨v9, T9, rfl, o9, t9⟩; obtain ⟨A9, c9, rfl, l9, m9⟩ := o9.out.form; obtain ⟨R9, U9, k9, r9⟩ := U8.out.turnB t9.out.turn BLE.out; have M9 := Hid.mk_ (rowW M8.out r9.out NZB.out); have s21 := r9.out.cell s11 NZB.out; have s22 := r9.out.cell s12 NZB.out)
                    | (go_at_call 15; refine (tick1 wb.drew S5 ga dj (Hid.mk_ HUD.out.a) VJ hnow q.Ap q.np q.cp q.ps q.dr (Hid.mk_ (HL.out.row.below HUD.out.bw)) (HL.out.noA HUD.out.sa) (Hid.mk_ HL.out.pn) HL.out.pc HL.out.pmax (Hid.mk_ HL.out.dr) d8 HD8 ms HMS).mono ?_; rintro e w8 ⟨v8, T8, rfl, o8, t8⟩; obtain ⟨A8, c8, rfl, l8, m8⟩ := o8.out.form; obtain ⟨S8, U8, k8, r8⟩ := HUD.out.turnA t8.out.turn BLE.out; have M8 := Hid.mk_ (rowW MD.out r8.out NZA.out); have s11 := r8.out.cell (by exact y66) NZA.out; have s12 := r8.out.cell (by exact y67) NZA.out)
                    | fail)
                  have U10 := Hid.mk_ (U9.out.below b10 (U9.out.size BLE.out))
                  clear y0 y66 y67 s11 s12 s21 s22 s31 s32 lz
                  go_wp2_with fail
                  go_meet
                  exact ⟨d8, rfl, Hid.mk_ ⟨S8, R9, U10.out⟩, NX8, M10⟩
        case rest =>
          obtain ⟨d2, rfl, BO2, NX, M9⟩ := hcut
          clear HUb NZA NZB M0 y0
          obtain ⟨S9, R9, U9⟩ := BO2.out
          have HU9 := Hid.mk_ U9
          clear U9 BO2
          obtain ⟨gv, f1, f2, f3, f4, V9⟩ := det_c HU9.out.b
          have f5 : wc.cell? ⟨z, 1, none⟩ = some (.int .i64 q.c.n) := rowe M9.out HL.out.e1
          have HUD := Hid.mk_ (HU9.out.below (bdrew wc) (HU9.out.size BLE.out))
          have VD := Hid.mk_ (V9.out.below (bdrew wc) V9.out.lt)
          obtain ⟨m0, hm0⟩ : ∃ m0, m0 = (cOf d2 q.c.n).n := ⟨_, rfl⟩
          obtain ⟨m1, hm1⟩ : ∃ m1, m1 = (cOf d2 q.c.n).i := ⟨_, rfl⟩
          obtain ⟨m2, hm2⟩ : ∃ m2, m2 = (cOf d2 q.c.n).h := ⟨_, rfl⟩
          have HOF : Hid (∀ w' : World, Rvw.Vw w' gv d2.p d2.q → Calls Tryz.prog 24 #[.pointer (some ⟨gv, 0, none⟩), .int .i64 q.c.n] w' fun e w'' => e = .returned (.agg #[.int .i64 m0, .int .i64 m1, .int .i64 m2]) ∧ Below w'.heap.size w' w'') := Hid.mk_ (fun w' hv => by rw [hm0, hm1, hm2]; exact Rvw.of0 d2.p d2.q gv q.c.n w' hv)
          have HVV : Hid ((.agg #[.int .i64 m0, .int .i64 m1, .int .i64 m2] : Value) = .agg #[.int .i64 (cOf d2 q.c.n).n, .int .i64 (cOf d2 q.c.n).i, .int .i64 (cOf d2 q.c.n).h]) := Hid.mk_ (by rw [hm0, hm1, hm2])
          have ne := neq48_self m0 m1 m2
          clear hm0 hm1 hm2
          go_upto_region 21 with fail
          go_region_held3 (fun w' => w'.cell? ⟨gb, 1, none⟩ = some (.int .i64 d2.inc) ∧ w'.cell? ⟨gb, 2, none⟩ = some (.int .i64 d2.now) ∧ w'.cell? ⟨gb, 5, none⟩ = some (.bool d2.over) ∧ w'.cell? ⟨gb, 7, none⟩ = some (.pointer (some ⟨gv, 0, none⟩)) ∧ w'.cell? ⟨z, 1, none⟩ = some (.int .i64 q.c.n)) (first | exact ⟨by assumption, by assumption, by assumption, by assumption, by assumption⟩ | assumption | go_keep) (first
            | (have _t := b11; go_at_call 24; refine (HOF.out w11 ((((VD.out.below b7 VD.out.lt).below b8 (VD.out.below b7 VD.out.lt).lt).below b10 ((VD.out.below b7 VD.out.lt).below b8 (VD.out.below b7 VD.out.lt).lt).lt).below b11 (((VD.out.below b7 VD.out.lt).below b8 (VD.out.below b7 VD.out.lt).lt).below b10 ((VD.out.below b7 VD.out.lt).below b8 (VD.out.below b7 VD.out.lt).lt).lt).lt)).mono ?_; rintro e w12 ⟨rfl, b12⟩; have p1 := keepC b12 (by exact l1); have p2 := keepC b12 (by exact l2); have p3 := keepC b12 (by exact l3); have p4 := keepC b12 (by exact l4); have p5 := keepC b12 (by exact l5))
            | (have _t := b10; go_at_call 23; refine (ofD w10 S9 ga d2 q.c.n (Hid.mk_ (((HUD.out.a.below b7).below b8).below b10)) _ HVV).mono ?_; rintro e w11 ⟨rfl, b11⟩; have l1 := keepC b11 (by exact k1); have l2 := keepC b11 (by exact k2); have l3 := keepC b11 (by exact k3); have l4 := keepC b11 (by exact k4); have l5 := keepC b11 (by exact k5))
            | (have _t := b8; go_at_call 20; refine (chk20 o7 b8 o8 h7 h7m).mono ?_; rintro e w10 ⟨rfl, b10⟩; have k1 := keepC b10 (by exact h1); have k2 := keepC b10 (by exact h2); have k3 := keepC b10 (by exact h3); have k4 := keepC b10 (by exact h4); have k5 := keepC b10 (by exact h5))
            | (have _t := b7; go_at_call 22; refine (Rvw.all0 d2.p d2.q gv w7 (Hid.mk_ (VD.out.below b7 VD.out.lt))).mono ?_; intro e w8 hl8; obtain ⟨A8, n8, c8, rfl, o8, h8, h8m, b8⟩ := listed_own hl8; rw [lsC_all NX.out.zok] at o8; have e8 := own_len o7 o8; subst e8; have h1 := keepC b8 (by exact g1); have h2 := keepC b8 (by exact g2); have h3 := keepC b8 (by exact g3); have h4 := keepC b8 (by exact g4); have h5 := keepC b8 (by exact g5))
            | (go_at_call 21; refine (all1 wc.drew S9 ga d2 (Hid.mk_ HUD.out.a)).mono ?_; intro e w7 hl7; obtain ⟨A7, n7, c7, rfl, o7, h7, h7m, b7⟩ := listed_own hl7; have g1 := keepC b7 (by exact f1); have g2 := keepC b7 (by exact f2); have g3 := keepC b7 (by exact f3); have g4 := keepC b7 (by exact f4); have g5 := keepC b7 (by exact f5))
            | (go_at_call 17; refine (inc0 wc.drew S9 ga d2 (Hid.mk_ HUD.out.a) d2.inc (Hid.mk_ rfl)).mono ?_; rintro e w6 ⟨rfl, rfl⟩)
            | (go_at_call 18; refine (now0 wc.drew S9 ga d2 (Hid.mk_ HUD.out.a) d2.now (Hid.mk_ rfl)).mono ?_; rintro e w6 ⟨rfl, rfl⟩)
            | (go_at_call 19; refine (over0 wc.drew S9 ga d2 (Hid.mk_ HUD.out.a) d2.over (Hid.mk_ rfl)).mono ?_; rintro e w6 ⟨rfl, rfl⟩)
            | fail)
          have B12 : Hid (Below wc.drew.heap.size wc.drew w12) := Hid.mk_ (by
            have z8 := b7.trans (b8.mono b7.size)
            have z10 := z8.trans (b10.mono z8.size)
            have z11 := z10.trans (b11.mono z10.size)
            exact z11.trans (b12.mono z11.size))
          have U12 := Hid.mk_ (HUD.out.below B12.out (HUD.out.size BLE.out))
          go_wp2_with fail
          go_roundw
          case rel => exact ⟨j + 1, d2, by go_num, by omega, Hid.mk_ (by have := NX.out.now; omega), Hid.mk_ NX.out.vok, Hid.mk_ NX.out.zok, Hid.mk_ ⟨S9, R9, U12.out⟩⟩
          case measure => simp [intOf]; omega
      · obtain rfl : j = n := by omega
        obtain ⟨S5, R5, U5⟩ := BJ.out
        have BW := Hid.mk_ U5.bw
        clear U5
        go_wp2_with (go_at_call 5; refine (awake _).mono ?_; rintro e w9 ⟨rfl, b9⟩)
        go_ret
        exact ⟨rfl, BW.out.trans (b9.mono BW.out.size)⟩
set_option maxRecDepth 100000 in
set_option maxHeartbeats 4000000 in
theorem no_law (w : World) (self i : Int) (A : Option Addr) (n c : Nat) (qs : List Qc) (hq : Hid (QsAt w A qs)) (hn : Hid (n = qs.length)) (hc : n ≤ c) (hcc : c ≤ 9223372036854775807) (hbad : ¬ (0 ≤ self ∧ self ≤ 7 ∧ 0 ≤ i ∧ i ≤ 1000000)) : Calls Tryz.prog 3 #[.int .i64 self, .int .i64 i, .slice A n c] w fun e w' => e = .returned (.bool true) ∧ Below w.heap.size w w' := by
  have HL := Hid.mk_ (light1 w A n c qs hq hn hc hcc)
  have HBAD := Hid.mk_ hbad
  clear hbad
  go_enter Tryz.func3, Tryz.ntmps3
  go_wp2_with fail
  refine HL.out.mono ?_
  rintro e w1 ⟨b, rfl, hb, b1⟩
  clear hb HL
  cases b with
  | false =>
    go_wp2_with (go_at_call 5; refine (awake _).mono ?_; rintro e w2 ⟨rfl, b2⟩)
    go_ret
    exact ⟨rfl, b1.trans (b2.mono b1.size)⟩
  | true =>
    go_wp2_with (first
      | (have _t := b4; go_at_call 5; refine (awake _).mono ?_; rintro e w5 ⟨rfl, b5⟩)
      | (go_at_call 7; refine (newRbad _ self i HBAD.out).mono ?_; rintro e w4 ⟨rfl, b4⟩)
      | (go_at_call 6; refine (newBad w1 self i HBAD.out).mono ?_; rintro e w3 ⟨rfl, rfl⟩))
    go_ret
    have z4 := b1.trans (b4.mono b1.size)
    exact ⟨rfl, z4.trans (b5.mono z4.size)⟩
theorem walk (w : World) (a0 : Int) (h0 : (Lit.int .i64 a0).wf = true) (a1 : Int) (h1 : (Lit.int .i64 a1).wf = true) (A : Option Addr) (n c : Nat) (h : RD w (.slice sh2) [.slice A n c]) : Calls Tryz.prog 3 #[.int .i64 a0, .int .i64 a1, .slice A n c] w fun e w' => e = .returned (.bool true) ∧ Below w.heap.size w w' := by
  obtain ⟨qs, g1, g2, g3, g4⟩ := rd_calls h
  have g5 : c ≤ 9223372036854775807 := by unfold maxLen at g4; omega
  by_cases hb : 0 ≤ a0 ∧ a0 ≤ 7 ∧ 0 ≤ a1 ∧ a1 ≤ 1000000
  · exact law w a0 a1 (Hid.mk_ ⟨hb.1, hb.2.1⟩) (Hid.mk_ hb.2.2) A n c qs (Hid.mk_ g2) (Hid.mk_ g1.symm) g3 g5
  · exact no_law w a0 a1 A n c qs (Hid.mk_ g2) (Hid.mk_ g1.symm) g3 g5 hb
end Go.Proofs.YthndjhocmpelcaaGreat.WSwimPlays
