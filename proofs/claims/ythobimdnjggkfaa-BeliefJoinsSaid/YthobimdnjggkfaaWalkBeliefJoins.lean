/- BeliefJoins: the walk of the law. Conditions: the claims lie in memory, no more of them than it bears. -/
import Derived.Test.YthobimdnjggkfaaBelF
namespace Go.Proofs.Ythobimdnjggkfaa.WBeliefJoins
open Go.RowKit Kit PBeliefJoins Bel
set_option linter.unusedVariables false
theorem modk (n : Int) (l : Nat) (hl : l ≤ 80) : ∃ k : Nat, k ≤ l ∧ wrap64 ((IntKind.u64.wrap n).tmod ((l : Int) + 1)) = (k : Int) := by
  have h : 0 ≤ IntKind.u64.wrap n := by rw [IntKind.wrap_u64]; omega
  generalize IntKind.u64.wrap n = t at h
  rw [Int.tmod_eq_emod_of_nonneg h]
  have h1 : 0 ≤ t % ((l : Int) + 1) := Int.emod_nonneg _ (by omega)
  have h2 : t % ((l : Int) + 1) < (l : Int) + 1 := Int.emod_lt_of_pos _ (by omega)
  generalize t % ((l : Int) + 1) = r at h1 h2
  refine ⟨r.toNat, by omega, ?_⟩
  unfold wrap64
  omega
set_option maxHeartbeats 2000000 in
theorem long (A A' : Option Addr) (k c k' c' : Nat) (n : Int) (w : World) (hk : k ≤ 281474976710656) (hk' : k' ≤ 281474976710656) (hz : 80 < k + k') :
    Calls Try.prog 10 #[.slice A k c, .slice A' k' c', .int .i64 n] w fun e w' => e = .returned (.bool true) ∧ Below w.heap.size w w' := by
  go_enter Try.func10, Try.ntmps10
  go_wp2_with (go_at_call 22; refine (awakeB _).mono ?_; rintro e w' ⟨rfl, hb⟩)
  go_ret
  exact ⟨rfl, hb⟩
theorem dropAt {w : World} {A : Option Addr} {ls : List Cl} {c : Nat} (h : ClAt w A ls) (k : Nat) (hc : ls.length ≤ c) : ClAt w (if c = k then A else Option.map (fun x => x.add (k * 3)) A) (ls.drop k) := by
  by_cases he : c = k
  · rw [if_pos he, List.drop_eq_nil_of_le (by omega)]
    intro i d hi
    simp at hi
  · rw [if_neg he]
    intro i d hi
    have hi' := hi
    rw [List.getElem?_drop] at hi'
    obtain ⟨b, off, rfl, _⟩ := h _ d hi'
    have h2 := ClAt.drop h k i d hi
    rw [Option.map_some, Addr.add_lit]
    exact h2
/-- What the six views have to do with each other. -/
structure Facts (SA SB SC SD : St) : Prop where
  okA : Ok SA
  okB : Ok SB
  okC : Ok SC
  okD : Ok SD
  a : ∀ m, K SA m = max (K SC m) (K SD m)
  b : ∀ m, K SB m = K SA m
theorem facts (ls ms : List Cl) (k : Nat) (hz : ls.length + ms.length ≤ 80) (hk : k ≤ ls.length) (SA SB SC SD : St) (eA : hears s0 (ls ++ ms) = SA) (eB : hears s0 ((ms ++ ls.drop k ++ ls ++ ls.take k).take 100) = SB) (eC : hears s0 ls = SC) (eD : hears s0 ms = SD) : Facts SA SB SC SD := by
  subst eA eB eC eD
  refine ⟨ok_hears ok_s0 _, ok_hears ok_s0 _, ok_hears ok_s0 _, ok_hears ok_s0 _, fun m => ?_, fun m => ?_⟩
  · rw [K_heard, K_heard, K_heard, mx_append]
  · rw [K_heard, K_heard]
    refine mx_same m _ _ fun c => ⟨fun h => ?_, fun h => ?_⟩
    · have h1 := List.mem_of_mem_take h
      simp only [List.mem_append] at h1 ⊢
      rcases h1 with ((h1 | h1) | h1) | h1
      · exact .inr h1
      · exact .inl (List.mem_of_mem_drop h1)
      · exact .inl h1
      · exact .inl (List.mem_of_mem_take h1)
    · have e : (ms ++ ls.drop k ++ ls ++ ls.take k).take 100 = ms ++ ls.drop k ++ ((ls ++ ls.take k).take (100 - (ms ++ ls.drop k).length)) := by
        rw [List.append_assoc, List.take_append, List.take_of_length_le (by simp; omega)]
      rw [e]
      simp only [List.mem_append] at h ⊢
      rcases h with h | h
      · have h2 : c ∈ ls.take k ++ ls.drop k := by rwa [List.take_append_drop]
        rcases List.mem_append.1 h2 with h3 | h3
        · right
          have e2 : (ls ++ ls.take k).take (100 - (ms ++ ls.drop k).length) = ls.take k ++ ((ls ++ ls.take k).take (100 - (ms ++ ls.drop k).length)).drop k := by
            conv => lhs; rw [← List.take_append_drop k ((ls ++ ls.take k).take (100 - (ms ++ ls.drop k).length))]
            congr 1
            rw [List.take_take, Nat.min_eq_left (by simp; omega), List.take_append_of_le_length hk]
          rw [e2]
          exact List.mem_append.2 (.inl h3)
        · exact .inl (.inr h3)
      · exact .inl (.inl h)
set_option maxHeartbeats 4000000 in
theorem short (A A' : Option Addr) (ls ms : List Cl) (c c' : Nat) (n : Int) (w : World) (hl : Hid (ClAt w A ls)) (hm : Hid (ClAt w A' ms)) (hz : ls.length + ms.length ≤ 80) (hc : ls.length ≤ c) (hc' : c ≤ 9223372036854775807) (hA : A = none → c = 0) :
    Calls Try.prog 10 #[.slice A ls.length c, .slice A' ms.length c', .int .i64 n] w fun e w' => e = .returned (.bool true) ∧ Below w.heap.size w w' := by
  obtain ⟨k, hkl, ek⟩ := modk n ls.length (by omega)
  have EK := Hid.mk_ ek
  clear ek
  obtain ⟨Ad, hAd⟩ : ∃ Ad, (if c = k then A else Option.map (fun x => x.add (k * 3)) A) = Ad := ⟨_, rfl⟩
  have k0 : (0 : Int) ≤ (k : Int) := by omega
  have k1 : (k : Int) ≤ (ls.length : Int) := by omega
  have k2 : (k : Int) ≤ (c : Int) := by omega
  go_enter Try.func10, Try.ntmps10
  go_upto_region 4 with fail
  rw [EK.out]
  have hnil := own_nil (w.alloc (.cells #[] 45 (0, 0))) w.heap.size (by simp) w.heap.size (Nat.le_refl _) (heap_alloc_new w _)
  go_wp2_with (first
    | (at_builtin; refine wpList_app _ rfl _ _ rfl w.heap.size _ [] (by rfl) hnil A ls _ c (by rfl) rfl (hl.out.keep ((Below.refl _ _).alloc (Nat.le_refl _) _)) (by simp; omega) (by simp) ?_; intro v1 w1 hown1 hb1)
    | (at_builtin; refine wpList_app _ rfl _ _ rfl w.heap.size _ ls (by rfl) hown1 A' ms _ c' (by rfl) rfl (hm.out.keep (((Below.refl _ _).alloc (Nat.le_refl _) _).trans hb1)) (by omega) (Nat.le_trans (by simp) hb1.size) ?_; intro v2 w2 hown2 hb2))
  have b2 := ((Below.refl w.heap.size w).alloc (Nat.le_refl _) (.cells #[] 45 (0, 0))).trans (hb1.trans hb2)
  obtain ⟨A2, c2, rfl⟩ := hown2.form
  obtain ⟨_, hcl2⟩ := ClAt.own hown2
  clear hown1 hown2 hb1 hb2 hnil
  refine (heard0 A2 (ls ++ ms) c2 _ hcl2 (by simp [maxLen]; omega)).mono ?_
  rintro e w3 ⟨ga, rfl, hga, ha3, hb3⟩
  rw [List.take_of_length_le (by simp; omega)] at ha3
  have HA3 := Hid.mk_ ha3
  clear ha3 hcl2
  have b3 := b2.trans (hb3.mono b2.size)
  clear hb3
  go_upto_region 5 with fail
  have hnil : OwnC (w3.alloc (.cells #[] 45 (0, 0))).drew w3.heap.size (.slice (some ⟨w3.heap.size, 0, none⟩) 0 0) [] := (own_nil (w3.alloc (.cells #[] 45 (0, 0))) w3.heap.size (by simp) w3.heap.size (Nat.le_refl _) (heap_alloc_new w3 _)).drew
  have B5 := ((Below.refl w3.heap.size w3).alloc (Nat.le_refl _) (.cells #[] 45 (0, 0))).drew
  have hz5 : w3.heap.size ≤ (w3.alloc (.cells #[] 45 (0, 0))).drew.heap.size := B5.size
  have HL3 := hl.out.keep b3
  have HM3 := hm.out.keep b3
  have HD3 := dropAt HL3 k hc
  rw [hAd] at HD3
  go_region_held3 (fun w' => True) (trivial) (first
    | (go_at_call 23; refine (heard1 A7 (ms ++ ls.drop k ++ ls ++ ls.take k) _ c7 _ (by simp <;> omega) (by exact (ClAt.own hown7).2) (by simp [maxLen]; omega)).mono ?_; rintro e w8 ⟨gb, rfl, hgb, hb8, hbb8⟩)
    | (refine step_app _ (by rfl) _ _ (by rfl) w3.heap.size _ [] (by rfl) (by exact hnil) A' ms _ c' (by rfl) (by rfl) (by exact HM3.keep B5) (by simp; omega) (by exact hz5) ?_; intro v4 w4 hown4 hb4)
    | (refine step_app _ (by rfl) _ _ (by rfl) w3.heap.size _ ms (by rfl) (by exact hown4) Ad (ls.drop k) _ (c - k) (by rfl) (by simp) (by exact HD3.keep (B5.trans hb4)) (by simp; omega) (by exact (B5.trans hb4).size) ?_; intro v5 w5 hown5 hb5)
    | (refine step_app _ (by rfl) _ _ (by rfl) w3.heap.size _ (ms ++ ls.drop k) (by rfl) (by exact hown5) _ ls _ c (by rfl) (by rfl) (by exact HL3.keep ((B5.trans hb4).trans hb5)) (by simp; omega) (by exact ((B5.trans hb4).trans hb5).size) ?_; intro v6 w6 hown6 hb6)
    | (refine step_app _ (by rfl) _ _ (by rfl) w3.heap.size _ (ms ++ ls.drop k ++ ls) (by rfl) (by exact hown6) _ (ls.take k) _ c (by rfl) (by simp; omega) (by exact (HL3.keep (((B5.trans hb4).trans hb5).trans hb6)).take k) (by simp; omega) (by exact (((B5.trans hb4).trans hb5).trans hb6).size) ?_; intro v7 w7 hown7 hb7; obtain ⟨A7, c7, rfl⟩ := hown7.form)
    | fail)
  have bA := ((((B5.trans hb4).trans hb5).trans hb6).trans hb7)
  have b8w := bA.trans (hbb8.mono bA.size)
  have b8 := b3.trans (b8w.mono b3.size)
  have HA8 := Hid.mk_ (HA3.out.below b8w HA3.out.lt)
  have HB8 := Hid.mk_ hb8
  have o0 := b3.size
  have o1 := HA3.out.lt
  have o2 := bA.size
  have o3 := HB8.out.lt
  clear hb8 hbb8 hb4 hb5 hb6 hb7 hown4 hown5 hown6 hown7 hnil HA3 HL3 HM3 HD3 hAd B5 hz5 bA b8w
  go_wp2_with fail
  refine (heard1 A ls _ c _ rfl (hl.out.keep b8) (by unfold maxLen; omega)).mono ?_
  rintro e w9 ⟨gc, rfl, hgc, hc9, hb9⟩
  rw [List.take_of_length_le (by omega)] at hc9
  have HA9 := Hid.mk_ (HA8.out.below hb9 HA8.out.lt)
  have HB9 := Hid.mk_ (HB8.out.below hb9 HB8.out.lt)
  have HC9 := Hid.mk_ hc9
  have b9 := b8.trans (hb9.mono b8.size)
  have o4 := HC9.out.lt
  clear hc9 HA8 HB8
  go_wp2_with fail
  refine (heard1 A' ms _ c' _ rfl (hm.out.keep b9) (by unfold maxLen; omega)).mono ?_
  rintro e w10 ⟨gd, rfl, hgd, hd10, hb10⟩
  rw [List.take_of_length_le (by omega)] at hd10
  have HA10 := Hid.mk_ (HA9.out.below hb10 HA9.out.lt)
  have HB10 := Hid.mk_ (HB9.out.below hb10 HB9.out.lt)
  have HC10 := Hid.mk_ (HC9.out.below hb10 HC9.out.lt)
  have HD10 := Hid.mk_ hd10
  have b10 := b9.trans (hb10.mono b9.size)
  have o5 := HD10.out.lt
  clear hd10 HA9 HB9 HC9
  obtain ⟨SA, eA⟩ : ∃ S, hears s0 (ls ++ ms) = S := ⟨_, rfl⟩
  obtain ⟨SB, eB⟩ : ∃ S, hears s0 ((ms ++ ls.drop k ++ ls ++ ls.take k).take 100) = S := ⟨_, rfl⟩
  obtain ⟨SC, eC⟩ : ∃ S, hears s0 ls = S := ⟨_, rfl⟩
  obtain ⟨SD, eD⟩ : ∃ S, hears s0 ms = S := ⟨_, rfl⟩
  rw [eA] at HA10
  rw [eB] at HB10
  rw [eC] at HC10
  rw [eD] at HD10
  have F := Hid.mk_ (facts ls ms k hz hkl SA SB SC SD eA eB eC eD)
  clear eA eB eC eD
  obtain ⟨L1, eL1⟩ : ∃ L, lsC SD 8 = L := ⟨_, rfl⟩
  obtain ⟨L2, eL2⟩ : ∃ L, lsC SC 8 = L := ⟨_, rfl⟩
  have HL1 := Hid.mk_ eL1
  have HL2 := Hid.mk_ eL2
  clear eL1 eL2
  go_wp2_with fail
  refine (copy0 SC.p SC.q gc _ HC10.out).mono ?_
  rintro e w11 ⟨ge, rfl, hge, he11, hb11⟩
  have HA11 := Hid.mk_ (HA10.out.below hb11 HA10.out.lt)
  have HB11 := Hid.mk_ (HB10.out.below hb11 HB10.out.lt)
  have HC11 := Hid.mk_ (HC10.out.below hb11 HC10.out.lt)
  have HD11 := Hid.mk_ (HD10.out.below hb11 HD10.out.lt)
  have HE11 := Hid.mk_ he11
  have b11 := b10.trans (hb11.mono b10.size)
  have o6 := HE11.out.lt
  have z9 := hb9.size
  have z10 := hb10.size
  have z11 := hb11.size
  clear he11 HA10 HB10 HC10 HD10
  go_wp2_with fail
  refine (join0 SC SD.p SD.q gc gd _ HC11 HD11 L1 HL1).mono ?_
  rintro e w12 ⟨rfl, hc12, hg12⟩
  have HA12 := Hid.mk_ (vw_far HA11.out hg12 (by omega))
  have HB12 := Hid.mk_ (vw_far HB11.out hg12 (by omega))
  have HC12 := Hid.mk_ hc12
  have HD12 := Hid.mk_ (vw_far HD11.out hg12 (by omega))
  have HE12 := Hid.mk_ (vw_far HE11.out hg12 (by omega))
  have b12 := below_row b11 hg12 b11.size (by omega)
  have z12 := hg12.size
  clear hc12 HA11 HB11 HC11 HD11 HE11
  go_wp2_with fail
  refine (join0 SD SC.p SC.q gd ge _ HD12 HE12 L2 HL2).mono ?_
  rintro e w13 ⟨rfl, hd13, hg13⟩
  have HA13 := Hid.mk_ (vw_far HA12.out hg13 (by omega))
  have HB13 := Hid.mk_ (vw_far HB12.out hg13 (by omega))
  have HC13 := Hid.mk_ (vw_far HC12.out hg13 (by omega))
  have HD13 := Hid.mk_ hd13
  have HE13 := Hid.mk_ (vw_far HE12.out hg13 (by omega))
  have b13 := below_row b12 hg13 b12.size (by omega)
  clear hd13 HA12 HB12 HC12 HD12 HE12
  have FK := F.out
  have okD1 : Ok (hears SD L2) := ok_hears FK.okD L2
  have okC1 : Ok (hears SC L1) := ok_hears FK.okC L1
  have kC1 : ∀ m : Nat, m < 8 → K (hears SC L1) m = K SA m := fun m hm => by
    have h1 := (hears_K m L1 SC FK.okC).1
    have h2 := mx_ls FK.okD m hm
    rw [HL1.out] at h2
    rw [h1, h2, FK.a]
  have kD1 : ∀ m : Nat, m < 8 → K (hears SD L2) m = K SA m := fun m hm => by
    have h1 := (hears_K m L2 SD FK.okD).1
    have h2 := mx_ls FK.okC m hm
    rw [HL2.out] at h2
    rw [h1, h2, FK.a]
    omega
  have n12 : count SC L1 ≤ cntC (fun k => !((hears SD L2).q k == 0)) 8 := by
    refine Nat.le_trans (count_le _ _) ?_
    have := ls_len SD 8
    rw [HL1.out] at this
    rw [this]
    refine cnt_K FK.okD okD1 fun m => ?_
    have h1 := (hears_K m L2 SD FK.okD).1
    rw [h1]
    omega
  have n34 : count SD L2 ≤ cntC (fun k => !(SC.q k == 0)) 8 := by
    refine Nat.le_trans (count_le _ _) ?_
    have := ls_len SC 8
    rw [HL2.out] at this
    rw [this]
    exact Nat.le_refl _
  have n2 := cnt_le (fun k => !((hears SD L2).q k == 0)) 8
  have n4 := cnt_le (fun k => !(SC.q k == 0)) 8
  generalize hears SC L1 = C1 at HC13 okC1 kC1
  generalize hears SD L2 = D1 at HD13 okD1 kD1 n12 n2
  generalize count SC L1 = x1 at n12
  generalize count SD L2 = x3 at n34
  go_wp2_with fail
  refine (all0 D1.p D1.q gd _ HD13).mono ?_
  rintro e w14 ⟨v14, rfl, h14, hb14⟩
  obtain ⟨A14, c14, rfl⟩ := own_form h14
  clear h14
  generalize cntC (fun k => !(D1.q k == 0)) 8 = x2 at n12 n2
  have HA14 := Hid.mk_ (HA13.out.below hb14 HA13.out.lt)
  have HB14 := Hid.mk_ (HB13.out.below hb14 HB13.out.lt)
  have HC14 := Hid.mk_ (HC13.out.below hb14 HC13.out.lt)
  have HD14 := Hid.mk_ (HD13.out.below hb14 HD13.out.lt)
  have HE14 := Hid.mk_ (HE13.out.below hb14 HE13.out.lt)
  have b14 := b13.trans (hb14.mono b13.size)
  clear hb14 HA13 HB13 HC13 HD13 HE13
  go_wp2_with fail
  refine (all0 SC.p SC.q ge _ HE14).mono ?_
  rintro e w15 ⟨v15, rfl, h15, hb15⟩
  obtain ⟨A15, c15, rfl⟩ := own_form h15
  clear h15
  generalize cntC (fun k => !(SC.q k == 0)) 8 = x4 at n34 n4
  have HA15 := Hid.mk_ (HA14.out.below hb15 HA14.out.lt)
  have HB15 := Hid.mk_ (HB14.out.below hb15 HB14.out.lt)
  have HC15 := Hid.mk_ (HC14.out.below hb15 HC14.out.lt)
  have HD15 := Hid.mk_ (HD14.out.below hb15 HD14.out.lt)
  have HE15 := Hid.mk_ (HE14.out.below hb15 HE14.out.lt)
  have b15 := b14.trans (hb15.mono b14.size)
  clear hb15 HA14 HB14 HC14 HD14 HE14
  go_wp2_with fail
  have h12 : ¬ x2 < x1 := by omega
  have h34 : ¬ x4 < x3 := by omega
  simp only [h12, h34, decide_false, Bool.or_false]
  go_loopw [76] (fun i wr => ∃ j : Nat, j ≤ 8 ∧ i = .int .i64 (j : Int) ∧ Vw wr ga SA.p SA.q ∧ Vw wr gb SB.p SB.q ∧ Vw wr gc C1.p C1.q ∧ Vw wr gd D1.p D1.q ∧ Vw wr ge SC.p SC.q ∧ Below w.heap.size w wr) (fun i _ => 8 - (intOf i).toNat)
  case atStart => exact ⟨0, by omega, rfl, HA15.out, HB15.out, HC15.out, HD15.out, HE15.out, b15⟩
  case round =>
    obtain ⟨j, hj8, rfl, ha, hb, hc, hd, he, b16⟩ := hrel
    have HA16 := Hid.mk_ ha
    have HB16 := Hid.mk_ hb
    have HC16 := Hid.mk_ hc
    have HD16 := Hid.mk_ hd
    have HE16 := Hid.mk_ he
    clear ha hb hc hd he
    by_cases hlt : j < 8
    · have r1 : cmpC (SA.p j) (SA.q j) (SB.p j) (SB.q j) = 0 := (cmp_zero (FK.okA j) (FK.okB j)).2 (FK.b j).symm
      have r2 : cmpC (SA.p j) (SA.q j) (C1.p j) (C1.q j) = 0 := (cmp_zero (FK.okA j) (okC1 j)).2 (kC1 j hlt).symm
      have r3 : cmpC (SA.p j) (SA.q j) (D1.p j) (D1.q j) = 0 := (cmp_zero (FK.okA j) (okD1 j)).2 (kD1 j hlt).symm
      obtain ⟨r, r4, hr⟩ : ∃ r, cmpC (SA.p j) (SA.q j) (SC.p j) (SC.q j) = r ∧ 0 ≤ r := by
        refine ⟨_, rfl, ?_⟩
        have h1 := cmp_neg (FK.okA j) (FK.okC j)
        have h2 := FK.a j
        unfold K at h2
        omega
      have R1 := Hid.mk_ r1
      have R2 := Hid.mk_ r2
      have R3 := Hid.mk_ r3
      have R4 := Hid.mk_ r4
      clear r1 r2 r3 r4
      clear okC1 okD1 kC1 kD1 n12 n34 n2 n4 F HL1 HL2 FK
      clear hl hm hz hc hc' hkl EK k0 k1 k2 hA
      clear hgc hgd hge hga hgb o0 o1 o2 o3 o4 o5 o6 z9 z10 z11 z12 hg12 hg13
      clear b2 b3 b8 b9 b10 b11 b12 b13 b14 b15 HA15 HB15 HC15 HD15 HE15
      go_wp2_with fail
      refine Calls.cells (of_at _ _ ga j hlt _ _ rfl rfl _ HA16.out) ?_
      intro w17 h17 c17
      have HA17 := Hid.mk_ (HA16.out.below h17 HA16.out.lt)
      have HB17 := Hid.mk_ (HB16.out.below h17 HB16.out.lt)
      have HC17 := Hid.mk_ (HC16.out.below h17 HC16.out.lt)
      have HD17 := Hid.mk_ (HD16.out.below h17 HD16.out.lt)
      have HE17 := Hid.mk_ (HE16.out.below h17 HE16.out.lt)
      have b17 := b16.trans (h17.mono b16.size)
      clear HA16 HB16 HC16 HD16 HE16 c17
      go_upto_region 15 with fail
      have hz17 : w17.heap.size < (w17.alloc (.cells #[.int .i64 (j : Int), .int .i64 (SA.p j), .int .i64 (SA.q j)] 45 (0, 0))).heap.size := by simp
      have al : Below w17.heap.size w17 (w17.alloc (.cells #[.int .i64 (j : Int), .int .i64 (SA.p j), .int .i64 (SA.q j)] 45 (0, 0))) := (Below.refl _ _).alloc (Nat.le_refl _) _
      have HA18 := Hid.mk_ (HA17.out.below al HA17.out.lt)
      have HB18 := Hid.mk_ (HB17.out.below al HB17.out.lt)
      have HC18 := Hid.mk_ (HC17.out.below al HC17.out.lt)
      have HD18 := Hid.mk_ (HD17.out.below al HD17.out.lt)
      have HE18 := Hid.mk_ (HE17.out.below al HE17.out.lt)
      have b18 := b17.trans (al.mono b17.size)
      clear al
      refine wp_draws _ (Below.refl _ _) (by kernel_rfl) (by kernel_rfl) (fun hne hN => ?_)
      iterate 7 (go_big_quiet_step (first
        | (go_at_call 24; with_reducible exact After.calls (of_at _ _ gb j hlt _ _ rfl rfl _ (HB18.out.below (After.h _) HB18.out.lt)))
        | (go_at_call 32; with_reducible exact After.calls (compare1 R1.out _))))
      iterate 8 (go_big_quiet_step (first
        | (go_at_call 24; with_reducible exact After.calls (of_at _ _ gc j hlt _ _ rfl rfl _ (HC18.out.below (After.h _) HC18.out.lt)))
        | (go_at_call 32; with_reducible exact After.calls (compare1 R2.out _))))
      iterate 8 (go_big_quiet_step (first
        | (go_at_call 24; with_reducible exact After.calls (of_at _ _ gd j hlt _ _ rfl rfl _ (HD18.out.below (After.h _) HD18.out.lt)))
        | (go_at_call 32; with_reducible exact After.calls (compare1 R3.out _))))
      iterate 7 (go_big_quiet_step (first
        | (go_at_call 24; with_reducible exact After.calls (of_at _ _ ge j hlt _ _ rfl rfl _ (HE18.out.below (After.h _) HE18.out.lt)))
        | (go_at_call 32; with_reducible exact After.calls (compare1 R4.out _))))
      refine wpQuiet_nil (after_cells ?_)
      intro w19 hb19 hc19
      have HA19 := Hid.mk_ (HA18.out.below hb19 HA18.out.lt)
      have HB19 := Hid.mk_ (HB18.out.below hb19 HB18.out.lt)
      have HC19 := Hid.mk_ (HC18.out.below hb19 HC18.out.lt)
      have HD19 := Hid.mk_ (HD18.out.below hb19 HD18.out.lt)
      have HE19 := Hid.mk_ (HE18.out.below hb19 HE18.out.lt)
      have b19 := b18.trans (hb19.mono b18.size)
      clear hc19 HA18 HB18 HC18 HD18 HE18
      go_wp2_with fail
      go_roundw
      case rel => exact ⟨j + 1, by omega, by go_num, HA19.out, HB19.out, HC19.out, HD19.out, HE19.out, b19⟩
      case measure => simp [intOf]; omega
    · obtain rfl : j = 8 := by omega
      obtain ⟨L3, eL3⟩ : ∃ L, lsC D1 8 = L := ⟨_, rfl⟩
      have HL3 := Hid.mk_ eL3
      have c0 : count C1 L3 = 0 := by
        refine count_zero L3 _ okC1 fun cl hcm hgd => ?_
        rw [← eL3] at hcm
        have hg2 := ls_good okD1 hcm
        have hn := (good_iff cl).1 hgd
        have hn8 : cl.n.toNat < 8 := by omega
        rw [hg2.2, kC1 _ hn8, kD1 _ hn8]
        exact Int.le_refl _
      clear eL3
      go_wp2_with fail
      refine (join0 C1 D1.p D1.q gc gd _ HC16 HD16 L3 HL3).mono ?_
      rintro e w17 ⟨he, hc17, hg17⟩
      obtain rfl : e = .returned (.int .i64 0) := by rw [he, c0]; rfl
      have b17 := below_row b16 hg17 b16.size (by omega)
      have HC17 := Hid.mk_ hc17
      have okC2 : Ok (hears C1 L3) := ok_hears okC1 L3
      clear hc17 he
      generalize hears C1 L3 = C2 at HC17 okC2
      obtain ⟨L4, eL4⟩ : ∃ L, lsC C2 8 = L := ⟨_, rfl⟩
      have HL4 := Hid.mk_ eL4
      have c1 : count C2 L4 = 0 := by
        refine count_zero L4 _ okC2 fun cl hcm hgd => ?_
        rw [← eL4] at hcm
        rw [(ls_good okC2 hcm).2]
        exact Int.le_refl _
      clear eL4
      go_wp2_with fail
      refine (join0 C2 C2.p C2.q gc gc _ HC17 HC17 L4 HL4).mono ?_
      rintro e w18 ⟨he, hc18, hg18⟩
      obtain rfl : e = .returned (.int .i64 0) := by rw [he, c1]; rfl
      have b18 := below_row b17 hg18 b17.size (by omega)
      clear hc18 he
      go_wp2_with fail
      refine Calls.cells (awakeB _) ?_
      intro w19 hb19 hc19
      go_wp2_with fail
      go_ret
      exact ⟨rfl, b18.trans (hb19.mono b18.size)⟩
def sh0 : Sh := shC
def sh1 : Sh := shC
theorem rd_nil {w : World} {A : Option Addr} {n c : Nat} (h : RD w (.slice shC) [.slice A n c]) : A = none → c = 0 := by
  rintro rfl
  rcases h with h | ⟨a, len, cap, h, _⟩
  · simp only [List.cons.injEq, Value.slice.injEq, and_true] at h
    exact h.2.2
  · simp at h
theorem walk (w : World) (A : Option Addr) (n c : Nat) (h : RD w (.slice sh0) [.slice A n c]) (z : n * 24 ≤ 140737488351232) (A' : Option Addr) (n' c' : Nat) (h' : RD w (.slice sh1) [.slice A' n' c']) (z' : n' * 24 ≤ 140737488351232) (m : Int) (hm : (Lit.int .i64 m).wf = true) :
    Calls Try.prog 10 #[.slice A n c, .slice A' n' c', .int .i64 m] w fun e w' => e = .returned (.bool true) ∧ Below w.heap.size w w' := by
  obtain ⟨ls, rfl, hl, hnc, hc⟩ := rd_claims h
  obtain ⟨ms, rfl, hm, _, hc'⟩ := rd_claims h'
  by_cases hz : 80 < ls.length + ms.length
  · exact long A A' _ c _ c' m w (by omega) (by omega) hz
  · exact short A A' ls ms c c' m w (Hid.mk_ hl) (Hid.mk_ hm) (by omega) hnc (by unfold maxLen at hc; omega) (rd_nil h)
end Go.Proofs.Ythobimdnjggkfaa.WBeliefJoins
