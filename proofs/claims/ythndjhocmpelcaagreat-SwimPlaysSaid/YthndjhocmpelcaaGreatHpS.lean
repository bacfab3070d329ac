/- Chapter 5: the document's own clock: At; one that is taken out. Conditions: the rows lie in memory. -/
import Derived.Test.YthndjhocmpelcaaGreatHpR
import Derived.Test.YthndjhocmpelcaaGreatWLast
namespace Go.Proofs.YthndjhocmpelcaaGreat.Wat
open Go.RowKit Kit Ints Go.Proofs.YthndjhocmpelcaaGreatW.PrintLast
set_option linter.unusedVariables false
theorem keepC {z : Nat} {w0 w1 : World} {g : Nat} {v : Value} (b1 : Below z w0 w1) (h : w0.cell? ⟨g, 0, none⟩ = some v) (hg : g < z) : w1.cell? ⟨g, 0, none⟩ = some v :=
  (b1.cell (p := ⟨g, 0, none⟩) hg).trans h
theorem keepF {z : Nat} {w0 w1 : World} {g : Nat} (b1 : Below z w0 w1) (h : w0.frozen? ⟨g, 0, none⟩ = false) (hg : g < z) : w1.frozen? ⟨g, 0, none⟩ = false :=
  (b1.frozen (p := ⟨g, 0, none⟩) hg).trans h
theorem MRow.keepZ {w w' : World} {b off z : Nat} {L : List Mom} (h : MRow w (some ⟨b, off, none⟩) L) (hb : Below z w w') (hz : b < z) : MRow w' (some ⟨b, off, none⟩) L := h.keep fun b' off' e _ => hb.block b' (by
  injection e with e; injection e with e1 e2; omega)
theorem OwnR.form2 {w : World} {base : Nat} {v : Value} {hs : List Mom} (h : OwnR w base v hs) : ∃ A n c, v = .slice A n c := by
  obtain ⟨A, c, e, _⟩ := h.form
  exact ⟨A, _, c, e⟩
theorem MRowE {L : List Mom} (w : World) {A : Option Addr} (h : L.length = 0) : MRow w A L := by
  obtain rfl := List.eq_nil_of_length_eq_zero h
  exact MRow.nil _ _
theorem find_first : ∀ (L : List Mom) (id : Int) (k : Nat) (m : Mom), L[k]? = some m → m.id = id → (∀ j, j < k → (fn L j).id ≠ id) → atL id L = some m.at_ ∧ has id L = true
  | [], _, _, _, h, _, _ => by cases h
  | a :: l, id, 0, m, h, e, _ => by
    obtain rfl : a = m := by simpa using h
    simp [atL, has, e]
  | a :: l, id, k + 1, m, h, e, hA => by
    have h0 : a.id ≠ id := hA 0 (by omega)
    obtain ⟨i1, i2⟩ := find_first l id k m (by simpa using h) e (fun j hj => hA (j + 1) (by omega))
    refine ⟨?_, ?_⟩
    · unfold atL at i1 ⊢
      rw [List.find?_cons_of_neg (by simpa using h0)]
      exact i1
    · unfold has at i2 ⊢
      simp [i2]
theorem without_at : ∀ (L : List Mom) (id : Int) (k : Nat) (m : Mom), (L.map Mom.id).Nodup → L[k]? = some m → m.id = id → without id L = L.take k ++ L.drop (k + 1)
  | [], _, _, _, _, h, _ => by cases h
  | a :: l, id, 0, m, hd, h, e => by
    obtain rfl : a = m := by simpa using h
    rw [List.map_cons, List.nodup_cons] at hd
    unfold without
    rw [List.filter_cons_of_neg (by simpa using e)]
    exact List.filter_eq_self.2 (fun x hx => decide_eq_true (fun e2 => hd.1 (List.mem_map.2 ⟨x, hx, by rw [e2, e]⟩)))
  | a :: l, id, k + 1, m, hd, h, e => by
    rw [List.map_cons, List.nodup_cons] at hd
    have h : l[k]? = some m := by simpa using h
    have h0 : a.id ≠ id := fun e2 => hd.1 (List.mem_map.2 ⟨m, List.mem_of_getElem? h, by rw [e, e2]⟩)
    have ih := without_at l id k m hd.2 h e
    unfold without at ih ⊢
    rw [List.filter_cons_of_pos (by simpa using h0), ih]
    rfl
theorem find_no (L : List Mom) (id : Int) (h : ∀ j, j < L.length → (fn L j).id ≠ id) : ∀ m ∈ L, m.id ≠ id := fun m hm => by
  obtain ⟨j, hj, rfl⟩ := List.getElem_of_mem hm
  have := h j hj
  rwa [fn_eq hj] at this
set_option maxRecDepth 100000 in
set_option maxHeartbeats 4000000 in
theorem rwithout (w : World) (g : Nat) (A : Option Addr) (L : List Mom) (id : Int) (h : Hid (Ref w g A L)) (hst : Hid (St L)) (q : Bool) (hq : Hid (q = has id L)) (M : List Mom) (hM : Hid (M = without id L)) :
    Calls Tryz.prog 68 #[.pointer (some ⟨g, 0, none⟩), .int .i64 id] w fun e w' => e = .returned (.bool q) ∧ Hid (RTurn w w' g A M) := by
  obtain ⟨n, c, h1⟩ := h.out
  have hcell := h1.cell
  have hn := Hid.mk_ h1.len
  have hn2 : n ≤ 1000 := by have := h1.len; have := hst.out.len; omega
  obtain ⟨hc1, hc2⟩ := h1.cap
  have RS := Hid.mk_ h1
  have hgz := Hid.mk_ h1.lt
  clear h1
  go_enter Tryz.func68, Tryz.ntmps68
  go_wp2_with fail
  go_loopw [12] (fun i wr => ∃ k : Nat, i = .int .i64 (k : Int) ∧ k ≤ n ∧ Hid (∀ j, j < k → (fn L j).id ≠ id) ∧ Hid (Below w.heap.size w wr)) (fun i _ => n - (intOf i).toNat)
  case atStart => exact ⟨0, rfl, by omega, Hid.mk_ (fun j hj => absurd hj (Nat.not_lt_zero _)), Hid.mk_ (Below.refl _ _)⟩
  case round =>
    obtain ⟨k, rfl, hk, HA, BW⟩ := hrel
    by_cases hlt : k < n
    · obtain ⟨m, hm⟩ : ∃ m, L[k]? = some m := ⟨_, List.getElem?_eq_getElem (by have := hn.out; omega)⟩
      obtain ⟨b, off, rfl, c0, c1⟩ := (RS.out.row.below BW.out) k m hm
      have HM := Hid.mk_ hm
      clear hm
      have l1 : (k : Int) < (n : Int) := by omega
      have l0 : (0 : Int) ≤ (k : Int) := by omega
      go_upto_region 4 with fail
      have x0 : (wr.alloc (.cells #[.int .i64 m.id, .int .i64 m.at_] 130)).cell? ⟨wr.heap.size, 0, none⟩ = some (.int .i64 m.id) := by rw [World.cell?_alloc_new]; rfl
      have B3 := Hid.mk_ (BW.out.alloc BW.out.size (.cells #[.int .i64 m.id, .int .i64 m.at_] 130))
      clear c0 c1 BW
      generalize wr.alloc (.cells #[.int .i64 m.id, .int .i64 m.at_] 130) = wx at *
      by_cases hi : m.id = id
      · have hib : (m.id == id) = true := by simp [hi]
        obtain ⟨f1, f2⟩ := find_first L id k m HM.out hi HA.out
        have eq : q = true := by rw [hq.out, f2]
        have HW := Hid.mk_ (hM.out.trans (without_at L id k m hst.out.nodup HM.out hi))
        subst eq
        clear hq f1 f2 hi
        go_upto_region 5 with fail
        have BW := B3
        have RW := Hid.mk_ (RS.out.wr (Wr.of_below BW.out (fun _ => False)) (fun _ _ h => h))
        have hcell := RW.out.cell
        have hbz : Hid (b < w.heap.size) := Hid.mk_ (RS.out.its b (.inr ⟨off, rfl⟩)).2
        have HT1 : Hid (k = (L.take k).length) := Hid.mk_ (by have := hn.out; simp; omega)
        have HT2 : Hid (n - (k + 1) = (L.drop (k + 1)).length) := Hid.mk_ (by have := hn.out; simp; omega)
        have k1 : (0 : Int) ≤ (k : Int) + 1 := by omega
        have k2 : (k : Int) + 1 ≤ (n : Int) := by omega
        have k3 : (k : Int) ≤ (c : Int) := by omega
        have k4 : ((k : Int) + 1).toNat = k + 1 := by omega
        by_cases hck : c = k + 1
        · subst hck
          have k5 : (k : Int) ≤ (k : Int) + 1 := by omega
          have kw : IntKind.i64.wrap ((k : Int) + 1) = (k : Int) + 1 := IntWalk.i64_in _ (by omega)
          refine wp_region_last_drew (S := fun w' => w'.cell? ⟨g, 0, none⟩ = some (.slice (some ⟨b, off, none⟩) n (k + 1))) (ds := [18]) (by kernel_rfl) hcell (fun hHeld => ?_)
          refine' wpAnyLast_take (i := 0) (oi := _) (v := _) ?hi0a (by kernel_rfl) (by kernel_rfl) (by kernel_rfl) (by kernel_rfl) (by kernel_rfl) ?hQ0a (Or.inl ⟨?hw0a, ?hy0a⟩) (by assumption) ?rest0a
          case hi0a => exact (by simp only [List.getElem?_toArray, List.getElem?_cons_zero]; rfl)
          case hQ0a => exact fun _ _ _ h => h
          case hw0a => rfl
          case hy0a =>
            intro w hSw
            try dsimp only at hSw
            go_simp
            all_goals with_reducible rfl
          try simp only [Act.put, List.setIfInBounds_toArray, List.set_cons_zero, List.set_cons_succ]
          refine' wpAnyLast_take (i := 1) (oi := _) (v := _) ?hi1a (by kernel_rfl) (by kernel_rfl) (by kernel_rfl) (by kernel_rfl) (by kernel_rfl) ?hQ1a (Or.inl ⟨?hw1a, ?hy1a⟩) (by assumption) ?rest1a
          case hi1a => exact (by simp only [List.getElem?_toArray, List.getElem?_cons_zero, List.getElem?_cons_succ]; rfl)
          case hQ1a => exact fun _ _ _ h => h
          case hw1a => rfl
          case hy1a =>
            intro w hSw
            try dsimp only at hSw
            go_simp
            all_goals with_reducible rfl
          try simp only [Act.put, List.setIfInBounds_toArray, List.set_cons_zero, List.set_cons_succ]
          refine' wpAnyLast_take (i := 2) (oi := _) (v := _) ?hi2a (by kernel_rfl) (by kernel_rfl) (by kernel_rfl) (by kernel_rfl) (by kernel_rfl) ?hQ2a (Or.inl ⟨?hw2a, ?hy2a⟩) (by assumption) ?rest2a
          case hi2a => exact (by simp only [List.getElem?_toArray, List.getElem?_cons_zero, List.getElem?_cons_succ]; rfl)
          case hQ2a => exact fun _ _ _ h => h
          case hw2a => rfl
          case hy2a =>
            intro w hSw
            try dsimp only at hSw
            go_simp
            all_goals with_reducible rfl
          try simp only [Act.put, List.setIfInBounds_toArray, List.set_cons_zero, List.set_cons_succ]
          refine' wpAnyLast_take (i := 3) (oi := _) (v := _) ?hi3a (by kernel_rfl) (by kernel_rfl) (by kernel_rfl) (by kernel_rfl) (by kernel_rfl) ?hQ3a (Or.inl ⟨?hw3a, ?hy3a⟩) (by assumption) ?rest3a
          case hi3a => exact (by simp only [List.getElem?_toArray, List.getElem?_cons_zero, List.getElem?_cons_succ]; rfl)
          case hQ3a => exact fun _ _ _ h => h
          case hw3a => rfl
          case hy3a =>
            intro w hSw
            try dsimp only at hSw
            go_simp
            all_goals with_reducible rfl
          try simp only [Act.put, List.setIfInBounds_toArray, List.set_cons_zero, List.set_cons_succ]
          refine' wpAnyLast_take (i := 4) (oi := _) (v := _) ?hi4a (by kernel_rfl) (by kernel_rfl) (by kernel_rfl) (by kernel_rfl) (by kernel_rfl) ?hQ4a (Or.inl ⟨?hw4a, ?hy4a⟩) (by assumption) ?rest4a
          case hi4a => exact (by simp only [List.getElem?_toArray, List.getElem?_cons_zero, List.getElem?_cons_succ]; rfl)
          case hQ4a => exact fun _ _ _ h => h
          case hw4a => rfl
          case hy4a =>
            intro w hSw
            try dsimp only at hSw
            go_simp
            all_goals with_reducible rfl
          try simp only [Act.put, List.setIfInBounds_toArray, List.set_cons_zero, List.set_cons_succ]
          refine' wpAnyLast_take (i := 5) (oi := _) (v := _) ?hi5a (by kernel_rfl) (by kernel_rfl) (by kernel_rfl) (by kernel_rfl) (by kernel_rfl) ?hQ5a (Or.inl ⟨?hw5a, ?hy5a⟩) (by assumption) ?rest5a
          case hi5a => exact (by simp only [List.getElem?_toArray, List.getElem?_cons_zero, List.getElem?_cons_succ]; rfl)
          case hQ5a => exact fun _ _ _ h => h
          case hw5a => rfl
          case hy5a =>
            intro w hSw
            try dsimp only at hSw
            go_simp
            all_goals with_reducible rfl
          try simp only [Act.put, List.setIfInBounds_toArray, List.set_cons_zero, List.set_cons_succ]
          refine' wpAnyLast_take (i := 6) (oi := _) (v := _) ?hi6a (by kernel_rfl) (by kernel_rfl) (by kernel_rfl) (by kernel_rfl) (by kernel_rfl) ?hQ6a (Or.inl ⟨?hw6a, ?hy6a⟩) (by assumption) ?rest6a
          case hi6a => exact (by simp only [List.getElem?_toArray, List.getElem?_cons_zero, List.getElem?_cons_succ]; rfl)
          case hQ6a => exact fun _ _ _ h => h
          case hw6a => rfl
          case hy6a =>
            intro w hSw
            try dsimp only at hSw
            go_simp
            all_goals with_reducible rfl
          try simp only [Act.put, List.setIfInBounds_toArray, List.set_cons_zero, List.set_cons_succ]
          refine' wpAnyLast_take (i := 8) (oi := _) (v := _) ?hi8a (by kernel_rfl) (by kernel_rfl) (by kernel_rfl) (by kernel_rfl) (by kernel_rfl) ?hQ8a (Or.inl ⟨?hw8a, ?hy8a⟩) (by assumption) ?rest8a
          case hi8a => exact (by simp only [List.getElem?_toArray, List.getElem?_cons_zero, List.getElem?_cons_succ]; rfl)
          case hQ8a => exact fun _ _ _ h => h
          case hw8a => rfl
          case hy8a =>
            intro w hSw
            try dsimp only at hSw
            go_simp
            all_goals with_reducible rfl
          try simp only [Act.put, List.setIfInBounds_toArray, List.set_cons_zero, List.set_cons_succ]
          refine' wpAnyLast_take (i := 9) (oi := _) (v := _) ?hi9a (by kernel_rfl) (by kernel_rfl) (by kernel_rfl) (by kernel_rfl) (by kernel_rfl) ?hQ9a (Or.inl ⟨?hw9a, ?hy9a⟩) (by assumption) ?rest9a
          case hi9a => exact (by simp only [List.getElem?_toArray, List.getElem?_cons_zero, List.getElem?_cons_succ]; rfl)
          case hQ9a => exact fun _ _ _ h => h
          case hw9a => rfl
          case hy9a =>
            intro w hSw
            try dsimp only at hSw
            go_simp
            all_goals with_reducible rfl
          try simp only [Act.put, List.setIfInBounds_toArray, List.set_cons_zero, List.set_cons_succ]
          refine' wpAnyLast_take (i := 10) (oi := _) (v := _) ?hi10a (by kernel_rfl) (by kernel_rfl) (by kernel_rfl) (by kernel_rfl) (by kernel_rfl) ?hQ10a (Or.inl ⟨?hw10a, ?hy10a⟩) (by assumption) ?rest10a
          case hi10a => exact (by simp only [List.getElem?_toArray, List.getElem?_cons_zero, List.getElem?_cons_succ]; rfl)
          case hQ10a => exact fun _ _ _ h => h
          case hw10a => rfl
          case hy10a =>
            intro w hSw
            try dsimp only at hSw
            go_simp
            all_goals with_reducible rfl
          try simp only [Act.put, List.setIfInBounds_toArray, List.set_cons_zero, List.set_cons_succ]
          refine' wpAnyLast_take (i := 11) (oi := _) (v := _) ?hi11a (by kernel_rfl) (by kernel_rfl) (by kernel_rfl) (by kernel_rfl) (by kernel_rfl) ?hQ11a (Or.inl ⟨?hw11a, ?hy11a⟩) (by assumption) ?rest11a
          case hi11a => exact (by simp only [List.getElem?_toArray, List.getElem?_cons_zero, List.getElem?_cons_succ]; rfl)
          case hQ11a => exact fun _ _ _ h => h
          case hw11a => rfl
          case hy11a =>
            intro w hSw
            try dsimp only at hSw
            go_simp
            all_goals with_reducible rfl
          try simp only [Act.put, List.setIfInBounds_toArray, List.set_cons_zero, List.set_cons_succ]
          refine' wpAnyLast_take (i := 12) (oi := _) (v := _) ?hi12a (by kernel_rfl) (by kernel_rfl) (by kernel_rfl) (by kernel_rfl) (by kernel_rfl) ?hQ12a (Or.inl ⟨?hw12a, ?hy12a⟩) (by assumption) ?rest12a
          case hi12a => exact (by simp only [List.getElem?_toArray, List.getElem?_cons_zero, List.getElem?_cons_succ]; rfl)
          case hQ12a => exact fun _ _ _ h => h
          case hw12a => rfl
          case hy12a =>
            intro w hSw
            try dsimp only at hSw
            go_simp
            all_goals with_reducible rfl
          try simp only [Act.put, List.setIfInBounds_toArray, List.set_cons_zero, List.set_cons_succ]
          refine' wpAnyLast_take (i := 13) (oi := _) (v := _) ?hi13a (by kernel_rfl) (by kernel_rfl) (by kernel_rfl) (by kernel_rfl) (by kernel_rfl) ?hQ13a (Or.inl ⟨?hw13a, ?hy13a⟩) (by assumption) ?rest13a
          case hi13a => exact (by simp only [List.getElem?_toArray, List.getElem?_cons_zero, List.getElem?_cons_succ]; rfl)
          case hQ13a => exact fun _ _ _ h => h
          case hw13a => rfl
          case hy13a =>
            intro w hSw
            try dsimp only at hSw
            go_simp
            all_goals with_reducible rfl
          try simp only [Act.put, List.setIfInBounds_toArray, List.set_cons_zero, List.set_cons_succ]
          refine' wpAnyLast_take (i := 14) (oi := _) (v := _) ?hi14a (by kernel_rfl) (by kernel_rfl) (by kernel_rfl) (by kernel_rfl) (by kernel_rfl) ?hQ14a (Or.inl ⟨?hw14a, ?hy14a⟩) (by assumption) ?rest14a
          case hi14a => exact (by simp only [List.getElem?_toArray, List.getElem?_cons_zero, List.getElem?_cons_succ]; rfl)
          case hQ14a => exact fun _ _ _ h => h
          case hw14a => rfl
          case hy14a =>
            intro w hSw
            try dsimp only at hSw
            go_simp
            all_goals with_reducible rfl
          try simp only [Act.put, List.setIfInBounds_toArray, List.set_cons_zero, List.set_cons_succ]
          refine wpAnyLast_ready (rs := [7]) (by kernel_rfl) (by simp) ?_
          refine AllReadyL.cons (by simp only [List.getElem?_toArray, List.getElem?_cons_zero, List.getElem?_cons_succ]; rfl) (by simp) (fun K hK => ?_) AllReadyL.nil
          refine step_appR _ (by rfl) _ _ (by rfl) w.heap.size _ [] (by rfl) (OwnR.nil _ _) (some ⟨b, off, none⟩) (L.take k) k (k + 1) (by rfl) HT1.out (by exact (RW.out.row.below (Below.refl _ _).drew).take k) (by have := HT1.out; simp; omega) (by exact BW.out.size) ?_
          intro v1 w1 own1 b1
          refine hK.out _ _ (keepC b1 (by exact hcell) hgz.out) (fun hHeld => ?_)
          clear hK K
          try simp only [Act.put, List.setIfInBounds_toArray, List.set_cons_zero, List.set_cons_succ]
          refine wpAnyLast_ready (rs := [15]) (by kernel_rfl) (by simp) ?_
          refine AllReadyL.cons (by simp only [List.getElem?_toArray, List.getElem?_cons_zero, List.getElem?_cons_succ]; rfl) (by simp) (fun K hK => ?_) AllReadyL.nil
          refine step_appR _ (by rfl) _ _ (by rfl) w.heap.size _ _ (by rfl) own1 (some ⟨b, off, none⟩) (L.drop (k + 1)) _ _ (by rfl) (by first | exact HT2.out | (have := HT2.out; omega)) (by exact (MRowE _ (by have := HT2.out; omega))) (by have := HT1.out; have := HT2.out; simp at *; omega) (by have := b1.size; have := BW.out.size; exact Nat.le_trans BW.out.size b1.size) ?_
          intro v2 w2 own2 b2
          refine hK.out _ _ (keepC b2 (keepC b1 (by exact hcell) hgz.out) hgz.out) (fun hHeld => ?_)
          clear hK K
          try simp only [Act.put, List.setIfInBounds_toArray, List.set_cons_zero, List.set_cons_succ]
          refine' wpAnyLast_take (i := 16) (oi := _) (v := _) ?hi16a (by kernel_rfl) (by kernel_rfl) (by kernel_rfl) (by kernel_rfl) (by kernel_rfl) ?hQ16a (Or.inl ⟨?hw16a, ?hy16a⟩) (by assumption) ?rest16a
          case hi16a => exact (by simp only [List.getElem?_toArray, List.getElem?_cons_zero, List.getElem?_cons_succ]; rfl)
          case hQ16a => exact fun _ _ _ h => h
          case hw16a => rfl
          case hy16a =>
            intro w hSw
            try dsimp only at hSw
            go_simp
            all_goals with_reducible rfl
          try simp only [Act.put, List.setIfInBounds_toArray, List.set_cons_zero, List.set_cons_succ]
          refine' wpAnyLast_take (i := 17) (oi := _) (v := _) ?hi17a (by kernel_rfl) (by kernel_rfl) (by kernel_rfl) (by kernel_rfl) (by kernel_rfl) ?hQ17a (Or.inl ⟨?hw17a, ?hy17a⟩) (by assumption) ?rest17a
          case hi17a => exact (by simp only [List.getElem?_toArray, List.getElem?_cons_zero, List.getElem?_cons_succ]; rfl)
          case hQ17a => exact fun _ _ _ h => h
          case hw17a => rfl
          case hy17a =>
            intro w hSw
            try dsimp only at hSw
            go_simp
            all_goals with_reducible rfl
          try simp only [Act.put, List.setIfInBounds_toArray, List.set_cons_zero, List.set_cons_succ]
          obtain ⟨A2, m2, z2, rfl⟩ := own2.form2
          have c2 := keepC b2 (keepC b1 (by exact hcell) hgz.out) hgz.out
          have f2 := keepF b2 (keepF b1 (by exact RW.out.fr) hgz.out) hgz.out
          refine wpAnyLast_ready (rs := [18]) (by kernel_rfl) (by simp) ?_
          refine AllReadyL.cons_last (by simp only [List.getElem?_toArray, List.getElem?_cons_zero, List.getElem?_cons_succ]; rfl) (by simp) (fun K hK => ?_) AllReadyL.nil
          go_simp
          refine hK.out _ _ ?_
          clear hK K
          try simp only [Act.put, List.setIfInBounds_toArray, List.set_cons_zero, List.set_cons_succ]
          refine wpAnyLast_done (by kernel_rfl) ?_ _
          go_wp2_with fail
          go_ret
          exact ⟨rfl, Hid.mk_ (by rw [HW.out]; exact RTurn.put c2 f2 own2 hgz.out ((BW.out.drew.trans b1).trans b2))⟩
        · have hck2 : ¬ (c = k + 1) := hck
          have kw : IntKind.i64.wrap ((k : Int) + 1) = (k : Int) + 1 := IntWalk.i64_in _ (by omega)
          refine wp_region_last_drew (S := fun w' => w'.cell? ⟨g, 0, none⟩ = some (.slice (some ⟨b, off, none⟩) n c)) (ds := [18]) (by kernel_rfl) hcell (fun hHeld => ?_)
          refine' wpAnyLast_take (i := 0) (oi := _) (v := _) ?hi0b (by kernel_rfl) (by kernel_rfl) (by kernel_rfl) (by kernel_rfl) (by kernel_rfl) ?hQ0b (Or.inl ⟨?hw0b, ?hy0b⟩) (by assumption) ?rest0b
          case hi0b => exact (by simp only [List.getElem?_toArray, List.getElem?_cons_zero]; rfl)
          case hQ0b => exact fun _ _ _ h => h
          case hw0b => rfl
          case hy0b =>
            intro w hSw
            try dsimp only at hSw
            go_simp
            all_goals with_reducible rfl
          try simp only [Act.put, List.setIfInBounds_toArray, List.set_cons_zero, List.set_cons_succ]
          refine' wpAnyLast_take (i := 1) (oi := _) (v := _) ?hi1b (by kernel_rfl) (by kernel_rfl) (by kernel_rfl) (by kernel_rfl) (by kernel_rfl) ?hQ1b (Or.inl ⟨?hw1b, ?hy1b⟩) (by assumption) ?rest1b
          case hi1b => exact (by simp only [List.getElem?_toArray, List.getElem?_cons_zero, List.getElem?_cons_succ]; rfl)
          case hQ1b => exact fun _ _ _ h => h
          case hw1b => rfl
          case hy1b =>
            intro w hSw
            try dsimp only at hSw
            go_simp
            all_goals with_reducible rfl
          try simp only [Act.put, List.setIfInBounds_toArray, List.set_cons_zero, List.set_cons_succ]
          refine' wpAnyLast_take (i := 2) (oi := _) (v := _) ?hi2b (by kernel_rfl) (by kernel_rfl) (by kernel_rfl) (by kernel_rfl) (by kernel_rfl) ?hQ2b (Or.inl ⟨?hw2b, ?hy2b⟩) (by assumption) ?rest2b
          case hi2b => exact (by simp only [List.getElem?_toArray, List.getElem?_cons_zero, List.getElem?_cons_succ]; rfl)
          case hQ2b => exact fun _ _ _ h => h
          case hw2b => rfl
          case hy2b =>
            intro w hSw
            try dsimp only at hSw
            go_simp
            all_goals with_reducible rfl
          try simp only [Act.put, List.setIfInBounds_toArray, List.set_cons_zero, List.set_cons_succ]
          refine' wpAnyLast_take (i := 3) (oi := _) (v := _) ?hi3b (by kernel_rfl) (by kernel_rfl) (by kernel_rfl) (by kernel_rfl) (by kernel_rfl) ?hQ3b (Or.inl ⟨?hw3b, ?hy3b⟩) (by assumption) ?rest3b
          case hi3b => exact (by simp only [List.getElem?_toArray, List.getElem?_cons_zero, List.getElem?_cons_succ]; rfl)
          case hQ3b => exact fun _ _ _ h => h
          case hw3b => rfl
          case hy3b =>
            intro w hSw
            try dsimp only at hSw
            go_simp
            all_goals with_reducible rfl
          try simp only [Act.put, List.setIfInBounds_toArray, List.set_cons_zero, List.set_cons_succ]
          refine' wpAnyLast_take (i := 4) (oi := _) (v := _) ?hi4b (by kernel_rfl) (by kernel_rfl) (by kernel_rfl) (by kernel_rfl) (by kernel_rfl) ?hQ4b (Or.inl ⟨?hw4b, ?hy4b⟩) (by assumption) ?rest4b
          case hi4b => exact (by simp only [List.getElem?_toArray, List.getElem?_cons_zero, List.getElem?_cons_succ]; rfl)
          case hQ4b => exact fun _ _ _ h => h
          case hw4b => rfl
          case hy4b =>
            intro w hSw
            try dsimp only at hSw
            go_simp
            all_goals with_reducible rfl
          try simp only [Act.put, List.setIfInBounds_toArray, List.set_cons_zero, List.set_cons_succ]
          refine' wpAnyLast_take (i := 5) (oi := _) (v := _) ?hi5b (by kernel_rfl) (by kernel_rfl) (by kernel_rfl) (by kernel_rfl) (by kernel_rfl) ?hQ5b (Or.inl ⟨?hw5b, ?hy5b⟩) (by assumption) ?rest5b
          case hi5b => exact (by simp only [List.getElem?_toArray, List.getElem?_cons_zero, List.getElem?_cons_succ]; rfl)
          case hQ5b => exact fun _ _ _ h => h
          case hw5b => rfl
          case hy5b =>
            intro w hSw
            try dsimp only at hSw
            go_simp
            all_goals with_reducible rfl
          try simp only [Act.put, List.setIfInBounds_toArray, List.set_cons_zero, List.set_cons_succ]
          refine' wpAnyLast_take (i := 6) (oi := _) (v := _) ?hi6b (by kernel_rfl) (by kernel_rfl) (by kernel_rfl) (by kernel_rfl) (by kernel_rfl) ?hQ6b (Or.inl ⟨?hw6b, ?hy6b⟩) (by assumption) ?rest6b
          case hi6b => exact (by simp only [List.getElem?_toArray, List.getElem?_cons_zero, List.getElem?_cons_succ]; rfl)
          case hQ6b => exact fun _ _ _ h => h
          case hw6b => rfl
          case hy6b =>
            intro w hSw
            try dsimp only at hSw
            go_simp
            all_goals with_reducible rfl
          try simp only [Act.put, List.setIfInBounds_toArray, List.set_cons_zero, List.set_cons_succ]
          refine' wpAnyLast_take (i := 8) (oi := _) (v := _) ?hi8b (by kernel_rfl) (by kernel_rfl) (by kernel_rfl) (by kernel_rfl) (by kernel_rfl) ?hQ8b (Or.inl ⟨?hw8b, ?hy8b⟩) (by assumption) ?rest8b
          case hi8b => exact (by simp only [List.getElem?_toArray, List.getElem?_cons_zero, List.getElem?_cons_succ]; rfl)
          case hQ8b => exact fun _ _ _ h => h
          case hw8b => rfl
          case hy8b =>
            intro w hSw
            try dsimp only at hSw
            go_simp
            all_goals with_reducible rfl
          try simp only [Act.put, List.setIfInBounds_toArray, List.set_cons_zero, List.set_cons_succ]
          refine' wpAnyLast_take (i := 9) (oi := _) (v := _) ?hi9b (by kernel_rfl) (by kernel_rfl) (by kernel_rfl) (by kernel_rfl) (by kernel_rfl) ?hQ9b (Or.inl ⟨?hw9b, ?hy9b⟩) (by assumption) ?rest9b
          case hi9b => exact (by simp only [List.getElem?_toArray, List.getElem?_cons_zero, List.getElem?_cons_succ]; rfl)
          case hQ9b => exact fun _ _ _ h => h
          case hw9b => rfl
          case hy9b =>
            intro w hSw
            try dsimp only at hSw
            go_simp
            all_goals with_reducible rfl
          try simp only [Act.put, List.setIfInBounds_toArray, List.set_cons_zero, List.set_cons_succ]
          refine' wpAnyLast_take (i := 10) (oi := _) (v := _) ?hi10b (by kernel_rfl) (by kernel_rfl) (by kernel_rfl) (by kernel_rfl) (by kernel_rfl) ?hQ10b (Or.inl ⟨?hw10b, ?hy10b⟩) (by assumption) ?rest10b
          case hi10b => exact (by simp only [List.getElem?_toArray, List.getElem?_cons_zero, List.getElem?_cons_succ]; rfl)
          case hQ10b => exact fun _ _ _ h => h
          case hw10b => rfl
          case hy10b =>
            intro w hSw
            try dsimp only at hSw
            go_simp
            all_goals with_reducible rfl
          try simp only [Act.put, List.setIfInBounds_toArray, List.set_cons_zero, List.set_cons_succ]
          refine' wpAnyLast_take (i := 11) (oi := _) (v := _) ?hi11b (by kernel_rfl) (by kernel_rfl) (by kernel_rfl) (by kernel_rfl) (by kernel_rfl) ?hQ11b (Or.inl ⟨?hw11b, ?hy11b⟩) (by assumption) ?rest11b
          case hi11b => exact (by simp only [List.getElem?_toArray, List.getElem?_cons_zero, List.getElem?_cons_succ]; rfl)
          case hQ11b => exact fun _ _ _ h => h
          case hw11b => rfl
          case hy11b =>
            intro w hSw
            try dsimp only at hSw
            go_simp
            all_goals with_reducible rfl
          try simp only [Act.put, List.setIfInBounds_toArray, List.set_cons_zero, List.set_cons_succ]
          refine' wpAnyLast_take (i := 12) (oi := _) (v := _) ?hi12b (by kernel_rfl) (by kernel_rfl) (by kernel_rfl) (by kernel_rfl) (by kernel_rfl) ?hQ12b (Or.inl ⟨?hw12b, ?hy12b⟩) (by assumption) ?rest12b
          case hi12b => exact (by simp only [List.getElem?_toArray, List.getElem?_cons_zero, List.getElem?_cons_succ]; rfl)
          case hQ12b => exact fun _ _ _ h => h
          case hw12b => rfl
          case hy12b =>
            intro w hSw
            try dsimp only at hSw
            go_simp
            all_goals with_reducible rfl
          try simp only [Act.put, List.setIfInBounds_toArray, List.set_cons_zero, List.set_cons_succ]
          refine' wpAnyLast_take (i := 13) (oi := _) (v := _) ?hi13b (by kernel_rfl) (by kernel_rfl) (by kernel_rfl) (by kernel_rfl) (by kernel_rfl) ?hQ13b (Or.inl ⟨?hw13b, ?hy13b⟩) (by assumption) ?rest13b
          case hi13b => exact (by simp only [List.getElem?_toArray, List.getElem?_cons_zero, List.getElem?_cons_succ]; rfl)
          case hQ13b => exact fun _ _ _ h => h
          case hw13b => rfl
          case hy13b =>
            intro w hSw
            try dsimp only at hSw
            go_simp
            all_goals with_reducible rfl
          try simp only [Act.put, List.setIfInBounds_toArray, List.set_cons_zero, List.set_cons_succ]
          refine' wpAnyLast_take (i := 14) (oi := _) (v := _) ?hi14b (by kernel_rfl) (by kernel_rfl) (by kernel_rfl) (by kernel_rfl) (by kernel_rfl) ?hQ14b (Or.inl ⟨?hw14b, ?hy14b⟩) (by assumption) ?rest14b
          case hi14b => exact (by simp only [List.getElem?_toArray, List.getElem?_cons_zero, List.getElem?_cons_succ]; rfl)
          case hQ14b => exact fun _ _ _ h => h
          case hw14b => rfl
          case hy14b =>
            intro w hSw
            try dsimp only at hSw
            go_simp
            all_goals with_reducible rfl
          try simp only [Act.put, List.setIfInBounds_toArray, List.set_cons_zero, List.set_cons_succ]
          refine wpAnyLast_ready (rs := [7]) (by kernel_rfl) (by simp) ?_
          refine AllReadyL.cons (by simp only [List.getElem?_toArray, List.getElem?_cons_zero, List.getElem?_cons_succ]; rfl) (by simp) (fun K hK => ?_) AllReadyL.nil
          refine step_appR _ (by rfl) _ _ (by rfl) w.heap.size _ [] (by rfl) (OwnR.nil _ _) (some ⟨b, off, none⟩) (L.take k) k c (by rfl) HT1.out (by exact (RW.out.row.below (Below.refl _ _).drew).take k) (by have := HT1.out; simp; omega) (by exact BW.out.size) ?_
          intro v1 w1 own1 b1
          refine hK.out _ _ (keepC b1 (by exact hcell) hgz.out) (fun hHeld => ?_)
          clear hK K
          try simp only [Act.put, List.setIfInBounds_toArray, List.set_cons_zero, List.set_cons_succ]
          refine wpAnyLast_ready (rs := [15]) (by kernel_rfl) (by simp) ?_
          refine AllReadyL.cons (by simp only [List.getElem?_toArray, List.getElem?_cons_zero, List.getElem?_cons_succ]; rfl) (by simp) (fun K hK => ?_) AllReadyL.nil
          refine step_appR _ (by rfl) _ _ (by rfl) w.heap.size _ _ (by rfl) own1 (some ⟨b, off + (k + 1) * 2, none⟩) (L.drop (k + 1)) _ _ (by rfl) (by first | exact HT2.out | (have := HT2.out; omega)) (by exact (((RW.out.row.drop (k + 1)).below (Below.refl _ _).drew).keepZ b1 hbz.out)) (by have := HT1.out; have := HT2.out; simp at *; omega) (by have := b1.size; have := BW.out.size; exact Nat.le_trans BW.out.size b1.size) ?_
          intro v2 w2 own2 b2
          refine hK.out _ _ (keepC b2 (keepC b1 (by exact hcell) hgz.out) hgz.out) (fun hHeld => ?_)
          clear hK K
          try simp only [Act.put, List.setIfInBounds_toArray, List.set_cons_zero, List.set_cons_succ]
          refine' wpAnyLast_take (i := 16) (oi := _) (v := _) ?hi16b (by kernel_rfl) (by kernel_rfl) (by kernel_rfl) (by kernel_rfl) (by kernel_rfl) ?hQ16b (Or.inl ⟨?hw16b, ?hy16b⟩) (by assumption) ?rest16b
          case hi16b => exact (by simp only [List.getElem?_toArray, List.getElem?_cons_zero, List.getElem?_cons_succ]; rfl)
          case hQ16b => exact fun _ _ _ h => h
          case hw16b => rfl
          case hy16b =>
            intro w hSw
            try dsimp only at hSw
            go_simp
            all_goals with_reducible rfl
          try simp only [Act.put, List.setIfInBounds_toArray, List.set_cons_zero, List.set_cons_succ]
          refine' wpAnyLast_take (i := 17) (oi := _) (v := _) ?hi17b (by kernel_rfl) (by kernel_rfl) (by kernel_rfl) (by kernel_rfl) (by kernel_rfl) ?hQ17b (Or.inl ⟨?hw17b, ?hy17b⟩) (by assumption) ?rest17b
          case hi17b => exact (by simp only [List.getElem?_toArray, List.getElem?_cons_zero, List.getElem?_cons_succ]; rfl)
          case hQ17b => exact fun _ _ _ h => h
          case hw17b => rfl
          case hy17b =>
            intro w hSw
            try dsimp only at hSw
            go_simp
            all_goals with_reducible rfl
          try simp only [Act.put, List.setIfInBounds_toArray, List.set_cons_zero, List.set_cons_succ]
          obtain ⟨A2, m2, z2, rfl⟩ := own2.form2
          have c2 := keepC b2 (keepC b1 (by exact hcell) hgz.out) hgz.out
          have f2 := keepF b2 (keepF b1 (by exact RW.out.fr) hgz.out) hgz.out
          refine wpAnyLast_ready (rs := [18]) (by kernel_rfl) (by simp) ?_
          refine AllReadyL.cons_last (by simp only [List.getElem?_toArray, List.getElem?_cons_zero, List.getElem?_cons_succ]; rfl) (by simp) (fun K hK => ?_) AllReadyL.nil
          go_simp
          refine hK.out _ _ ?_
          clear hK K
          try simp only [Act.put, List.setIfInBounds_toArray, List.set_cons_zero, List.set_cons_succ]
          refine wpAnyLast_done (by kernel_rfl) ?_ _
          go_wp2_with fail
          go_ret
          exact ⟨rfl, Hid.mk_ (by rw [HW.out]; exact RTurn.put c2 f2 own2 hgz.out ((BW.out.drew.trans b1).trans b2))⟩
      · have hib : (m.id == id) = false := by simp [hi]
        have HI := Hid.mk_ hi
        clear hi
        go_wp2_with fail
        go_roundw
        case rel => exact ⟨k + 1, by go_num, by omega, Hid.mk_ (fun j hj => by
          by_cases e : j = k
          · subst e
            have := HI.out
            have h2 := fn_get (l := L) (k := j) (by have := hn.out; omega)
            rw [HM.out] at h2
            injection h2 with h2
            rw [← h2]; exact this
          · exact HA.out j (by omega)), B3⟩
        case measure => simp [intOf]; omega
    · obtain rfl : k = n := by omega
      have f := find_no L id (fun j hj => HA.out j (by have := hn.out; omega))
      have eq : q = false := by rw [hq.out]; exact has_none.2 f
      have eM : M = L := by rw [hM.out]; exact without_self f
      subst eq eM
      clear hq f
      go_wp2_with fail
      go_ret
      exact ⟨rfl, Hid.mk_ (RTurn.of_below h.out BW.out)⟩
end Go.Proofs.YthndjhocmpelcaaGreat.Wat
