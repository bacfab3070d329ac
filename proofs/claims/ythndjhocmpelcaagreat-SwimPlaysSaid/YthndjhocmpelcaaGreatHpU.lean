/- Chapter 5: the document's own clock: Set. Conditions: the rows lie in memory. -/
import Derived.Test.YthndjhocmpelcaaGreatHpT
import Derived.Deep.CutRange
import Derived.Deep.CutBlock
namespace Go.Proofs.YthndjhocmpelcaaGreat.Wat
open Go.RowKit Kit Ints Go.Proofs.YthndjhocmpelcaaGreatW.PrintLast
set_option linter.unusedVariables false
theorem OwnR.mono {w : World} {base base' : Nat} {v : Value} {hs : List Mom} (h : OwnR w base v hs) (hb : base' ≤ base) : OwnR w base' v hs := by
  unfold OwnR at h ⊢
  refine ⟨h.1, ?_⟩
  rcases h.2 with h1 | ⟨g, cap, cur, h1, h3, h4⟩
  · exact .inl h1
  · exact .inr ⟨g, cap, cur, h1, Nat.le_trans hb h3, h4⟩
theorem MRow.one (w : World) (x y : Int) (t : TypeId) : MRow (w.alloc (.cells #[.int .i64 x, .int .i64 y] t)) (some ⟨w.heap.size, 0, none⟩) [⟨x, y⟩] := by
  intro j m hm
  cases j with
  | zero =>
    simp only [List.getElem?_cons_zero, Option.some.injEq] at hm
    subst hm
    refine ⟨_, _, rfl, ?_, ?_⟩
    · rw [World.cell?_alloc_new]; rfl
    · rw [World.cell?_alloc_new]; rfl
  | succ j => simp at hm
theorem RTurn.trans2 {w w1 w2 : World} {g : Nat} {A A1 : Option Addr} {L M : List Mom} (h : (Ref w1 g A1 L ∧ (∀ k, Its g A1 k → Its g A k ∨ w.heap.size ≤ k) ∧ Wr w w1 (fun k => k = g))) (k : RTurn w1 w2 g A1 M) : RTurn w w2 g A M := by
  obtain ⟨h1, h2, h3⟩ := h
  obtain ⟨A2, k1, k2, k3⟩ := k
  exact ⟨A2, k1, fun i hi => (k2 i hi).elim (h2 i) (fun h => .inr (Nat.le_trans h3.size h)), h3.then_ k3 (fun i hi => .inl hi)⟩
theorem ins_at {m : Mom} : ∀ (L : List Mom) (k : Nat), k ≤ L.length → (∀ j, j < k → ltM (fn L j) m = true) → (k = L.length ∨ ltM (fn L k) m = false) → ins m L = L.take k ++ [m] ++ L.drop k
  | [], k, hk, _, _ => by
    obtain rfl : k = 0 := by simpa using hk
    rfl
  | x :: l, 0, _, _, h => by
    rcases h with h | h
    · cases h
    · have h : ltM x m = false := h
      rw [ins, if_neg (by rw [h]; simp)]
      rfl
  | x :: l, k + 1, hk, hA, h => by
    have h0 : ltM x m = true := hA 0 (by omega)
    rw [ins, if_pos h0, ins_at l k (by simpa using hk) (fun j hj => hA (j + 1) (by omega)) (by
      rcases h with h | h
      · exact .inl (by simpa using h)
      · exact .inr h)]
    rfl
set_option maxRecDepth 100000 in
set_option maxHeartbeats 1000000 in
theorem rset_no (w : World) (g : Nat) (id at_ : Int) (q : Hid (okM id at_ = false)) :
    Calls Tryz.prog 57 #[.pointer (some ⟨g, 0, none⟩), .int .i64 id, .int .i64 at_] w fun e w' => e = .returned (.bool false) ∧ w' = w := by
  have h := okM_false q.out
  by_cases h1 : id < 0
  · go_enter Tryz.func57, Tryz.ntmps57
    go_wp2_with fail
    go_ret
    exact ⟨rfl, rfl⟩
  · by_cases h2 : 999 < id
    · go_enter Tryz.func57, Tryz.ntmps57
      go_wp2_with fail
      go_ret
      exact ⟨rfl, rfl⟩
    · by_cases h3 : at_ < 0
      · go_enter Tryz.func57, Tryz.ntmps57
        go_wp2_with fail
        go_ret
        exact ⟨rfl, rfl⟩
      · have h4 : 1099511627776 < at_ := by omega
        clear h
        go_enter Tryz.func57, Tryz.ntmps57
        go_wp2_with fail
        go_ret
        exact ⟨rfl, rfl⟩
set_option maxRecDepth 100000 in
set_option maxHeartbeats 8000000 in
theorem rset_yes (w : World) (g : Nat) (A : Option Addr) (L : List Mom) (id at_ : Int) (h : Hid (Ref w g A L)) (hst : Hid (St L)) (hok : okM id at_ = true) (M : List Mom) (hM : Hid (M = setL id at_ L)) :
    Calls Tryz.prog 57 #[.pointer (some ⟨g, 0, none⟩), .int .i64 id, .int .i64 at_] w fun e w' => e = .returned (.bool true) ∧ Hid (RTurn w w' g A M) := by
  obtain ⟨i0, i1, a0, a1⟩ := okM_iff.1 hok
  clear hok
  have j0 : ¬ id < 0 := by omega
  have j1 : ¬ 999 < id := by omega
  have j2 : ¬ at_ < 0 := by omega
  have j3 : ¬ 1099511627776 < at_ := by omega
  go_enter Tryz.func57, Tryz.ntmps57
  go_upto_region 3 with fail
  go_upto_block 0 with (go_at_call 68; refine (rwithout w g A L id h hst _ (Hid.mk_ rfl) _ (Hid.mk_ rfl)).mono ?_; rintro e w2 ⟨rfl, t2'⟩)
  obtain ⟨L2, hL2⟩ : ∃ L2, without id L = L2 := ⟨_, rfl⟩
  have HM : Hid (M = ins ⟨id, at_⟩ L2) := Hid.mk_ (by rw [hM.out, setL, hL2])
  have HL : Hid (L2.length ≤ 1000) := Hid.mk_ (by rw [← hL2]; exact (hst.out.without id).len)
  rw [hL2] at t2'
  obtain ⟨A2, R2, F2, W2⟩ := t2'.out
  obtain ⟨n, c, RS2'⟩ := R2
  have RS2 := Hid.mk_ RS2'
  have t2 : Hid (Ref w2 g A2 L2 ∧ (∀ k, Its g A2 k → Its g A k ∨ w.heap.size ≤ k) ∧ Wr w w2 (fun k => k = g)) := Hid.mk_ ⟨⟨n, c, RS2'⟩, F2, W2⟩
  have hcell := RS2'.cell
  have hcap := RS2'.cap
  have HN := Hid.mk_ RS2'.len
  have hgz := Hid.mk_ RS2'.lt
  have hn2 : n ≤ 1000 := by have := HN.out; have := HL.out; omega
  clear t2' RS2' F2 W2 hL2
  obtain ⟨hc1, hc2⟩ := hcap
  go_cut [7] from 25 to 69 (fun s7 wx => ∃ k : Nat, s7 = .int .i64 (k : Int) ∧ k ≤ n ∧ wx = w2 ∧ Hid (ins ⟨id, at_⟩ L2 = L2.take k ++ [⟨id, at_⟩] ++ L2.drop k))
  case first =>
    go_wp2_with fail
    go_loopg [7] n (fun gg s7 wr => ∃ k : Nat, s7 = .int .i64 (k : Int) ∧ k ≤ n ∧ n - k ≤ gg ∧ wr = w2 ∧ Hid (∀ j, j < k → ltM (fn L2 j) ⟨id, at_⟩ = true))
    case atStart => exact ⟨0, rfl, by omega, by omega, rfl, Hid.mk_ (fun j hj => absurd hj (Nat.not_lt_zero _))⟩
    case round =>
      obtain ⟨k, rfl, hk, hg, rfl, HA⟩ := hrel
      by_cases hlt : k < n
      · obtain ⟨m, hm⟩ : ∃ m, L2[k]? = some m := ⟨_, List.getElem?_eq_getElem (by have := HN.out; omega)⟩
        obtain ⟨b, off, rfl, x0, x1⟩ := RS2.out.row k m hm
        have HF : Hid (fn L2 k = m) := Hid.mk_ (by have h2 := fn_get (l := L2) (k := k) (by have := HN.out; omega); rw [hm] at h2; exact (Option.some.inj h2).symm)
        have HS : ltM m ⟨id, at_⟩ = true → Hid (∀ j, j < k + 1 → ltM (fn L2 j) ⟨id, at_⟩ = true) := fun hl => Hid.mk_ (fun j hj => by
          by_cases e : j = k
          · subst e; rw [HF.out]; exact hl
          · exact HA.out j (by omega))
        have HE : ltM m ⟨id, at_⟩ = false → Hid (ins ⟨id, at_⟩ L2 = L2.take k ++ [⟨id, at_⟩] ++ L2.drop k) := fun hl => Hid.mk_ (ins_at L2 k (by have := HN.out; omega) HA.out (.inr (by rw [HF.out]; exact hl)))
        clear hm
        have l1 : (k : Int) < (n : Int) := by omega
        have l0 : (0 : Int) ≤ (k : Int) := by omega
        by_cases e1 : m.at_ < at_
        · have hs := HS (by unfold ltM; rw [if_neg (by simp only; omega)]; simpa using e1)
          clear HS HE
          go_wp2_with fail
          go_roundg (n - (k + 1))
          case measure => omega
          case rel => exact ⟨k + 1, by go_num, by omega, by omega, rfl, hs⟩
        · by_cases e2 : m.at_ = at_
          · have e3 : (m.at_ == at_) = true := by simp [e2]
            by_cases e4 : m.id < id
            · have hs := HS (by unfold ltM; rw [if_pos (by simp only; omega)]; simpa using e4)
              clear HS HE e2
              go_wp2_with fail
              go_roundg (n - (k + 1))
              case measure => omega
              case rel => exact ⟨k + 1, by go_num, by omega, by omega, rfl, hs⟩
            · have hs := HE (by unfold ltM; rw [if_pos (by simp only; omega)]; simpa using e4)
              clear HS HE e2
              go_wp2_with fail
              go_meet
              exact ⟨k, rfl, hk, rfl, hs⟩
          · have e3 : (m.at_ == at_) = false := by simp [e2]
            have hs := HE (by unfold ltM; rw [if_neg (by simp only; omega)]; simpa using e1)
            clear HS HE
            go_wp2_with fail
            go_meet
            exact ⟨k, rfl, hk, rfl, hs⟩
      · obtain rfl : k = n := by omega
        have hs := Hid.mk_ (ins_at L2 k (by have := HN.out; omega) HA.out (.inl HN.out))
        go_wp2_with fail
        go_meet
        exact ⟨k, rfl, hk, rfl, hs⟩
  case rest =>
    obtain ⟨k, rfl, hk, ew, HW0⟩ := hcut
    have ew2 := ew.symm
    subst ew2
    clear ew
    have HW := Hid.mk_ (HM.out.trans HW0.out)
    have HT1 : Hid (k = (L2.take k).length) := Hid.mk_ (by have := HN.out; simp; omega)
    have HT2 : Hid (n - k = (L2.drop k).length) := Hid.mk_ (by have := HN.out; simp; omega)
    clear HW0 HM hM
    have k0 : (0 : Int) ≤ (k : Int) := by omega
    have k2 : (k : Int) ≤ (n : Int) := by omega
    have k3 : (k : Int) ≤ (c : Int) := by omega
    go_upto_region 7 with fail
    rcases RS2.out.blk with ⟨rfl, rfl⟩ | ⟨b, off, rfl, hgb, hbz'⟩
    · obtain rfl : n = 0 := by omega
      obtain rfl : k = 0 := by omega
      refine wp_region_last_drew (S := fun w' => w'.cell? ⟨g, 0, none⟩ = some (.slice none 0 0)) (ds := [22]) (by kernel_rfl) hcell (fun hHeld => ?_)
      refine' wpAnyLast_take (i := 0) (oi := _) (v := _) ?hi0a (by kernel_rfl) (by kernel_rfl) (by kernel_rfl) (by kernel_rfl) (by kernel_rfl) ?hQ0a (Or.inl ⟨?hw0a, ?hy0a⟩) (by assumption) ?rest0a
      case hi0a => exact (by simp only [List.getElem?_toArray, List.getElem?_cons_zero]; rfl)
      case hQ0a => exact fun _ _ _ h => h
      case hw0a => rfl
      case hy0a =>
        intro w hSw
        try dsimp only at hSw
        go_simp
        all_goals with_reducible rfl
      try simp only [Act.put, List.setIfInBounds_toArray, List.set_cons_zero, List.set_cons_succ]
      refine' wpAnyLast_take (i := 1) (oi := _) (v := _) ?hi1a (by kernel_rfl) (by kernel_rfl) (by kernel_rfl) (by kernel_rfl) (by kernel_rfl) ?hQ1a (Or.inl ⟨?hw1a, ?hy1a⟩) (by assumption) ?rest1a
      case hi1a => exact (by simp only [List.getElem?_toArray, List.getElem?_cons_zero, List.getElem?_cons_succ]; rfl)
      case hQ1a => exact fun _ _ _ h => h
      case hw1a => rfl
      case hy1a =>
        intro w hSw
        try dsimp only at hSw
        go_simp
        all_goals with_reducible rfl
      try simp only [Act.put, List.setIfInBounds_toArray, List.set_cons_zero, List.set_cons_succ]
      refine' wpAnyLast_take (i := 2) (oi := _) (v := _) ?hi2a (by kernel_rfl) (by kernel_rfl) (by kernel_rfl) (by kernel_rfl) (by kernel_rfl) ?hQ2a (Or.inl ⟨?hw2a, ?hy2a⟩) (by assumption) ?rest2a
      case hi2a => exact (by simp only [List.getElem?_toArray, List.getElem?_cons_zero, List.getElem?_cons_succ]; rfl)
      case hQ2a => exact fun _ _ _ h => h
      case hw2a => rfl
      case hy2a =>
        intro w hSw
        try dsimp only at hSw
        go_simp
        all_goals with_reducible rfl
      try simp only [Act.put, List.setIfInBounds_toArray, List.set_cons_zero, List.set_cons_succ]
      refine' wpAnyLast_take (i := 3) (oi := _) (v := _) ?hi3a (by kernel_rfl) (by kernel_rfl) (by kernel_rfl) (by kernel_rfl) (by kernel_rfl) ?hQ3a (Or.inl ⟨?hw3a, ?hy3a⟩) (by assumption) ?rest3a
      case hi3a => exact (by simp only [List.getElem?_toArray, List.getElem?_cons_zero, List.getElem?_cons_succ]; rfl)
      case hQ3a => exact fun _ _ _ h => h
      case hw3a => rfl
      case hy3a =>
        intro w hSw
        try dsimp only at hSw
        go_simp
        all_goals with_reducible rfl
      try simp only [Act.put, List.setIfInBounds_toArray, List.set_cons_zero, List.set_cons_succ]
      refine' wpAnyLast_take (i := 4) (oi := _) (v := _) ?hi4a (by kernel_rfl) (by kernel_rfl) (by kernel_rfl) (by kernel_rfl) (by kernel_rfl) ?hQ4a (Or.inl ⟨?hw4a, ?hy4a⟩) (by assumption) ?rest4a
      case hi4a => exact (by simp only [List.getElem?_toArray, List.getElem?_cons_zero, List.getElem?_cons_succ]; rfl)
      case hQ4a => exact fun _ _ _ h => h
      case hw4a => rfl
      case hy4a =>
        intro w hSw
        try dsimp only at hSw
        go_simp
        all_goals with_reducible rfl
      try simp only [Act.put, List.setIfInBounds_toArray, List.set_cons_zero, List.set_cons_succ]
      refine' wpAnyLast_take (i := 5) (oi := _) (v := _) ?hi5a (by kernel_rfl) (by kernel_rfl) (by kernel_rfl) (by kernel_rfl) (by kernel_rfl) ?hQ5a (Or.inl ⟨?hw5a, ?hy5a⟩) (by assumption) ?rest5a
      case hi5a => exact (by simp only [List.getElem?_toArray, List.getElem?_cons_zero, List.getElem?_cons_succ]; rfl)
      case hQ5a => exact fun _ _ _ h => h
      case hw5a => rfl
      case hy5a =>
        intro w hSw
        try dsimp only at hSw
        go_simp
        all_goals with_reducible rfl
      try simp only [Act.put, List.setIfInBounds_toArray, List.set_cons_zero, List.set_cons_succ]
      refine' wpAnyLast_take (i := 6) (oi := _) (v := _) ?hi6a (by kernel_rfl) (by kernel_rfl) (by kernel_rfl) (by kernel_rfl) (by kernel_rfl) ?hQ6a (Or.inl ⟨?hw6a, ?hy6a⟩) (by assumption) ?rest6a
      case hi6a => exact (by simp only [List.getElem?_toArray, List.getElem?_cons_zero, List.getElem?_cons_succ]; rfl)
      case hQ6a => exact fun _ _ _ h => h
      case hw6a => rfl
      case hy6a =>
        intro w hSw
        try dsimp only at hSw
        go_simp
        all_goals with_reducible rfl
      try simp only [Act.put, List.setIfInBounds_toArray, List.set_cons_zero, List.set_cons_succ]
      refine' wpAnyLast_take (i := 8) (oi := _) (v := _) ?hi8a (by kernel_rfl) (by kernel_rfl) (by kernel_rfl) (by kernel_rfl) (by kernel_rfl) ?hQ8a (Or.inl ⟨?hw8a, ?hy8a⟩) (by assumption) ?rest8a
      case hi8a => exact (by simp only [List.getElem?_toArray, List.getElem?_cons_zero, List.getElem?_cons_succ]; rfl)
      case hQ8a => exact fun _ _ _ h => h
      case hw8a => rfl
      case hy8a =>
        intro w hSw
        try dsimp only at hSw
        go_simp
        all_goals with_reducible rfl
      try simp only [Act.put, List.setIfInBounds_toArray, List.set_cons_zero, List.set_cons_succ]
      refine' wpAnyLast_take (i := 9) (oi := _) (v := _) ?hi9a (by kernel_rfl) (by kernel_rfl) (by kernel_rfl) (by kernel_rfl) (by kernel_rfl) ?hQ9a (Or.inl ⟨?hw9a, ?hy9a⟩) (by assumption) ?rest9a
      case hi9a => exact (by simp only [List.getElem?_toArray, List.getElem?_cons_zero, List.getElem?_cons_succ]; rfl)
      case hQ9a => exact fun _ _ _ h => h
      case hw9a => rfl
      case hy9a =>
        intro w hSw
        try dsimp only at hSw
        go_simp
        all_goals with_reducible rfl
      try simp only [Act.put, List.setIfInBounds_toArray, List.set_cons_zero, List.set_cons_succ]
      refine' wpAnyLast_take (i := 10) (oi := _) (v := _) ?hi10a (by kernel_rfl) (by kernel_rfl) (by kernel_rfl) (by kernel_rfl) (by kernel_rfl) ?hQ10a (Or.inl ⟨?hw10a, ?hy10a⟩) (by assumption) ?rest10a
      case hi10a => exact (by simp only [List.getElem?_toArray, List.getElem?_cons_zero, List.getElem?_cons_succ]; rfl)
      case hQ10a => exact fun _ _ _ h => h
      case hw10a => rfl
      case hy10a =>
        intro w hSw
        try dsimp only at hSw
        go_simp
        all_goals with_reducible rfl
      try simp only [Act.put, List.setIfInBounds_toArray, List.set_cons_zero, List.set_cons_succ]
      refine' wpAnyLast_take (i := 13) (oi := _) (v := _) ?hi13a (by kernel_rfl) (by kernel_rfl) (by kernel_rfl) (by kernel_rfl) (by kernel_rfl) ?hQ13a (Or.inl ⟨?hw13a, ?hy13a⟩) (by assumption) ?rest13a
      case hi13a => exact (by simp only [List.getElem?_toArray, List.getElem?_cons_zero, List.getElem?_cons_succ]; rfl)
      case hQ13a => exact fun _ _ _ h => h
      case hw13a => rfl
      case hy13a =>
        intro w hSw
        try dsimp only at hSw
        go_simp
        all_goals with_reducible rfl
      try simp only [Act.put, List.setIfInBounds_toArray, List.set_cons_zero, List.set_cons_succ]
      refine' wpAnyLast_take (i := 14) (oi := _) (v := _) ?hi14a (by kernel_rfl) (by kernel_rfl) (by kernel_rfl) (by kernel_rfl) (by kernel_rfl) ?hQ14a (Or.inl ⟨?hw14a, ?hy14a⟩) (by assumption) ?rest14a
      case hi14a => exact (by simp only [List.getElem?_toArray, List.getElem?_cons_zero, List.getElem?_cons_succ]; rfl)
      case hQ14a => exact fun _ _ _ h => h
      case hw14a => rfl
      case hy14a =>
        intro w hSw
        try dsimp only at hSw
        go_simp
        all_goals with_reducible rfl
      try simp only [Act.put, List.setIfInBounds_toArray, List.set_cons_zero, List.set_cons_succ]
      refine' wpAnyLast_take (i := 15) (oi := _) (v := _) ?hi15a (by kernel_rfl) (by kernel_rfl) (by kernel_rfl) (by kernel_rfl) (by kernel_rfl) ?hQ15a (Or.inl ⟨?hw15a, ?hy15a⟩) (by assumption) ?rest15a
      case hi15a => exact (by simp only [List.getElem?_toArray, List.getElem?_cons_zero, List.getElem?_cons_succ]; rfl)
      case hQ15a => exact fun _ _ _ h => h
      case hw15a => rfl
      case hy15a =>
        intro w hSw
        try dsimp only at hSw
        go_simp
        all_goals with_reducible rfl
      try simp only [Act.put, List.setIfInBounds_toArray, List.set_cons_zero, List.set_cons_succ]
      refine' wpAnyLast_take (i := 16) (oi := _) (v := _) ?hi16a (by kernel_rfl) (by kernel_rfl) (by kernel_rfl) (by kernel_rfl) (by kernel_rfl) ?hQ16a (Or.inl ⟨?hw16a, ?hy16a⟩) (by assumption) ?rest16a
      case hi16a => exact (by simp only [List.getElem?_toArray, List.getElem?_cons_zero, List.getElem?_cons_succ]; rfl)
      case hQ16a => exact fun _ _ _ h => h
      case hw16a => rfl
      case hy16a =>
        intro w hSw
        try dsimp only at hSw
        go_simp
        all_goals with_reducible rfl
      try simp only [Act.put, List.setIfInBounds_toArray, List.set_cons_zero, List.set_cons_succ]
      refine' wpAnyLast_take (i := 17) (oi := _) (v := _) ?hi17a (by kernel_rfl) (by kernel_rfl) (by kernel_rfl) (by kernel_rfl) (by kernel_rfl) ?hQ17a (Or.inl ⟨?hw17a, ?hy17a⟩) (by assumption) ?rest17a
      case hi17a => exact (by simp only [List.getElem?_toArray, List.getElem?_cons_zero, List.getElem?_cons_succ]; rfl)
      case hQ17a => exact fun _ _ _ h => h
      case hw17a => rfl
      case hy17a =>
        intro w hSw
        try dsimp only at hSw
        go_simp
        all_goals with_reducible rfl
      try simp only [Act.put, List.setIfInBounds_toArray, List.set_cons_zero, List.set_cons_succ]
      refine' wpAnyLast_take (i := 18) (oi := _) (v := _) ?hi18a (by kernel_rfl) (by kernel_rfl) (by kernel_rfl) (by kernel_rfl) (by kernel_rfl) ?hQ18a (Or.inl ⟨?hw18a, ?hy18a⟩) (by assumption) ?rest18a
      case hi18a => exact (by simp only [List.getElem?_toArray, List.getElem?_cons_zero, List.getElem?_cons_succ]; rfl)
      case hQ18a => exact fun _ _ _ h => h
      case hw18a => rfl
      case hy18a =>
        intro w hSw
        try dsimp only at hSw
        go_simp
        all_goals with_reducible rfl
      try simp only [Act.put, List.setIfInBounds_toArray, List.set_cons_zero, List.set_cons_succ]
      refine wpAnyLast_ready (rs := [7, 11]) (by kernel_rfl) (by simp) ?_
      refine AllReadyL.cons (by simp only [List.getElem?_toArray, List.getElem?_cons_zero, List.getElem?_cons_succ]; rfl) (by simp) (fun K hK => ?_) ?_
      · refine step_appR _ (by rfl) _ _ (by rfl) w2.heap.size _ [] (by rfl) (OwnR.nil _ _) none (L2.take 0) 0 0 (by rfl) HT1.out (by exact MRowE _ (by simp)) (by have := HT1.out; first | (simp; omega) | simp | omega) (by exact Nat.le_refl _) ?_
        intro v1 w1 own1 b1
        refine hK.out _ _ (keepC b1 (by exact hcell) hgz.out) (fun hHeld => ?_)
        clear hK K
        try simp only [Act.put, List.setIfInBounds_toArray, List.set_cons_zero, List.set_cons_succ]
        refine wpAnyLast_ready (rs := [11]) (by kernel_rfl) (by simp) ?_
        refine AllReadyL.cons (by simp only [List.getElem?_toArray, List.getElem?_cons_zero, List.getElem?_cons_succ]; rfl) (by simp) (fun K hK => ?_) AllReadyL.nil
        go_simp
        have al := (Below.refl w1.heap.size w1).alloc (Nat.le_refl _) (.cells #[.int .i64 id, .int .i64 at_] 130)
        have bq := b1.trans (al.mono b1.size)
        have ownq := own1.keep al
        have rowq := MRow.one w1 id at_ 130
        refine hK.out _ _ (keepC bq (by exact hcell) hgz.out) (fun hHeld => ?_)
        generalize w1.alloc (.cells #[.int .i64 id, .int .i64 at_] 130) = wq at *
        generalize w1.heap.size = q at *
        clear hK K
        try simp only [Act.put, List.setIfInBounds_toArray, List.set_cons_zero, List.set_cons_succ]
        refine wpAnyLast_ready (rs := [12]) (by kernel_rfl) (by simp) ?_
        refine AllReadyL.cons (by simp only [List.getElem?_toArray, List.getElem?_cons_zero, List.getElem?_cons_succ]; rfl) (by simp) (fun K hK => ?_) AllReadyL.nil
        refine step_appR _ (by rfl) _ _ (by rfl) w2.heap.size _ _ (by rfl) ownq (some ⟨q, 0, none⟩) [⟨id, at_⟩] 1 _ (by rfl) rfl (by exact rowq) (by have := HT1.out; first | (simp; omega) | simp | omega) bq.size ?_
        intro v3 w3 own3 b3
        refine hK.out _ _ (keepC b3 (keepC bq (by exact hcell) hgz.out) hgz.out) (fun hHeld => ?_)
        clear hK K
        try simp only [Act.put, List.setIfInBounds_toArray, List.set_cons_zero, List.set_cons_succ]
        refine wpAnyLast_ready (rs := [19]) (by kernel_rfl) (by simp) ?_
        refine AllReadyL.cons (by simp only [List.getElem?_toArray, List.getElem?_cons_zero, List.getElem?_cons_succ]; rfl) (by simp) (fun K hK => ?_) AllReadyL.nil
        refine step_appR _ (by rfl) _ _ (by rfl) w2.heap.size _ _ (by rfl) own3 none (L2.drop 0) _ _ (by rfl) (by first | exact HT2.out | (have := HT2.out; omega)) (by exact MRowE _ (by have := HT2.out; omega)) (by have := HT1.out; have := HT2.out; simp at *; omega) (Nat.le_trans bq.size b3.size) ?_
        intro v4 w4 own4 b4
        refine hK.out _ _ (keepC b4 (keepC b3 (keepC bq (by exact hcell) hgz.out) hgz.out) hgz.out) (fun hHeld => ?_)
        clear hK K
        try simp only [Act.put, List.setIfInBounds_toArray, List.set_cons_zero, List.set_cons_succ]
        refine' wpAnyLast_take (i := 20) (oi := _) (v := _) ?hi20ap (by kernel_rfl) (by kernel_rfl) (by kernel_rfl) (by kernel_rfl) (by kernel_rfl) ?hQ20ap (Or.inl ⟨?hw20ap, ?hy20ap⟩) (by assumption) ?rest20ap
        case hi20ap => exact (by simp only [List.getElem?_toArray, List.getElem?_cons_zero, List.getElem?_cons_succ]; rfl)
        case hQ20ap => exact fun _ _ _ h => h
        case hw20ap => rfl
        case hy20ap =>
          intro w hSw
          try dsimp only at hSw
          go_simp
          all_goals with_reducible rfl
        try simp only [Act.put, List.setIfInBounds_toArray, List.set_cons_zero, List.set_cons_succ]
        refine' wpAnyLast_take (i := 21) (oi := _) (v := _) ?hi21ap (by kernel_rfl) (by kernel_rfl) (by kernel_rfl) (by kernel_rfl) (by kernel_rfl) ?hQ21ap (Or.inl ⟨?hw21ap, ?hy21ap⟩) (by assumption) ?rest21ap
        case hi21ap => exact (by simp only [List.getElem?_toArray, List.getElem?_cons_zero, List.getElem?_cons_succ]; rfl)
        case hQ21ap => exact fun _ _ _ h => h
        case hw21ap => rfl
        case hy21ap =>
          intro w hSw
          try dsimp only at hSw
          go_simp
          all_goals with_reducible rfl
        try simp only [Act.put, List.setIfInBounds_toArray, List.set_cons_zero, List.set_cons_succ]
        obtain ⟨A4, m4, z4, rfl⟩ := own4.form2
        have c4 := keepC b4 (keepC b3 (keepC bq (by exact hcell) hgz.out) hgz.out) hgz.out
        have f4 := keepF b4 (keepF b3 (keepF bq (by exact RS2.out.fr) hgz.out) hgz.out) hgz.out
        refine wpAnyLast_ready (rs := [22]) (by kernel_rfl) (by simp) ?_
        refine AllReadyL.cons_last (by simp only [List.getElem?_toArray, List.getElem?_cons_zero, List.getElem?_cons_succ]; rfl) (by simp) (fun K hK => ?_) AllReadyL.nil
        go_simp
        refine hK.out _ _ ?_
        clear hK K
        try simp only [Act.put, List.setIfInBounds_toArray, List.set_cons_zero, List.set_cons_succ]
        refine wpAnyLast_done (by kernel_rfl) ?_ _
        go_wp2_with fail
        go_ret
        exact ⟨rfl, Hid.mk_ (RTurn.trans2 t2.out (by rw [HW.out]; exact RTurn.put c4 f4 own4 hgz.out (((Below.refl _ _).drew.trans bq).trans (b3.trans b4))))⟩
      · refine AllReadyL.cons (by simp only [List.getElem?_toArray, List.getElem?_cons_zero, List.getElem?_cons_succ]; rfl) (by simp) (fun K hK => ?_) AllReadyL.nil
        go_simp
        have al0 := ((Below.refl w2.heap.size w2).alloc (Nat.le_refl _) (.cells #[.int .i64 id, .int .i64 at_] 130)).drew
        have al : Below w2.heap.size w2.drew (w2.alloc (.cells #[.int .i64 id, .int .i64 at_] 130)).drew := ⟨al0.os, al0.tape, al0.output, al0.size, al0.block⟩
        have rowa : MRow (w2.alloc (.cells #[.int .i64 id, .int .i64 at_] 130)).drew (some ⟨w2.heap.size, 0, none⟩) [⟨id, at_⟩] := MRow.one w2 id at_ 130
        have lta : w2.heap.size < (w2.alloc (.cells #[.int .i64 id, .int .i64 at_] 130)).drew.heap.size := by simp
        refine hK.out _ _ (keepC al (by exact hcell) hgz.out) (fun hHeld => ?_)
        generalize (w2.alloc (.cells #[.int .i64 id, .int .i64 at_] 130)).drew = wa at *
        clear hK K
        try simp only [Act.put, List.setIfInBounds_toArray, List.set_cons_zero, List.set_cons_succ]
        refine wpAnyLast_ready (rs := [7]) (by kernel_rfl) (by simp) ?_
        refine AllReadyL.cons (by simp only [List.getElem?_toArray, List.getElem?_cons_zero, List.getElem?_cons_succ]; rfl) (by simp) (fun K hK => ?_) AllReadyL.nil
        refine step_appR _ (by rfl) _ _ (by rfl) wa.heap.size _ [] (by rfl) (OwnR.nil _ _) none (L2.take 0) 0 0 (by rfl) HT1.out (by exact MRowE _ (by simp)) (by have := HT1.out; first | (simp; omega) | simp | omega) (by exact Nat.le_refl _) ?_
        intro v1 w1 own1 b1
        have bq := al.trans (b1.mono al.size)
        have ownq := own1.mono al.size
        have rowq := rowa.keepZ b1 lta
        refine hK.out _ _ (keepC bq (by exact hcell) hgz.out) (fun hHeld => ?_)
        generalize w1 = wq at *
        clear hK K
        try simp only [Act.put, List.setIfInBounds_toArray, List.set_cons_zero, List.set_cons_succ]
        refine wpAnyLast_ready (rs := [12]) (by kernel_rfl) (by simp) ?_
        refine AllReadyL.cons (by simp only [List.getElem?_toArray, List.getElem?_cons_zero, List.getElem?_cons_succ]; rfl) (by simp) (fun K hK => ?_) AllReadyL.nil
        refine step_appR _ (by rfl) _ _ (by rfl) w2.heap.size _ _ (by rfl) ownq (some ⟨w2.heap.size, 0, none⟩) [⟨id, at_⟩] 1 _ (by rfl) rfl (by exact rowq) (by have := HT1.out; first | (simp; omega) | simp | omega) bq.size ?_
        intro v3 w3 own3 b3
        refine hK.out _ _ (keepC b3 (keepC bq (by exact hcell) hgz.out) hgz.out) (fun hHeld => ?_)
        clear hK K
        try simp only [Act.put, List.setIfInBounds_toArray, List.set_cons_zero, List.set_cons_succ]
        refine wpAnyLast_ready (rs := [19]) (by kernel_rfl) (by simp) ?_
        refine AllReadyL.cons (by simp only [List.getElem?_toArray, List.getElem?_cons_zero, List.getElem?_cons_succ]; rfl) (by simp) (fun K hK => ?_) AllReadyL.nil
        refine step_appR _ (by rfl) _ _ (by rfl) w2.heap.size _ _ (by rfl) own3 none (L2.drop 0) _ _ (by rfl) (by first | exact HT2.out | (have := HT2.out; omega)) (by exact MRowE _ (by have := HT2.out; omega)) (by have := HT1.out; have := HT2.out; simp at *; omega) (Nat.le_trans bq.size b3.size) ?_
        intro v4 w4 own4 b4
        refine hK.out _ _ (keepC b4 (keepC b3 (keepC bq (by exact hcell) hgz.out) hgz.out) hgz.out) (fun hHeld => ?_)
        clear hK K
        try simp only [Act.put, List.setIfInBounds_toArray, List.set_cons_zero, List.set_cons_succ]
        refine' wpAnyLast_take (i := 20) (oi := _) (v := _) ?hi20aq (by kernel_rfl) (by kernel_rfl) (by kernel_rfl) (by kernel_rfl) (by kernel_rfl) ?hQ20aq (Or.inl ⟨?hw20aq, ?hy20aq⟩) (by assumption) ?rest20aq
        case hi20aq => exact (by simp only [List.getElem?_toArray, List.getElem?_cons_zero, List.getElem?_cons_succ]; rfl)
        case hQ20aq => exact fun _ _ _ h => h
        case hw20aq => rfl
        case hy20aq =>
          intro w hSw
          try dsimp only at hSw
          go_simp
          all_goals with_reducible rfl
        try simp only [Act.put, List.setIfInBounds_toArray, List.set_cons_zero, List.set_cons_succ]
        refine' wpAnyLast_take (i := 21) (oi := _) (v := _) ?hi21aq (by kernel_rfl) (by kernel_rfl) (by kernel_rfl) (by kernel_rfl) (by kernel_rfl) ?hQ21aq (Or.inl ⟨?hw21aq, ?hy21aq⟩) (by assumption) ?rest21aq
        case hi21aq => exact (by simp only [List.getElem?_toArray, List.getElem?_cons_zero, List.getElem?_cons_succ]; rfl)
        case hQ21aq => exact fun _ _ _ h => h
        case hw21aq => rfl
        case hy21aq =>
          intro w hSw
          try dsimp only at hSw
          go_simp
          all_goals with_reducible rfl
        try simp only [Act.put, List.setIfInBounds_toArray, List.set_cons_zero, List.set_cons_succ]
        obtain ⟨A4, m4, z4, rfl⟩ := own4.form2
        have c4 := keepC b4 (keepC b3 (keepC bq (by exact hcell) hgz.out) hgz.out) hgz.out
        have f4 := keepF b4 (keepF b3 (keepF bq (by exact RS2.out.fr) hgz.out) hgz.out) hgz.out
        refine wpAnyLast_ready (rs := [22]) (by kernel_rfl) (by simp) ?_
        refine AllReadyL.cons_last (by simp only [List.getElem?_toArray, List.getElem?_cons_zero, List.getElem?_cons_succ]; rfl) (by simp) (fun K hK => ?_) AllReadyL.nil
        go_simp
        refine hK.out _ _ ?_
        clear hK K
        try simp only [Act.put, List.setIfInBounds_toArray, List.set_cons_zero, List.set_cons_succ]
        refine wpAnyLast_done (by kernel_rfl) ?_ _
        go_wp2_with fail
        go_ret
        exact ⟨rfl, Hid.mk_ (RTurn.trans2 t2.out (by rw [HW.out]; exact RTurn.put c4 f4 own4 hgz.out (((Below.refl _ _).drew.trans bq).trans (b3.trans b4))))⟩
    · have hbz := Hid.mk_ hbz'
      clear hbz' hgb
      by_cases hck : c = k
      · obtain rfl : k = c := hck.symm
        refine wp_region_last_drew (S := fun w' => w'.cell? ⟨g, 0, none⟩ = some (.slice (some ⟨b, off, none⟩) n k)) (ds := [22]) (by kernel_rfl) hcell (fun hHeld => ?_)
        refine' wpAnyLast_take (i := 0) (oi := _) (v := _) ?hi0b (by kernel_rfl) (by kernel_rfl) (by kernel_rfl) (by kernel_rfl) (by kernel_rfl) ?hQ0b (Or.inl ⟨?hw0b, ?hy0b⟩) (by assumption) ?rest0b
        case hi0b => exact (by simp only [List.getElem?_toArray, List.getElem?_cons_zero]; rfl)
        case hQ0b => exact fun _ _ _ h => h
        case hw0b => rfl
        case hy0b =>
          intro w hSw
          try dsimp only at hSw
          go_simp
          all_goals with_reducible rfl
        try simp only [Act.put, List.setIfInBounds_toArray, List.set_cons_zero, List.set_cons_succ]
        refine' wpAnyLast_take (i := 1) (oi := _) (v := _) ?hi1b (by kernel_rfl) (by kernel_rfl) (by kernel_rfl) (by kernel_rfl) (by kernel_rfl) ?hQ1b (Or.inl ⟨?hw1b, ?hy1b⟩) (by assumption) ?rest1b
        case hi1b => exact (by simp only [List.getElem?_toArray, List.getElem?_cons_zero, List.getElem?_cons_succ]; rfl)
        case hQ1b => exact fun _ _ _ h => h
        case hw1b => rfl
        case hy1b =>
          intro w hSw
          try dsimp only at hSw
          go_simp
          all_goals with_reducible rfl
        try simp only [Act.put, List.setIfInBounds_toArray, List.set_cons_zero, List.set_cons_succ]
        refine' wpAnyLast_take (i := 2) (oi := _) (v := _) ?hi2b (by kernel_rfl) (by kernel_rfl) (by kernel_rfl) (by kernel_rfl) (by kernel_rfl) ?hQ2b (Or.inl ⟨?hw2b, ?hy2b⟩) (by assumption) ?rest2b
        case hi2b => exact (by simp only [List.getElem?_toArray, List.getElem?_cons_zero, List.getElem?_cons_succ]; rfl)
        case hQ2b => exact fun _ _ _ h => h
        case hw2b => rfl
        case hy2b =>
          intro w hSw
          try dsimp only at hSw
          go_simp
          all_goals with_reducible rfl
        try simp only [Act.put, List.setIfInBounds_toArray, List.set_cons_zero, List.set_cons_succ]
        refine' wpAnyLast_take (i := 3) (oi := _) (v := _) ?hi3b (by kernel_rfl) (by kernel_rfl) (by kernel_rfl) (by kernel_rfl) (by kernel_rfl) ?hQ3b (Or.inl ⟨?hw3b, ?hy3b⟩) (by assumption) ?rest3b
        case hi3b => exact (by simp only [List.getElem?_toArray, List.getElem?_cons_zero, List.getElem?_cons_succ]; rfl)
        case hQ3b => exact fun _ _ _ h => h
        case hw3b => rfl
        case hy3b =>
          intro w hSw
          try dsimp only at hSw
          go_simp
          all_goals with_reducible rfl
        try simp only [Act.put, List.setIfInBounds_toArray, List.set_cons_zero, List.set_cons_succ]
        refine' wpAnyLast_take (i := 4) (oi := _) (v := _) ?hi4b (by kernel_rfl) (by kernel_rfl) (by kernel_rfl) (by kernel_rfl) (by kernel_rfl) ?hQ4b (Or.inl ⟨?hw4b, ?hy4b⟩) (by assumption) ?rest4b
        case hi4b => exact (by simp only [List.getElem?_toArray, List.getElem?_cons_zero, List.getElem?_cons_succ]; rfl)
        case hQ4b => exact fun _ _ _ h => h
        case hw4b => rfl
        case hy4b =>
          intro w hSw
          try dsimp only at hSw
          go_simp
          all_goals with_reducible rfl
        try simp only [Act.put, List.setIfInBounds_toArray, List.set_cons_zero, List.set_cons_succ]
        refine' wpAnyLast_take (i := 5) (oi := _) (v := _) ?hi5b (by kernel_rfl) (by kernel_rfl) (by kernel_rfl) (by kernel_rfl) (by kernel_rfl) ?hQ5b (Or.inl ⟨?hw5b, ?hy5b⟩) (by assumption) ?rest5b
        case hi5b => exact (by simp only [List.getElem?_toArray, List.getElem?_cons_zero, List.getElem?_cons_succ]; rfl)
        case hQ5b => exact fun _ _ _ h => h
        case hw5b => rfl
        case hy5b =>
          intro w hSw
          try dsimp only at hSw
          go_simp
          all_goals with_reducible rfl
        try simp only [Act.put, List.setIfInBounds_toArray, List.set_cons_zero, List.set_cons_succ]
        refine' wpAnyLast_take (i := 6) (oi := _) (v := _) ?hi6b (by kernel_rfl) (by kernel_rfl) (by kernel_rfl) (by kernel_rfl) (by kernel_rfl) ?hQ6b (Or.inl ⟨?hw6b, ?hy6b⟩) (by assumption) ?rest6b
        case hi6b => exact (by simp only [List.getElem?_toArray, List.getElem?_cons_zero, List.getElem?_cons_succ]; rfl)
        case hQ6b => exact fun _ _ _ h => h
        case hw6b => rfl
        case hy6b =>
          intro w hSw
          try dsimp only at hSw
          go_simp
          all_goals with_reducible rfl
        try simp only [Act.put, List.setIfInBounds_toArray, List.set_cons_zero, List.set_cons_succ]
        refine' wpAnyLast_take (i := 8) (oi := _) (v := _) ?hi8b (by kernel_rfl) (by kernel_rfl) (by kernel_rfl) (by kernel_rfl) (by kernel_rfl) ?hQ8b (Or.inl ⟨?hw8b, ?hy8b⟩) (by assumption) ?rest8b
        case hi8b => exact (by simp only [List.getElem?_toArray, List.getElem?_cons_zero, List.getElem?_cons_succ]; rfl)
        case hQ8b => exact fun _ _ _ h => h
        case hw8b => rfl
        case hy8b =>
          intro w hSw
          try dsimp only at hSw
          go_simp
          all_goals with_reducible rfl
        try simp only [Act.put, List.setIfInBounds_toArray, List.set_cons_zero, List.set_cons_succ]
        refine' wpAnyLast_take (i := 9) (oi := _) (v := _) ?hi9b (by kernel_rfl) (by kernel_rfl) (by kernel_rfl) (by kernel_rfl) (by kernel_rfl) ?hQ9b (Or.inl ⟨?hw9b, ?hy9b⟩) (by assumption) ?rest9b
        case hi9b => exact (by simp only [List.getElem?_toArray, List.getElem?_cons_zero, List.getElem?_cons_succ]; rfl)
        case hQ9b => exact fun _ _ _ h => h
        case hw9b => rfl
        case hy9b =>
          intro w hSw
          try dsimp only at hSw
          go_simp
          all_goals with_reducible rfl
        try simp only [Act.put, List.setIfInBounds_toArray, List.set_cons_zero, List.set_cons_succ]
        refine' wpAnyLast_take (i := 10) (oi := _) (v := _) ?hi10b (by kernel_rfl) (by kernel_rfl) (by kernel_rfl) (by kernel_rfl) (by kernel_rfl) ?hQ10b (Or.inl ⟨?hw10b, ?hy10b⟩) (by assumption) ?rest10b
        case hi10b => exact (by simp only [List.getElem?_toArray, List.getElem?_cons_zero, List.getElem?_cons_succ]; rfl)
        case hQ10b => exact fun _ _ _ h => h
        case hw10b => rfl
        case hy10b =>
          intro w hSw
          try dsimp only at hSw
          go_simp
          all_goals with_reducible rfl
        try simp only [Act.put, List.setIfInBounds_toArray, List.set_cons_zero, List.set_cons_succ]
        refine' wpAnyLast_take (i := 13) (oi := _) (v := _) ?hi13b (by kernel_rfl) (by kernel_rfl) (by kernel_rfl) (by kernel_rfl) (by kernel_rfl) ?hQ13b (Or.inl ⟨?hw13b, ?hy13b⟩) (by assumption) ?rest13b
        case hi13b => exact (by simp only [List.getElem?_toArray, List.getElem?_cons_zero, List.getElem?_cons_succ]; rfl)
        case hQ13b => exact fun _ _ _ h => h
        case hw13b => rfl
        case hy13b =>
          intro w hSw
          try dsimp only at hSw
          go_simp
          all_goals with_reducible rfl
        try simp only [Act.put, List.setIfInBounds_toArray, List.set_cons_zero, List.set_cons_succ]
        refine' wpAnyLast_take (i := 14) (oi := _) (v := _) ?hi14b (by kernel_rfl) (by kernel_rfl) (by kernel_rfl) (by kernel_rfl) (by kernel_rfl) ?hQ14b (Or.inl ⟨?hw14b, ?hy14b⟩) (by assumption) ?rest14b
        case hi14b => exact (by simp only [List.getElem?_toArray, List.getElem?_cons_zero, List.getElem?_cons_succ]; rfl)
        case hQ14b => exact fun _ _ _ h => h
        case hw14b => rfl
        case hy14b =>
          intro w hSw
          try dsimp only at hSw
          go_simp
          all_goals with_reducible rfl
        try simp only [Act.put, List.setIfInBounds_toArray, List.set_cons_zero, List.set_cons_succ]
        refine' wpAnyLast_take (i := 15) (oi := _) (v := _) ?hi15b (by kernel_rfl) (by kernel_rfl) (by kernel_rfl) (by kernel_rfl) (by kernel_rfl) ?hQ15b (Or.inl ⟨?hw15b, ?hy15b⟩) (by assumption) ?rest15b
        case hi15b => exact (by simp only [List.getElem?_toArray, List.getElem?_cons_zero, List.getElem?_cons_succ]; rfl)
        case hQ15b => exact fun _ _ _ h => h
        case hw15b => rfl
        case hy15b =>
          intro w hSw
          try dsimp only at hSw
          go_simp
          all_goals with_reducible rfl
        try simp only [Act.put, List.setIfInBounds_toArray, List.set_cons_zero, List.set_cons_succ]
        refine' wpAnyLast_take (i := 16) (oi := _) (v := _) ?hi16b (by kernel_rfl) (by kernel_rfl) (by kernel_rfl) (by kernel_rfl) (by kernel_rfl) ?hQ16b (Or.inl ⟨?hw16b, ?hy16b⟩) (by assumption) ?rest16b
        case hi16b => exact (by simp only [List.getElem?_toArray, List.getElem?_cons_zero, List.getElem?_cons_succ]; rfl)
        case hQ16b => exact fun _ _ _ h => h
        case hw16b => rfl
        case hy16b =>
          intro w hSw
          try dsimp only at hSw
          go_simp
          all_goals with_reducible rfl
        try simp only [Act.put, List.setIfInBounds_toArray, List.set_cons_zero, List.set_cons_succ]
        refine' wpAnyLast_take (i := 17) (oi := _) (v := _) ?hi17b (by kernel_rfl) (by kernel_rfl) (by kernel_rfl) (by kernel_rfl) (by kernel_rfl) ?hQ17b (Or.inl ⟨?hw17b, ?hy17b⟩) (by assumption) ?rest17b
        case hi17b => exact (by simp only [List.getElem?_toArray, List.getElem?_cons_zero, List.getElem?_cons_succ]; rfl)
        case hQ17b => exact fun _ _ _ h => h
        case hw17b => rfl
        case hy17b =>
          intro w hSw
          try dsimp only at hSw
          go_simp
          all_goals with_reducible rfl
        try simp only [Act.put, List.setIfInBounds_toArray, List.set_cons_zero, List.set_cons_succ]
        refine' wpAnyLast_take (i := 18) (oi := _) (v := _) ?hi18b (by kernel_rfl) (by kernel_rfl) (by kernel_rfl) (by kernel_rfl) (by kernel_rfl) ?hQ18b (Or.inl ⟨?hw18b, ?hy18b⟩) (by assumption) ?rest18b
        case hi18b => exact (by simp only [List.getElem?_toArray, List.getElem?_cons_zero, List.getElem?_cons_succ]; rfl)
        case hQ18b => exact fun _ _ _ h => h
        case hw18b => rfl
        case hy18b =>
          intro w hSw
          try dsimp only at hSw
          go_simp
          all_goals with_reducible rfl
        try simp only [Act.put, List.setIfInBounds_toArray, List.set_cons_zero, List.set_cons_succ]
        refine wpAnyLast_ready (rs := [7, 11]) (by kernel_rfl) (by simp) ?_
        refine AllReadyL.cons (by simp only [List.getElem?_toArray, List.getElem?_cons_zero, List.getElem?_cons_succ]; rfl) (by simp) (fun K hK => ?_) ?_
        · refine step_appR _ (by rfl) _ _ (by rfl) w2.heap.size _ [] (by rfl) (OwnR.nil _ _) (some ⟨b, off, none⟩) (L2.take k) k k (by rfl) HT1.out (by exact (RS2.out.row.below (Below.refl _ _).drew).take k) (by have := HT1.out; first | (simp; omega) | simp | omega) (by exact Nat.le_refl _) ?_
          intro v1 w1 own1 b1
          refine hK.out _ _ (keepC b1 (by exact hcell) hgz.out) (fun hHeld => ?_)
          clear hK K
          try simp only [Act.put, List.setIfInBounds_toArray, List.set_cons_zero, List.set_cons_succ]
          refine wpAnyLast_ready (rs := [11]) (by kernel_rfl) (by simp) ?_
          refine AllReadyL.cons (by simp only [List.getElem?_toArray, List.getElem?_cons_zero, List.getElem?_cons_succ]; rfl) (by simp) (fun K hK => ?_) AllReadyL.nil
          go_simp
          have al := (Below.refl w1.heap.size w1).alloc (Nat.le_refl _) (.cells #[.int .i64 id, .int .i64 at_] 130)
          have bq := b1.trans (al.mono b1.size)
          have ownq := own1.keep al
          have rowq := MRow.one w1 id at_ 130
          refine hK.out _ _ (keepC bq (by exact hcell) hgz.out) (fun hHeld => ?_)
          generalize w1.alloc (.cells #[.int .i64 id, .int .i64 at_] 130) = wq at *
          generalize w1.heap.size = q at *
          clear hK K
          try simp only [Act.put, List.setIfInBounds_toArray, List.set_cons_zero, List.set_cons_succ]
          refine wpAnyLast_ready (rs := [12]) (by kernel_rfl) (by simp) ?_
          refine AllReadyL.cons (by simp only [List.getElem?_toArray, List.getElem?_cons_zero, List.getElem?_cons_succ]; rfl) (by simp) (fun K hK => ?_) AllReadyL.nil
          refine step_appR _ (by rfl) _ _ (by rfl) w2.heap.size _ _ (by rfl) ownq (some ⟨q, 0, none⟩) [⟨id, at_⟩] 1 _ (by rfl) rfl (by exact rowq) (by have := HT1.out; first | (simp; omega) | simp | omega) bq.size ?_
          intro v3 w3 own3 b3
          refine hK.out _ _ (keepC b3 (keepC bq (by exact hcell) hgz.out) hgz.out) (fun hHeld => ?_)
          clear hK K
          try simp only [Act.put, List.setIfInBounds_toArray, List.set_cons_zero, List.set_cons_succ]
          refine wpAnyLast_ready (rs := [19]) (by kernel_rfl) (by simp) ?_
          refine AllReadyL.cons (by simp only [List.getElem?_toArray, List.getElem?_cons_zero, List.getElem?_cons_succ]; rfl) (by simp) (fun K hK => ?_) AllReadyL.nil
          refine step_appR _ (by rfl) _ _ (by rfl) w2.heap.size _ _ (by rfl) own3 (some ⟨b, off, none⟩) (L2.drop k) _ _ (by rfl) (by first | exact HT2.out | (have := HT2.out; omega)) (by exact (MRowE _ (by have := HT2.out; omega))) (by have := HT1.out; have := HT2.out; simp at *; omega) (Nat.le_trans bq.size b3.size) ?_
          intro v4 w4 own4 b4
          refine hK.out _ _ (keepC b4 (keepC b3 (keepC bq (by exact hcell) hgz.out) hgz.out) hgz.out) (fun hHeld => ?_)
          clear hK K
          try simp only [Act.put, List.setIfInBounds_toArray, List.set_cons_zero, List.set_cons_succ]
          refine' wpAnyLast_take (i := 20) (oi := _) (v := _) ?hi20bp (by kernel_rfl) (by kernel_rfl) (by kernel_rfl) (by kernel_rfl) (by kernel_rfl) ?hQ20bp (Or.inl ⟨?hw20bp, ?hy20bp⟩) (by assumption) ?rest20bp
          case hi20bp => exact (by simp only [List.getElem?_toArray, List.getElem?_cons_zero, List.getElem?_cons_succ]; rfl)
          case hQ20bp => exact fun _ _ _ h => h
          case hw20bp => rfl
          case hy20bp =>
            intro w hSw
            try dsimp only at hSw
            go_simp
            all_goals with_reducible rfl
          try simp only [Act.put, List.setIfInBounds_toArray, List.set_cons_zero, List.set_cons_succ]
          refine' wpAnyLast_take (i := 21) (oi := _) (v := _) ?hi21bp (by kernel_rfl) (by kernel_rfl) (by kernel_rfl) (by kernel_rfl) (by kernel_rfl) ?hQ21bp (Or.inl ⟨?hw21bp, ?hy21bp⟩) (by assumption) ?rest21bp
          case hi21bp => exact (by simp only [List.getElem?_toArray, List.getElem?_cons_zero, List.getElem?_cons_succ]; rfl)
          case hQ21bp => exact fun _ _ _ h => h
          case hw21bp => rfl
          case hy21bp =>
            intro w hSw
            try dsimp only at hSw
            go_simp
            all_goals with_reducible rfl
          try simp only [Act.put, List.setIfInBounds_toArray, List.set_cons_zero, List.set_cons_succ]
          obtain ⟨A4, m4, z4, rfl⟩ := own4.form2
          have c4 := keepC b4 (keepC b3 (keepC bq (by exact hcell) hgz.out) hgz.out) hgz.out
          have f4 := keepF b4 (keepF b3 (keepF bq (by exact RS2.out.fr) hgz.out) hgz.out) hgz.out
          refine wpAnyLast_ready (rs := [22]) (by kernel_rfl) (by simp) ?_
          refine AllReadyL.cons_last (by simp only [List.getElem?_toArray, List.getElem?_cons_zero, List.getElem?_cons_succ]; rfl) (by simp) (fun K hK => ?_) AllReadyL.nil
          go_simp
          refine hK.out _ _ ?_
          clear hK K
          try simp only [Act.put, List.setIfInBounds_toArray, List.set_cons_zero, List.set_cons_succ]
          refine wpAnyLast_done (by kernel_rfl) ?_ _
          go_wp2_with fail
          go_ret
          exact ⟨rfl, Hid.mk_ (RTurn.trans2 t2.out (by rw [HW.out]; exact RTurn.put c4 f4 own4 hgz.out (((Below.refl _ _).drew.trans bq).trans (b3.trans b4))))⟩
        · refine AllReadyL.cons (by simp only [List.getElem?_toArray, List.getElem?_cons_zero, List.getElem?_cons_succ]; rfl) (by simp) (fun K hK => ?_) AllReadyL.nil
          go_simp
          have al0 := ((Below.refl w2.heap.size w2).alloc (Nat.le_refl _) (.cells #[.int .i64 id, .int .i64 at_] 130)).drew
          have al : Below w2.heap.size w2.drew (w2.alloc (.cells #[.int .i64 id, .int .i64 at_] 130)).drew := ⟨al0.os, al0.tape, al0.output, al0.size, al0.block⟩
          have rowa : MRow (w2.alloc (.cells #[.int .i64 id, .int .i64 at_] 130)).drew (some ⟨w2.heap.size, 0, none⟩) [⟨id, at_⟩] := MRow.one w2 id at_ 130
          have lta : w2.heap.size < (w2.alloc (.cells #[.int .i64 id, .int .i64 at_] 130)).drew.heap.size := by simp
          refine hK.out _ _ (keepC al (by exact hcell) hgz.out) (fun hHeld => ?_)
          generalize (w2.alloc (.cells #[.int .i64 id, .int .i64 at_] 130)).drew = wa at *
          clear hK K
          try simp only [Act.put, List.setIfInBounds_toArray, List.set_cons_zero, List.set_cons_succ]
          refine wpAnyLast_ready (rs := [7]) (by kernel_rfl) (by simp) ?_
          refine AllReadyL.cons (by simp only [List.getElem?_toArray, List.getElem?_cons_zero, List.getElem?_cons_succ]; rfl) (by simp) (fun K hK => ?_) AllReadyL.nil
          refine step_appR _ (by rfl) _ _ (by rfl) wa.heap.size _ [] (by rfl) (OwnR.nil _ _) (some ⟨b, off, none⟩) (L2.take k) k k (by rfl) HT1.out (by exact ((RS2.out.row.below (Below.refl _ _).drew).keepZ al hbz.out).take k) (by have := HT1.out; first | (simp; omega) | simp | omega) (by exact Nat.le_refl _) ?_
          intro v1 w1 own1 b1
          have bq := al.trans (b1.mono al.size)
          have ownq := own1.mono al.size
          have rowq := rowa.keepZ b1 lta
          refine hK.out _ _ (keepC bq (by exact hcell) hgz.out) (fun hHeld => ?_)
          generalize w1 = wq at *
          clear hK K
          try simp only [Act.put, List.setIfInBounds_toArray, List.set_cons_zero, List.set_cons_succ]
          refine wpAnyLast_ready (rs := [12]) (by kernel_rfl) (by simp) ?_
          refine AllReadyL.cons (by simp only [List.getElem?_toArray, List.getElem?_cons_zero, List.getElem?_cons_succ]; rfl) (by simp) (fun K hK => ?_) AllReadyL.nil
          refine step_appR _ (by rfl) _ _ (by rfl) w2.heap.size _ _ (by rfl) ownq (some ⟨w2.heap.size, 0, none⟩) [⟨id, at_⟩] 1 _ (by rfl) rfl (by exact rowq) (by have := HT1.out; first | (simp; omega) | simp | omega) bq.size ?_
          intro v3 w3 own3 b3
          refine hK.out _ _ (keepC b3 (keepC bq (by exact hcell) hgz.out) hgz.out) (fun hHeld => ?_)
          clear hK K
          try simp only [Act.put, List.setIfInBounds_toArray, List.set_cons_zero, List.set_cons_succ]
          refine wpAnyLast_ready (rs := [19]) (by kernel_rfl) (by simp) ?_
          refine AllReadyL.cons (by simp only [List.getElem?_toArray, List.getElem?_cons_zero, List.getElem?_cons_succ]; rfl) (by simp) (fun K hK => ?_) AllReadyL.nil
          refine step_appR _ (by rfl) _ _ (by rfl) w2.heap.size _ _ (by rfl) own3 (some ⟨b, off, none⟩) (L2.drop k) _ _ (by rfl) (by first | exact HT2.out | (have := HT2.out; omega)) (by exact (MRowE _ (by have := HT2.out; omega))) (by have := HT1.out; have := HT2.out; simp at *; omega) (Nat.le_trans bq.size b3.size) ?_
          intro v4 w4 own4 b4
          refine hK.out _ _ (keepC b4 (keepC b3 (keepC bq (by exact hcell) hgz.out) hgz.out) hgz.out) (fun hHeld => ?_)
          clear hK K
          try simp only [Act.put, List.setIfInBounds_toArray, List.set_cons_zero, List.set_cons_succ]
          refine' wpAnyLast_take (i := 20) (oi := _) (v := _) ?hi20bq (by kernel_rfl) (by kernel_rfl) (by kernel_rfl) (by kernel_rfl) (by kernel_rfl) ?hQ20bq (Or.inl ⟨?hw20bq, ?hy20bq⟩) (by assumption) ?rest20bq
          case hi20bq => exact (by simp only [List.getElem?_toArray, List.getElem?_cons_zero, List.getElem?_cons_succ]; rfl)
          case hQ20bq => exact fun _ _ _ h => h
          case hw20bq => rfl
          case hy20bq =>
            intro w hSw
            try dsimp only at hSw
            go_simp
            all_goals with_reducible rfl
          try simp only [Act.put, List.setIfInBounds_toArray, List.set_cons_zero, List.set_cons_succ]
          refine' wpAnyLast_take (i := 21) (oi := _) (v := _) ?hi21bq (by kernel_rfl) (by kernel_rfl) (by kernel_rfl) (by kernel_rfl) (by kernel_rfl) ?hQ21bq (Or.inl ⟨?hw21bq, ?hy21bq⟩) (by assumption) ?rest21bq
          case hi21bq => exact (by simp only [List.getElem?_toArray, List.getElem?_cons_zero, List.getElem?_cons_succ]; rfl)
          case hQ21bq => exact fun _ _ _ h => h
          case hw21bq => rfl
          case hy21bq =>
            intro w hSw
            try dsimp only at hSw
            go_simp
            all_goals with_reducible rfl
          try simp only [Act.put, List.setIfInBounds_toArray, List.set_cons_zero, List.set_cons_succ]
          obtain ⟨A4, m4, z4, rfl⟩ := own4.form2
          have c4 := keepC b4 (keepC b3 (keepC bq (by exact hcell) hgz.out) hgz.out) hgz.out
          have f4 := keepF b4 (keepF b3 (keepF bq (by exact RS2.out.fr) hgz.out) hgz.out) hgz.out
          refine wpAnyLast_ready (rs := [22]) (by kernel_rfl) (by simp) ?_
          refine AllReadyL.cons_last (by simp only [List.getElem?_toArray, List.getElem?_cons_zero, List.getElem?_cons_succ]; rfl) (by simp) (fun K hK => ?_) AllReadyL.nil
          go_simp
          refine hK.out _ _ ?_
          clear hK K
          try simp only [Act.put, List.setIfInBounds_toArray, List.set_cons_zero, List.set_cons_succ]
          refine wpAnyLast_done (by kernel_rfl) ?_ _
          go_wp2_with fail
          go_ret
          exact ⟨rfl, Hid.mk_ (RTurn.trans2 t2.out (by rw [HW.out]; exact RTurn.put c4 f4 own4 hgz.out (((Below.refl _ _).drew.trans bq).trans (b3.trans b4))))⟩
      · have hck2 : ¬ (c = k) := hck
        refine wp_region_last_drew (S := fun w' => w'.cell? ⟨g, 0, none⟩ = some (.slice (some ⟨b, off, none⟩) n c)) (ds := [22]) (by kernel_rfl) hcell (fun hHeld => ?_)
        refine' wpAnyLast_take (i := 0) (oi := _) (v := _) ?hi0c (by kernel_rfl) (by kernel_rfl) (by kernel_rfl) (by kernel_rfl) (by kernel_rfl) ?hQ0c (Or.inl ⟨?hw0c, ?hy0c⟩) (by assumption) ?rest0c
        case hi0c => exact (by simp only [List.getElem?_toArray, List.getElem?_cons_zero]; rfl)
        case hQ0c => exact fun _ _ _ h => h
        case hw0c => rfl
        case hy0c =>
          intro w hSw
          try dsimp only at hSw
          go_simp
          all_goals with_reducible rfl
        try simp only [Act.put, List.setIfInBounds_toArray, List.set_cons_zero, List.set_cons_succ]
        refine' wpAnyLast_take (i := 1) (oi := _) (v := _) ?hi1c (by kernel_rfl) (by kernel_rfl) (by kernel_rfl) (by kernel_rfl) (by kernel_rfl) ?hQ1c (Or.inl ⟨?hw1c, ?hy1c⟩) (by assumption) ?rest1c
        case hi1c => exact (by simp only [List.getElem?_toArray, List.getElem?_cons_zero, List.getElem?_cons_succ]; rfl)
        case hQ1c => exact fun _ _ _ h => h
        case hw1c => rfl
        case hy1c =>
          intro w hSw
          try dsimp only at hSw
          go_simp
          all_goals with_reducible rfl
        try simp only [Act.put, List.setIfInBounds_toArray, List.set_cons_zero, List.set_cons_succ]
        refine' wpAnyLast_take (i := 2) (oi := _) (v := _) ?hi2c (by kernel_rfl) (by kernel_rfl) (by kernel_rfl) (by kernel_rfl) (by kernel_rfl) ?hQ2c (Or.inl ⟨?hw2c, ?hy2c⟩) (by assumption) ?rest2c
        case hi2c => exact (by simp only [List.getElem?_toArray, List.getElem?_cons_zero, List.getElem?_cons_succ]; rfl)
        case hQ2c => exact fun _ _ _ h => h
        case hw2c => rfl
        case hy2c =>
          intro w hSw
          try dsimp only at hSw
          go_simp
          all_goals with_reducible rfl
        try simp only [Act.put, List.setIfInBounds_toArray, List.set_cons_zero, List.set_cons_succ]
        refine' wpAnyLast_take (i := 3) (oi := _) (v := _) ?hi3c (by kernel_rfl) (by kernel_rfl) (by kernel_rfl) (by kernel_rfl) (by kernel_rfl) ?hQ3c (Or.inl ⟨?hw3c, ?hy3c⟩) (by assumption) ?rest3c
        case hi3c => exact (by simp only [List.getElem?_toArray, List.getElem?_cons_zero, List.getElem?_cons_succ]; rfl)
        case hQ3c => exact fun _ _ _ h => h
        case hw3c => rfl
        case hy3c =>
          intro w hSw
          try dsimp only at hSw
          go_simp
          all_goals with_reducible rfl
        try simp only [Act.put, List.setIfInBounds_toArray, List.set_cons_zero, List.set_cons_succ]
        refine' wpAnyLast_take (i := 4) (oi := _) (v := _) ?hi4c (by kernel_rfl) (by kernel_rfl) (by kernel_rfl) (by kernel_rfl) (by kernel_rfl) ?hQ4c (Or.inl ⟨?hw4c, ?hy4c⟩) (by assumption) ?rest4c
        case hi4c => exact (by simp only [List.getElem?_toArray, List.getElem?_cons_zero, List.getElem?_cons_succ]; rfl)
        case hQ4c => exact fun _ _ _ h => h
        case hw4c => rfl
        case hy4c =>
          intro w hSw
          try dsimp only at hSw
          go_simp
          all_goals with_reducible rfl
        try simp only [Act.put, List.setIfInBounds_toArray, List.set_cons_zero, List.set_cons_succ]
        refine' wpAnyLast_take (i := 5) (oi := _) (v := _) ?hi5c (by kernel_rfl) (by kernel_rfl) (by kernel_rfl) (by kernel_rfl) (by kernel_rfl) ?hQ5c (Or.inl ⟨?hw5c, ?hy5c⟩) (by assumption) ?rest5c
        case hi5c => exact (by simp only [List.getElem?_toArray, List.getElem?_cons_zero, List.getElem?_cons_succ]; rfl)
        case hQ5c => exact fun _ _ _ h => h
        case hw5c => rfl
        case hy5c =>
          intro w hSw
          try dsimp only at hSw
          go_simp
          all_goals with_reducible rfl
        try simp only [Act.put, List.setIfInBounds_toArray, List.set_cons_zero, List.set_cons_succ]
        refine' wpAnyLast_take (i := 6) (oi := _) (v := _) ?hi6c (by kernel_rfl) (by kernel_rfl) (by kernel_rfl) (by kernel_rfl) (by kernel_rfl) ?hQ6c (Or.inl ⟨?hw6c, ?hy6c⟩) (by assumption) ?rest6c
        case hi6c => exact (by simp only [List.getElem?_toArray, List.getElem?_cons_zero, List.getElem?_cons_succ]; rfl)
        case hQ6c => exact fun _ _ _ h => h
        case hw6c => rfl
        case hy6c =>
          intro w hSw
          try dsimp only at hSw
          go_simp
          all_goals with_reducible rfl
        try simp only [Act.put, List.setIfInBounds_toArray, List.set_cons_zero, List.set_cons_succ]
        refine' wpAnyLast_take (i := 8) (oi := _) (v := _) ?hi8c (by kernel_rfl) (by kernel_rfl) (by kernel_rfl) (by kernel_rfl) (by kernel_rfl) ?hQ8c (Or.inl ⟨?hw8c, ?hy8c⟩) (by assumption) ?rest8c
        case hi8c => exact (by simp only [List.getElem?_toArray, List.getElem?_cons_zero, List.getElem?_cons_succ]; rfl)
        case hQ8c => exact fun _ _ _ h => h
        case hw8c => rfl
        case hy8c =>
          intro w hSw
          try dsimp only at hSw
          go_simp
          all_goals with_reducible rfl
        try simp only [Act.put, List.setIfInBounds_toArray, List.set_cons_zero, List.set_cons_succ]
        refine' wpAnyLast_take (i := 9) (oi := _) (v := _) ?hi9c (by kernel_rfl) (by kernel_rfl) (by kernel_rfl) (by kernel_rfl) (by kernel_rfl) ?hQ9c (Or.inl ⟨?hw9c, ?hy9c⟩) (by assumption) ?rest9c
        case hi9c => exact (by simp only [List.getElem?_toArray, List.getElem?_cons_zero, List.getElem?_cons_succ]; rfl)
        case hQ9c => exact fun _ _ _ h => h
        case hw9c => rfl
        case hy9c =>
          intro w hSw
          try dsimp only at hSw
          go_simp
          all_goals with_reducible rfl
        try simp only [Act.put, List.setIfInBounds_toArray, List.set_cons_zero, List.set_cons_succ]
        refine' wpAnyLast_take (i := 10) (oi := _) (v := _) ?hi10c (by kernel_rfl) (by kernel_rfl) (by kernel_rfl) (by kernel_rfl) (by kernel_rfl) ?hQ10c (Or.inl ⟨?hw10c, ?hy10c⟩) (by assumption) ?rest10c
        case hi10c => exact (by simp only [List.getElem?_toArray, List.getElem?_cons_zero, List.getElem?_cons_succ]; rfl)
        case hQ10c => exact fun _ _ _ h => h
        case hw10c => rfl
        case hy10c =>
          intro w hSw
          try dsimp only at hSw
          go_simp
          all_goals with_reducible rfl
        try simp only [Act.put, List.setIfInBounds_toArray, List.set_cons_zero, List.set_cons_succ]
        refine' wpAnyLast_take (i := 13) (oi := _) (v := _) ?hi13c (by kernel_rfl) (by kernel_rfl) (by kernel_rfl) (by kernel_rfl) (by kernel_rfl) ?hQ13c (Or.inl ⟨?hw13c, ?hy13c⟩) (by assumption) ?rest13c
        case hi13c => exact (by simp only [List.getElem?_toArray, List.getElem?_cons_zero, List.getElem?_cons_succ]; rfl)
        case hQ13c => exact fun _ _ _ h => h
        case hw13c => rfl
        case hy13c =>
          intro w hSw
          try dsimp only at hSw
          go_simp
          all_goals with_reducible rfl
        try simp only [Act.put, List.setIfInBounds_toArray, List.set_cons_zero, List.set_cons_succ]
        refine' wpAnyLast_take (i := 14) (oi := _) (v := _) ?hi14c (by kernel_rfl) (by kernel_rfl) (by kernel_rfl) (by kernel_rfl) (by kernel_rfl) ?hQ14c (Or.inl ⟨?hw14c, ?hy14c⟩) (by assumption) ?rest14c
        case hi14c => exact (by simp only [List.getElem?_toArray, List.getElem?_cons_zero, List.getElem?_cons_succ]; rfl)
        case hQ14c => exact fun _ _ _ h => h
        case hw14c => rfl
        case hy14c =>
          intro w hSw
          try dsimp only at hSw
          go_simp
          all_goals with_reducible rfl
        try simp only [Act.put, List.setIfInBounds_toArray, List.set_cons_zero, List.set_cons_succ]
        refine' wpAnyLast_take (i := 15) (oi := _) (v := _) ?hi15c (by kernel_rfl) (by kernel_rfl) (by kernel_rfl) (by kernel_rfl) (by kernel_rfl) ?hQ15c (Or.inl ⟨?hw15c, ?hy15c⟩) (by assumption) ?rest15c
        case hi15c => exact (by simp only [List.getElem?_toArray, List.getElem?_cons_zero, List.getElem?_cons_succ]; rfl)
        case hQ15c => exact fun _ _ _ h => h
        case hw15c => rfl
        case hy15c =>
          intro w hSw
          try dsimp only at hSw
          go_simp
          all_goals with_reducible rfl
        try simp only [Act.put, List.setIfInBounds_toArray, List.set_cons_zero, List.set_cons_succ]
        refine' wpAnyLast_take (i := 16) (oi := _) (v := _) ?hi16c (by kernel_rfl) (by kernel_rfl) (by kernel_rfl) (by kernel_rfl) (by kernel_rfl) ?hQ16c (Or.inl ⟨?hw16c, ?hy16c⟩) (by assumption) ?rest16c
        case hi16c => exact (by simp only [List.getElem?_toArray, List.getElem?_cons_zero, List.getElem?_cons_succ]; rfl)
        case hQ16c => exact fun _ _ _ h => h
        case hw16c => rfl
        case hy16c =>
          intro w hSw
          try dsimp only at hSw
          go_simp
          all_goals with_reducible rfl
        try simp only [Act.put, List.setIfInBounds_toArray, List.set_cons_zero, List.set_cons_succ]
        refine' wpAnyLast_take (i := 17) (oi := _) (v := _) ?hi17c (by kernel_rfl) (by kernel_rfl) (by kernel_rfl) (by kernel_rfl) (by kernel_rfl) ?hQ17c (Or.inl ⟨?hw17c, ?hy17c⟩) (by assumption) ?rest17c
        case hi17c => exact (by simp only [List.getElem?_toArray, List.getElem?_cons_zero, List.getElem?_cons_succ]; rfl)
        case hQ17c => exact fun _ _ _ h => h
        case hw17c => rfl
        case hy17c =>
          intro w hSw
          try dsimp only at hSw
          go_simp
          all_goals with_reducible rfl
        try simp only [Act.put, List.setIfInBounds_toArray, List.set_cons_zero, List.set_cons_succ]
        refine' wpAnyLast_take (i := 18) (oi := _) (v := _) ?hi18c (by kernel_rfl) (by kernel_rfl) (by kernel_rfl) (by kernel_rfl) (by kernel_rfl) ?hQ18c (Or.inl ⟨?hw18c, ?hy18c⟩) (by assumption) ?rest18c
        case hi18c => exact (by simp only [List.getElem?_toArray, List.getElem?_cons_zero, List.getElem?_cons_succ]; rfl)
        case hQ18c => exact fun _ _ _ h => h
        case hw18c => rfl
        case hy18c =>
          intro w hSw
          try dsimp only at hSw
          go_simp
          all_goals with_reducible rfl
        try simp only [Act.put, List.setIfInBounds_toArray, List.set_cons_zero, List.set_cons_succ]
        refine wpAnyLast_ready (rs := [7, 11]) (by kernel_rfl) (by simp) ?_
        refine AllReadyL.cons (by simp only [List.getElem?_toArray, List.getElem?_cons_zero, List.getElem?_cons_succ]; rfl) (by simp) (fun K hK => ?_) ?_
        · refine step_appR _ (by rfl) _ _ (by rfl) w2.heap.size _ [] (by rfl) (OwnR.nil _ _) (some ⟨b, off, none⟩) (L2.take k) k c (by rfl) HT1.out (by exact (RS2.out.row.below (Below.refl _ _).drew).take k) (by have := HT1.out; first | (simp; omega) | simp | omega) (by exact Nat.le_refl _) ?_
          intro v1 w1 own1 b1
          refine hK.out _ _ (keepC b1 (by exact hcell) hgz.out) (fun hHeld => ?_)
          clear hK K
          try simp only [Act.put, List.setIfInBounds_toArray, List.set_cons_zero, List.set_cons_succ]
          refine wpAnyLast_ready (rs := [11]) (by kernel_rfl) (by simp) ?_
          refine AllReadyL.cons (by simp only [List.getElem?_toArray, List.getElem?_cons_zero, List.getElem?_cons_succ]; rfl) (by simp) (fun K hK => ?_) AllReadyL.nil
          go_simp
          have al := (Below.refl w1.heap.size w1).alloc (Nat.le_refl _) (.cells #[.int .i64 id, .int .i64 at_] 130)
          have bq := b1.trans (al.mono b1.size)
          have ownq := own1.keep al
          have rowq := MRow.one w1 id at_ 130
          refine hK.out _ _ (keepC bq (by exact hcell) hgz.out) (fun hHeld => ?_)
          generalize w1.alloc (.cells #[.int .i64 id, .int .i64 at_] 130) = wq at *
          generalize w1.heap.size = q at *
          clear hK K
          try simp only [Act.put, List.setIfInBounds_toArray, List.set_cons_zero, List.set_cons_succ]
          refine wpAnyLast_ready (rs := [12]) (by kernel_rfl) (by simp) ?_
          refine AllReadyL.cons (by simp only [List.getElem?_toArray, List.getElem?_cons_zero, List.getElem?_cons_succ]; rfl) (by simp) (fun K hK => ?_) AllReadyL.nil
          refine step_appR _ (by rfl) _ _ (by rfl) w2.heap.size _ _ (by rfl) ownq (some ⟨q, 0, none⟩) [⟨id, at_⟩] 1 _ (by rfl) rfl (by exact rowq) (by have := HT1.out; first | (simp; omega) | simp | omega) bq.size ?_
          intro v3 w3 own3 b3
          refine hK.out _ _ (keepC b3 (keepC bq (by exact hcell) hgz.out) hgz.out) (fun hHeld => ?_)
          clear hK K
          try simp only [Act.put, List.setIfInBounds_toArray, List.set_cons_zero, List.set_cons_succ]
          refine wpAnyLast_ready (rs := [19]) (by kernel_rfl) (by simp) ?_
          refine AllReadyL.cons (by simp only [List.getElem?_toArray, List.getElem?_cons_zero, List.getElem?_cons_succ]; rfl) (by simp) (fun K hK => ?_) AllReadyL.nil
          refine step_appR _ (by rfl) _ _ (by rfl) w2.heap.size _ _ (by rfl) own3 (some ⟨b, off + k * 2, none⟩) (L2.drop k) _ _ (by rfl) (by first | exact HT2.out | (have := HT2.out; omega)) (by exact ((((RS2.out.row.drop k).below (Below.refl _ _).drew).keepZ bq hbz.out).keepZ b3 hbz.out)) (by have := HT1.out; have := HT2.out; simp at *; omega) (Nat.le_trans bq.size b3.size) ?_
          intro v4 w4 own4 b4
          refine hK.out _ _ (keepC b4 (keepC b3 (keepC bq (by exact hcell) hgz.out) hgz.out) hgz.out) (fun hHeld => ?_)
          clear hK K
          try simp only [Act.put, List.setIfInBounds_toArray, List.set_cons_zero, List.set_cons_succ]
          refine' wpAnyLast_take (i := 20) (oi := _) (v := _) ?hi20cp (by kernel_rfl) (by kernel_rfl) (by kernel_rfl) (by kernel_rfl) (by kernel_rfl) ?hQ20cp (Or.inl ⟨?hw20cp, ?hy20cp⟩) (by assumption) ?rest20cp
          case hi20cp => exact (by simp only [List.getElem?_toArray, List.getElem?_cons_zero, List.getElem?_cons_succ]; rfl)
          case hQ20cp => exact fun _ _ _ h => h
          case hw20cp => rfl
          case hy20cp =>
            intro w hSw
            try dsimp only at hSw
            go_simp
            all_goals with_reducible rfl
          try simp only [Act.put, List.setIfInBounds_toArray, List.set_cons_zero, List.set_cons_succ]
          refine' wpAnyLast_take (i := 21) (oi := _) (v := _) ?hi21cp (by kernel_rfl) (by kernel_rfl) (by kernel_rfl) (by kernel_rfl) (by kernel_rfl) ?hQ21cp (Or.inl ⟨?hw21cp, ?hy21cp⟩) (by assumption) ?rest21cp
          case hi21cp => exact (by simp only [List.getElem?_toArray, List.getElem?_cons_zero, List.getElem?_cons_succ]; rfl)
          case hQ21cp => exact fun _ _ _ h => h
          case hw21cp => rfl
          case hy21cp =>
            intro w hSw
            try dsimp only at hSw
            go_simp
            all_goals with_reducible rfl
          try simp only [Act.put, List.setIfInBounds_toArray, List.set_cons_zero, List.set_cons_succ]
          obtain ⟨A4, m4, z4, rfl⟩ := own4.form2
          have c4 := keepC b4 (keepC b3 (keepC bq (by exact hcell) hgz.out) hgz.out) hgz.out
          have f4 := keepF b4 (keepF b3 (keepF bq (by exact RS2.out.fr) hgz.out) hgz.out) hgz.out
          refine wpAnyLast_ready (rs := [22]) (by kernel_rfl) (by simp) ?_
          refine AllReadyL.cons_last (by simp only [List.getElem?_toArray, List.getElem?_cons_zero, List.getElem?_cons_succ]; rfl) (by simp) (fun K hK => ?_) AllReadyL.nil
          go_simp
          refine hK.out _ _ ?_
          clear hK K
          try simp only [Act.put, List.setIfInBounds_toArray, List.set_cons_zero, List.set_cons_succ]
          refine wpAnyLast_done (by kernel_rfl) ?_ _
          go_wp2_with fail
          go_ret
          exact ⟨rfl, Hid.mk_ (RTurn.trans2 t2.out (by rw [HW.out]; exact RTurn.put c4 f4 own4 hgz.out (((Below.refl _ _).drew.trans bq).trans (b3.trans b4))))⟩
        · refine AllReadyL.cons (by simp only [List.getElem?_toArray, List.getElem?_cons_zero, List.getElem?_cons_succ]; rfl) (by simp) (fun K hK => ?_) AllReadyL.nil
          go_simp
          have al0 := ((Below.refl w2.heap.size w2).alloc (Nat.le_refl _) (.cells #[.int .i64 id, .int .i64 at_] 130)).drew
          have al : Below w2.heap.size w2.drew (w2.alloc (.cells #[.int .i64 id, .int .i64 at_] 130)).drew := ⟨al0.os, al0.tape, al0.output, al0.size, al0.block⟩
          have rowa : MRow (w2.alloc (.cells #[.int .i64 id, .int .i64 at_] 130)).drew (some ⟨w2.heap.size, 0, none⟩) [⟨id, at_⟩] := MRow.one w2 id at_ 130
          have lta : w2.heap.size < (w2.alloc (.cells #[.int .i64 id, .int .i64 at_] 130)).drew.heap.size := by simp
          refine hK.out _ _ (keepC al (by exact hcell) hgz.out) (fun hHeld => ?_)
          generalize (w2.alloc (.cells #[.int .i64 id, .int .i64 at_] 130)).drew = wa at *
          clear hK K
          try simp only [Act.put, List.setIfInBounds_toArray, List.set_cons_zero, List.set_cons_succ]
          refine wpAnyLast_ready (rs := [7]) (by kernel_rfl) (by simp) ?_
          refine AllReadyL.cons (by simp only [List.getElem?_toArray, List.getElem?_cons_zero, List.getElem?_cons_succ]; rfl) (by simp) (fun K hK => ?_) AllReadyL.nil
          refine step_appR _ (by rfl) _ _ (by rfl) wa.heap.size _ [] (by rfl) (OwnR.nil _ _) (some ⟨b, off, none⟩) (L2.take k) k c (by rfl) HT1.out (by exact ((RS2.out.row.below (Below.refl _ _).drew).keepZ al hbz.out).take k) (by have := HT1.out; first | (simp; omega) | simp | omega) (by exact Nat.le_refl _) ?_
          intro v1 w1 own1 b1
          have bq := al.trans (b1.mono al.size)
          have ownq := own1.mono al.size
          have rowq := rowa.keepZ b1 lta
          refine hK.out _ _ (keepC bq (by exact hcell) hgz.out) (fun hHeld => ?_)
          generalize w1 = wq at *
          clear hK K
          try simp only [Act.put, List.setIfInBounds_toArray, List.set_cons_zero, List.set_cons_succ]
          refine wpAnyLast_ready (rs := [12]) (by kernel_rfl) (by simp) ?_
          refine AllReadyL.cons (by simp only [List.getElem?_toArray, List.getElem?_cons_zero, List.getElem?_cons_succ]; rfl) (by simp) (fun K hK => ?_) AllReadyL.nil
          refine step_appR _ (by rfl) _ _ (by rfl) w2.heap.size _ _ (by rfl) ownq (some ⟨w2.heap.size, 0, none⟩) [⟨id, at_⟩] 1 _ (by rfl) rfl (by exact rowq) (by have := HT1.out; first | (simp; omega) | simp | omega) bq.size ?_
          intro v3 w3 own3 b3
          refine hK.out _ _ (keepC b3 (keepC bq (by exact hcell) hgz.out) hgz.out) (fun hHeld => ?_)
          clear hK K
          try simp only [Act.put, List.setIfInBounds_toArray, List.set_cons_zero, List.set_cons_succ]
          refine wpAnyLast_ready (rs := [19]) (by kernel_rfl) (by simp) ?_
          refine AllReadyL.cons (by simp only [List.getElem?_toArray, List.getElem?_cons_zero, List.getElem?_cons_succ]; rfl) (by simp) (fun K hK => ?_) AllReadyL.nil
          refine step_appR _ (by rfl) _ _ (by rfl) w2.heap.size _ _ (by rfl) own3 (some ⟨b, off + k * 2, none⟩) (L2.drop k) _ _ (by rfl) (by first | exact HT2.out | (have := HT2.out; omega)) (by exact ((((RS2.out.row.drop k).below (Below.refl _ _).drew).keepZ bq hbz.out).keepZ b3 hbz.out)) (by have := HT1.out; have := HT2.out; simp at *; omega) (Nat.le_trans bq.size b3.size) ?_
          intro v4 w4 own4 b4
          refine hK.out _ _ (keepC b4 (keepC b3 (keepC bq (by exact hcell) hgz.out) hgz.out) hgz.out) (fun hHeld => ?_)
          clear hK K
          try simp only [Act.put, List.setIfInBounds_toArray, List.set_cons_zero, List.set_cons_succ]
          refine' wpAnyLast_take (i := 20) (oi := _) (v := _) ?hi20cq (by kernel_rfl) (by kernel_rfl) (by kernel_rfl) (by kernel_rfl) (by kernel_rfl) ?hQ20cq (Or.inl ⟨?hw20cq, ?hy20cq⟩) (by assumption) ?rest20cq
          case hi20cq => exact (by simp only [List.getElem?_toArray, List.getElem?_cons_zero, List.getElem?_cons_succ]; rfl)
          case hQ20cq => exact fun _ _ _ h => h
          case hw20cq => rfl
          case hy20cq =>
            intro w hSw
            try dsimp only at hSw
            go_simp
            all_goals with_reducible rfl
          try simp only [Act.put, List.setIfInBounds_toArray, List.set_cons_zero, List.set_cons_succ]
          refine' wpAnyLast_take (i := 21) (oi := _) (v := _) ?hi21cq (by kernel_rfl) (by kernel_rfl) (by kernel_rfl) (by kernel_rfl) (by kernel_rfl) ?hQ21cq (Or.inl ⟨?hw21cq, ?hy21cq⟩) (by assumption) ?rest21cq
          case hi21cq => exact (by simp only [List.getElem?_toArray, List.getElem?_cons_zero, List.getElem?_cons_succ]; rfl)
          case hQ21cq => exact fun _ _ _ h => h
          case hw21cq => rfl
          case hy21cq =>
            intro w hSw
            try dsimp only at hSw
            go_simp
            all_goals with_reducible rfl
          try simp only [Act.put, List.setIfInBounds_toArray, List.set_cons_zero, List.set_cons_succ]
          obtain ⟨A4, m4, z4, rfl⟩ := own4.form2
          have c4 := keepC b4 (keepC b3 (keepC bq (by exact hcell) hgz.out) hgz.out) hgz.out
          have f4 := keepF b4 (keepF b3 (keepF bq (by exact RS2.out.fr) hgz.out) hgz.out) hgz.out
          refine wpAnyLast_ready (rs := [22]) (by kernel_rfl) (by simp) ?_
          refine AllReadyL.cons_last (by simp only [List.getElem?_toArray, List.getElem?_cons_zero, List.getElem?_cons_succ]; rfl) (by simp) (fun K hK => ?_) AllReadyL.nil
          go_simp
          refine hK.out _ _ ?_
          clear hK K
          try simp only [Act.put, List.setIfInBounds_toArray, List.set_cons_zero, List.set_cons_succ]
          refine wpAnyLast_done (by kernel_rfl) ?_ _
          go_wp2_with fail
          go_ret
          exact ⟨rfl, Hid.mk_ (RTurn.trans2 t2.out (by rw [HW.out]; exact RTurn.put c4 f4 own4 hgz.out (((Below.refl _ _).drew.trans bq).trans (b3.trans b4))))⟩
end Go.Proofs.YthndjhocmpelcaaGreat.Wat
