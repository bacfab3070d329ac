/- The clock, walked. Conditions: as each theorem says. -/
import Derived.Test.YthndjhocmpelcaaGreatGb
import Derived.Shelf.Abstract
import Derived.Lib.SliceRun
namespace Go.Proofs.YthndjhocmpelcaaGreat.Wat
open Go.RowKit Kit Go.Shelf
set_option linter.unusedVariables false
theorem is57 (id : Int) (B : Nat) (x : Mom) (W : World) (hcell : W.cell? ⟨B, 0, none⟩ = some (.int .i64 id)) :
    Calls Tryz.prog 100 #[.agg #[.int .i64 x.id, .int .i64 x.at_], .pointer (some ⟨B, 0, none⟩)] W fun e w' => e = .returned (.bool (decide (x.id = id))) ∧ Below W.heap.size W w' := by
  have hB := World.block_lt_of_cell? W _ hcell
  have hne : B ≠ W.heap.size := by simp at hB; omega
  go_enter Tryz.func100, Tryz.ntmps100
  go_wp2_with fail
  go_ret
  refine ⟨by simp [Bool.beq_eq_decide_eq], ((Below.refl _ W).alloc (Nat.le_refl _) _)⟩
theorem MAt.keep {w w' : World} {b : Nat} {hs : List Mom} (h : MAt w b hs) (hb : Below w.heap.size w w') : MAt w' b hs := fun j m hj => by
  obtain ⟨h1, h2, h3, h4⟩ := h j m hj
  have hl := World.block_lt_of_cell? w _ h1
  have := hb.block b hl
  refine ⟨keep1 hb h1, keep1 hb h2, ?_, ?_⟩
  · rw [← h3]; simp [World.frozen?, this]
  · rw [← h4]; simp [World.frozen?, this]
theorem findIdx_hit : ∀ (hs : List Mom) (id : Int) (k : Nat), k < hs.length → (fn hs k).id = id → (∀ j, j < k → (fn hs j).id ≠ id) → hs.findIdx? (fun m => decide (m.id = id)) = some k
  | [], _, _, h, _, _ => absurd h (Nat.not_lt_zero _)
  | a :: l, id, 0, _, h, _ => by
    have h : a.id = id := h
    simp [List.findIdx?_cons, h]
  | a :: l, id, k + 1, hk, h, hA => by
    have h0 : a.id ≠ id := hA 0 (by omega)
    rw [List.findIdx?_cons]
    simp only [h0, decide_false, Bool.false_eq_true, if_false]
    rw [findIdx_hit l id k (by simpa using hk) h (fun j hj => hA (j + 1) (by omega))]
    rfl
theorem findIdx_miss : ∀ (hs : List Mom) (id : Int), (∀ j, j < hs.length → (fn hs j).id ≠ id) → hs.findIdx? (fun m => decide (m.id = id)) = none
  | [], _, _ => rfl
  | a :: l, id, hA => by
    have h0 : a.id ≠ id := hA 0 (by simp)
    rw [List.findIdx?_cons]
    simp only [h0, decide_false, Bool.false_eq_true, if_false]
    rw [findIdx_miss l id (fun j hj => hA (j + 1) (by simpa using hj))]
    rfl
set_option maxHeartbeats 2000000 in
theorem ixf (b n c B : Nat) (id : Int) (hs : List Mom) (w : World) (hm : Hid (MAt w b hs)) (hn : Hid (n = hs.length)) (hbig : n ≤ 1000000) (hB : Hid (w.cell? ⟨B, 0, none⟩ = some (.int .i64 id))) (r : Int) (hr : Hid (r = match hs.findIdx? (fun m => decide (m.id = id)) with | some i => (i : Int) | none => -1)) :
    Calls Tryz.prog 99 #[.slice (some ⟨b, 0, none⟩) n c, .func (.func 100) #[] #[.pointer (some ⟨B, 0, none⟩)]] w fun e w' => e = .returned (.int .i64 r) ∧ Below w.heap.size w w' := by
  have eg : ∀ args w, (callFunc 100 args).run Tryz.prog w = .ok (.enter 100 args) w := enters_of Tryz.func100 (by kernel_rfl) rfl
  go_enter Tryz.func99, Tryz.ntmps99
  go_wp2
  go_loopg [5, 8] n (fun gg _ s8 wr => ∃ kk : Nat, kk ≤ n ∧ n - kk ≤ gg ∧ s8 = .int .i64 kk ∧ Hid (Below w.heap.size w wr) ∧ Hid (∀ j, j < kk → (fn hs j).id ≠ id))
  case atStart => exact ⟨0, Nat.zero_le _, by omega, rfl, Below.refl _ w, fun j hj => absurd hj (Nat.not_lt_zero _)⟩
  case round =>
    obtain ⟨kk, hkk, hg, rfl, BW, A⟩ := hrel
    by_cases hlt : kk < n
    · have hltz : (kk : Int) < (n : Int) := by omega
      have hl := hn.out
      have l0 := (hm.out.keep BW.out) kk (fn hs kk) (fn_get (by omega))
      clear hl
      have hcall := is57 id B (fn hs kk) wr (keep1 BW.out hB.out)
      obtain ⟨x0, x1, _, _⟩ := l0
      have k0 : (0 : Int) ≤ (kk : Int) := by omega
      cases hq : decide ((fn hs kk).id = id) with
      | true =>
        rw [hq] at hcall
        have hr := hr.out
        rw [findIdx_hit hs id kk (by have := hn.out; omega) (of_decide_eq_true hq) A.out] at hr
        simp only at hr
        subst hr
        clear hq
        go_wp2_with (go_at_call 100; refine hcall.mono ?_; rintro e w' ⟨rfl, hb'⟩)
        go_ret
        exact ⟨rfl, BW.out.trans (hb'.mono BW.out.size)⟩
      | false =>
        rw [hq] at hcall
        have HQ := Hid.mk_ (of_decide_eq_false hq)
        clear hq
        go_wp2_with (go_at_call 100; refine hcall.mono ?_; rintro e w' ⟨rfl, hb'⟩)
        go_roundg (n - (kk + 1))
        case measure => omega
        case rel =>
          refine ⟨kk + 1, by omega, by omega, by go_num, Hid.mk_ (BW.out.trans (hb'.mono BW.out.size)), Hid.mk_ (fun j hj => ?_)⟩
          by_cases e : j = kk
          · subst e
            exact HQ.out
          · exact A.out j (by omega)
    · have hltz : ¬ (kk : Int) < (n : Int) := by omega
      have e0 : kk = n := by omega
      subst e0
      have hl := hn.out
      have hr := hr.out
      rw [findIdx_miss hs id (fun j hj => A.out j (by omega))] at hr
      simp only at hr
      subst hr
      clear hl
      go_wp2
      go_ret
      exact ⟨rfl, BW.out⟩
end Go.Proofs.YthndjhocmpelcaaGreat.Wat
namespace Go.Proofs.YthndjhocmpelcaaGreat.Wat
open Go.RowKit Kit Go.Shelf
set_option linter.unusedVariables false
theorem ixf_nil (c B : Nat) (w : World) :
    Calls Tryz.prog 99 #[.slice none 0 c, .func (.func 100) #[] #[.pointer (some ⟨B, 0, none⟩)]] w fun e w' => e = .returned (.int .i64 (-1)) ∧ w' = w := by
  go_enter Tryz.func99, Tryz.ntmps99
  go_wp2
  go_loopg [5, 8] 0 (fun gg _ s8 wr => s8 = .int .i64 0 ∧ wr = w)
  case atStart => exact ⟨rfl, rfl⟩
  case round =>
    obtain ⟨rfl, rfl⟩ := hrel
    go_wp2
    go_ret
    exact ⟨rfl, rfl⟩
def plc (hs : List Mom) (id : Int) : Int := match hs.findIdx? (fun m => decide (m.id = id)) with | some i => (i : Int) | none => -1
theorem place_nil (id : Int) (w : World) : Calls Tryz.prog 89 #[.pointer none, .int .i64 id] w fun e w' => e = .returned (.int .i64 (-1)) ∧ Below w.heap.size w w' := by
  go_enter Tryz.func89, Tryz.ntmps89
  go_wp2_with fail
  go_ret
  exact ⟨rfl, (Below.refl _ w).alloc (Nat.le_refl _) _⟩
set_option maxRecDepth 100000 in
theorem place {w : World} {g n c : Nat} {A : Option Addr} {hs : List Mom} (id : Int) (h : Hid (HpS w g A n c hs)) (hn : n ≤ 1000000) (r : Int) (hr : Hid (r = plc hs id)) :
    Calls Tryz.prog 89 #[.pointer (some ⟨g, 0, none⟩), .int .i64 id] w fun e w' => e = .returned (.int .i64 r) ∧ Below w.heap.size w w' := by
  have a1 : Below w.heap.size w (w.alloc (.cells #[.int .i64 id] 3)) := (Below.refl _ _).alloc (Nat.le_refl _) _
  have h1 := Hid.mk_ (h.out.below a1)
  have c1 := h1.out.cell
  have b1 : Hid ((w.alloc (.cells #[.int .i64 id] 3)).cell? ⟨w.heap.size, 0, none⟩ = some (.int .i64 id)) := Hid.mk_ (by rw [World.cell?_alloc_new]; rfl)
  have z1 := Hid.mk_ a1
  clear a1
  rcases h.out.own.addr with rfl | ⟨b, rfl, _, _⟩
  · have hn0 : n = 0 := by
      rw [h.out.len]
      rcases Nat.eq_zero_or_pos hs.length with e | e
      · exact e
      · obtain ⟨b, hb, _⟩ := h.out.own.some_ e
        cases hb
    subst hn0
    have hs0 : hs = [] := List.length_eq_zero_iff.1 h.out.len.symm
    have hr0 : r = -1 := by rw [hr.out, hs0]; rfl
    subst hr0
    go_enter Tryz.func89, Tryz.ntmps89
    go_wp2_with (go_at_call 99; refine (ixf_nil c _ _).mono ?_; rintro e w' ⟨rfl, rfl⟩)
    go_ret
    exact ⟨rfl, z1.out⟩
  · go_enter Tryz.func89, Tryz.ntmps89
    go_wp2_with (go_at_call 99; refine (ixf b n c _ id hs _ (Hid.mk_ h1.out.own.at_) (Hid.mk_ h1.out.len) hn b1 r hr).mono ?_; rintro e w' ⟨rfl, b2⟩)
    go_ret
    exact ⟨rfl, z1.out.trans (b2.mono z1.out.size)⟩
/-- A good row of moments: in order, each id once, within the bounds. -/
structure St (L : List Mom) : Prop where
  ord : L.Pairwise (fun a b => ltM a b = true)
  nodup : (L.map Mom.id).Nodup
  id0 : ∀ m ∈ L, 0 ≤ m.id ∧ m.id ≤ 999
  at0 : ∀ m ∈ L, 0 ≤ m.at_ ∧ m.at_ ≤ 1099511627776
theorem nodup_le : ∀ (N : Nat) (l : List Int), l.Nodup → (∀ x ∈ l, 0 ≤ x ∧ x < N) → l.length ≤ N
  | 0, [], _, _ => Nat.le_refl _
  | 0, a :: l, _, h => by have := h a (by simp); omega
  | N + 1, l, hd, h => by
    have h1 := nodup_le N (l.erase N) (hd.erase _) (fun x hx => by
      have h2 := h x (List.mem_of_mem_erase hx)
      have h3 : x ≠ (N : Int) := fun e => by
        subst e
        exact (List.Nodup.mem_erase_iff hd).1 hx |>.1 rfl
      omega)
    rw [List.length_erase] at h1
    split at h1 <;> omega
theorem St.len {L : List Mom} (h : St L) : L.length ≤ 1000 := by
  have := nodup_le 1000 (L.map Mom.id) h.nodup (fun x hx => by
    obtain ⟨m, hm, rfl⟩ := List.mem_map.1 hx
    have := h.id0 m hm
    omega)
  simpa using this
theorem St.nil : St [] := ⟨.nil, .nil, fun _ h => absurd h (List.not_mem_nil), fun _ h => absurd h (List.not_mem_nil)⟩
theorem St.filter {L : List Mom} (h : St L) (p : Mom → Bool) : St (L.filter p) :=
  ⟨h.ord.filter _, h.nodup.sublist (List.Sublist.map _ (List.filter_sublist)), fun m hm => h.id0 m (List.mem_filter.1 hm).1, fun m hm => h.at0 m (List.mem_filter.1 hm).1⟩
/-- A clock that waits for L. -/
structure Clk (w : World) (g : Nat) (A : Option Addr) (L : List Mom) : Prop where
  st : St L
  ex : ∃ n c hs, HpS w g A n c hs ∧ Hp hs ∧ hs.Perm L
theorem Clk.wr {w w' : World} {S : Nat → Prop} {g : Nat} {A : Option Addr} {L : List Mom} (h : Clk w g A L) (hw : Wr w w' S) (hd : ∀ k, Its g A k → ¬ S k) : Clk w' g A L := by
  obtain ⟨h1, n, c, hs, h2, h3, h4⟩ := h
  exact ⟨h1, n, c, hs, h2.wr hw (hd g (.inl rfl)) (fun b off e => hd b (.inr ⟨off, e⟩)), h3, h4⟩
theorem Clk.below {w w' : World} {g : Nat} {A : Option Addr} {L : List Mom} (h : Clk w g A L) (hw : Below w.heap.size w w') : Clk w' g A L :=
  h.wr (Wr.of_below hw (fun _ => False)) (fun k _ h => h)
theorem Clk.its {w : World} {g : Nat} {A : Option Addr} {L : List Mom} (h : Clk w g A L) : ∀ k, Its g A k → k < w.heap.size := by
  obtain ⟨h1, n, c, hs, h2, h3, h4⟩ := h
  rintro k (rfl | ⟨off, rfl⟩)
  · exact h2.lt
  · exact (h2.own.block k off rfl).2
end Go.Proofs.YthndjhocmpelcaaGreat.Wat
namespace Go.Proofs.YthndjhocmpelcaaGreat.Wat
open Go.RowKit Kit Go.Shelf
set_option linter.unusedVariables false
theorem ltM_tot {a b : Mom} (h : a.id ≠ b.id) (hl : ltM a b = false) : ltM b a = true := by
  unfold ltM at *
  split at hl <;> rename_i e
  · rw [if_pos e.symm]; simp at *; omega
  · rw [if_neg (fun h => e h.symm)]; simp at *; omega
theorem ltM_trans {a b c : Mom} (h : ltM a b = true) (k : ltM b c = true) : ltM a c = true := by
  unfold ltM at *
  split at h <;> split at k <;> split <;> simp at * <;> omega
theorem ltM_at {a b : Mom} (h : ltM a b = true) : a.at_ ≤ b.at_ := by
  unfold ltM at h
  split at h <;> simp at h <;> omega
theorem ltM_irr (a : Mom) : ltM a a = false := ordM.irrefl a
def ins (m : Mom) : List Mom → List Mom
  | [] => [m]
  | x :: l => if ltM x m then x :: ins m l else m :: x :: l
theorem ins_perm (m : Mom) : ∀ L, (ins m L).Perm (m :: L)
  | [] => .refl _
  | x :: l => by
    rw [ins]
    split
    · exact ((ins_perm m l).cons x).trans (.swap _ _ _)
    · exact .refl _
theorem ins_mem {m x : Mom} {L : List Mom} : x ∈ ins m L ↔ x = m ∨ x ∈ L := by rw [(ins_perm m L).mem_iff]; simp
theorem ins_ord {m : Mom} : ∀ {L : List Mom}, L.Pairwise (fun a b => ltM a b = true) → (∀ x ∈ L, x.id ≠ m.id) → (ins m L).Pairwise (fun a b => ltM a b = true)
  | [], _, _ => by simp [ins]
  | x :: l, h, hn => by
    rw [List.pairwise_cons] at h
    rw [ins]
    split
    · rename_i e
      rw [List.pairwise_cons]
      refine ⟨fun y hy => ?_, ins_ord h.2 (fun y hy => hn y (List.mem_cons_of_mem _ hy))⟩
      rcases ins_mem.1 hy with rfl | hy
      · exact e
      · exact h.1 y hy
    · rename_i e
      have e := ltM_tot (hn x (by simp)) (by simpa using e)
      rw [List.pairwise_cons, List.pairwise_cons]
      refine ⟨fun y hy => ?_, h⟩
      rcases List.mem_cons.1 hy with rfl | hy
      · exact e
      · exact ltM_trans e (h.1 y hy)
def without (id : Int) (L : List Mom) : List Mom := L.filter fun m => decide (m.id ≠ id)
def setL (id at_ : Int) (L : List Mom) : List Mom := ins ⟨id, at_⟩ (without id L)
def okM (id at_ : Int) : Bool := decide (0 ≤ id) && decide (id ≤ 999) && decide (0 ≤ at_) && decide (at_ ≤ 1099511627776)
theorem without_mem {id : Int} {L : List Mom} {m : Mom} : m ∈ without id L ↔ m ∈ L ∧ m.id ≠ id := by unfold without; rw [List.mem_filter]; simp
theorem St.without {L : List Mom} (h : St L) (id : Int) : St (without id L) := h.filter _
theorem okM_iff {id at_ : Int} : okM id at_ = true ↔ 0 ≤ id ∧ id ≤ 999 ∧ 0 ≤ at_ ∧ at_ ≤ 1099511627776 := by
  unfold okM; simp [and_assoc]
theorem St.setL {L : List Mom} (h : St L) {id at_ : Int} (ok : okM id at_ = true) : St (setL id at_ L) := by
  have hw := h.without id
  have hk := okM_iff.1 ok
  refine ⟨ins_ord hw.ord (fun x hx => (without_mem.1 hx).2), ?_, fun m hm => ?_, fun m hm => ?_⟩
  · refine (((ins_perm ⟨id, at_⟩ (Wat.without id L)).map Mom.id).nodup_iff).2 ?_
    rw [List.map_cons, List.nodup_cons]
    refine ⟨fun hm => ?_, hw.nodup⟩
    obtain ⟨m, hm, e⟩ := List.mem_map.1 hm
    exact (without_mem.1 hm).2 e
  · rcases ins_mem.1 hm with rfl | hm
    · exact ⟨hk.1, hk.2.1⟩
    · exact hw.id0 m hm
  · rcases ins_mem.1 hm with rfl | hm
    · exact ⟨hk.2.2.1, hk.2.2.2⟩
    · exact hw.at0 m hm
def has (id : Int) (L : List Mom) : Bool := L.any fun m => decide (m.id = id)
def atL (id : Int) (L : List Mom) : Option Int := (L.find? fun m => decide (m.id = id)).map Mom.at_
def dueL (now : Int) (L : List Mom) : List Int := (L.filter fun m => decide (m.at_ ≤ now)).map Mom.id
def restL (now : Int) (L : List Mom) : List Mom := L.filter fun m => decide (now < m.at_)
theorem inj_id {L : List Mom} (h : (L.map Mom.id).Nodup) {a b : Mom} (ha : a ∈ L) (hb : b ∈ L) (e : a.id = b.id) : a = b := by
  induction L with
  | nil => cases ha
  | cons x l ih =>
    rw [List.map_cons, List.nodup_cons] at h
    rcases List.mem_cons.1 ha with e1 | h1 <;> rcases List.mem_cons.1 hb with e2 | h2
    · exact e1.trans e2.symm
    · exact absurd (List.mem_map.2 ⟨b, h2, by rw [← e, e1]⟩) h.1
    · exact absurd (List.mem_map.2 ⟨a, h1, by rw [e, e2]⟩) h.1
    · exact ih h.2 h1 h2
theorem St.find {L : List Mom} (h : St L) {m : Mom} (hm : m ∈ L) : atL m.id L = some m.at_ := by
  unfold atL
  cases hf : L.find? (fun x => decide (x.id = m.id)) with
  | none => exact absurd (List.find?_eq_none.1 hf m hm) (by simp)
  | some y =>
    have h1 := List.find?_some hf
    have h2 := List.mem_of_find?_eq_some hf
    rw [inj_id h.nodup h2 hm (of_decide_eq_true h1)]
    rfl
theorem atL_none {L : List Mom} {id : Int} (h : ∀ m ∈ L, m.id ≠ id) : atL id L = none := by
  unfold atL
  rw [List.find?_eq_none.2 (fun m hm => by simpa using h m hm)]
  rfl
theorem has_iff {L : List Mom} {id : Int} : has id L = true ↔ ∃ m ∈ L, m.id = id := by unfold has; simp
theorem has_none {L : List Mom} {id : Int} : has id L = false ↔ ∀ m ∈ L, m.id ≠ id := by unfold has; simp
/-- Where one is. -/
theorem plc_cases (hs : List Mom) (id : Int) : (plc hs id = -1 ∧ ∀ m ∈ hs, m.id ≠ id) ∨ ∃ i : Nat, plc hs id = (i : Int) ∧ i < hs.length ∧ (fn hs i).id = id := by
  unfold plc
  cases hf : hs.findIdx? (fun m => decide (m.id = id)) with
  | none =>
    left
    refine ⟨rfl, fun m hm e => ?_⟩
    have := List.findIdx?_eq_none_iff.1 hf m hm
    simp [e] at this
  | some i =>
    right
    obtain ⟨hi, h1, _⟩ := List.findIdx?_eq_some_iff_getElem.1 hf
    refine ⟨i, rfl, hi, ?_⟩
    rw [fn_eq hi]
    exact of_decide_eq_true h1
theorem top_head {hs L : List Mom} {m : Mom} (hp : Hp hs) (hl : hs.Perm (m :: L)) (hL : (m :: L).Pairwise (fun a b => ltM a b = true)) : fn hs 0 = m := by
  have h1 := hp.top m (hl.mem_iff.2 (by simp))
  have h0 : 0 < hs.length := by rw [hl.length_eq]; simp
  have h2 : fn hs 0 ∈ m :: L := hl.mem_iff.1 (by rw [fn_eq h0]; exact List.getElem_mem h0)
  rcases List.mem_cons.1 h2 with h3 | h3
  · exact h3
  · have := (List.pairwise_cons.1 hL).1 _ h3
    rw [this] at h1; cases h1
theorem pop_state {hs L : List Mom} {m : Mom} {k : Nat} (hp : Hp hs) (hl : hs.Perm (m :: L)) (hL : (m :: L).Pairwise (fun a b => ltM a b = true)) (hk : hs.length = k + 1) :
    fn (popR hs) k = m ∧ Hp ((popR hs).take k) ∧ ((popR hs).take k).Perm L := by
  obtain ⟨h1, h2, h3⟩ := hp.pop hk
  have h4 := top_head hp hl hL
  refine ⟨h1.trans h4, h2, ?_⟩
  rw [h4] at h3
  exact (h3.symm.trans hl).cons_inv
theorem rem_state {hs L : List Mom} {k i : Nat} {id : Int} (hp : Hp hs) (hl : hs.Perm L) (hL : St L) (hk : hs.length = k + 1) (hi : i ≤ k) (hid : (fn hs i).id = id) :
    Hp ((remR hs i).take k) ∧ ((remR hs i).take k).Perm (without id L) := by
  obtain ⟨h1, h2, h3⟩ := hp.rem hk hi
  refine ⟨h2, ?_⟩
  have h4 := (h3.symm.trans hl).filter (fun m => decide (m.id ≠ id))
  rw [List.filter_cons_of_neg (by simp [hid])] at h4
  have hd : (((fn hs i) :: (remR hs i).take k).map Mom.id).Nodup := (((h3.symm.trans hl).map Mom.id).nodup_iff).2 hL.nodup
  rw [List.map_cons, List.nodup_cons] at hd
  have h5 : ((remR hs i).take k).filter (fun m => decide (m.id ≠ id)) = (remR hs i).take k := List.filter_eq_self.2 (fun m hm => decide_eq_true (fun e => hd.1 (List.mem_map.2 ⟨m, hm, by rw [e, hid]⟩)))
  rw [h5] at h4
  exact h4
theorem without_self {L : List Mom} {id : Int} (h : ∀ m ∈ L, m.id ≠ id) : without id L = L := List.filter_eq_self.2 (fun m hm => decide_eq_true (h m hm))
theorem push_state {hs L : List Mom} (m : Mom) (hp : Hp hs) (hl : hs.Perm L) : Hp (pushF hs m) ∧ (pushF hs m).Perm (ins m L) := by
  obtain ⟨h1, h2⟩ := hp.push m
  exact ⟨h1, (h2.trans (hl.cons m)).trans (ins_perm m L).symm⟩
theorem due_cons_yes {now : Int} {m : Mom} {L : List Mom} (h : m.at_ ≤ now) : dueL now (m :: L) = m.id :: dueL now L ∧ restL now (m :: L) = restL now L := by
  unfold dueL restL
  rw [List.filter_cons_of_pos (by simpa using h), List.filter_cons_of_neg (by simp; omega)]
  exact ⟨rfl, rfl⟩
theorem due_cons_no {now : Int} {m : Mom} {L : List Mom} (hL : (m :: L).Pairwise (fun a b => ltM a b = true)) (h : now < m.at_) : dueL now (m :: L) = [] ∧ restL now (m :: L) = m :: L := by
  have hall : ∀ x ∈ m :: L, now < x.at_ := fun x hx => by
    rcases List.mem_cons.1 hx with rfl | hx
    · exact h
    · have := ltM_at ((List.pairwise_cons.1 hL).1 x hx)
      omega
  unfold dueL restL
  rw [List.filter_eq_nil_iff.2 (fun x hx => by have := hall x hx; simp; omega), List.filter_eq_self.2 (fun x hx => by have := hall x hx; simpa using this)]
  exact ⟨rfl, rfl⟩
end Go.Proofs.YthndjhocmpelcaaGreat.Wat
namespace Go.Proofs.YthndjhocmpelcaaGreat.Wat
open Go.RowKit Kit Go.Shelf
set_option linter.unusedVariables false
theorem new0 (w : World) : Calls Tryz.prog 29 #[] w fun e w' => ∃ g, e = .returned (.pointer (some ⟨g, 0, none⟩)) ∧ Hid (Clk w' g none []) ∧ Hid (w.heap.size ≤ g) ∧ Below w.heap.size w w' := by
  go_enter Tryz.func29, Tryz.ntmps29
  go_wp2_with fail
  go_ret
  have hal := (Below.refl w.heap.size w).alloc (Nat.le_refl _) (.cells #[.slice none 0 0] 108)
  exact ⟨w.heap.size, rfl, Hid.mk_ ⟨St.nil, 0, 0, [], HpS.mk (by rw [World.cell?_alloc_new]; rfl) (World.frozen?_alloc_new _ _ _ _) (OwnM.nil _ _), (fun k k0 kn => absurd kn (Nat.not_lt_zero _)), .refl _⟩, Hid.mk_ (Nat.le_refl _), hal⟩
theorem len_nil (w : World) : Calls Tryz.prog 70 #[.pointer none] w fun e w' => e = .returned (.int .i64 0) ∧ w' = w := by
  go_enter Tryz.func70, Tryz.ntmps70
  go_wp2_with fail
  go_ret
  exact ⟨rfl, rfl⟩
theorem len (w : World) (g : Nat) (A : Option Addr) (L : List Mom) (h : Hid (Clk w g A L)) (r : Int) (hr : Hid (r = L.length)) : Calls Tryz.prog 70 #[.pointer (some ⟨g, 0, none⟩)] w fun e w' => e = .returned (.int .i64 r) ∧ w' = w := by
  obtain ⟨n, c, hs, h1, h2, h3⟩ := h.out.ex
  have hc := h1.cell
  have e0 : r = (n : Int) := by rw [hr.out, h1.len, h3.length_eq]
  subst e0
  clear hr
  go_enter Tryz.func70, Tryz.ntmps70
  go_wp2_with fail
  go_ret
  exact ⟨rfl, rfl⟩
theorem cut_nil (id : Int) (w : World) : Calls Tryz.prog 64 #[.pointer none, .int .i64 id] w fun e w' => e = .returned (.bool false) ∧ Below w.heap.size w w' := by
  go_enter Tryz.func64, Tryz.ntmps64
  go_wp2_with (go_at_call 89; refine (place_nil id w).mono ?_; rintro e w2 ⟨rfl, b2⟩)
  go_ret
  exact ⟨rfl, b2⟩
theorem set_nil (id at_ : Int) (w : World) : Calls Tryz.prog 52 #[.pointer none, .int .i64 id, .int .i64 at_] w fun e w' => e = .returned (.bool false) ∧ w' = w := by
  go_enter Tryz.func52, Tryz.ntmps52
  go_wp2_with fail
  go_ret
  exact ⟨rfl, rfl⟩
end Go.Proofs.YthndjhocmpelcaaGreat.Wat
namespace Go.Proofs.YthndjhocmpelcaaGreat.Wat
open Go.RowKit Kit Go.Shelf
set_option linter.unusedVariables false
/-- The clock at g is turned to L; nothing else is. -/
def Turn (w w' : World) (g : Nat) (A : Option Addr) (L : List Mom) : Prop := ∃ A', Clk w' g A' L ∧ Fresh w A A' ∧ Wr w w' (Its g A)
theorem Fresh.refl (w : World) (A : Option Addr) : Fresh w A A := fun b off h => .inl h
theorem Fresh.trans {w w' : World} {A B C : Option Addr} (h : Fresh w A B) (k : Fresh w' B C) (hz : w.heap.size ≤ w'.heap.size) : Fresh w A C := fun b off e => by
  rcases k b off e with h1 | h1
  · exact h b off h1
  · exact .inr (by omega)
theorem Turn.of_below {w w' : World} {g : Nat} {A : Option Addr} {L : List Mom} (h : Clk w g A L) (hb : Below w.heap.size w w') : Turn w w' g A L :=
  ⟨A, h.below hb, Fresh.refl _ _, Wr.of_below hb _⟩
theorem Turn.trans {w w1 w2 : World} {g : Nat} {A : Option Addr} {L M : List Mom} (h : Turn w w1 g A L) (k : ∀ A', Clk w1 g A' L → Turn w1 w2 g A' M) : Turn w w2 g A M := by
  obtain ⟨A1, h1, h2, h3⟩ := h
  obtain ⟨A2, k1, k2, k3⟩ := k A1 h1
  exact ⟨A2, k1, h2.trans k2 h3.size, h3.then_ k3 (h2.its g)⟩
set_option maxRecDepth 100000 in
set_option maxHeartbeats 1000000 in
theorem cut0 (w : World) (g : Nat) (A : Option Addr) (L : List Mom) (id : Int) (h : Hid (Clk w g A L)) (q : Bool) (hq : Hid (q = has id L)) (M : List Mom) (hM : Hid (M = without id L)) :
    Calls Tryz.prog 64 #[.pointer (some ⟨g, 0, none⟩), .int .i64 id] w fun e w' => e = .returned (.bool q) ∧ Hid (Turn w w' g A M) := by
  obtain ⟨n, c, hs, h1, h2, h3⟩ := h.out.ex
  have hn : n ≤ 1000000 := by have := h.out.st.len; have := h1.len; have := h3.length_eq; omega
  have hn2 : n < 1000000 := by have := h.out.st.len; have := h1.len; have := h3.length_eq; omega
  have hcon := place id (Hid.mk_ h1) hn _ (Hid.mk_ rfl)
  rcases plc_cases hs id with ⟨e, hne⟩ | ⟨i, e, hi, hid⟩
  · rw [e] at hcon
    have hne' : ∀ m ∈ L, m.id ≠ id := fun m hm => hne m (h3.mem_iff.2 hm)
    have eq : q = false := by rw [hq.out]; exact has_none.2 hne'
    have eM : M = L := by rw [hM.out]; exact without_self hne'
    subst eq eM
    clear hq hM e h1 h2 h3 hne hne'
    go_enter Tryz.func64, Tryz.ntmps64
    go_wp2_with (go_at_call 89; refine hcon.mono ?_; rintro e w2 ⟨rfl, b2⟩)
    go_ret
    exact ⟨rfl, Hid.mk_ (Turn.of_below h.out b2)⟩
  · rw [e] at hcon
    have hm : fn hs i ∈ L := h3.mem_iff.1 (by rw [fn_eq hi]; exact List.getElem_mem hi)
    have eq : q = true := by rw [hq.out]; exact has_iff.2 ⟨_, hm, hid⟩
    subst eq
    obtain ⟨k, hk⟩ : ∃ k, n = k + 1 := ⟨n - 1, by have := h1.len; omega⟩
    have hl := h1.len
    have i0 : (0 : Int) ≤ (i : Int) := by omega
    have hR := Hid.mk_ (rem_state (k := k) h2 h3 h.out.st (by omega) (by omega) hid)
    have hh := Hid.mk_ h1
    have hkk := Hid.mk_ hk
    have hik : i ≤ k := by omega
    have hkm : k < 1000000 := by omega
    clear hq e h1 h2 h3 hi hk hl hn hn2
    go_enter Tryz.func64, Tryz.ntmps64
    go_upto_region 2 with (go_at_call 89; refine hcon.mono ?_; rintro e w2 ⟨rfl, b2⟩)
    have h2 := Hid.mk_ (hh.out.below b2)
    go_wp2_with (go_at_call 88; refine (remove h2 k i hkk hik hkm).mono ?_; rintro e w3 ⟨rfl, h4, r4⟩)
    go_ret
    refine ⟨rfl, Hid.mk_ ⟨A, ⟨by rw [hM.out]; exact h.out.st.without id, k, c, _, h4.out, hR.out.1, by rw [hM.out]; exact hR.out.2⟩, Fresh.refl _ _, (Wr.of_below b2 _).then_ r4.out (fun i hi => .inl hi)⟩⟩
theorem okM_false {id at_ : Int} (h : okM id at_ = false) : id < 0 ∨ 999 < id ∨ at_ < 0 ∨ 1099511627776 < at_ := by
  unfold okM at h
  simp at h
  omega
set_option maxRecDepth 100000 in
set_option maxHeartbeats 1000000 in
theorem set_no (w : World) (a : Option Addr) (id at_ : Int) (q : Hid (okM id at_ = false)) :
    Calls Tryz.prog 52 #[.pointer a, .int .i64 id, .int .i64 at_] w fun e w' => e = .returned (.bool false) ∧ w' = w := by
  have h := okM_false q.out
  cases a with
  | none => exact set_nil id at_ w
  | some a =>
  by_cases h1 : id < 0
  · go_enter Tryz.func52, Tryz.ntmps52
    go_wp2_with fail
    go_ret
    exact ⟨rfl, rfl⟩
  · by_cases h2 : 999 < id
    · go_enter Tryz.func52, Tryz.ntmps52
      go_wp2_with fail
      go_ret
      exact ⟨rfl, rfl⟩
    · by_cases h3 : at_ < 0
      · go_enter Tryz.func52, Tryz.ntmps52
        go_wp2_with fail
        go_ret
        exact ⟨rfl, rfl⟩
      · have h4 : 1099511627776 < at_ := by omega
        clear h
        go_enter Tryz.func52, Tryz.ntmps52
        go_wp2_with fail
        go_ret
        exact ⟨rfl, rfl⟩
set_option maxRecDepth 100000 in
set_option maxHeartbeats 1000000 in
theorem set_yes (w : World) (g : Nat) (A : Option Addr) (L : List Mom) (id at_ : Int) (h : Hid (Clk w g A L)) (hok : okM id at_ = true) (M : List Mom) (hM : Hid (M = setL id at_ L)) :
    Calls Tryz.prog 52 #[.pointer (some ⟨g, 0, none⟩), .int .i64 id, .int .i64 at_] w fun e w' => e = .returned (.bool true) ∧ Hid (Turn w w' g A M) := by
  have HK := Hid.mk_ hok
  obtain ⟨i0, i1, a0, a1⟩ := okM_iff.1 hok
  clear hok
  have j0 : ¬ id < 0 := by omega
  have j1 : ¬ 999 < id := by omega
  have j2 : ¬ at_ < 0 := by omega
  have j3 : ¬ 1099511627776 < at_ := by omega
  go_enter Tryz.func52, Tryz.ntmps52
  go_upto_region 3 with fail
  go_wp2_with (go_at_call 64; refine (cut0 w g A L id h _ (Hid.mk_ rfl) _ (Hid.mk_ rfl)).mono ?_; rintro e w2 ⟨rfl, t2⟩)
  obtain ⟨A2, k2, f2, r2⟩ := t2.out
  obtain ⟨n, c, hs, p1, p2, p3⟩ := k2.ex
  refine (push (w := w2) (n := n) (c := c) (A := A2) (hs := hs) ⟨id, at_⟩ (Hid.mk_ p1) (by have := k2.st.len; have := p1.len; have := p3.length_eq; omega)).mono ?_
  rintro e w3 ⟨rfl, A3, n3, c3, h3, f3, r3⟩
  go_wp2_with fail
  go_ret
  obtain ⟨s1, s2⟩ := push_state ⟨id, at_⟩ p2 p3
  refine ⟨rfl, Hid.mk_ ⟨A3, ⟨by rw [hM.out]; exact h.out.st.setL HK.out, n3, c3, _, h3.out, s1, by rw [hM.out]; exact s2⟩, f2.trans f3.out r2.size, r2.then_ r3.out (f2.its g)⟩⟩
def setLq (id at_ : Int) (L : List Mom) : List Mom := if okM id at_ then setL id at_ L else L
theorem set0 (w : World) (g : Nat) (A : Option Addr) (L : List Mom) (id at_ : Int) (h : Hid (Clk w g A L)) (q : Bool) (hq : Hid (q = okM id at_)) (M : List Mom) (hM : Hid (M = setLq id at_ L)) :
    Calls Tryz.prog 52 #[.pointer (some ⟨g, 0, none⟩), .int .i64 id, .int .i64 at_] w fun e w' => e = .returned (.bool q) ∧ Hid (Turn w w' g A M) := by
  cases hok : okM id at_ with
  | false =>
    have eq : q = false := by rw [hq.out, hok]
    have eM : M = L := by rw [hM.out]; unfold setLq; rw [hok]; rfl
    subst eq eM
    refine (set_no w _ id at_ (Hid.mk_ hok)).mono ?_
    rintro e w2 ⟨rfl, rfl⟩
    exact ⟨rfl, Hid.mk_ (Turn.of_below h.out (Below.refl _ _))⟩
  | true =>
    have eq : q = true := by rw [hq.out, hok]
    have eM : M = setL id at_ L := by rw [hM.out]; unfold setLq; rw [hok]; rfl
    subst eq eM
    exact set_yes w g A L id at_ h hok _ (Hid.mk_ rfl)
end Go.Proofs.YthndjhocmpelcaaGreat.Wat
namespace Go.Proofs.YthndjhocmpelcaaGreat.Wat.Ints
open Go.RowKit Kit
set_option linter.unusedVariables false
/-- The numbers zs lie from A on. -/
def Row (w : World) (A : Option Addr) (zs : List Int) : Prop :=
  ∀ (j : Nat) (x : Int), zs[j]? = some x → ∃ b off, A = some ⟨b, off, none⟩ ∧ w.cell? ⟨b, off + j, none⟩ = some (.int .i64 x)
theorem Row.keep {w w' : World} {A : Option Addr} {zs : List Int} (h : Row w A zs) (hk : ∀ b off, A = some ⟨b, off, none⟩ → b < w.heap.size → w'.heap[b]? = w.heap[b]?) : Row w' A zs := by
  intro j x hx
  obtain ⟨b, off, rfl, hc⟩ := h j x hx
  refine ⟨b, off, rfl, ?_⟩
  have := hk b off rfl (World.block_lt_of_cell? w _ hc)
  rw [← hc]
  simp [World.cell?, this]
theorem Row.below {w w' : World} {A : Option Addr} {zs : List Int} (h : Row w A zs) (hb : Below w.heap.size w w') : Row w' A zs :=
  h.keep fun b _ _ hlt => hb.block b hlt
theorem Row.nil (w : World) (A : Option Addr) : Row w A [] := fun j x h => by simp at h
theorem info_parts {i : Option TypeInfo} {z : Value} {size bytes : Nat} (h : i.map (fun i => (i.zero, i.size, i.bytes)) = some (some z, size, bytes)) : ∃ i0, i = some i0 ∧ i0.zero = some z ∧ i0.size = size ∧ i0.bytes = bytes := by
  cases i with
  | none => cases h
  | some i0 => simp at h; exact ⟨i0, rfl, h.1, h.2.1, h.2.2⟩
theorem info3 : (Tryz.prog.info? 3).map (fun i => (i.zero, i.size, i.bytes)) = some (some (.int .i64 0), 1, 8) := by kernel_rfl
def ints (zs : List Int) : List Value := zs.map (Value.int .i64)
theorem ints_length (zs : List Int) : (ints zs).length = zs.length := by simp [ints]
theorem ints_one (zs : List Int) : ∀ u ∈ ints zs, u.oneCell' = true := by
  intro u hu
  obtain ⟨x, _, rfl⟩ := List.mem_map.1 hu
  rfl
theorem ints_append (xs ys : List Int) : ints (xs ++ ys) = ints xs ++ ints ys := by simp [ints]
/-- v is a row of one's own that holds zs. -/
def Own (w : World) (base : Nat) (v : Value) (zs : List Int) : Prop := w.ownsRow base 3 1 v zs.length (ints zs)
theorem Own.form {w : World} {base : Nat} {v : Value} {zs : List Int} (h : Own w base v zs) : ∃ A c, v = .slice A zs.length c ∧ zs.length ≤ c ∧ c ≤ maxLen := by
  rcases h.2 with ⟨rfl, h0⟩ | ⟨g, cap, cur, rfl, _, _, h1, h2, _⟩
  · exact ⟨none, 0, by rw [h0], by omega, by unfold maxLen; omega⟩
  · exact ⟨_, _, rfl, h1, h2⟩
theorem Own.row {w : World} {base : Nat} {A : Option Addr} {n c : Nat} {zs : List Int} (h : Own w base (.slice A n c) zs) : n = zs.length ∧ Row w A zs ∧ (A = none → c = 0) := by
  have h0 := h
  rcases h.2 with ⟨h1, h2⟩ | ⟨g, cap, cur, h1, h3, h4, h5, h6, h7, h8⟩
  · injection h1 with e1 e2 e3
    obtain rfl := List.eq_nil_of_length_eq_zero h2
    exact ⟨e2, Row.nil _ _, fun _ => e3⟩
  · injection h1 with e1 e2 e3
    subst e1 e2 e3
    refine ⟨rfl, fun j x hx => ⟨g, 0, rfl, ?_⟩, fun h => by cases h⟩
    have hj := (List.getElem?_eq_some_iff.1 hx).1
    have := World.ownsRow.cellAt h0 j (by omega)
    rw [Nat.zero_add, this, ints, List.getElem?_map, hx]
    rfl
theorem Own.keep {w w' : World} {base : Nat} {v : Value} {zs : List Int} (h : Own w base v zs) (hb : Below w.heap.size w w') : Own w' base v zs := by
  refine World.ownsRow.kept (row := none) h ⟨hb.os, hb.tape, hb.output, hb.size, fun k hk _ => hb.block k hk⟩ ?_
  cases v.ownBlock
  · exact .inl rfl
  · exact .inr (by simp)
theorem Own.nil (w : World) (base : Nat) : Own w base (.slice none 0 0) [] := World.ownsRow_nil _ _ _ _
theorem Own.made (w : World) (base : Nat) (hb : base ≤ w.heap.size) (g : Nat) (hg : base ≤ g) (h : w.heap[g]? = some (.cells #[] 3 (0, 0))) : Own w base (.slice (some ⟨g, 0, none⟩) 0 0) [] :=
  ⟨rfl, .inr ⟨g, 0, #[], rfl, hg, h, Nat.le_refl _, by unfold maxLen; omega, rfl, rfl⟩⟩
theorem Own.mono {w : World} {base base' : Nat} {v : Value} {zs : List Int} (h : Own w base v zs) (hb : base' ≤ base) : Own w base' v zs := by
  refine ⟨h.1, ?_⟩
  rcases h.2 with h1 | ⟨g, cap, cur, h1, h3, h4⟩
  · exact .inl h1
  · exact .inr ⟨g, cap, cur, h1, Nat.le_trans hb h3, h4⟩
theorem Row.cells {w : World} {ad : Addr} {zs : List Int} (h : Row w (some ad) zs) : ∀ j u, (ints zs)[j]? = some u → w.cell? (ad.add j) = some u := by
  intro j u hu
  rw [ints, List.getElem?_map] at hu
  cases hz : zs[j]? with
  | none => rw [hz] at hu; cases hu
  | some x =>
    rw [hz] at hu
    obtain ⟨b, off, e, hc⟩ := h j x hz
    injection e with e
    subst e
    rw [Addr.add_lit, hc]
    exact hu
theorem Row.empty {w : World} {zs : List Int} (h : Row w none zs) : zs = [] := by
  cases zs with
  | nil => rfl
  | cons c l =>
    obtain ⟨b, off, ha, _⟩ := h 0 c rfl
    cases ha
theorem run_none (w : World) (ty : TypeId) (i0 : TypeInfo) (hi : Tryz.prog.info? 3 = some i0) (base n c : Nat) (v : Value) (xs : List Value) (hown : w.ownsRow base 3 1 v n xs) :
    (Builtin.append_ #[36, 36] ty #[v, .slice none 0 c]).run Tryz.prog w = .ok v w := by
  rcases hown.2 with ⟨rfl, rfl⟩ | ⟨g, cap, cur, rfl, hbg, hg, hnc, hcm, hcs, htake⟩
  · simp [Builtin.append_, run_underlying Tryz.underlying36, sizeOf, typeInfo, hi, Builtin.lenOf, Builtin.firstCells]
  · simp [Builtin.append_, run_underlying Tryz.underlying36, sizeOf, typeInfo, hi, Builtin.lenOf, Builtin.firstCells, loadCells, hnc, storeCells]
theorem run_app (w : World) (ty : TypeId) (base : Nat) (v : Value) (xs : List Int) (hown : Own w base v xs) (A : Option Addr) (ls : List Int) (m c : Nat) (hm : m = ls.length) (hat : Row w A ls) (hn : xs.length + ls.length ≤ 1000000) (hbase : base ≤ w.heap.size) :
    ∃ v' w', (Builtin.append_ #[36, 36] ty #[v, .slice A m c]).run Tryz.prog w = .ok v' w' ∧ Own w' base v' (xs ++ ls) ∧ Below base w w' := by
  obtain ⟨i0, hi0, hz0, hz1, hz2⟩ := info_parts info3
  subst hm
  cases A with
  | none =>
    obtain rfl := hat.empty
    refine ⟨v, w, run_none w ty i0 hi0 base _ c v _ hown, ?_, Below.refl _ _⟩
    rw [List.append_nil]; exact hown
  | some ad =>
    obtain ⟨v', w', hr, h1, h2, _⟩ := run_append_own (P := Tryz.prog) w base 36 ty 3 i0 _ 1 8 Tryz.underlying36 hi0 hz0 hz1 hz2 rfl (by decide) v xs.length (ints xs) hown ad ls.length c (ints ls) (by rw [ints_length, Nat.mul_one]) hat.cells (ints_one ls) (by unfold maxLen; omega) (by omega) hbase
    refine ⟨v', w', hr, ?_, (Below.refl _ _).grown h2 hbase (fun j hj => (World.ownsRow.lt hown j hj).1)⟩
    unfold Own
    rw [ints_append, List.length_append]
    exact h1
theorem wp_app (w : World) {o : Oper} {a : Act} {K : Act → World → Prop} {Q : Exit → Act → World → Prop} (s x : Operand)
    (ho : o.op = .call { callee := .builtin .append, args := #[s, x], argTypes := #[36, 36] })
    (base : Nat) (v : Value) (xs : List Int) (hs : a.eval s = v) (hown : Own w base v xs) (A : Option Addr) (ls : List Int) (m c : Nat) (hx : a.eval x = .slice A m c) (hm : m = ls.length) (hat : Row w A ls) (hn : xs.length + ls.length ≤ 1000000) (hbase : base ≤ w.heap.size)
    (h : ∀ v' w', Own w' base v' (xs ++ ls) → Below base w w' → K (a.put o.dst v') w') : o.wp Tryz.prog a w K Q := by
  obtain ⟨v', w', hr, h2, h3⟩ := run_app w o.type base v xs hown A ls m c hm hat hn hbase
  unfold Oper.wp execOp
  simp only [ho, resolve, invoke, builtin, Sem.run_bind, Sem.run_pure, Result.andThen_ok, List.map_toArray, List.map_cons, List.map_nil, hs, hx, hr]
  exact h v' w' h2 h3
theorem wpList_app (w : World) {ops : Array Oper} {rest : List Oper} {o : Oper} {a : Act} {Q : Exit → Act → World → Prop} (hgd : o.guard = none) (s x : Operand)
    (ho : o.op = .call { callee := .builtin .append, args := #[s, x], argTypes := #[36, 36] })
    (base : Nat) (v : Value) (xs : List Int) (hs : a.eval s = v) (hown : Own w base v xs) (A : Option Addr) (ls : List Int) (m c : Nat) (hx : a.eval x = .slice A m c) (hm : m = ls.length) (hat : Row w A ls) (hn : xs.length + ls.length ≤ 1000000) (hbase : base ≤ w.heap.size)
    (h : ∀ v' w', Own w' base v' (xs ++ ls) → Below base w w' → wpList Tryz.prog ops Q rest (a.put o.dst v') w') : wpList Tryz.prog ops Q (o :: rest) a w :=
  wpList_plain hgd fun _ hK => wp_app w s x ho base v xs hs hown A ls m c hx hm hat hn hbase fun v' w' h2 h3 => hK _ _ (h v' w' h2 h3)
theorem Own.some_ {w : World} {base : Nat} {A : Option Addr} {n c : Nat} {zs : List Int} (h : Own w base (.slice A n c) zs) (hz : 0 < zs.length) : ∃ g, A = some ⟨g, 0, none⟩ ∧ base ≤ g ∧ g < w.heap.size ∧ ∀ (j : Nat) (x : Int), zs[j]? = some x → w.cell? ⟨g, j, none⟩ = some (.int .i64 x) ∧ w.frozen? ⟨g, j, none⟩ = false := by
  have h0 := h
  rcases h.2 with ⟨h1, h2⟩ | ⟨g, cap, cur, h1, h3, h4, h5, h6, h7, h8⟩
  · omega
  · injection h1 with e1 e2 e3
    subst e1 e2 e3
    refine ⟨g, rfl, h3, (Array.getElem?_eq_some_iff.1 h4).1, fun j x hx => ⟨?_, World.ownsRow.frozenAt h0 j⟩⟩
    have hj := (List.getElem?_eq_some_iff.1 hx).1
    have := World.ownsRow.cellAt h0 j (by omega)
    rw [this, ints, List.getElem?_map, hx]
    rfl
theorem ints_set (zs : List Int) (j : Nat) (x : Int) : ints (zs.set j x) = (ints zs).set j (.int .i64 x) := by simp [ints, List.map_set]
theorem Own.set {w : World} {base g : Nat} {n c : Nat} {zs : List Int} (h : Own w base (.slice (some ⟨g, 0, none⟩) n c) zs) (j : Nat) (x : Int) : Own (w.setCell ⟨g, j, none⟩ (.int .i64 x)) base (.slice (some ⟨g, 0, none⟩) n c) (zs.set j x) ∧ Below base w (w.setCell ⟨g, j, none⟩ (.int .i64 x)) := by
  have h0 := h
  rcases h.2 with ⟨h1, h2⟩ | ⟨g, cap, cur, h1, h3, h4, h5, h6, h7, h8⟩
  · cases h1
  · injection h1 with e1 e2 e3
    injection e1 with e1
    injection e1 with e1
    subst e1 e2 e3
    have hs := World.ownsRow.stored h0 j (.int .i64 x)
    refine ⟨?_, (Below.refl _ _).grown hs.2 (by have := (Array.getElem?_eq_some_iff.1 h4).1; omega) (fun k hk => by injection hk with hk; omega)⟩
    unfold Own
    rw [ints_set, List.length_set]
    exact hs.1
theorem Own.drew {w : World} {base : Nat} {v : Value} {zs : List Int} (h : Own w base v zs) : Own w.drew base v zs := h
theorem Own.block {w : World} {base : Nat} {A : Option Addr} {n c : Nat} {zs : List Int} (h : Own w base (.slice A n c) zs) (b off : Nat) (e : A = some ⟨b, off, none⟩) : base ≤ b ∧ b < w.heap.size := by
  subst e
  exact World.ownsRow.lt h b rfl
theorem Own.bounds {w : World} {base : Nat} {A : Option Addr} {n c : Nat} {zs : List Int} (h : Own w base (.slice A n c) zs) : n ≤ c ∧ c ≤ 9223372036854775807 := by
  obtain ⟨_, _, e, h1, h2⟩ := h.form
  injection e with e1 e2 e3
  subst e3
  unfold maxLen at h2
  omega
attribute [irreducible] Own
theorem eql_nil (w : World) (a : Option Addr) (n c : Nat) : (binOp .eql 36 (.slice a n c) (.slice none 0 0)).run Tryz.prog w = .ok (.bool a.isNone) w := Lib.run_eql_slice_nil w 36 3 a n c 0 0 Tryz.underlying36
theorem Row.one (w : World) (x : Int) (t : TypeId) : Row (w.alloc (.cells #[.int .i64 x] t)) (some ⟨w.heap.size, 0, none⟩) [x] := by
  intro j y hy
  refine ⟨_, _, rfl, ?_⟩
  rw [World.cell?_alloc_new]
  cases j with
  | zero => simpa using hy
  | succ j => simp at hy
theorem list_of (P : Nat → Int → Prop) : ∀ n, (∀ i, i < n → ∃ c, P i c) → ∃ ls : List Int, ls.length = n ∧ ∀ (i : Nat) (c : Int), ls[i]? = some c → P i c
  | 0, _ => ⟨[], rfl, fun i c h => by simp at h⟩
  | n + 1, h => by
    obtain ⟨ls, hl, hp⟩ := list_of P n (fun i hi => h i (by omega))
    obtain ⟨c, hc⟩ := h n (by omega)
    refine ⟨ls ++ [c], by simp [hl], fun i d hd => ?_⟩
    by_cases hi : i < n
    · rw [List.getElem?_append_left (by omega)] at hd
      exact hp i d hd
    · rw [List.getElem?_append_right (by omega)] at hd
      have : i = n := by
        have := (List.getElem?_eq_some_iff.1 hd).1
        simp at this; omega
      subst this
      rw [hl] at hd
      simp at hd
      subst hd
      exact hc
def shI : Sh := .int .i64
theorem rd_slice {w : World} {e : Sh} {cs : List Value} (h : RD w (.slice e) cs) : ∃ A n c, cs = [.slice A n c] := by
  rcases h with rfl | ⟨a, len, cap, rfl, _⟩
  · exact ⟨_, _, _, rfl⟩
  · exact ⟨_, _, _, rfl⟩
theorem add_off (a : Addr) (k : Nat) (h : a.spot = none) : a.add k = ⟨a.block, a.off + k, none⟩ := by
  obtain ⟨b, o, s⟩ := a
  simp only at h
  subst h
  rw [Addr.add_lit]
theorem rd_ints {w : World} {A : Option Addr} {n c : Nat} (h : RD w (.slice (.int .i64)) [.slice A n c]) : ∃ zs : List Int, zs.length = n ∧ Row w A zs ∧ n ≤ c ∧ c ≤ 9223372036854775807 ∧ (A = none → c = 0) := by
  rcases h with h | ⟨a, len, cap, h, hl, hm, hi⟩
  · simp only [List.cons.injEq, Value.slice.injEq, and_true] at h
    obtain ⟨rfl, rfl, rfl⟩ := h
    exact ⟨[], rfl, Row.nil _ _, Nat.le_refl _, by omega, fun _ => rfl⟩
  · simp only [List.cons.injEq, Value.slice.injEq, and_true] at h
    obtain ⟨rfl, rfl, rfl⟩ := h
    obtain ⟨ls, hls, hp⟩ := list_of (fun i c => ∃ b off, some a = some ⟨b, off, none⟩ ∧ w.cell? ⟨b, off + i, none⟩ = some (.int .i64 c)) n (fun i hin => by
      obtain ⟨es, hel, hat, hr⟩ := hi i hin
      obtain ⟨x, rfl, _⟩ := rd_int hr
      have e1 : (Sh.int IntKind.i64).size = 1 := rfl
      rw [e1] at hat
      have h0 := hat 0 (by omega)
      have hs : a.spot = none := by
        cases hsp : a.spot with
        | none => rfl
        | some v =>
          obtain ⟨es0, _, hat0, hr0⟩ := hi 0 (by omega)
          obtain ⟨x0, rfl, _⟩ := rd_int hr0
          have := hat0 0 (by rw [e1]; omega)
          rw [e1] at this
          unfold Addr.add at this
          simp [World.cell?, hsp] at this
          split at this <;> simp at this
      rw [add_off a _ hs] at h0
      refine ⟨x, a.block, a.off, ?_, ?_⟩
      · obtain ⟨b, o, s⟩ := a; simp only at hs; subst hs; rfl
      · rw [Nat.mul_one, Nat.add_zero] at h0; exact h0)
    unfold maxLen at hm
    exact ⟨ls, hls, hp, hl, by omega, fun h => by cases h⟩
/-- How many Some takes. -/
def many (k : Int) (n : Nat) : Nat := (max 0 (min k (n : Int))).toNat
end Go.Proofs.YthndjhocmpelcaaGreat.Wat.Ints
namespace Go.Proofs.YthndjhocmpelcaaGreat.Wat
open Go.RowKit Kit Go.Shelf Ints
set_option linter.unusedVariables false
theorem due_nil (now : Int) (w : World) : Calls Tryz.prog 47 #[.pointer none, .int .i64 now] w fun e w' => e = .returned (.slice none 0 0) ∧ w' = w := by
  go_enter Tryz.func47, Tryz.ntmps47
  go_wp2
  go_loopg [5] 0 (fun gg s5 wr => s5 = .slice none 0 0 ∧ wr = w)
  case atStart => exact ⟨rfl, rfl⟩
  case round =>
    obtain ⟨rfl, rfl⟩ := hrel
    go_wp2_with (go_at_call 70; refine (len_nil _).mono ?_; rintro e w2 ⟨rfl, rfl⟩)
    go_ret
    exact ⟨rfl, rfl⟩
theorem Own.keepW {w w' : World} {base : Nat} {A : Option Addr} {n c : Nat} {zs : List Int} {S : Nat → Prop} (h : Own w base (.slice A n c) zs) (hw : Wr w w' S) (hS : ∀ k, S k → k < base) : Own w' base (.slice A n c) zs := by
  have h' := h
  unfold Own at h ⊢
  refine ⟨h.1, ?_⟩
  rcases h.2 with h1 | ⟨g, cap, cur, h1, h3, h4, h5⟩
  · exact .inl h1
  · injection h1 with e1 e2 e3
    subst e1 e2 e3
    exact .inr ⟨g, _, cur, rfl, h3, (hw.block g (Array.getElem?_eq_some_iff.1 h4).1 (fun hs => by have := hS g hs; omega)).trans h4, h5⟩
theorem Row.one' (w : World) (x : Int) (t : TypeId) (q : Nat) (hq : q = w.heap.size) : Row (w.alloc (.cells #[.int .i64 x] t)) (some ⟨q, 0, none⟩) [x] := by
  subst hq
  exact Row.one w x t
theorem Wr.of_base {w w' : World} {B : Nat} (h : Below B w w') (S : Nat → Prop) {w0 : World} (k : Wr w0 w S) (hB : w0.heap.size ≤ B) : Wr w0 w' S :=
  ⟨h.os.trans k.os, h.tape.trans k.tape, h.output.trans k.output, Nat.le_trans k.size h.size, fun i hi hn => (h.block i (by omega)).trans (k.block i hi hn)⟩
theorem Wr.ofB {w w' : World} {B : Nat} (h : Below B w w') : Wr w w' (fun k => B ≤ k) := ⟨h.os, h.tape, h.output, h.size, fun k hk hn => h.block k (by omega)⟩
set_option maxRecDepth 100000 in
set_option maxHeartbeats 4000000 in
theorem due0 (w : World) (g : Nat) (A : Option Addr) (L : List Mom) (now : Int) (h : Hid (Clk w g A L)) (D : List Int) (hD : Hid (dueL now L = D)) (M : List Mom) (hM : Hid (restL now L = M)) :
    Calls Tryz.prog 47 #[.pointer (some ⟨g, 0, none⟩), .int .i64 now] w fun e w' => ∃ B n c, e = .returned (.slice B n c) ∧ Hid (Own w' w.heap.size (.slice B n c) D) ∧ Hid (Clk w' g A M) ∧ Hid (Wr w w' (Its g A)) := by
  have hits := Hid.mk_ h.out.its
  have hta := ta
  go_enter Tryz.func47, Tryz.ntmps47
  go_wp2
  go_loopg [5] L.length (fun gg s5 wr => ∃ (rest : List Mom) (out : List Int) (B : Option Addr) (n c : Nat), s5 = .slice B n c ∧ rest.length ≤ gg ∧ Hid (out.length + rest.length ≤ 1000) ∧ Hid (Own wr w.heap.size (.slice B n c) out) ∧ Hid (Clk wr g A rest) ∧ Hid (Wr w wr (Its g A)) ∧ Hid (out ++ dueL now rest = D) ∧ Hid (restL now rest = M))
  case atStart => exact ⟨L, [], none, 0, 0, rfl, Nat.le_refl _, Hid.mk_ (by have := h.out.st.len; simp; omega), Hid.mk_ (Own.nil _ _), h, Hid.mk_ (Wr.of_below (Below.refl _ _) _), hD, hM⟩
  case round =>
    obtain ⟨rest, out, B, n, c, rfl, hgg, hlen, hown, hclk, hwr, hD1, hM1⟩ := hrel
    cases rest with
    | nil =>
      go_wp2_with (go_at_call 70; refine (len _ g A [] hclk 0 (Hid.mk_ rfl)).mono ?_; rintro e w2 ⟨rfl, rfl⟩)
      go_ret
      exact ⟨B, n, c, rfl, by rw [← hD1.out]; simpa [dueL] using hown, by rw [← hM1.out]; exact hclk, hwr⟩
    | cons m rest =>
      obtain ⟨hst, n1, c1, hs, p1, p2, p3⟩ := hclk.out
      obtain ⟨k, hk⟩ : ∃ k, n1 = k + 1 := ⟨n1 - 1, by have := p1.len; have := p3.length_eq; simp at this; omega⟩
      have htop := top_head p2 p3 hst.ord
      obtain ⟨b, rfl, hb1, hb2⟩ := p1.own.some_ (by have := p1.len; omega)
      have hcell := p1.cell
      obtain ⟨x0, x1, _, _⟩ := p1.own.at_ 0 (fn hs 0) (fn_get (by have := p1.len; omega))
      rw [htop] at x0 x1
      simp only [Nat.zero_mul, Nat.zero_add] at x0 x1
      have l0 : (0 : Int) < (n1 : Int) := by omega
      obtain ⟨r, hr⟩ : ∃ r : Int, r = ((m :: rest).length : Int) := ⟨_, rfl⟩
      have r0 : (0 : Int) < r := by rw [hr]; simp only [List.length_cons]; omega
      have HR := Hid.mk_ hr
      clear hr htop
      by_cases hat : m.at_ ≤ now
      · obtain ⟨s1, s2, s3⟩ := pop_state p2 p3 hst.ord (k := k) (by have := p1.len; omega)
        have hcon := pop (Hid.mk_ p1) k (Hid.mk_ hk) (by have := hst.len; have := p1.len; have := p3.length_eq; omega)
        rw [s1] at hcon
        unfold boxM at hcon
        have PS := Hid.mk_ (And.intro s2 s3)
        have ST := Hid.mk_ hst
        have HN := Hid.mk_ (And.intro p1.len p3.length_eq)
        have HB := Hid.mk_ (And.intro hb1 hb2)
        clear s1 s2 s3 p1 p2 p3 hst hk hb1 hb2
        go_upto_region 3 with (go_at_call 70; refine (len _ g _ _ hclk r HR).mono ?_; rintro e w2 ⟨rfl, rfl⟩)
        go_wp2_with (first | (go_at_call 71; refine hcon.mono ?_; rintro e w3 ⟨rfl, h4, r4⟩) | (at_builtin; refine wpList_app _ rfl _ _ rfl w.heap.size _ out rfl (((Own.keepW hown.out r4.out hits.out).keep ((Below.refl _ _).alloc (Nat.le_refl _) _)).keep ((Below.refl _ _).alloc (Nat.le_refl _) _)) _ [m.id] 1 _ rfl rfl (Row.one' _ _ _ _ (by simp)) (by have := hlen.out; simp at this ⊢; omega) (by have := hwr.out.size; have := r4.out.size; simp; omega) ?_; intro v5 w5 own5 b5))
        obtain ⟨B5, c5, rfl, _⟩ := own5.form
        have bb := ((Below.refl w3.heap.size w3).alloc (Nat.le_refl _) (.cells #[.int .i64 m.id, .int .i64 m.at_] 121)).alloc (by simp) (.cells #[.int .i64 m.id] 3)
        have K3 : Clk w3 g (some ⟨b, 0, none⟩) rest := ⟨⟨(List.pairwise_cons.1 ST.out.ord).2, (List.nodup_cons.1 (by simpa using ST.out.nodup)).2, fun x hx => ST.out.id0 x (List.mem_cons_of_mem _ hx), fun x hx => ST.out.at0 x (List.mem_cons_of_mem _ hx)⟩, _, _, _, h4.out, PS.out.1, PS.out.2⟩
        have W3 := hwr.out.then_ r4.out (fun i hi => .inl hi)
        have W5 := Wr.of_base b5 _ (W3.then_ (Wr.of_below bb (fun _ => False)) (fun i hi => hi.elim)) (Nat.le_refl _)
        have K5 := (K3.below bb).wr (Wr.ofB b5) (fun k hk hn => by have := hits.out k hk; omega)
        go_roundg rest.length
        case measure => simp at hgg; omega
        case rel => exact ⟨rest, out ++ [m.id], B5, _, c5, rfl, Nat.le_refl _, Hid.mk_ (by have := hlen.out; simp at this ⊢; omega), Hid.mk_ own5, Hid.mk_ K5, Hid.mk_ W5, Hid.mk_ (by have := hD1.out; rw [(due_cons_yes hat).1] at this; simpa using this), Hid.mk_ (by have := hM1.out; rw [(due_cons_yes hat).2] at this; exact this)⟩
      · go_wp2_with (go_at_call 70; refine (len _ g _ _ hclk r HR).mono ?_; rintro e w2 ⟨rfl, rfl⟩)
        go_ret
        obtain ⟨d1, d2⟩ := due_cons_no hst.ord (now := now) (by omega)
        exact ⟨B, n, c, rfl, by rw [← hD1.out, d1]; simpa using hown, by rw [← hM1.out, d2]; exact hclk, hwr⟩
end Go.Proofs.YthndjhocmpelcaaGreat.Wat
namespace Go.Proofs.YthndjhocmpelcaaGreat.Wat
open Go.RowKit Kit Go.Shelf Ints
set_option linter.unusedVariables false
theorem Clk.ge {w : World} {g : Nat} {A : Option Addr} {L : List Mom} (h : Clk w g A L) : ∀ k, Its g A k → g ≤ k := by
  obtain ⟨h1, n, c, hs, h2, h3, h4⟩ := h
  rintro k (rfl | ⟨off, rfl⟩)
  · exact Nat.le_refl _
  · have := (h2.own.block k off rfl).1
    omega
theorem Clk.lt {w : World} {g : Nat} {A : Option Addr} {L : List Mom} (h : Clk w g A L) : g < w.heap.size := h.its g (.inl rfl)
theorem Turn.below {w w' : World} {g : Nat} {A : Option Addr} {L M : List Mom} (h : Turn w w' g A M) (hc : Clk w g A L) {B : Nat} (hB : B ≤ g) : Below B w w' := by
  obtain ⟨A', h1, h2, h3⟩ := h
  exact h3.below (by have := hc.lt; omega) (fun k hk => by have := hc.ge k hk; omega)
theorem Clk.wrBelow {w w' : World} {g : Nat} {A : Option Addr} {L : List Mom} (hc : Clk w g A L) (h : Wr w w' (Its g A)) {B : Nat} (hB : B ≤ g) : Below B w w' :=
  h.below (by have := hc.lt; omega) (fun k hk => by have := hc.ge k hk; omega)
theorem aw1 : setLq 1 5 [] = [⟨1, 5⟩] := by kernel_rfl
theorem aw2 : setLq 2 3 [⟨1, 5⟩] = [⟨2, 3⟩, ⟨1, 5⟩] := by kernel_rfl
theorem aw3 : dueL 5 [⟨2, 3⟩, ⟨1, 5⟩] = [2, 1] := by kernel_rfl
theorem aw4 : restL 5 [⟨2, 3⟩, ⟨1, 5⟩] = [] := by kernel_rfl
theorem aw5 : okM 1 5 = true := by kernel_rfl
theorem aw6 : okM 2 3 = true := by kernel_rfl
end Go.Proofs.YthndjhocmpelcaaGreat.Wat
namespace Go.Proofs.YthndjhocmpelcaaGreat.Wat
open Go.RowKit Kit Ints
set_option linter.unusedVariables false
theorem modm (n m : Int) (hm : 0 < m) (hb : m ≤ 4611686018427387904) : ∃ y : Int, 0 ≤ y ∧ y < m ∧ wrap64 ((IntKind.u64.wrap n).tmod m) = y := by
  have h : 0 ≤ IntKind.u64.wrap n := by rw [IntKind.wrap_u64]; omega
  generalize IntKind.u64.wrap n = t at h
  rw [Int.tmod_eq_emod_of_nonneg h]
  have h1 := Int.emod_nonneg t (b := m) (by omega)
  have h2 := Int.emod_lt_of_pos t hm
  refine ⟨t % m, h1, h2, ?_⟩
  generalize t % m = r at h1 h2
  unfold wrap64
  omega
theorem due_all {now : Int} {L : List Mom} (h : ∀ m ∈ L, m.at_ ≤ now) : dueL now L = L.map Mom.id ∧ restL now L = [] := by
  unfold dueL restL
  rw [List.filter_eq_self.2 (fun m hm => by simpa using h m hm), List.filter_eq_nil_iff.2 (fun m hm => by have := h m hm; simp; omega)]
  exact ⟨rfl, rfl⟩
theorem St.same_at {L : List Mom} (h : St L) {a : Int} (ha : ∀ m ∈ L, m.at_ = a) : (L.map Mom.id).Pairwise (· < ·) := by
  rw [List.pairwise_map]
  refine List.Pairwise.imp_of_mem ?_ h.ord
  intro x y hx hy hl
  unfold ltM at hl
  rw [if_pos (by rw [ha x hx, ha y hy])] at hl
  simpa using hl
theorem setL_mem {id at_ : Int} {L : List Mom} {m : Mom} : m ∈ setL id at_ L ↔ m = ⟨id, at_⟩ ∨ (m ∈ L ∧ m.id ≠ id) := by
  unfold setL
  rw [ins_mem, without_mem]
theorem setL_len (id at_ : Int) (L : List Mom) : 0 < (setL id at_ L).length := by
  unfold setL
  rw [(ins_perm _ _).length_eq]
  simp
theorem setLq_ok {id at_ : Int} {L : List Mom} (h : okM id at_ = true) : setLq id at_ L = setL id at_ L := by unfold setLq; rw [h]; rfl
end Go.Proofs.YthndjhocmpelcaaGreat.Wat
namespace Go.Proofs.YthndjhocmpelcaaGreat.Wat
open Go.RowKit Kit Ints
set_option linter.unusedVariables false
/-- Two clocks, side by side. -/
structure Two (w : World) (ga : Nat) (A : Option Addr) (L : List Mom) (gb : Nat) (B : Option Addr) (M : List Mom) : Prop where
  a : Clk w ga A L
  b : Clk w gb B M
  d : ∀ k, Its ga A k → ¬ Its gb B k
theorem Two.below {w w' : World} {ga gb : Nat} {A B : Option Addr} {L M : List Mom} (h : Two w ga A L gb B M) (hb : Below w.heap.size w w') : Two w' ga A L gb B M := ⟨h.a.below hb, h.b.below hb, h.d⟩
theorem Two.left {w w' : World} {ga gb : Nat} {A B : Option Addr} {L M N : List Mom} (h : Two w ga A L gb B M) (t : Turn w w' ga A N) : ∃ A', Two w' ga A' N gb B M ∧ Wr w w' (Its ga A) := by
  obtain ⟨A', k, f, r⟩ := t
  refine ⟨A', ⟨k, h.b.wr r (fun k hk hn => h.d k hn hk), fun k hk hn => ?_⟩, r⟩
  rcases f.its ga k hk with h1 | h1
  · exact h.d k h1 hn
  · have := h.b.its k hn; omega
theorem Two.right {w w' : World} {ga gb : Nat} {A B : Option Addr} {L M N : List Mom} (h : Two w ga A L gb B M) (t : Turn w w' gb B N) : ∃ B', Two w' ga A L gb B' N ∧ Wr w w' (Its gb B) := by
  obtain ⟨B', k, f, r⟩ := t
  refine ⟨B', ⟨h.a.wr r h.d, k, fun k hk hn => ?_⟩, r⟩
  rcases f.its gb k hn with h1 | h1
  · exact h.d k hk h1
  · have := h.a.its k hk; omega
theorem Two.leftD {w w' : World} {ga gb : Nat} {A B : Option Addr} {L M N : List Mom} (h : Two w ga A L gb B M) (k : Clk w' ga A N) (r : Wr w w' (Its ga A)) : Two w' ga A N gb B M :=
  ⟨k, h.b.wr r (fun k hk hn => h.d k hn hk), h.d⟩
theorem Two.rightD {w w' : World} {ga gb : Nat} {A B : Option Addr} {L M N : List Mom} (h : Two w ga A L gb B M) (k : Clk w' gb B N) (r : Wr w w' (Its gb B)) : Two w' ga A L gb B N :=
  ⟨h.a.wr r h.d, k, h.d⟩
/-- What is due of what is left is due. -/
theorem due_rest {now now' : Int} {L : List Mom} (hL : L.Pairwise (fun a b => ltM a b = true)) (h : now ≤ now') : dueL now L ++ dueL now' (restL now L) = dueL now' L ∧ restL now' (restL now L) = restL now' L := by
  induction L with
  | nil => exact ⟨rfl, rfl⟩
  | cons m l ih =>
    have hl := (List.pairwise_cons.1 hL).2
    by_cases e : m.at_ ≤ now
    · obtain ⟨h1, h2⟩ := due_cons_yes (L := l) e
      obtain ⟨h3, h4⟩ := due_cons_yes (L := l) (now := now') (m := m) (by omega)
      obtain ⟨i1, i2⟩ := ih hl
      rw [h1, h2, h3, h4, List.cons_append, i1, i2]
      exact ⟨rfl, rfl⟩
    · obtain ⟨h1, h2⟩ := due_cons_no hL (now := now) (by omega)
      rw [h1, h2]
      exact ⟨rfl, rfl⟩
theorem due_len (now : Int) (L : List Mom) : (dueL now L).length + (restL now L).length = L.length := by
  unfold dueL restL
  induction L with
  | nil => rfl
  | cons m l ih =>
    rw [List.length_map] at ih ⊢
    by_cases e : m.at_ ≤ now
    · rw [List.filter_cons_of_pos (by simpa using e), List.filter_cons_of_neg (by simp; omega)]
      simp only [List.length_cons]; omega
    · rw [List.filter_cons_of_neg (by simpa using e), List.filter_cons_of_pos (by simp; omega)]
      simp only [List.length_cons]; omega
theorem due_mem {now : Int} {L : List Mom} {x : Int} : x ∈ dueL now L ↔ ∃ m ∈ L, m.at_ ≤ now ∧ m.id = x := by
  unfold dueL
  rw [List.mem_map]
  constructor
  · rintro ⟨m, hm, rfl⟩
    obtain ⟨h1, h2⟩ := List.mem_filter.1 hm
    exact ⟨m, h1, of_decide_eq_true h2, rfl⟩
  · rintro ⟨m, h1, h2, rfl⟩
    exact ⟨m, List.mem_filter.2 ⟨h1, decide_eq_true h2⟩, rfl⟩
theorem rest_sub {now : Int} {L : List Mom} {m : Mom} (h : m ∈ restL now L) : m ∈ L := (List.mem_filter.1 h).1
theorem St.rest {L : List Mom} (h : St L) (now : Int) : St (restL now L) := h.filter _
/-- What is due later is there, not ahead of its moment. -/
theorem due_at {now now' : Int} {L : List Mom} (h : St L) {x : Int} (hx : x ∈ dueL now' (restL now L)) : ∃ a, atL x L = some a ∧ a ≤ now' := by
  obtain ⟨m, hm, h1, rfl⟩ := due_mem.1 hx
  exact ⟨m.at_, h.find (rest_sub hm), h1⟩
theorem St.setLq {L : List Mom} (h : St L) (id at_ : Int) : St (setLq id at_ L) := by
  unfold Wat.setLq
  split
  · rename_i e; exact h.setL e
  · exact h
end Go.Proofs.YthndjhocmpelcaaGreat.Wat
namespace Go.Proofs.YthndjhocmpelcaaGreat.Wat
open Go.RowKit Kit Ints
set_option linter.unusedVariables false
theorem setA (w : World) (ga gb : Nat) (A B : Option Addr) (L M : List Mom) (id at_ : Int) (h : Hid (Two w ga A L gb B M)) (q : Bool) (hq : Hid (q = okM id at_)) (N : List Mom) (hN : Hid (N = setLq id at_ L)) :
    Calls Tryz.prog 52 #[.pointer (some ⟨ga, 0, none⟩), .int .i64 id, .int .i64 at_] w fun e w' => e = .returned (.bool q) ∧ ∃ A', Hid (Two w' ga A' N gb B M) ∧ Hid (Wr w w' (Its ga A)) :=
  (set0 w ga A L id at_ (Hid.mk_ h.out.a) q hq N hN).mono fun e w' ⟨he, t⟩ => by
    obtain ⟨A', h1, h2⟩ := h.out.left t.out
    exact ⟨he, A', Hid.mk_ h1, Hid.mk_ h2⟩
theorem setB (w : World) (ga gb : Nat) (A B : Option Addr) (L M : List Mom) (id at_ : Int) (h : Hid (Two w ga A L gb B M)) (q : Bool) (hq : Hid (q = okM id at_)) (N : List Mom) (hN : Hid (N = setLq id at_ M)) :
    Calls Tryz.prog 52 #[.pointer (some ⟨gb, 0, none⟩), .int .i64 id, .int .i64 at_] w fun e w' => e = .returned (.bool q) ∧ ∃ B', Hid (Two w' ga A L gb B' N) ∧ Hid (Wr w w' (Its gb B)) :=
  (set0 w gb B M id at_ (Hid.mk_ h.out.b) q hq N hN).mono fun e w' ⟨he, t⟩ => by
    obtain ⟨A', h1, h2⟩ := h.out.right t.out
    exact ⟨he, A', Hid.mk_ h1, Hid.mk_ h2⟩
theorem cutA (w : World) (ga gb : Nat) (A B : Option Addr) (L M : List Mom) (id : Int) (h : Hid (Two w ga A L gb B M)) (q : Bool) (hq : Hid (q = has id L)) (N : List Mom) (hN : Hid (N = without id L)) :
    Calls Tryz.prog 64 #[.pointer (some ⟨ga, 0, none⟩), .int .i64 id] w fun e w' => e = .returned (.bool q) ∧ ∃ A', Hid (Two w' ga A' N gb B M) ∧ Hid (Wr w w' (Its ga A)) :=
  (cut0 w ga A L id (Hid.mk_ h.out.a) q hq N hN).mono fun e w' ⟨he, t⟩ => by
    obtain ⟨A', h1, h2⟩ := h.out.left t.out
    exact ⟨he, A', Hid.mk_ h1, Hid.mk_ h2⟩
theorem dueA (w : World) (ga gb : Nat) (A B : Option Addr) (L M : List Mom) (now : Int) (h : Hid (Two w ga A L gb B M)) (D : List Int) (hD : Hid (dueL now L = D)) (N : List Mom) (hN : Hid (restL now L = N)) :
    Calls Tryz.prog 47 #[.pointer (some ⟨ga, 0, none⟩), .int .i64 now] w fun e w' => ∃ P n c, e = .returned (.slice P n c) ∧ Hid (Own w' w.heap.size (.slice P n c) D) ∧ Hid (n = D.length) ∧ Hid (Two w' ga A N gb B M) ∧ Hid (Wr w w' (Its ga A)) :=
  (due0 w ga A L now (Hid.mk_ h.out.a) D hD N hN).mono fun e w' ⟨P, n, c, he, h1, h2, h3⟩ => ⟨P, n, c, he, h1, Hid.mk_ h1.out.row.1, Hid.mk_ (h.out.leftD h2.out h3.out), h3⟩
theorem dueB (w : World) (ga gb : Nat) (A B : Option Addr) (L M : List Mom) (now : Int) (h : Hid (Two w ga A L gb B M)) (D : List Int) (hD : Hid (dueL now M = D)) (N : List Mom) (hN : Hid (restL now M = N)) :
    Calls Tryz.prog 47 #[.pointer (some ⟨gb, 0, none⟩), .int .i64 now] w fun e w' => ∃ P n c, e = .returned (.slice P n c) ∧ Hid (Own w' w.heap.size (.slice P n c) D) ∧ Hid (n = D.length) ∧ Hid (Two w' ga A L gb B N) ∧ Hid (Wr w w' (Its gb B)) :=
  (due0 w gb B M now (Hid.mk_ h.out.b) D hD N hN).mono fun e w' ⟨P, n, c, he, h1, h2, h3⟩ => ⟨P, n, c, he, h1, Hid.mk_ h1.out.row.1, Hid.mk_ (h.out.rightD h2.out h3.out), h3⟩
theorem Two.wrA {w w' : World} {ga gb : Nat} {A B : Option Addr} {L M : List Mom} (h : Two w ga A L gb B M) (r : Wr w w' (Its ga A)) {z : Nat} (hz : z ≤ ga) : Below z w w' := h.a.wrBelow r hz
theorem Two.wrB {w w' : World} {ga gb : Nat} {A B : Option Addr} {L M : List Mom} (h : Two w ga A L gb B M) (r : Wr w w' (Its gb B)) {z : Nat} (hz : z ≤ gb) : Below z w w' := h.b.wrBelow r hz
theorem newTwo {w w1 w2 : World} {ga gb : Nat} (h1 : Clk w1 ga none []) (hg : w.heap.size ≤ ga) (h2 : Clk w2 gb none []) (hg2 : w1.heap.size ≤ gb) (b : Below w1.heap.size w1 w2) : Two w2 ga none [] gb none [] :=
  ⟨h1.below b, h2, fun k hk hn => by
    have h3 := h1.its k hk
    rcases hn with rfl | ⟨off, e⟩
    · omega
    · cases e⟩
/-- One more behind a row of one's own: it alone is written. -/
theorem Ints.run_one (w : World) (ty : TypeId) (base : Nat) (v : Value) (xs : List Int) (hown : Own w base v xs) (ad : Addr) (x : Int) (c : Nat) (hat : Row w (some ad) [x]) (hn : xs.length ≤ 1000000) (hbase : base ≤ w.heap.size) :
    ∃ v' w', (Builtin.append_ #[36, 36] ty #[v, .slice (some ad) 1 c]).run Tryz.prog w = .ok v' w' ∧ Own w' base v' (xs ++ [x]) ∧ w.grownBy w' v.ownBlock ∧ (v'.ownBlock = v.ownBlock ∨ ∀ k, v'.ownBlock = some k → w.heap.size ≤ k) := by
  obtain ⟨i0, hi0, hz0, hz1, hz2⟩ := Ints.info_parts info3
  unfold Own at hown
  obtain ⟨v', w', hr, h1, h2, h3⟩ := run_append_own (P := Tryz.prog) w base 36 ty 3 i0 _ 1 8 Tryz.underlying36 hi0 hz0 hz1 hz2 rfl (by decide) v xs.length (ints xs) hown ad 1 c (ints [x]) (by rw [ints_length]; rfl) hat.cells (ints_one [x]) (by unfold maxLen; omega) (by omega) hbase
  refine ⟨v', w', hr, ?_, h2, ?_⟩
  · unfold Own
    rw [ints_append, List.length_append]
    exact h1
  · rcases hown.2 with ⟨rfl, h0⟩ | ⟨g, cap, cur, rfl, hbg, hg, hnc, hcm, hcs, htake⟩
    · right
      have h4 := run_append_nil (P := Tryz.prog) w 36 ty 3 i0 _ Tryz.underlying36 hi0 hz0 ad 1 c (ints [x]) (by rw [ints_length, hz1]; rfl) hat.cells (by omega) (by omega) (by rw [hz2]; omega)
      rw [hr] at h4
      injection h4 with e1 e2
      subst e1
      intro k hk
      simp [Value.ownBlock] at hk
      omega
    · by_cases hroom : xs.length + 1 ≤ cap
      · left
        obtain ⟨w2, h4, _⟩ := run_append_fits (P := Tryz.prog) w base 36 ty 3 i0 1 Tryz.underlying36 hi0 hz1 g xs.length cap (ints xs) hown ad 1 c (ints [x]) (by rw [ints_length]; rfl) hat.cells (ints_one [x]) hroom
        rw [hr] at h4
        simp only [Result.ok.injEq] at h4
        rw [h4.1]
        simp only [Value.ownBlock]
      · right
        have holds : ∀ j u, (ints xs)[j]? = some u → w.cell? ((⟨g, 0, none⟩ : Addr).add j) = some u := World.ownsRow.cells hown (g := g) rfl
        have h4 := run_append_grow (P := Tryz.prog) w 36 ty 3 i0 _ Tryz.underlying36 hi0 hz0 ⟨g, 0, none⟩ xs.length cap (ints xs) (by rw [ints_length, hz1, Nat.mul_one]) holds ad 1 c (ints [x]) (by rw [ints_length, hz1]; rfl) hat.cells (by omega) (by omega) (by rw [hz2]; exact growslice_fits (by omega) (by omega))
        rw [hr] at h4
        injection h4 with e1 e2
        subst e1
        intro k hk
        simp [Value.ownBlock] at hk
        omega
/-- What an append of one leaves. -/
structure Ints.Got (w w' : World) (base : Nat) (v v' : Value) (xs : List Int) : Prop where
  own : Own w' base v' xs
  gb : w.grownBy w' v.ownBlock
  at_ : v'.ownBlock = v.ownBlock ∨ ∀ k, v'.ownBlock = some k → w.heap.size ≤ k
theorem Ints.wpList_one (w : World) {ops : Array Oper} {rest : List Oper} {o : Oper} {a : Act} {Q : Exit → Act → World → Prop} (hgd : o.guard = none) (s x : Operand)
    (ho : o.op = .call { callee := .builtin .append, args := #[s, x], argTypes := #[36, 36] })
    (base : Nat) (v : Value) (xs : List Int) (hs : a.eval s = v) (hown : Own w base v xs) (ad : Addr) (y : Int) (c : Nat) (hx : a.eval x = .slice (some ad) 1 c) (hat : Row w (some ad) [y]) (hn : xs.length ≤ 1000000) (hbase : base ≤ w.heap.size)
    (h : ∀ v' w', Hid (Got w w' base v v' (xs ++ [y])) → wpList Tryz.prog ops Q rest (a.put o.dst v') w') : wpList Tryz.prog ops Q (o :: rest) a w :=
  wpList_plain hgd fun _ hK => by
    obtain ⟨v', w', hr, h2, h3, h4⟩ := run_one w o.type base v xs hown ad y c hat hn hbase
    unfold Oper.wp execOp
    simp only [ho, resolve, invoke, builtin, Sem.run_bind, Sem.run_pure, Result.andThen_ok, List.map_toArray, List.map_cons, List.map_nil, hs, hx, hr]
    exact hK _ _ (h v' w' (Hid.mk_ ⟨h2, h3, h4⟩))
theorem Ints.Own.blk {w : World} {base : Nat} {v : Value} {xs : List Int} (h : Own w base v xs) : ∀ k, v.ownBlock = some k → base ≤ k ∧ k < w.heap.size := by
  unfold Own at h
  intro k hk
  exact World.ownsRow.lt h k hk
theorem Ints.Got.below {w w' : World} {base : Nat} {v v' : Value} {xs ys : List Int} (h : Got w w' base v v' xs) (ho : Own w base v ys) (hb : base ≤ w.heap.size) : Below base w w' :=
  (Below.refl _ _).grown h.gb hb (fun j hj => (ho.blk j hj).1)
theorem Ints.Got.row {w w' : World} {base : Nat} {v v' : Value} {xs ys : List Int} {A : Option Addr} (h : Got w w' base v v' xs) (hr : Row w A ys) (hn : ∀ b off, A = some ⟨b, off, none⟩ → v.ownBlock ≠ some b) : Row w' A ys :=
  hr.keep fun b off e hb => h.gb.block b hb (fun e2 => hn b off e e2.symm)
theorem Ints.Own.form2 {w : World} {base : Nat} {v : Value} {zs : List Int} (h : Own w base v zs) : ∃ A n c, v = .slice A n c ∧ n = zs.length := by
  obtain ⟨A, c, e, _⟩ := h.form
  exact ⟨A, _, c, e, rfl⟩
theorem Two.keepB {w w' : World} {ga gb : Nat} {A B : Option Addr} {L M : List Mom} (h : Two w ga A L gb B M) {z : Nat} (hb : Below z w w') (ha : ∀ k, Its ga A k → k < z) (hB : ∀ k, Its gb B k → k < z) : Two w' ga A L gb B M :=
  ⟨h.a.wr (Wr.ofB hb) (fun k hk hn => by have := ha k hk; omega), h.b.wr (Wr.ofB hb) (fun k hk hn => by have := hB k hk; omega), h.d⟩
theorem Ints.Got.sep {w w' : World} {base : Nat} {v v' : Value} {xs : List Int} {A : Option Addr} (h : Got w w' base v v' xs) (hn : ∀ b off, A = some ⟨b, off, none⟩ → v.ownBlock ≠ some b) (hlt : ∀ b off, A = some ⟨b, off, none⟩ → b < w.heap.size) : ∀ b off, A = some ⟨b, off, none⟩ → v'.ownBlock ≠ some b := fun b off e e2 => by
  rcases h.at_ with h1 | h1
  · rw [h1] at e2; exact hn b off e e2
  · have := h1 b e2; have := hlt b off e; omega
end Go.Proofs.YthndjhocmpelcaaGreat.Wat
