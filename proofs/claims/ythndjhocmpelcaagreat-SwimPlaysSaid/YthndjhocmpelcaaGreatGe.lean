/- The queue, walked. Conditions: as each theorem says. -/
import Derived.Test.YthndjhocmpelcaaGreatGd
import Derived.Shelf.Abstract
import Derived.Test.YthndjhocmpelcaaGreatGa
import Derived.Deep.CutRange
import Derived.Deep.CutBlock
namespace Go.Proofs.YthndjhocmpelcaaGreat.Rum
open Go.RowKit Kit Go.Shelf
set_option linter.unusedVariables false
variable {o : Int}
theorem is59 (id : Int) (B : Nat) (x : Tld) (W : World) (hcell : W.cell? ⟨B, 0, none⟩ = some (.int .i64 id)) :
    Calls Tryz.prog 98 #[.agg #[.int .i64 x.node, .int .i64 x.inc, .int .i64 x.hl, .int .i64 x.n], .pointer (some ⟨B, 0, none⟩)] W fun e w' => e = .returned (.bool (decide (x.node = id))) ∧ Below W.heap.size W w' := by
  have hB := World.block_lt_of_cell? W _ hcell
  have hne : B ≠ W.heap.size := by simp at hB; omega
  go_enter Tryz.func98, Tryz.ntmps98
  go_wp2_with fail
  go_ret
  refine ⟨by simp [Bool.beq_eq_decide_eq], ((Below.refl _ W).alloc (Nat.le_refl _) _)⟩
theorem TAt.keep {w w' : World} {b : Nat} {hs : List Tld} (h : TAt w b hs) (hb : Below w.heap.size w w') : TAt w' b hs := fun j m hj => by
  obtain ⟨⟨h1, h2, h3, h4⟩, h5, h6, h7, h8⟩ := h j m hj
  have hl := World.block_lt_of_cell? w _ h1
  have := hb.block b hl
  refine ⟨⟨keep1 hb h1, keep1 hb h2, keep1 hb h3, keep1 hb h4⟩, ?_, ?_, ?_, ?_⟩
  · rw [← h5]; simp [World.frozen?, this]
  · rw [← h6]; simp [World.frozen?, this]
  · rw [← h7]; simp [World.frozen?, this]
  · rw [← h8]; simp [World.frozen?, this]
theorem findIdx_hit : ∀ (hs : List Tld) (id : Int) (k : Nat), k < hs.length → (fn hs k).node = id → (∀ j, j < k → (fn hs j).node ≠ id) → hs.findIdx? (fun m => decide (m.node = id)) = some k
  | [], _, _, h, _, _ => absurd h (Nat.not_lt_zero _)
  | a :: l, id, 0, _, h, _ => by
    have h : a.node = id := h
    simp [List.findIdx?_cons, h]
  | a :: l, id, k + 1, hk, h, hA => by
    have h0 : a.node ≠ id := hA 0 (by omega)
    rw [List.findIdx?_cons]
    simp only [h0, decide_false, Bool.false_eq_true, if_false]
    rw [findIdx_hit l id k (by simpa using hk) h (fun j hj => hA (j + 1) (by omega))]
    rfl
theorem findIdx_miss : ∀ (hs : List Tld) (id : Int), (∀ j, j < hs.length → (fn hs j).node ≠ id) → hs.findIdx? (fun m => decide (m.node = id)) = none
  | [], _, _ => rfl
  | a :: l, id, hA => by
    have h0 : a.node ≠ id := hA 0 (by simp)
    rw [List.findIdx?_cons]
    simp only [h0, decide_false, Bool.false_eq_true, if_false]
    rw [findIdx_miss l id (fun j hj => hA (j + 1) (by simpa using hj))]
    rfl
set_option maxHeartbeats 2000000 in
theorem ixf (b n c B : Nat) (id : Int) (hs : List Tld) (w : World) (hm : Hid (TAt w b hs)) (hn : Hid (n = hs.length)) (hbig : n ≤ 1000000) (hB : Hid (w.cell? ⟨B, 0, none⟩ = some (.int .i64 id))) (r : Int) (hr : Hid (r = match hs.findIdx? (fun m => decide (m.node = id)) with | some i => (i : Int) | none => -1)) :
    Calls Tryz.prog 97 #[.slice (some ⟨b, 0, none⟩) n c, .func (.func 98) #[] #[.pointer (some ⟨B, 0, none⟩)]] w fun e w' => e = .returned (.int .i64 r) ∧ Below w.heap.size w w' := by
  have eg : ∀ args w, (callFunc 98 args).run Tryz.prog w = .ok (.enter 98 args) w := enters_of Tryz.func98 (by kernel_rfl) rfl
  go_enter Tryz.func97, Tryz.ntmps97
  go_wp2
  go_loopg [5, 8] n (fun gg _ s8 wr => ∃ kk : Nat, kk ≤ n ∧ n - kk ≤ gg ∧ s8 = .int .i64 kk ∧ Hid (Below w.heap.size w wr) ∧ Hid (∀ j, j < kk → (fn hs j).node ≠ id))
  case atStart => exact ⟨0, Nat.zero_le _, by omega, rfl, Below.refl _ w, fun j hj => absurd hj (Nat.not_lt_zero _)⟩
  case round =>
    obtain ⟨kk, hkk, hg, rfl, BW, A⟩ := hrel
    by_cases hlt : kk < n
    · have hltz : (kk : Int) < (n : Int) := by omega
      have hl := hn.out
      have l0 := (hm.out.keep BW.out) kk (fn hs kk) (fn_get (by omega))
      clear hl
      have hcall := is59 id B (fn hs kk) wr (keep1 BW.out hB.out)
      obtain ⟨⟨x0, x1, x2, x3⟩, _⟩ := l0
      have k0 : (0 : Int) ≤ (kk : Int) := by omega
      cases hq : decide ((fn hs kk).node = id) with
      | true =>
        rw [hq] at hcall
        have hr := hr.out
        rw [findIdx_hit hs id kk (by have := hn.out; omega) (of_decide_eq_true hq) A.out] at hr
        simp only at hr
        subst hr
        clear hq
        go_wp2_with (go_at_call 98; refine hcall.mono ?_; rintro e w' ⟨rfl, hb'⟩)
        go_ret
        exact ⟨rfl, BW.out.trans (hb'.mono BW.out.size)⟩
      | false =>
        rw [hq] at hcall
        have HQ := Hid.mk_ (of_decide_eq_false hq)
        clear hq
        go_wp2_with (go_at_call 98; refine hcall.mono ?_; rintro e w' ⟨rfl, hb'⟩)
        go_roundg (n - (kk + 1))
        case measure => omega
        case rel =>
          refine ⟨kk + 1, by omega, by omega, by go_num, Hid.mk_ (BW.out.trans (hb'.mono BW.out.size)), Hid.mk_ (fun j hj => ?_)⟩
          by_cases e : j = kk
          · subst e
            exact HQ.out
          · exact A.out j (by omega)
    · have hltz : ¬ (kk : Int) < (n : Int) := by omega
      have e0 : kk = n := by omega
      subst e0
      have hl := hn.out
      have hr := hr.out
      rw [findIdx_miss hs id (fun j hj => A.out j (by omega))] at hr
      simp only at hr
      subst hr
      clear hl
      go_wp2
      go_ret
      exact ⟨rfl, BW.out⟩
theorem ixf_nil (c B : Nat) (w : World) :
    Calls Tryz.prog 97 #[.slice none 0 c, .func (.func 98) #[] #[.pointer (some ⟨B, 0, none⟩)]] w fun e w' => e = .returned (.int .i64 (-1)) ∧ w' = w := by
  go_enter Tryz.func97, Tryz.ntmps97
  go_wp2
  go_loopg [5, 8] 0 (fun gg _ s8 wr => s8 = .int .i64 0 ∧ wr = w)
  case atStart => exact ⟨rfl, rfl⟩
  case round =>
    obtain ⟨rfl, rfl⟩ := hrel
    go_wp2
    go_ret
    exact ⟨rfl, rfl⟩
def plc (hs : List Tld) (id : Int) : Int := match hs.findIdx? (fun m => decide (m.node = id)) with | some i => (i : Int) | none => -1
theorem place_nil (id : Int) (w : World) : Calls Tryz.prog 87 #[.pointer none, .int .i64 id] w fun e w' => e = .returned (.int .i64 (-1)) ∧ Below w.heap.size w w' := by
  go_enter Tryz.func87, Tryz.ntmps87
  go_wp2_with fail
  go_ret
  exact ⟨rfl, (Below.refl _ w).alloc (Nat.le_refl _) _⟩
set_option maxRecDepth 100000 in
theorem place {w : World} {g n c : Nat} {A : Option Addr} {hs : List Tld} (id : Int) (h : Hid (HpS o w g A n c hs)) (hn : n ≤ 1000000) (r : Int) (hr : Hid (r = plc hs id)) :
    Calls Tryz.prog 87 #[.pointer (some ⟨g, 0, none⟩), .int .i64 id] w fun e w' => e = .returned (.int .i64 r) ∧ Below w.heap.size w w' := by
  have a1 : Below w.heap.size w (w.alloc (.cells #[.int .i64 id] 3)) := (Below.refl _ _).alloc (Nat.le_refl _) _
  have h1 := Hid.mk_ (h.out.below a1)
  have c1 := h1.out.cell
  have b1 : Hid ((w.alloc (.cells #[.int .i64 id] 3)).cell? ⟨w.heap.size, 0, none⟩ = some (.int .i64 id)) := Hid.mk_ (by rw [World.cell?_alloc_new]; rfl)
  have z1 := Hid.mk_ a1
  clear a1
  rcases h.out.own.addr with rfl | ⟨b, rfl, _, _⟩
  · have hn0 : n = 0 := by
      rw [h.out.len]
      rcases Nat.eq_zero_or_pos hs.length with e | e
      · exact e
      · obtain ⟨b, hb, _⟩ := h.out.own.some_ e
        cases hb
    subst hn0
    have hs0 : hs = [] := List.length_eq_zero_iff.1 h.out.len.symm
    have hr0 : r = -1 := by rw [hr.out, hs0]; rfl
    subst hr0
    go_enter Tryz.func87, Tryz.ntmps87
    go_wp2_with (go_at_call 97; refine (ixf_nil c _ _).mono ?_; rintro e w' ⟨rfl, rfl⟩)
    go_ret
    exact ⟨rfl, z1.out⟩
  · go_enter Tryz.func87, Tryz.ntmps87
    go_wp2_with (go_at_call 97; refine (ixf b n c _ id hs _ (Hid.mk_ h1.out.own.at_) (Hid.mk_ h1.out.len) hn b1 r hr).mono ?_; rintro e w' ⟨rfl, b2⟩)
    go_ret
    exact ⟨rfl, z1.out.trans (b2.mono z1.out.size)⟩
end Go.Proofs.YthndjhocmpelcaaGreat.Rum
namespace Go.Proofs.YthndjhocmpelcaaGreat.Rum
open Go.RowKit Kit Go.Shelf Hth Tri3
set_option linter.unusedVariables false
theorem ltM_tot {a b : Tld} (h : a.node ≠ b.node) (hl : ltT a b = false) : ltT b a = true := by
  unfold ltT at *
  split at hl <;> rename_i e
  · rw [if_pos e.symm]; simp at *; omega
  · rw [if_neg (fun h => e h.symm)]; simp at *; omega
theorem ltM_trans {a b c : Tld} (h : ltT a b = true) (k : ltT b c = true) : ltT a c = true := by
  unfold ltT at *
  split at h <;> split at k <;> split <;> simp at * <;> omega
theorem ltM_at {a b : Tld} (h : ltT a b = true) : a.n ≤ b.n := by
  unfold ltT at h
  split at h <;> simp at h <;> omega
theorem ltM_irr (a : Tld) : ltT a a = false := ordT.irrefl a
def ins (m : Tld) : List Tld → List Tld
  | [] => [m]
  | x :: l => if ltT x m then x :: ins m l else m :: x :: l
theorem ins_perm (m : Tld) : ∀ L, (ins m L).Perm (m :: L)
  | [] => .refl _
  | x :: l => by
    rw [ins]
    split
    · exact ((ins_perm m l).cons x).trans (.swap _ _ _)
    · exact .refl _
theorem ins_mem {m x : Tld} {L : List Tld} : x ∈ ins m L ↔ x = m ∨ x ∈ L := by rw [(ins_perm m L).mem_iff]; simp
theorem ins_ord {m : Tld} : ∀ {L : List Tld}, L.Pairwise (fun a b => ltT a b = true) → (∀ x ∈ L, x.node ≠ m.node) → (ins m L).Pairwise (fun a b => ltT a b = true)
  | [], _, _ => by simp [ins]
  | x :: l, h, hn => by
    rw [List.pairwise_cons] at h
    rw [ins]
    split
    · rename_i e
      rw [List.pairwise_cons]
      refine ⟨fun y hy => ?_, ins_ord h.2 (fun y hy => hn y (List.mem_cons_of_mem _ hy))⟩
      rcases ins_mem.1 hy with rfl | hy
      · exact e
      · exact h.1 y hy
    · rename_i e
      have e := ltM_tot (hn x (by simp)) (by simpa using e)
      rw [List.pairwise_cons, List.pairwise_cons]
      refine ⟨fun y hy => ?_, h⟩
      rcases List.mem_cons.1 hy with rfl | hy
      · exact e
      · exact ltM_trans e (h.1 y hy)
def without (id : Int) (L : List Tld) : List Tld := L.filter fun m => decide (m.node ≠ id)
theorem without_mem {id : Int} {L : List Tld} {m : Tld} : m ∈ without id L ↔ m ∈ L ∧ m.node ≠ id := by unfold without; rw [List.mem_filter]; simp
/-- A good queue: in order, each node once, only what may be. -/
structure St (L : List Tld) : Prop where
  ord : L.Pairwise (fun a b => ltT a b = true)
  nodup : (L.map Tld.node).Nodup
  ok : ∀ t ∈ L, 0 ≤ t.node ∧ t.node ≤ 7 ∧ 0 ≤ t.inc ∧ t.inc ≤ 1000000 ∧ 1 ≤ t.hl ∧ t.hl ≤ 4
theorem nodup_le : ∀ (N : Nat) (l : List Int), l.Nodup → (∀ x ∈ l, 0 ≤ x ∧ x < N) → l.length ≤ N
  | 0, [], _, _ => Nat.le_refl _
  | 0, a :: l, _, h => by have := h a (by simp); omega
  | N + 1, l, hd, h => by
    have h1 := nodup_le N (l.erase N) (hd.erase _) (fun x hx => by
      have h2 := h x (List.mem_of_mem_erase hx)
      have h3 : x ≠ (N : Int) := fun e => by
        subst e
        exact (List.Nodup.mem_erase_iff hd).1 hx |>.1 rfl
      omega)
    rw [List.length_erase] at h1
    split at h1 <;> omega
theorem St.len {L : List Tld} (h : St L) : L.length ≤ 8 := by
  have := nodup_le 8 (L.map Tld.node) h.nodup (fun x hx => by
    obtain ⟨m, hm, rfl⟩ := List.mem_map.1 hx
    have := h.ok m hm
    omega)
  simpa using this
theorem St.nil : St [] := ⟨.nil, .nil, fun _ h => absurd h (List.not_mem_nil)⟩
theorem St.filter {L : List Tld} (h : St L) (p : Tld → Bool) : St (L.filter p) :=
  ⟨h.ord.filter _, h.nodup.sublist (List.Sublist.map _ (List.filter_sublist)), fun m hm => h.ok m (List.mem_filter.1 hm).1⟩
theorem St.drop {L : List Tld} (h : St L) (k : Nat) : St (L.drop k) :=
  ⟨h.ord.drop, h.nodup.sublist (List.Sublist.map _ (List.drop_sublist _ _)), fun m hm => h.ok m (List.mem_of_mem_drop hm)⟩
theorem St.tail {m : Tld} {L : List Tld} (h : St (m :: L)) : St L := h.drop 1
theorem St.ins {m : Tld} {L : List Tld} (h : St L) (hn : ∀ x ∈ L, x.node ≠ m.node) (hm : 0 ≤ m.node ∧ m.node ≤ 7 ∧ 0 ≤ m.inc ∧ m.inc ≤ 1000000 ∧ 1 ≤ m.hl ∧ m.hl ≤ 4) : St (ins m L) := by
  refine ⟨ins_ord h.ord hn, ?_, fun t ht => ?_⟩
  · refine (((ins_perm m L).map Tld.node).nodup_iff).2 ?_
    rw [List.map_cons, List.nodup_cons]
    refine ⟨fun hm => ?_, h.nodup⟩
    obtain ⟨x, hx, e⟩ := List.mem_map.1 hm
    exact hn x hx e
  · rcases ins_mem.1 ht with rfl | ht
    · exact hm
    · exact h.ok t ht
theorem inj_id {L : List Tld} (h : (L.map Tld.node).Nodup) {a b : Tld} (ha : a ∈ L) (hb : b ∈ L) (e : a.node = b.node) : a = b := by
  induction L with
  | nil => cases ha
  | cons x l ih =>
    rw [List.map_cons, List.nodup_cons] at h
    rcases List.mem_cons.1 ha with e1 | h1 <;> rcases List.mem_cons.1 hb with e2 | h2
    · exact e1.trans e2.symm
    · exact absurd (List.mem_map.2 ⟨b, h2, by rw [← e, e1]⟩) h.1
    · exact absurd (List.mem_map.2 ⟨a, h1, by rw [e, e2]⟩) h.1
    · exact ih h.2 h1 h2
theorem plc_cases (hs : List Tld) (id : Int) : (plc hs id = -1 ∧ ∀ m ∈ hs, m.node ≠ id) ∨ ∃ i : Nat, plc hs id = (i : Int) ∧ i < hs.length ∧ (fn hs i).node = id := by
  unfold plc
  cases hf : hs.findIdx? (fun m => decide (m.node = id)) with
  | none =>
    left
    refine ⟨rfl, fun m hm e => ?_⟩
    have := List.findIdx?_eq_none_iff.1 hf m hm
    simp [e] at this
  | some i =>
    right
    obtain ⟨hi, h1, _⟩ := List.findIdx?_eq_some_iff_getElem.1 hf
    refine ⟨i, rfl, hi, ?_⟩
    rw [fn_eq hi]
    exact of_decide_eq_true h1
theorem top_head {hs L : List Tld} {m : Tld} (hp : Hp hs) (hl : hs.Perm (m :: L)) (hL : (m :: L).Pairwise (fun a b => ltT a b = true)) : fn hs 0 = m := by
  have h1 := hp.top m (hl.mem_iff.2 (by simp))
  have h0 : 0 < hs.length := by rw [hl.length_eq]; simp
  have h2 : fn hs 0 ∈ m :: L := hl.mem_iff.1 (by rw [fn_eq h0]; exact List.getElem_mem h0)
  rcases List.mem_cons.1 h2 with h3 | h3
  · exact h3
  · have := (List.pairwise_cons.1 hL).1 _ h3
    rw [this] at h1; cases h1
theorem pop_state {hs L : List Tld} {m : Tld} {k : Nat} (hp : Hp hs) (hl : hs.Perm (m :: L)) (hL : (m :: L).Pairwise (fun a b => ltT a b = true)) (hk : hs.length = k + 1) :
    fn (popR hs) k = m ∧ Hp ((popR hs).take k) ∧ ((popR hs).take k).Perm L := by
  obtain ⟨h1, h2, h3⟩ := hp.pop hk
  have h4 := top_head hp hl hL
  refine ⟨h1.trans h4, h2, ?_⟩
  rw [h4] at h3
  exact (h3.symm.trans hl).cons_inv
theorem rem_state {hs L : List Tld} {k i : Nat} {id : Int} (hp : Hp hs) (hl : hs.Perm L) (hL : St L) (hk : hs.length = k + 1) (hi : i ≤ k) (hid : (fn hs i).node = id) :
    Hp ((remR hs i).take k) ∧ ((remR hs i).take k).Perm (without id L) := by
  obtain ⟨h1, h2, h3⟩ := hp.rem hk hi
  refine ⟨h2, ?_⟩
  have h4 := (h3.symm.trans hl).filter (fun m => decide (m.node ≠ id))
  rw [List.filter_cons_of_neg (by simp [hid])] at h4
  have hd : (((fn hs i) :: (remR hs i).take k).map Tld.node).Nodup := (((h3.symm.trans hl).map Tld.node).nodup_iff).2 hL.nodup
  rw [List.map_cons, List.nodup_cons] at hd
  have h5 : ((remR hs i).take k).filter (fun m => decide (m.node ≠ id)) = (remR hs i).take k := List.filter_eq_self.2 (fun m hm => decide_eq_true (fun e => hd.1 (List.mem_map.2 ⟨m, hm, by rw [e, hid]⟩)))
  rw [h5] at h4
  exact h4
theorem without_self {L : List Tld} {id : Int} (h : ∀ m ∈ L, m.node ≠ id) : without id L = L := List.filter_eq_self.2 (fun m hm => decide_eq_true (h m hm))
theorem push_state {hs L : List Tld} (m : Tld) (hp : Hp hs) (hl : hs.Perm L) : Hp (pushF hs m) ∧ (pushF hs m).Perm (ins m L) := by
  obtain ⟨h1, h2⟩ := hp.push m
  exact ⟨h1, (h2.trans (hl.cons m)).trans (ins_perm m L).symm⟩
/-- What is there of a node. -/
def qof (node : Int) (L : List Tld) : Option Tld := L.find? fun t => decide (t.node = node)
theorem St.find {L : List Tld} (h : St L) {t : Tld} (ht : t ∈ L) : qof t.node L = some t := by
  unfold qof
  cases hf : L.find? (fun x => decide (x.node = t.node)) with
  | none => exact absurd (List.find?_eq_none.1 hf t ht) (by simp)
  | some y =>
    have h1 := List.find?_some hf
    have h2 := List.mem_of_find?_eq_some hf
    rw [inj_id h.nodup h2 ht (of_decide_eq_true h1)]
theorem qof_none {L : List Tld} {node : Int} (h : ∀ t ∈ L, t.node ≠ node) : qof node L = none := by
  unfold qof
  exact List.find?_eq_none.2 (fun t ht => by simpa using h t ht)
theorem qof_some {L : List Tld} {node : Int} {t : Tld} (h : qof node L = some t) : t ∈ L ∧ t.node = node := by
  unfold qof at h
  exact ⟨List.mem_of_find?_eq_some h, of_decide_eq_true (by simpa using List.find?_some h)⟩
/-- A claim that is new. -/
def tl (c : Cl) : Tld := ⟨c.n, c.i, c.h, 0⟩
def clm (t : Tld) : Cl := ⟨t.node, t.inc, t.hl⟩
def inc1 (t : Tld) : Tld := ⟨t.node, t.inc, t.hl, t.n + 1⟩
/-- A claim that may be, and says something. -/
def good (c : Cl) : Bool := mayC c.n c.i c.h && !(c.h == 0)
theorem good_iff (c : Cl) : good c = true ↔ 0 ≤ c.n ∧ c.n ≤ 7 ∧ 0 ≤ c.i ∧ c.i ≤ 1000000 ∧ 1 ≤ c.h ∧ c.h ≤ 4 := by
  unfold good mayC
  simp
  omega
/-- Is it put on? -/
def putB (c : Cl) (L : List Tld) : Bool := good c && match qof c.n L with
  | some t => decide (0 < cmpC c.i c.h t.inc t.hl)
  | none => true
def putQ (c : Cl) (L : List Tld) : List Tld := if putB c L then ins (tl c) (without c.n L) else L
theorem without_mem' {id : Int} {L : List Tld} {m : Tld} : m ∈ without id L ↔ m ∈ L ∧ m.node ≠ id := without_mem
theorem St.without {L : List Tld} (h : St L) (id : Int) : St (without id L) := h.filter _
theorem St.putQ {L : List Tld} (h : St L) (c : Cl) : St (putQ c L) := by
  unfold Rum.putQ
  split
  · rename_i e
    refine (h.without c.n).ins (fun x hx => (without_mem.1 hx).2) ?_
    unfold putB at e
    rw [Bool.and_eq_true] at e
    exact (good_iff c).1 e.1
  · exact h
def Lt (o : Int) (L : List Tld) : Prop := ∀ t ∈ L, 0 ≤ t.n ∧ t.n < o
theorem Lt.putQ {o : Int} {L : List Tld} (h : Lt o L) (ho : 1 ≤ o) (c : Cl) : Lt o (putQ c L) := by
  unfold Rum.putQ
  split
  · intro t ht
    rcases ins_mem.1 ht with rfl | ht
    · exact ⟨Int.le_refl 0, by show (0 : Int) < o; omega⟩
    · exact h t (without_mem.1 ht).1
  · exact h
/-- What is told again. -/
def again (o : Int) (L : List Tld) : List Tld := (L.filter fun t => decide (t.n + 1 < o)).map inc1
def putAll (l L : List Tld) : List Tld := l.foldl (fun L t => ins t L) L
/-- What is left when the first k are told. -/
def tookQ (o : Int) (k : Nat) (L : List Tld) : List Tld := putAll (again o (L.take k)) (L.drop k)
def toldQ (k : Nat) (L : List Tld) : List Cl := (L.take k).map clm
/-- How many are told. -/
def many (n : Int) (k : Nat) : Nat := min n.toNat k
theorem putAll_perm : ∀ (l L : List Tld), (putAll l L).Perm (l ++ L)
  | [], L => .refl _
  | t :: l, L => by
    show (putAll l (ins t L)).Perm _
    refine (putAll_perm l (ins t L)).trans ?_
    refine (List.Perm.append_left l (ins_perm t L)).trans ?_
    exact List.perm_middle
theorem putAll_mem {l L : List Tld} {t : Tld} : t ∈ putAll l L ↔ t ∈ l ∨ t ∈ L := by rw [(putAll_perm l L).mem_iff, List.mem_append]
theorem St.putAll : ∀ (l : List Tld) {L : List Tld}, St L → ((l ++ L).map Tld.node).Nodup → (∀ t ∈ l, 0 ≤ t.node ∧ t.node ≤ 7 ∧ 0 ≤ t.inc ∧ t.inc ≤ 1000000 ∧ 1 ≤ t.hl ∧ t.hl ≤ 4) → St (putAll l L)
  | [], L, h, _, _ => h
  | t :: l, L, h, hd, hk => by
    rw [List.cons_append, List.map_cons, List.nodup_cons] at hd
    refine St.putAll l (h.ins (fun x hx e => hd.1 (List.mem_map.2 ⟨x, List.mem_append_right _ hx, e⟩)) (hk t (by simp))) ?_ (fun x hx => hk x (List.mem_cons_of_mem _ hx))
    have hp : ((l ++ Rum.ins t L).map Tld.node).Perm (t.node :: (l ++ L).map Tld.node) := by
      have h1 := (List.Perm.append_left l (ins_perm t L)).trans List.perm_middle
      exact (h1.map Tld.node)
    rw [hp.nodup_iff, List.nodup_cons]
    exact hd
theorem again_node (o : Int) (L : List Tld) : ((again o L).map Tld.node).Sublist (L.map Tld.node) := by
  unfold again
  rw [List.map_map]
  have : (Tld.node ∘ inc1) = Tld.node := rfl
  rw [this]
  exact List.Sublist.map _ List.filter_sublist
theorem again_mem {o : Int} {L : List Tld} {t : Tld} : t ∈ again o L ↔ ∃ s ∈ L, s.n + 1 < o ∧ inc1 s = t := by
  unfold again
  rw [List.mem_map]
  constructor
  · rintro ⟨s, hs, rfl⟩
    obtain ⟨h1, h2⟩ := List.mem_filter.1 hs
    exact ⟨s, h1, of_decide_eq_true h2, rfl⟩
  · rintro ⟨s, h1, h2, rfl⟩
    exact ⟨s, List.mem_filter.2 ⟨h1, decide_eq_true h2⟩, rfl⟩
theorem St.tookQ {L : List Tld} (h : St L) (o : Int) (k : Nat) : St (tookQ o k L) := by
  refine St.putAll _ (h.drop k) ?_ (fun t ht => ?_)
  · have h1 := h.nodup
    rw [← List.take_append_drop k L, List.map_append] at h1
    rw [List.map_append]
    exact h1.sublist (List.Sublist.append (again_node o _) (List.Sublist.refl _))
  · obtain ⟨s, hs, _, rfl⟩ := again_mem.1 ht
    exact h.ok s (List.mem_of_mem_take hs)
theorem Lt.tookQ {o : Int} {L : List Tld} (h : Lt o L) (k : Nat) : Lt o (tookQ o k L) := fun t ht => by
  rcases putAll_mem.1 ht with h1 | h1
  · obtain ⟨s, hs, h2, rfl⟩ := again_mem.1 h1
    have := h s (List.mem_of_mem_take hs)
    exact ⟨by show 0 ≤ s.n + 1; omega, h2⟩
  · exact h t (List.mem_of_mem_drop h1)
end Go.Proofs.YthndjhocmpelcaaGreat.Rum
namespace Go.Proofs.YthndjhocmpelcaaGreat.Rum
open Go.RowKit Kit Go.Shelf Hth Tri3
set_option linter.unusedVariables false
/-- A queue that holds L, and tells each so often as o. -/
structure Que (w : World) (g : Nat) (o : Int) (A : Option Addr) (L : List Tld) : Prop where
  st : St L
  lt : Lt o L
  ob : 1 ≤ o ∧ o ≤ 20
  ex : ∃ n c hs, HpS o w g A n c hs ∧ Hp hs ∧ hs.Perm L
theorem Que.wr {w w' : World} {S : Nat → Prop} {g : Nat} {o : Int} {A : Option Addr} {L : List Tld} (h : Que w g o A L) (hw : Wr w w' S) (hd : ∀ k, Its g A k → ¬ S k) : Que w' g o A L := by
  obtain ⟨h1, hl, ho, n, c, hs, h2, h3, h4⟩ := h
  exact ⟨h1, hl, ho, n, c, hs, h2.wr hw (hd g (.inl rfl)) (fun b off e => hd b (.inr ⟨off, e⟩)), h3, h4⟩
theorem Que.below {w w' : World} {g : Nat} {o : Int} {A : Option Addr} {L : List Tld} (h : Que w g o A L) (hw : Below w.heap.size w w') : Que w' g o A L :=
  h.wr (Wr.of_below hw (fun _ => False)) (fun k _ h => h)
theorem Que.its {w : World} {g : Nat} {o : Int} {A : Option Addr} {L : List Tld} (h : Que w g o A L) : ∀ k, Its g A k → k < w.heap.size := by
  obtain ⟨h1, hl, ho, n, c, hs, h2, h3, h4⟩ := h
  rintro k (rfl | ⟨off, rfl⟩)
  · exact h2.lt
  · exact (h2.own.block k off rfl).2
theorem Que.ge {w : World} {g : Nat} {o : Int} {A : Option Addr} {L : List Tld} (h : Que w g o A L) : ∀ k, Its g A k → g ≤ k := by
  obtain ⟨h1, hl, ho, n, c, hs, h2, h3, h4⟩ := h
  rintro k (rfl | ⟨off, rfl⟩)
  · exact Nat.le_refl _
  · have := (h2.own.block k off rfl).1
    omega
theorem Que.lt' {w : World} {g : Nat} {o : Int} {A : Option Addr} {L : List Tld} (h : Que w g o A L) : g < w.heap.size := h.its g (.inl rfl)
theorem Que.wrBelow {w w' : World} {g : Nat} {o : Int} {A : Option Addr} {L : List Tld} (hc : Que w g o A L) (h : Wr w w' (Its g A)) {B : Nat} (hB : B ≤ g) : Below B w w' :=
  h.below (by have := hc.lt'; omega) (fun k hk => by have := hc.ge k hk; omega)
/-- The queue at g is turned to L; nothing else is. -/
def Turn (w w' : World) (g : Nat) (o : Int) (A : Option Addr) (L : List Tld) : Prop := ∃ A', Que w' g o A' L ∧ Fresh w A A' ∧ Wr w w' (Its g A)
theorem Fresh.refl (w : World) (A : Option Addr) : Fresh w A A := fun b off h => .inl h
theorem Fresh.trans {w w' : World} {A B C : Option Addr} (h : Fresh w A B) (k : Fresh w' B C) (hz : w.heap.size ≤ w'.heap.size) : Fresh w A C := fun b off e => by
  rcases k b off e with h1 | h1
  · exact h b off h1
  · exact .inr (by omega)
theorem Turn.of_below {w w' : World} {g : Nat} {o : Int} {A : Option Addr} {L : List Tld} (h : Que w g o A L) (hb : Below w.heap.size w w') : Turn w w' g o A L :=
  ⟨A, h.below hb, Fresh.refl _ _, Wr.of_below hb _⟩
theorem Turn.trans {w w1 w2 : World} {g : Nat} {o : Int} {A : Option Addr} {L M : List Tld} (h : Turn w w1 g o A L) (k : ∀ A', Que w1 g o A' L → Turn w1 w2 g o A' M) : Turn w w2 g o A M := by
  obtain ⟨A1, h1, h2, h3⟩ := h
  obtain ⟨A2, k1, k2, k3⟩ := k A1 h1
  exact ⟨A2, k1, h2.trans k2 h3.size, h3.then_ k3 (h2.its g)⟩
theorem Turn.below {w w' : World} {g : Nat} {o : Int} {A : Option Addr} {L M : List Tld} (h : Turn w w' g o A M) (hc : Que w g o A L) {B : Nat} (hB : B ≤ g) : Below B w w' := by
  obtain ⟨A', h1, h2, h3⟩ := h
  exact hc.wrBelow h3 hB
def ofn (a : Int) : Int := if a < 1 then 1 else if 20 < a then 20 else a
theorem ofn_b (a : Int) : 1 ≤ ofn a ∧ ofn a ≤ 20 := by unfold ofn; split <;> (try split) <;> omega
theorem made (w : World) (o : Int) (ho : 1 ≤ o ∧ o ≤ 20) : Que (w.alloc (.cells #[.int .i64 o, .slice none 0 0] 102)) w.heap.size o none [] :=
  ⟨St.nil, fun _ h => absurd h List.not_mem_nil, ho, 0, 0, [], HpS.mk (by rw [World.cell?_alloc_new]; rfl) (World.frozen?_alloc_new _ _ _ _) (OwnT.nil _ _) (by rw [World.cell?_alloc_new]; rfl), (fun k k0 kn => absurd kn (Nat.not_lt_zero _)), .refl _⟩
theorem new0 (w : World) (a : Int) (o : Int) (ho : Hid (o = ofn a)) : Calls Tryz.prog 27 #[.int .i64 a] w fun e w' => ∃ g, e = .returned (.pointer (some ⟨g, 0, none⟩)) ∧ Hid (Que w' g o none []) ∧ Hid (w.heap.size ≤ g) ∧ Below w.heap.size w w' := by
  have hal := (Below.refl w.heap.size w).alloc (Nat.le_refl _) (.cells #[.int .i64 o, .slice none 0 0] 102)
  by_cases h1 : a < 1
  · have e : o = 1 := by rw [ho.out]; unfold ofn; rw [if_pos h1]
    have h2 : ¬ 20 < a := by omega
    have h3 : ¬ (1 < a) := by omega
    subst e
    clear ho
    go_enter Tryz.func27, Tryz.ntmps27
    go_wp2_with fail
    go_ret
    exact ⟨w.heap.size, rfl, Hid.mk_ (made w 1 (by omega)), Hid.mk_ (Nat.le_refl _), hal⟩
  · by_cases h2 : 20 < a
    · have e : o = 20 := by rw [ho.out]; unfold ofn; rw [if_neg h1, if_pos h2]
      subst e
      clear ho
      go_enter Tryz.func27, Tryz.ntmps27
      go_wp2_with fail
      go_ret
      exact ⟨w.heap.size, rfl, Hid.mk_ (made w 20 (by omega)), Hid.mk_ (Nat.le_refl _), hal⟩
    · have e : a = o := by rw [ho.out]; unfold ofn; rw [if_neg h1, if_neg h2]
      subst e
      clear ho
      have HB := Hid.mk_ (And.intro h1 h2)
      by_cases h3 : 1 < a
      · go_enter Tryz.func27, Tryz.ntmps27
        go_wp2_with fail
        go_ret
        exact ⟨w.heap.size, rfl, Hid.mk_ (made w a (by omega)), Hid.mk_ (Nat.le_refl _), hal⟩
      · obtain rfl : a = 1 := by omega
        clear h1 h2 h3
        go_enter Tryz.func27, Tryz.ntmps27
        go_wp2_with fail
        go_ret
        exact ⟨w.heap.size, rfl, Hid.mk_ (made w 1 (by omega)), Hid.mk_ (Nat.le_refl _), hal⟩
theorem len_nil (w : World) : Calls Tryz.prog 90 #[.pointer none] w fun e w' => e = .returned (.int .i64 0) ∧ w' = w := by
  go_enter Tryz.func90, Tryz.ntmps90
  go_wp2_with fail
  go_ret
  exact ⟨rfl, rfl⟩
theorem len (w : World) (g : Nat) (o : Int) (A : Option Addr) (L : List Tld) (h : Hid (Que w g o A L)) (r : Int) (hr : Hid (r = L.length)) : Calls Tryz.prog 90 #[.pointer (some ⟨g, 0, none⟩)] w fun e w' => e = .returned (.int .i64 r) ∧ w' = w := by
  obtain ⟨n, c, hs, h1, h2, h3⟩ := h.out.ex
  have hc := h1.cell
  have e0 : r = (n : Int) := by rw [hr.out, h1.len, h3.length_eq]
  subst e0
  clear hr
  go_enter Tryz.func90, Tryz.ntmps90
  go_wp2_with fail
  go_ret
  exact ⟨rfl, rfl⟩
/-- Three numbers in a block of their own. -/
structure Box3 (w : World) (q : Nat) (x y z : Int) : Prop where
  c0 : w.cell? ⟨q, 0, none⟩ = some (.int .i64 x)
  c1 : w.cell? ⟨q, 1, none⟩ = some (.int .i64 y)
  c2 : w.cell? ⟨q, 2, none⟩ = some (.int .i64 z)
  f0 : w.frozen? ⟨q, 0, none⟩ = false
  f1 : w.frozen? ⟨q, 1, none⟩ = false
  f2 : w.frozen? ⟨q, 2, none⟩ = false
theorem Box3.made (w : World) (x y z : Int) : Box3 (w.alloc (.cells #[.int .i64 x, .int .i64 y, .int .i64 z] 30)) w.heap.size x y z := by
  refine ⟨?_, ?_, ?_, World.frozen?_alloc_new _ _ _ _, World.frozen?_alloc_new _ _ _ _, World.frozen?_alloc_new _ _ _ _⟩ <;> (rw [World.cell?_alloc_new]; rfl)
theorem Box3.keep {w w' : World} {q : Nat} {x y z : Int} (h : Box3 w q x y z) (hb : Below w.heap.size w w') : Box3 w' q x y z := by
  have hq := World.block_lt_of_cell? w _ h.c0
  have hf : ∀ o, w'.frozen? ⟨q, o, none⟩ = w.frozen? ⟨q, o, none⟩ := fun o => hb.frozen (p := ⟨q, o, none⟩) hq
  exact ⟨keep1 hb h.c0, keep1 hb h.c1, keep1 hb h.c2, (hf 0).trans h.f0, (hf 1).trans h.f1, (hf 2).trans h.f2⟩
theorem Box3.lt {w : World} {q : Nat} {x y z : Int} (h : Box3 w q x y z) : q < w.heap.size := World.block_lt_of_cell? w _ h.c0
theorem below_set {z : Nat} {w w1 : World} {q o : Nat} {v : Value} (h : Below z w w1) (hq : z ≤ q) : Below z w (w1.setCell ⟨q, o, none⟩ v) :=
  ⟨h.os, h.tape, h.output, by simp [World.setCell]; exact h.size, fun k hk => (Below.heap_setCell _ _ _ _ (by simp only; omega)).trans (h.block k hk)⟩
theorem Box3.set {w : World} {q : Nat} {x y z : Int} (h : Box3 w q x y z) (x' y' z' : Int) : Box3 (((w.setCell ⟨q, 0, none⟩ (.int .i64 x')).setCell ⟨q, 1, none⟩ (.int .i64 y')).setCell ⟨q, 2, none⟩ (.int .i64 z')) q x' y' z' := by
  have e0 := World.cell?_setCell_same w ⟨q, 0, none⟩ (.int .i64 x') h.c0
  have e1 := World.cell?_setCell_same (w.setCell ⟨q, 0, none⟩ (.int .i64 x')) ⟨q, 1, none⟩ (.int .i64 y') ((World.cell?_setCell_other _ _ _ _ (by simp)).trans h.c1)
  refine ⟨?_, ?_, ?_, ?_, ?_, ?_⟩
  · rw [World.cell?_setCell_other _ _ _ _ (by simp), World.cell?_setCell_other _ _ _ _ (by simp)]; exact e0
  · rw [World.cell?_setCell_other _ _ _ _ (by simp)]; exact e1
  · exact World.cell?_setCell_same _ ⟨q, 2, none⟩ _ (((World.cell?_setCell_other _ _ _ _ (by simp)).trans (World.cell?_setCell_other _ _ _ _ (by simp))).trans h.c2)
  · simp only [World.frozen?_setCell]; exact h.f0
  · simp only [World.frozen?_setCell]; exact h.f1
  · simp only [World.frozen?_setCell]; exact h.f2
theorem results_cell2 {fn : Func} {p u v : Tmp} {ty : TypeId} (h : fn.results = #[.cell p ty, .tmp u, .tmp v]) (tmps : Array Value) (P : Program) (w : World) :
    (results fn tmps).run P w =
      ((asAddr (tmps.getD p undef)).run P w).andThen fun a w₁ => ((loadVar ty a).run P w₁).andThen fun x w₂ => .ok (.tuple #[x, tmps.getD u undef, tmps.getD v undef]) w₂ := by
  simp only [results, h]
  simp [Sem.run_bind, Result.andThen]
def hasV : Option Tld → Value
  | some t => .tuple #[.agg #[.int .i64 t.node, .int .i64 t.inc, .int .i64 t.hl], .int .i64 t.n, .bool true]
  | none => .tuple #[.agg #[.int .i64 0, .int .i64 0, .int .i64 0], .int .i64 0, .bool false]
end Go.Proofs.YthndjhocmpelcaaGreat.Rum
namespace Go.Proofs.YthndjhocmpelcaaGreat.Rum
open Go.RowKit Kit Go.Shelf Hth Tri3
set_option linter.unusedVariables false
theorem Lt.ins {o : Int} {L : List Tld} (h : Lt o L) (ho : 1 ≤ o) (c : Cl) : Lt o (ins (tl c) L) := fun t ht => by
  rcases ins_mem.1 ht with rfl | ht
  · exact ⟨Int.le_refl 0, by show (0 : Int) < o; omega⟩
  · exact h t ht
theorem Lt.without {o : Int} {L : List Tld} (h : Lt o L) (id : Int) : Lt o (without id L) := fun t ht => h t (without_mem.1 ht).1
theorem put_nil (c : Cl) (w : World) : Calls Tryz.prog 63 #[.pointer none, .agg #[.int .i64 c.n, .int .i64 c.i, .int .i64 c.h]] w fun e w' => e = .returned (.bool false) ∧ Below w.heap.size w w' := by
  go_enter Tryz.func63, Tryz.ntmps63
  go_wp2_with fail
  go_ret
  exact ⟨rfl, (Below.refl _ w).alloc (Nat.le_refl _) _⟩
theorem put_bad (w : World) (a : Option Addr) (c : Cl) (hg : good c = false) : Calls Tryz.prog 63 #[.pointer a, .agg #[.int .i64 c.n, .int .i64 c.i, .int .i64 c.h]] w fun e w' => e = .returned (.bool false) ∧ Below w.heap.size w w' := by
  cases a with
  | none => exact put_nil c w
  | some a =>
  have bx := Hid.mk_ (Box3.made w c.n c.i c.h)
  have hal := Hid.mk_ ((Below.refl w.heap.size w).alloc (Nat.le_refl _) (.cells #[.int .i64 c.n, .int .i64 c.i, .int .i64 c.h] 30))
  cases hm : mayC c.n c.i c.h with
  | false =>
    have HM := Hid.mk_ hm.symm
    clear hm hg
    obtain ⟨x0, x1, x2, f0, f1, f2⟩ := bx.out
    go_enter Tryz.func63, Tryz.ntmps63
    go_upto_region 1 with fail
    generalize w.alloc (.cells #[.int .i64 c.n, .int .i64 c.i, .int .i64 c.h] 30) = w1 at *
    go_wp2_with (go_at_call 35; refine (may1 _ _ _ _ false HM).mono ?_; rintro e w2 ⟨rfl, b2⟩)
    go_ret
    exact ⟨rfl, hal.out.trans (b2.mono hal.out.size)⟩
  | true =>
    have h0 : (c.h == 0) = true := by unfold good at hg; rw [hm] at hg; simpa using hg
    have HM := Hid.mk_ hm.symm
    clear hm hg
    obtain ⟨x0, x1, x2, f0, f1, f2⟩ := bx.out
    go_enter Tryz.func63, Tryz.ntmps63
    go_upto_region 1 with fail
    generalize w.alloc (.cells #[.int .i64 c.n, .int .i64 c.i, .int .i64 c.h] 30) = w1 at *
    go_wp2_with (go_at_call 35; refine (may1 _ _ _ _ true HM).mono ?_; rintro e w2 ⟨rfl, b2⟩; have y2 := keep1 b2 x2)
    go_ret
    exact ⟨rfl, hal.out.trans (b2.mono hal.out.size)⟩
set_option maxRecDepth 100000 in
set_option maxHeartbeats 4000000 in
theorem put0 (w : World) (g : Nat) (o : Int) (A : Option Addr) (L : List Tld) (c : Cl) (h : Hid (Que w g o A L)) (q : Bool) (hq : Hid (q = putB c L)) (M : List Tld) (hM : Hid (M = putQ c L)) :
    Calls Tryz.prog 63 #[.pointer (some ⟨g, 0, none⟩), .agg #[.int .i64 c.n, .int .i64 c.i, .int .i64 c.h]] w fun e w' => e = .returned (.bool q) ∧ Hid (Turn w w' g o A M) := by
  cases hgd : good c with
  | false =>
    have e1 : putB c L = false := by unfold putB; rw [hgd]; rfl
    have eq : q = false := by rw [hq.out, e1]
    have eM : M = L := by rw [hM.out]; unfold putQ; rw [e1]; rfl
    subst eq eM
    refine (put_bad w _ c hgd).mono ?_
    rintro e w2 ⟨rfl, b2⟩
    exact ⟨rfl, Hid.mk_ (Turn.of_below h.out b2)⟩
  | true =>
  have bx := Hid.mk_ (Box3.made w c.n c.i c.h)
  have hal := Hid.mk_ ((Below.refl w.heap.size w).alloc (Nat.le_refl _) (.cells #[.int .i64 c.n, .int .i64 c.i, .int .i64 c.h] 30))
  have hmh : mayC c.n c.i c.h = true ∧ (c.h == 0) = false := by unfold good at hgd; simpa using hgd
  have HM := Hid.mk_ hmh.1.symm
  have h0 := hmh.2
  have hok := Hid.mk_ ((good_iff c).1 hgd)
  have hpos : q = match qof c.n L with | some t => decide (0 < cmpC c.i c.h t.inc t.hl) | none => true := by
    rw [hq.out, putB, hgd]; rfl
  have HP := Hid.mk_ hpos
  have HM2 : Hid (M = if q then ins (tl c) (without c.n L) else L) := Hid.mk_ (by rw [hM.out, putQ, ← hq.out])
  clear hq hM hgd hmh hpos
  obtain ⟨x0, x1, x2, f0, f1, f2⟩ := bx.out
  have hgz := Hid.mk_ (h.out.lt')
  have HI := Hid.mk_ h.out.its
  go_enter Tryz.func63, Tryz.ntmps63
  go_upto_region 1 with fail
  generalize w.alloc (.cells #[.int .i64 c.n, .int .i64 c.i, .int .i64 c.h] 30) = w1 at *
  obtain ⟨z, hz⟩ : ∃ z, z = w.heap.size := ⟨_, rfl⟩
  have HZ := Hid.mk_ hz
  rw [← hz] at bx x0 x1 x2 f0 f1 f2 ⊢
  clear hz
  go_upto_region 3 with (go_at_call 35; refine (may1 _ _ _ _ true HM).mono ?_; rintro e w2 ⟨rfl, b2⟩; have y2 := keep1 b2 x2)
  have B2 := Hid.mk_ (hal.out.trans (b2.mono hal.out.size))
  have bx2 := Hid.mk_ (bx.out.keep b2)
  have h2 := Hid.mk_ (h.out.below B2.out)
  clear x0 x1 x2 f0 f1 f2 b2 y2 bx hal
  obtain ⟨n, cc, hs, p1, p2, p3⟩ := h2.out.ex
  have hn : n ≤ 1000 := by have := h2.out.st.len; have := p1.len; have := p3.length_eq; omega
  have hcon := place c.n (Hid.mk_ p1) (by omega) _ (Hid.mk_ rfl)
  obtain ⟨x0, x1, x2, f0, f1, f2⟩ := bx2.out
  rcases plc_cases hs c.n with ⟨e, hne⟩ | ⟨i, e, hi, hid⟩
  · rw [e] at hcon
    have hne' : ∀ t ∈ L, t.node ≠ c.n := fun t ht => hne t (p3.mem_iff.2 ht)
    have eq : q = true := by rw [HP.out, qof_none hne']
    have eM : M = ins (tl c) L := by rw [HM2.out, eq, if_pos rfl, without_self hne']
    subst eq
    have P1 := Hid.mk_ p1
    have P2 := Hid.mk_ (push_state (tl c) p2 p3)
    have EM := Hid.mk_ eM
    have HNE := Hid.mk_ hne'
    have hn1 : n < 1000000 := by omega
    clear e p1 p2 p3 hne hne' eM HP HM2
    go_upto_region 8 with (go_at_call 87; refine hcon.mono ?_; rintro e w3 ⟨rfl, b3⟩)
    have bx3 := Hid.mk_ (bx2.out.keep b3)
    have P3 := Hid.mk_ (P1.out.below b3)
    have B3 := Hid.mk_ (B2.out.trans (b3.mono B2.out.size))
    clear x0 x1 x2 f0 f1 f2 bx2 P1 B2 b3 hcon
    obtain ⟨x0, x1, x2, f0, f1, f2⟩ := bx3.out
    have NQ : Hid (¬ Its g A z) := Hid.mk_ (fun hh => by have := HI.out z hh; have := HZ.out; omega)
    go_region_held3 (fun w' => w'.cell? ⟨z, 0, none⟩ = some (.int .i64 c.n) ∧ w'.cell? ⟨z, 1, none⟩ = some (.int .i64 c.i) ∧ w'.cell? ⟨z, 2, none⟩ = some (.int .i64 c.h)) (first | exact ⟨by assumption, by assumption, by assumption⟩ | go_keep) (first
      | (go_at_call 77; refine (push (o := o) (w := w3.drew) (n := n) (c := cc) (A := A) (hs := hs) (tl c) (by exact Hid.mk_ (P3.out.below (Below.refl _ _).drew)) hn1).mono ?_; rintro e w4 ⟨rfl, A4, n4, c4, h4, f4, r4⟩; have s0 := r4.out.cell (by exact x0) NQ.out; have s1 := r4.out.cell (by exact x1) NQ.out; have s2 := r4.out.cell (by exact x2) NQ.out)
      | fail)
    go_wp2_with fail
    go_ret
    have hd : Below w.heap.size w w3.drew := B3.out.drew
    refine ⟨rfl, Hid.mk_ ⟨A4, ⟨by rw [EM.out]; exact h.out.st.ins HNE.out hok.out, by rw [EM.out]; exact h.out.lt.ins h.out.ob.1 c, h.out.ob, n4, c4, _, h4.out, P2.out.1, by rw [EM.out]; exact P2.out.2⟩, fun b off e => ?_, (Wr.of_below hd _).then_ r4.out (fun i hi => .inl hi)⟩⟩
    rcases f4.out b off e with h5 | h5
    · exact .inl h5
    · exact .inr (Nat.le_trans hd.size h5)
  · rw [e] at hcon
    have hm : fn hs i ∈ L := p3.mem_iff.1 (by rw [fn_eq hi]; exact List.getElem_mem hi)
    obtain ⟨t, ht⟩ : ∃ t, t = fn hs i := ⟨_, rfl⟩
    rw [← ht] at hm hid
    have eqf : qof c.n L = some t := by rw [← hid]; exact h.out.st.find hm
    obtain ⟨r, hr⟩ : ∃ r, r = cmpC c.i c.h t.inc t.hl := ⟨_, rfl⟩
    have HR := Hid.mk_ hr
    have eq : q = decide (0 < r) := by rw [HP.out, eqf, hr]
    have i0 : (0 : Int) ≤ (i : Int) := by omega
    have i1 : (i : Int) < (n : Int) := by have := p1.len; omega
    obtain ⟨b, rfl, _, _⟩ := p1.own.some_ (by omega)
    obtain ⟨k, hk⟩ : ∃ k, n = k + 1 := ⟨n - 1, by have := p1.len; omega⟩
    have hlk : hs.length = k + 1 := p1.len.symm.trans hk
    have hik : i ≤ k := by omega
    have P1 := Hid.mk_ p1
    have HT := Hid.mk_ ht
    have HI' := Hid.mk_ hi
    have HK := Hid.mk_ hk
    have RS := Hid.mk_ (rem_state (k := k) (id := c.n) p2 p3 h.out.st hlk hik (by rw [← ht]; exact hid))
    have hkn : k < 1000000 := by omega
    have NQ : Hid (¬ Its g (some ⟨b, 0, none⟩) z) := Hid.mk_ (fun hh => by have := HI.out z hh; have := HZ.out; omega)
    clear e p1 p2 p3 HP eqf hr hid hm ht hi hk hlk
    go_upto_region 5 with (go_at_call 87; refine hcon.mono ?_; rintro e w3 ⟨rfl, b3⟩)
    have bx3 := Hid.mk_ (bx2.out.keep b3)
    have P3 := Hid.mk_ (P1.out.below b3)
    have B3 := Hid.mk_ (B2.out.trans (b3.mono B2.out.size))
    clear x0 x1 x2 f0 f1 f2 bx2 P1 B2 b3 hcon
    obtain ⟨x0, x1, x2, f0, f1, f2⟩ := bx3.out
    have k1 := P3.out.cell
    obtain ⟨⟨y0, y1, y2, y3⟩, _⟩ := P3.out.own.at_ i t (by rw [HT.out]; exact fn_get HI'.out)
    have lt1 := bx3.out.lt
    have lt2 := P3.out.lt
    have lt3 := (P3.out.own.block b 0 rfl).2
    refine wp_draws _ (Below.refl _ _) (by kernel_rfl) (by kernel_rfl) (fun hne hN => ?_)
    repeat (go_big_quiet_step (first | (go_at_call 59; with_reducible exact After.calls (compare1 c.n c.i c.h t.node t.inc t.hl _ r HR))))
    refine wpQuiet_nil (after_cells ?_)
    intro w4 b4 hc4
    have bx4 := Hid.mk_ (bx3.out.keep b4)
    have P4 := Hid.mk_ (P3.out.below b4)
    have B4 := Hid.mk_ (B3.out.trans (b4.mono B3.out.size))
    clear x0 x1 x2 f0 f1 f2 bx3 P3 B3 b4 hc4 k1 y0 y1 y2 y3 lt1 lt2 lt3 hne hN
    by_cases hr0 : 0 < r
    · have e1 : q = true := by rw [eq]; exact decide_eq_true hr0
      have EM : Hid (M = ins (tl c) (without c.n L)) := Hid.mk_ (by rw [HM2.out, e1, if_pos rfl])
      subst e1
      have hr1 : ¬ r ≤ 0 := by omega
      clear eq HM2
      go_upto_region 8 with (go_at_call 88; refine (remove P4 k i HK hik hkn).mono ?_; rintro e w5 ⟨rfl, h5, r5⟩)
      have bx5 : Hid (Box3 w5 z c.n c.i c.h) := Hid.mk_ (by
        obtain ⟨x0, x1, x2, f0, f1, f2⟩ := bx4.out
        have hlt := bx4.out.lt
        exact ⟨r5.out.cell x0 NQ.out, r5.out.cell x1 NQ.out, r5.out.cell x2 NQ.out, (r5.out.frozen hlt NQ.out).trans f0, (r5.out.frozen hlt NQ.out).trans f1, (r5.out.frozen hlt NQ.out).trans f2⟩)
      obtain ⟨x0, x1, x2, f0, f1, f2⟩ := bx5.out
      have PS := Hid.mk_ (push_state (tl c) RS.out.1 RS.out.2)
      go_region_held3 (fun w' => w'.cell? ⟨z, 0, none⟩ = some (.int .i64 c.n) ∧ w'.cell? ⟨z, 1, none⟩ = some (.int .i64 c.i) ∧ w'.cell? ⟨z, 2, none⟩ = some (.int .i64 c.h)) (first | exact ⟨by assumption, by assumption, by assumption⟩ | go_keep) (first
        | (go_at_call 77; refine (push (o := o) (w := w5.drew) (n := k) (c := cc) (A := some ⟨b, 0, none⟩) (tl c) (by exact Hid.mk_ (h5.out.below (Below.refl _ _).drew)) hkn).mono ?_; rintro e w6 ⟨rfl, A6, n6, c6, h6, f6, r6⟩; have s0 := r6.out.cell (by exact x0) NQ.out; have s1 := r6.out.cell (by exact x1) NQ.out; have s2 := r6.out.cell (by exact x2) NQ.out)
        | fail)
      go_wp2_with fail
      go_ret
      have hd : Below w5.heap.size w5 w5.drew := (Below.refl _ _).drew
      have W5 := (Wr.of_below B4.out (Its g (some ⟨b, 0, none⟩))).then_ r5.out (fun i hi => .inl hi)
      have W6 := (W5.then_ (Wr.of_below hd (Its g (some ⟨b, 0, none⟩))) (fun i hi => .inl hi)).then_ r6.out (fun i hi => .inl hi)
      refine ⟨rfl, Hid.mk_ ⟨A6, ⟨by rw [EM.out]; exact (h.out.st.without c.n).ins (fun x hx => (without_mem.1 hx).2) hok.out, by rw [EM.out]; exact (h.out.lt.without c.n).ins h.out.ob.1 c, h.out.ob, n6, c6, _, h6.out, PS.out.1, by rw [EM.out]; exact PS.out.2⟩, fun b' off e => ?_, W6⟩⟩
      rcases f6.out b' off e with h7 | h7
      · exact .inl h7
      · exact .inr (Nat.le_trans W5.size h7)
    · have e1 : q = false := by rw [eq]; exact decide_eq_false hr0
      have EM : Hid (M = L) := Hid.mk_ (by rw [HM2.out, e1]; rfl)
      subst e1
      have hr1 : r ≤ 0 := by omega
      clear eq HM2
      go_wp2_with fail
      go_ret
      exact ⟨rfl, Hid.mk_ (by rw [EM.out]; exact Turn.of_below h.out B4.out)⟩
end Go.Proofs.YthndjhocmpelcaaGreat.Rum
namespace Go.Proofs.YthndjhocmpelcaaGreat.Rum
open Go.RowKit Kit Go.Shelf Hth Tri3
set_option linter.unusedVariables false
def cellsC (cs : List Cl) : List Value := cs.flatMap fun c => [.int .i64 c.n, .int .i64 c.i, .int .i64 c.h]
theorem cellsC_len : ∀ cs : List Cl, (cellsC cs).length = cs.length * 3
  | [] => rfl
  | m :: l => by rw [cellsC, List.flatMap_cons, List.length_append, ← cellsC, cellsC_len l]; simp; omega
theorem cellsC_get : ∀ (cs : List Cl) (j : Nat) (c : Cl), cs[j]? = some c → (cellsC cs)[j * 3]? = some (.int .i64 c.n) ∧ (cellsC cs)[j * 3 + 1]? = some (.int .i64 c.i) ∧ (cellsC cs)[j * 3 + 2]? = some (.int .i64 c.h)
  | a :: l, 0, m, h => by
    obtain rfl : a = m := by simpa using h
    exact ⟨rfl, rfl, rfl⟩
  | a :: l, j + 1, m, h => by
    have := cellsC_get l j m (by simpa using h)
    rw [show (j + 1) * 3 = j * 3 + 3 by omega]
    exact this
theorem cellsC_append (xs ys : List Cl) : cellsC (xs ++ ys) = cellsC xs ++ cellsC ys := by simp [cellsC]
theorem cellsC_one (cs : List Cl) : ∀ u ∈ cellsC cs, u.oneCell' = true := by
  intro u hu
  obtain ⟨m, _, h⟩ := List.mem_flatMap.1 hu
  simp only [List.mem_cons, List.not_mem_nil, or_false] at h
  rcases h with rfl | rfl | rfl <;> rfl
/-- v is a row of one's own of the claims cs. -/
def OwnC (w : World) (base : Nat) (v : Value) (n : Nat) (cs : List Cl) : Prop := n = cs.length ∧ w.ownsRow base 30 3 v n (cellsC cs)
def OwnD (w : World) (base : Nat) (v : Value) (n : Nat) (ts : List Tld) : Prop := n = ts.length ∧ w.ownsRow base 137 4 v n (cellsT ts)
theorem OwnC.row {w : World} {base : Nat} {A : Option Addr} {n c : Nat} {cs : List Cl} (h : OwnC w base (.slice A n c) n cs) : ClAt w A cs := by
  obtain ⟨hn, h⟩ := h
  subst hn
  have h0 := h
  intro j m hj
  have hlt := (List.getElem?_eq_some_iff.1 hj).1
  obtain ⟨c0, c1, c2⟩ := cellsC_get cs j m hj
  obtain ⟨A', c', e, h1, h2, h3 | ⟨b, h3, h4, h5⟩⟩ := Rowz.form h
  · omega
  · injection e with e1 e2 e3
    subst e1
    subst h3
    refine ⟨b, 0, rfl, h5, ?_, ?_, ?_⟩
    · rw [Nat.zero_add, World.ownsRow.cellAt h0 (j * 3) (by omega), c0]
    · rw [Nat.zero_add, World.ownsRow.cellAt h0 (j * 3 + 1) (by omega), c1]
    · rw [Nat.zero_add, World.ownsRow.cellAt h0 (j * 3 + 2) (by omega), c2]
theorem OwnD.row {w : World} {base : Nat} {A : Option Addr} {n c : Nat} {ts : List Tld} (h : OwnD w base (.slice A n c) n ts) (j : Nat) (t : Tld) (hj : ts[j]? = some t) : ∃ b, A = some ⟨b, 0, none⟩ ∧ base ≤ b ∧ b < w.heap.size ∧
    w.cell? ⟨b, j * 4, none⟩ = some (.int .i64 t.node) ∧ w.cell? ⟨b, j * 4 + 1, none⟩ = some (.int .i64 t.inc) ∧ w.cell? ⟨b, j * 4 + 2, none⟩ = some (.int .i64 t.hl) ∧ w.cell? ⟨b, j * 4 + 3, none⟩ = some (.int .i64 t.n) := by
  obtain ⟨hn, h⟩ := h
  subst hn
  have h0 := h
  have hlt := (List.getElem?_eq_some_iff.1 hj).1
  obtain ⟨c0, c1, c2, c3⟩ := cells_get ts j t hj
  obtain ⟨A', c', e, h1, h2, h3 | ⟨b, h3, h4, h5⟩⟩ := Rowz.form h
  · omega
  · injection e with e1 e2 e3
    subst e1
    subst h3
    refine ⟨b, rfl, h4, h5, ?_, ?_, ?_, ?_⟩
    · rw [World.ownsRow.cellAt h0 (j * 4) (by omega), c0]
    · rw [World.ownsRow.cellAt h0 (j * 4 + 1) (by omega), c1]
    · rw [World.ownsRow.cellAt h0 (j * 4 + 2) (by omega), c2]
    · rw [World.ownsRow.cellAt h0 (j * 4 + 3) (by omega), c3]
theorem info53 : (Tryz.prog.info? 30).map (fun i => (i.zero, i.size, i.bytes)) = some (some (.agg #[.int .i64 0, .int .i64 0, .int .i64 0]), 3, 24) := by kernel_rfl
theorem OwnC.keepW {w w' : World} {base : Nat} {v : Value} {n : Nat} {cs : List Cl} {S : Nat → Prop} (h : OwnC w base v n cs) (hw : Wr w w' S) (hS : ∀ k, S k → k < base) : OwnC w' base v n cs :=
  ⟨h.1, Rowz.keep h.2 fun k hk hlt => hw.block k hlt (fun hs => by have := hS k hs; have := (Rowz.blk h.2 k hk).1; omega)⟩
theorem OwnD.keepW {w w' : World} {base : Nat} {v : Value} {n : Nat} {cs : List Tld} {S : Nat → Prop} (h : OwnD w base v n cs) (hw : Wr w w' S) (hS : ∀ k, S k → k < base) : OwnD w' base v n cs :=
  ⟨h.1, Rowz.keep h.2 fun k hk hlt => hw.block k hlt (fun hs => by have := hS k hs; have := (Rowz.blk h.2 k hk).1; omega)⟩
theorem OwnC.below {w w' : World} {base : Nat} {v : Value} {n : Nat} {cs : List Cl} (h : OwnC w base v n cs) (hb : Below w.heap.size w w') : OwnC w' base v n cs := ⟨h.1, Rowz.below h.2 hb⟩
theorem OwnD.below {w w' : World} {base : Nat} {v : Value} {n : Nat} {cs : List Tld} (h : OwnD w base v n cs) (hb : Below w.heap.size w w') : OwnD w' base v n cs := ⟨h.1, Rowz.below h.2 hb⟩
theorem take_nil (n : Int) (w : World) : Calls Tryz.prog 67 #[.pointer none, .int .i64 n] w fun e w' => e = .returned (.slice none 0 0) ∧ w' = w := by
  go_enter Tryz.func67, Tryz.ntmps67
  go_wp2
  go_loopg [5, 6] 0 (fun gg s5 s6 wr => s5 = .slice none 0 0 ∧ s6 = .slice none 0 0 ∧ wr = w)
  case atStart => exact ⟨rfl, rfl, rfl⟩
  case round =>
    obtain ⟨rfl, rfl, rfl⟩ := hrel
    go_wp2_with (go_at_call 90; refine (len_nil _).mono ?_; rintro e w2 ⟨rfl, rfl⟩)
    go_loopg [51] 0 (fun gg s51 wr => s51 = .int .i64 0 ∧ wr = w2)
    case atStart => exact ⟨rfl, rfl⟩
    case round =>
      obtain ⟨rfl, rfl⟩ := hrel
      go_wp2_with fail
      go_ret
      exact ⟨rfl, rfl⟩
theorem take_snoc' {l : List Tld} {k : Nat} {c : Tld} (h : l[k]? = some c) : l.take (k + 1) = l.take k ++ [c] := by
  rw [List.take_add_one, h]; rfl
theorem told_snoc {L : List Tld} {j : Nat} {t : Tld} (h : L[j]? = some t) : toldQ (j + 1) L = toldQ j L ++ [clm t] := by
  unfold toldQ
  rw [take_snoc' h, List.map_append]
  rfl
theorem again_snoc {L : List Tld} {j : Nat} {t : Tld} (o : Int) (h : L[j]? = some t) : again o (L.take (j + 1)) = again o (L.take j) ++ if t.n + 1 < o then [inc1 t] else [] := by
  unfold again
  rw [take_snoc' h, List.filter_append, List.map_append]
  by_cases e : t.n + 1 < o
  · rw [if_pos e, List.filter_cons_of_pos (by simpa using e)]; rfl
  · rw [if_neg e, List.filter_cons_of_neg (by simpa using e)]; rfl
theorem told_len (j : Nat) (L : List Tld) (h : j ≤ L.length) : (toldQ j L).length = j := by unfold toldQ; simp; omega
theorem again_len (o : Int) (l : List Tld) : (again o l).length ≤ l.length := by unfold again; rw [List.length_map]; exact List.length_filter_le _ _
theorem took_part {L : List Tld} (h : St L) {o : Int} (hl : Lt o L) (k i : Nat) : St (putAll ((again o (L.take k)).take i) (L.drop k)) ∧ Lt o (putAll ((again o (L.take k)).take i) (L.drop k)) := by
  refine ⟨St.putAll _ (h.drop k) ?_ (fun t ht => ?_), fun t ht => ?_⟩
  · have h1 := h.nodup
    rw [← List.take_append_drop k L, List.map_append] at h1
    rw [List.map_append]
    exact h1.sublist (List.Sublist.append ((List.Sublist.map _ (List.take_sublist _ _)).trans (again_node o _)) (List.Sublist.refl _))
  · obtain ⟨s, hs, _, rfl⟩ := again_mem.1 (List.mem_of_mem_take ht)
    exact h.ok s (List.mem_of_mem_take hs)
  · rcases putAll_mem.1 ht with h1 | h1
    · obtain ⟨s, hs, h2, rfl⟩ := again_mem.1 (List.mem_of_mem_take h1)
      have := hl s (List.mem_of_mem_take hs)
      exact ⟨by show 0 ≤ s.n + 1; omega, h2⟩
    · exact hl t (List.mem_of_mem_drop h1)
theorem putAll_snoc {G : List Tld} {i : Nat} {t : Tld} (M : List Tld) (h : G[i]? = some t) : putAll (G.take (i + 1)) M = ins t (putAll (G.take i) M) := by
  rw [take_snoc' h]
  unfold putAll
  rw [List.foldl_append]
  rfl
/-- One told, lying by itself. -/
structure Box4 (w : World) (q : Nat) (t : Tld) : Prop where
  c0 : w.cell? ⟨q, 0, none⟩ = some (.int .i64 t.node)
  c1 : w.cell? ⟨q, 1, none⟩ = some (.int .i64 t.inc)
  c2 : w.cell? ⟨q, 2, none⟩ = some (.int .i64 t.hl)
  c3 : w.cell? ⟨q, 3, none⟩ = some (.int .i64 t.n)
  f3 : w.frozen? ⟨q, 3, none⟩ = false
theorem Box4.made (w : World) (t : Tld) : Box4 (w.alloc (.cells #[.int .i64 t.node, .int .i64 t.inc, .int .i64 t.hl, .int .i64 t.n] 137)) w.heap.size t := by
  refine ⟨?_, ?_, ?_, ?_, World.frozen?_alloc_new _ _ _ _⟩ <;> (rw [World.cell?_alloc_new]; rfl)
theorem Box4.lt {w : World} {q : Nat} {t : Tld} (h : Box4 w q t) : q < w.heap.size := World.block_lt_of_cell? w _ h.c0
theorem Box4.keep {w w' : World} {q : Nat} {t : Tld} (h : Box4 w q t) (hb : w'.heap[q]? = w.heap[q]?) : Box4 w' q t := by
  have hc : ∀ o, w'.cell? ⟨q, o, none⟩ = w.cell? ⟨q, o, none⟩ := fun o => by simp [World.cell?, hb]
  exact ⟨(hc 0).trans h.c0, (hc 1).trans h.c1, (hc 2).trans h.c2, (hc 3).trans h.c3, by rw [← h.f3]; simp [World.frozen?, hb]⟩
theorem Box4.inc {w : World} {q : Nat} {t : Tld} (h : Box4 w q t) : Box4 (w.setCell ⟨q, 3, none⟩ (.int .i64 (t.n + 1))) q (inc1 t) := by
  refine ⟨?_, ?_, ?_, ?_, ?_⟩
  · exact (World.cell?_setCell_other _ _ _ _ (by simp)).trans h.c0
  · exact (World.cell?_setCell_other _ _ _ _ (by simp)).trans h.c1
  · exact (World.cell?_setCell_other _ _ _ _ (by simp)).trans h.c2
  · exact World.cell?_setCell_same _ ⟨q, 3, none⟩ _ h.c3
  · rw [World.frozen?_setCell]; exact h.f3
theorem Wr.ofB {w w' : World} {B : Nat} (h : Below B w w') : Wr w w' (fun k => B ≤ k) := ⟨h.os, h.tape, h.output, h.size, fun k hk hn => h.block k (by omega)⟩
theorem Wr.of_base {w w' : World} {B : Nat} (h : Below B w w') (S : Nat → Prop) {w0 : World} (k : Wr w0 w S) (hB : w0.heap.size ≤ B) : Wr w0 w' S :=
  ⟨h.os.trans k.os, h.tape.trans k.tape, h.output.trans k.output, Nat.le_trans k.size h.size, fun i hi hn => (h.block i (by omega)).trans (k.block i hi hn)⟩
theorem claimAt (w : World) (t : Tld) : ∀ j u, (cellsC [clm t])[j]? = some u → (w.alloc (.cells #[.int .i64 t.node, .int .i64 t.inc, .int .i64 t.hl] 30)).cell? ((⟨w.heap.size, 0, none⟩ : Addr).add j) = some u := by
  intro j u hu
  rw [Addr.add_lit, Nat.zero_add, World.cell?_alloc_new]
  have : j = 0 ∨ j = 1 ∨ j = 2 ∨ 3 ≤ j := by omega
  rcases this with rfl | rfl | rfl | h
  · exact hu
  · exact hu
  · exact hu
  · rw [List.getElem?_eq_none (by rw [cellsC_len]; simp; omega)] at hu; cases hu
theorem toldAt (w : World) (t : Tld) : ∀ j u, (cellsT [t])[j]? = some u → (w.alloc (.cells #[.int .i64 t.node, .int .i64 t.inc, .int .i64 t.hl, .int .i64 t.n] 137)).cell? ((⟨w.heap.size, 0, none⟩ : Addr).add j) = some u := by
  intro j u hu
  rw [Addr.add_lit, Nat.zero_add, World.cell?_alloc_new]
  have : j = 0 ∨ j = 1 ∨ j = 2 ∨ j = 3 ∨ 4 ≤ j := by omega
  rcases this with rfl | rfl | rfl | rfl | h
  · exact hu
  · exact hu
  · exact hu
  · exact hu
  · rw [List.getElem?_eq_none (by rw [cells_len]; simp; omega)] at hu; cases hu
/-- What the first loop holds. -/
structure Mid (w wr : World) (g : Nat) (o : Int) (A : Option Addr) (L : List Tld) (j : Nat) (vo : Value) (no : Nat) (va : Value) (na : Nat) : Prop where
  out : OwnC wr w.heap.size vo no (toldQ j L)
  ag : OwnD wr w.heap.size va na (again o (L.take j))
  sep : ∀ k, vo.ownBlock = some k → va.ownBlock ≠ some k
  q : Que wr g o A (L.drop j)
  w_ : Wr w wr (Its g A)
theorem Mid.keep {w wr wr' : World} {g : Nat} {o : Int} {A : Option Addr} {L : List Tld} {j no na : Nat} {vo va : Value} (h : Mid w wr g o A L j vo no va na) (hb : Below wr.heap.size wr wr') : Mid w wr' g o A L j vo no va na :=
  ⟨h.out.below hb, h.ag.below hb, h.sep, h.q.below hb, h.w_.then_ (Wr.of_below hb (fun _ => False)) (fun _ h => h.elim)⟩
set_option maxRecDepth 100000 in
set_option maxHeartbeats 8000000 in
theorem take0 (w : World) (g : Nat) (o : Int) (A : Option Addr) (L : List Tld) (n : Int) (h : Hid (Que w g o A L)) (m : Nat) (hm : Hid (m = many n L.length)) :
    Calls Tryz.prog 67 #[.pointer (some ⟨g, 0, none⟩), .int .i64 n] w fun e w' => ∃ B nb cb, e = .returned (.slice B nb cb) ∧ Hid (OwnC w' w.heap.size (.slice B nb cb) nb (toldQ m L)) ∧ Hid (nb = m) ∧ Hid (Turn w w' g o A (tookQ o m L)) := by
  have hits := Hid.mk_ h.out.its
  have hta := ta
  go_enter Tryz.func67, Tryz.ntmps67
  go_upto_block 0 with fail
  go_cut [5, 6, 7, 8] from 11 to 48 (fun s5 s6 s7 s8 wx => ∃ (B : Option Addr) (nb cb : Nat) (D : Option Addr) (nd cd : Nat), s5 = .slice B nb cb ∧ s6 = .slice D nd cd ∧ Hid (Mid w wx g o A L m (.slice B nb cb) nb (.slice D nd cd) nd))
  case first =>
    go_wp2_with fail
    go_loopg [5, 6] L.length (fun gg s5 s6 wr => ∃ (j : Nat) (B : Option Addr) (nb cb : Nat) (D : Option Addr) (nd cd : Nat), s5 = .slice B nb cb ∧ s6 = .slice D nd cd ∧ L.length - j ≤ gg ∧ Hid (j ≤ m) ∧ Hid (Mid w wr g o A L j (.slice B nb cb) nb (.slice D nd cd) nd))
    case atStart => exact ⟨0, none, 0, 0, none, 0, 0, rfl, rfl, by omega, Hid.mk_ (Nat.zero_le _), Hid.mk_ ⟨⟨rfl, Rowz.nil _ _ _ _⟩, ⟨rfl, Rowz.nil _ _ _ _⟩, (fun k hk => by cases hk), h.out, Wr.of_below (Below.refl _ _) _⟩⟩
    case round =>
      obtain ⟨j, B, nb, cb, D, nd, cd, rfl, rfl, hg, hjm, MI⟩ := hrel
      have hml : Hid (m ≤ L.length) := Hid.mk_ (by rw [hm.out]; unfold many; omega)
      have hnb : Hid (nb = j) := Hid.mk_ (by rw [MI.out.out.1, told_len]; have := hjm.out; have := hml.out; omega)
      by_cases hjl : j < L.length
      · obtain ⟨t, ht⟩ : ∃ t, L[j]? = some t := ⟨_, List.getElem?_eq_getElem hjl⟩
        have hdr : L.drop j = t :: L.drop (j + 1) := by
          rw [List.getElem?_eq_getElem hjl] at ht
          injection ht with ht
          rw [← ht, List.drop_eq_getElem_cons hjl]
        obtain ⟨r, hr⟩ : ∃ r : Int, r = ((L.drop j).length : Int) := ⟨_, rfl⟩
        have r0 : (0 : Int) < r := by rw [hr, List.length_drop]; omega
        have HR := Hid.mk_ hr
        clear hr
        by_cases hnn : (nb : Int) < n
        · obtain ⟨n1, c1, hs, p1, p2, p3⟩ := MI.out.q.ex
          have hst := MI.out.q.st
          have hlt := MI.out.q.lt
          have hob := Hid.mk_ MI.out.q.ob
          have hdl : (L.drop j).length ≤ 8 := hst.len
          rw [hdr] at p3 hst hlt
          obtain ⟨k, hk⟩ : ∃ k, n1 = k + 1 := ⟨n1 - 1, by have := p1.len; have := p3.length_eq; simp at this; omega⟩
          obtain ⟨s1, s2, s3⟩ := pop_state p2 p3 hst.ord (k := k) (p1.len.symm.trans hk)
          have hkn : k < 1000000 := by have h1 := p1.len; have h2 := p3.length_eq; rw [← hdr] at h2; omega
          have hcon := pop (Hid.mk_ p1) k (Hid.mk_ hk) hkn
          rw [s1] at hcon
          unfold boxT at hcon
          have PS := Hid.mk_ (And.intro s2 s3)
          have ST := Hid.mk_ hst
          have LT := Hid.mk_ hlt
          have HDR := Hid.mk_ hdr
          have HTJ := Hid.mk_ ht
          have HL8 : Hid (L.length ≤ 8) := Hid.mk_ h.out.st.len
          have hJ : j < L.length := hjl
          clear s1 s2 s3 p1 p2 p3 hst hlt hk hdr ht hdl hjl
          go_upto_region 5 with (first | (go_at_call 90; refine (len _ g o A _ (Hid.mk_ MI.out.q) r HR).mono ?_; rintro e w2 ⟨rfl, rfl⟩) | (go_at_call 71; refine hcon.mono ?_; rintro e w3 ⟨rfl, h3, r3⟩))
          have o3 := MI.out.out.keepW r3.out hits.out
          have a3 := MI.out.ag.keepW r3.out hits.out
          have k3 := MI.out.w_.then_ r3.out (fun i hi => .inl hi)
          have Q3 : Que w3 g o A (L.drop (j + 1)) := ⟨ST.out.tail, fun x hx => LT.out x (List.mem_cons_of_mem _ hx), hob.out, k, c1, _, h3.out, PS.out.1, PS.out.2⟩
          have NO : Hid (∀ k, (Value.slice B nb cb).ownBlock = some k → k < w3.heap.size) := Hid.mk_ (fun k hk => (Rowz.blk o3.2 k hk).2)
          have NA : Hid (∀ k, (Value.slice D nd cd).ownBlock = some k → k < w3.heap.size) := Hid.mk_ (fun k hk => (Rowz.blk a3.2 k hk).2)
          have al := (Below.refl w3.heap.size w3).alloc (Nat.le_refl _) (.cells #[.int .i64 t.node, .int .i64 t.inc, .int .i64 t.hl, .int .i64 t.n] 137)
          have BX := Hid.mk_ (Box4.made w3 t)
          have O4 := Hid.mk_ (o3.below al)
          have A4 := Hid.mk_ (a3.below al)
          have Q4 := Hid.mk_ (Q3.below al)
          have K4 := Hid.mk_ (k3.then_ (Wr.of_below al (fun _ => False)) (fun _ h => h.elim))
          have SEP := Hid.mk_ MI.out.sep
          have ZB : Hid (w.heap.size ≤ w3.heap.size) := Hid.mk_ k3.size
          clear o3 a3 k3 Q3 al h3 r3 hcon MI
          obtain ⟨q, hq⟩ : ∃ q, q = w3.heap.size := ⟨_, rfl⟩
          rw [← hq] at NO NA BX ZB ⊢
          clear hq
          generalize w3.alloc (.cells #[.int .i64 t.node, .int .i64 t.inc, .int .i64 t.hl, .int .i64 t.n] 137) = wq at *
          clear w3
          obtain ⟨x0, x1, x2, x3, f3⟩ := BX.out
          obtain ⟨i0, hi0, hz0, hz1, hz2⟩ := Rowz.info_parts info53
          obtain ⟨i1, hi1, gz0, gz1, gz2⟩ := Rowz.info_parts info93
          go_upto_region 6 with (at_builtin; refine Rowz.wpList_app1 _ rfl _ _ 44 30 rfl i0 (.agg #[.int .i64 0, .int .i64 0, .int .i64 0]) 3 24 Tryz.underlying44 hi0 hz0 hz1 hz2 rfl (by decide) w.heap.size (.slice B nb cb) nb (cellsC (toldQ j L)) rfl (Rowz.below O4.out.2 ((Below.refl _ _).alloc (Nat.le_refl _) _)) _ _ (cellsC [clm t]) rfl rfl (claimAt _ t) (cellsC_one _) (by have := hnb.out; have := HL8.out; omega) (by decide) (by have := ZB.out; have := BX.out.lt; simp; omega) ?_; intro v5 w5 g5)
          have alq := (Below.refl wq.heap.size wq).alloc (Nat.le_refl _) (.cells #[.int .i64 t.node, .int .i64 t.inc, .int .i64 t.hl] 30)
          have ZQ : Hid (w.heap.size ≤ (wq.alloc (.cells #[.int .i64 t.node, .int .i64 t.inc, .int .i64 t.hl] 30)).heap.size ∧ q < (wq.alloc (.cells #[.int .i64 t.node, .int .i64 t.inc, .int .i64 t.hl] 30)).heap.size) := Hid.mk_ (by have := ZB.out; have := BX.out.lt; simp; omega)
          have OA := O4.out.below alq
          have AA := A4.out.below alq
          have d5 := g5.out.below OA.2 ZQ.out.1
          have A5 : Hid (OwnD w5 w.heap.size (.slice D nd cd) nd (again o (L.take j))) := Hid.mk_ ⟨AA.1, g5.out.other AA.2 SEP.out⟩
          have S5 := Hid.mk_ (g5.out.apart AA.2 SEP.out)
          have O5 : Hid (OwnC w5 w.heap.size v5 (nb + 1) (toldQ (j + 1) L)) := Hid.mk_ ⟨by rw [told_len _ _ hJ, hnb.out], by rw [told_snoc HTJ.out, cellsC_append]; exact g5.out.own⟩
          have Q5 := Hid.mk_ ((Q4.out.below alq).wr (Wr.ofB d5) (fun k hk hn => by have := hits.out k hk; omega))
          have K5 := Hid.mk_ (Wr.of_base d5 _ (K4.out.then_ (Wr.of_below alq (fun _ => False)) (fun _ h => h.elim)) (Nat.le_refl _))
          have B5 : Hid (Box4 w5 q t) := Hid.mk_ ((BX.out.keep (alq.block q BX.out.lt)).keep (g5.out.gb.block q ZQ.out.2 (fun e => Nat.lt_irrefl _ (NO.out q e.symm))))
          have NV : Hid (∀ k, v5.ownBlock = some k → k ≠ q) := Hid.mk_ (fun k hk e => by
            subst e
            rcases g5.out.at_ with h1 | h1
            · rw [h1] at hk; exact Nat.lt_irrefl _ (NO.out k hk)
            · have := h1 k hk; have := ZQ.out.2; omega)
          obtain ⟨P5, c5, rfl, _, _, _⟩ := Rowz.form g5.out.own
          clear OA AA d5 alq ZQ O4 A4 Q4 K4 BX SEP NO g5 x0 x1 x2 x3 f3
          obtain ⟨x0, x1, x2, x3, f3⟩ := B5.out
          have tb := LT.out t (by simp)
          have ob := hob.out
          go_upto_region 7 with fail
          have ws := Wr.set w5 q 3 (.int .i64 (t.n + 1))
          have B6 := Hid.mk_ B5.out.inc
          have O6 : Hid (OwnC (w5.setCell ⟨q, 3, none⟩ (.int .i64 (t.n + 1))) w.heap.size (.slice P5 (nb + 1) c5) (nb + 1) (toldQ (j + 1) L)) := Hid.mk_ ⟨O5.out.1, Rowz.keep O5.out.2 fun k hk hlt => ws.block k hlt (NV.out k hk)⟩
          have A6 : Hid (OwnD (w5.setCell ⟨q, 3, none⟩ (.int .i64 (t.n + 1))) w.heap.size (.slice D nd cd) nd (again o (L.take j))) := Hid.mk_ ⟨A5.out.1, Rowz.keep A5.out.2 fun k hk hlt => ws.block k hlt (fun e => by have := NA.out k hk; omega)⟩
          have Q6 := Hid.mk_ (Q5.out.wr ws (fun k hk e => by have := hits.out k hk; have := ZB.out; omega))
          have K6 := Hid.mk_ (K5.out.then_ ws (fun i hi => .inr (by rw [hi]; exact ZB.out)))
          clear ws O5 A5 Q5 K5 B5 x0 x1 x2 x3 f3
          generalize w5.setCell ⟨q, 3, none⟩ (.int .i64 (t.n + 1)) = w6 at *
          obtain ⟨x0, x1, x2, x3, f3⟩ := B6.out
          simp only [inc1] at x0 x1 x2 x3
          obtain ⟨n6, c6, hs6, p6, _, _⟩ := Q6.out.ex
          have xo := p6.oft
          clear p6
          have hjm1 : Hid (j + 1 ≤ m) := Hid.mk_ (by have h1 := hm.out; have := hnb.out; unfold many at h1; omega)
          by_cases hlo : t.n + 1 < o
          · have hag : again o (L.take (j + 1)) = again o (L.take j) ++ [inc1 t] := by rw [again_snoc o HTJ.out, if_pos hlo]
            have HAG := Hid.mk_ hag
            clear hag
            go_region
            have B7 : Box4 w6.drew q (inc1 t) := ⟨B6.out.c0, B6.out.c1, B6.out.c2, B6.out.c3, B6.out.f3⟩
            have dr : Below w6.heap.size w6 w6.drew := (Below.refl _ _).drew
            have O7 := Hid.mk_ (O6.out.below dr)
            have A7 := Hid.mk_ (A6.out.below dr)
            have Q7 := Hid.mk_ (Q6.out.below dr)
            have K7 := Hid.mk_ (K6.out.then_ (Wr.of_below dr (fun _ => False)) (fun _ h => h.elim))
            clear O6 A6 Q6 K6 dr x0 x1 x2 x3 f3 B6 xo
            generalize w6.drew = w7 at *
            have BX7 := Hid.mk_ B7
            clear B7
            obtain ⟨x0, x1, x2, x3, f3⟩ := BX7.out
            simp only [inc1] at x0 x1 x2 x3
            have nda : nd ≤ 100 := by have h1 := A7.out.1; have h2 := again_len o (L.take j); have h3 := HL8.out; simp at h2; omega
            go_wp2_with (at_builtin; refine Rowz.wpList_app1 _ rfl _ _ 99 137 rfl i1 (.agg #[.int .i64 0, .int .i64 0, .int .i64 0, .int .i64 0]) 4 32 Tryz.underlying99 hi1 gz0 gz1 gz2 rfl (by decide) w.heap.size (.slice D nd cd) nd (cellsT (again o (L.take j))) rfl (Rowz.below A7.out.2 ((Below.refl _ _).alloc (Nat.le_refl _) _)) _ _ (cellsT [inc1 t]) rfl rfl (toldAt _ (inc1 t)) (cells_one _) (by omega) (by decide) (by have := ZB.out; have := BX7.out.lt; simp; omega) ?_; intro v8 w8 g8)
            have alq := (Below.refl w7.heap.size w7).alloc (Nat.le_refl _) (.cells #[.int .i64 (inc1 t).node, .int .i64 (inc1 t).inc, .int .i64 (inc1 t).hl, .int .i64 (inc1 t).n] 137)
            have OA := O7.out.below alq
            have AA := A7.out.below alq
            have hb8 : w.heap.size ≤ (w7.alloc (.cells #[.int .i64 (inc1 t).node, .int .i64 (inc1 t).inc, .int .i64 (inc1 t).hl, .int .i64 (inc1 t).n] 137)).heap.size := by have := ZB.out; have := BX7.out.lt; simp; omega
            have d8 := g8.out.below AA.2 hb8
            have sep2 : ∀ k, (Value.slice D nd cd).ownBlock = some k → (Value.slice P5 (nb + 1) c5).ownBlock ≠ some k := fun k hk hu => S5.out k hu hk
            have O8 : OwnC w8 w.heap.size (.slice P5 (nb + 1) c5) (nb + 1) (toldQ (j + 1) L) := ⟨OA.1, g8.out.other OA.2 sep2⟩
            have sep8 := g8.out.apart OA.2 sep2
            have A8 : OwnD w8 w.heap.size v8 (nd + 1) (again o (L.take (j + 1))) := ⟨by rw [HAG.out, List.length_append, ← A7.out.1]; rfl, by rw [HAG.out, cells_append]; exact g8.out.own⟩
            have Q8 := (Q7.out.below alq).wr (Wr.ofB d8) (fun k hk hn => by have := hits.out k hk; omega)
            have K8 := Wr.of_base d8 _ (K7.out.then_ (Wr.of_below alq (fun _ => False)) (fun _ h => h.elim)) (Nat.le_refl _)
            obtain ⟨P8, c8, rfl, _, _, _⟩ := Rowz.form g8.out.own
            go_roundg (L.length - (j + 1))
            case measure => omega
            case rel => exact ⟨j + 1, P5, nb + 1, c5, P8, nd + 1, c8, rfl, rfl, Nat.le_refl _, hjm1, Hid.mk_ ⟨O8, A8, fun k hk hu => sep8 k hu hk, Q8, K8⟩⟩
          · have hag : again o (L.take (j + 1)) = again o (L.take j) := by rw [again_snoc o HTJ.out, if_neg hlo, List.append_nil]
            have HAG := Hid.mk_ hag
            clear hag
            go_region
            have dr : Below w6.heap.size w6 w6.drew := (Below.refl _ _).drew
            go_wp2_with fail
            go_roundg (L.length - (j + 1))
            case measure => omega
            case rel => exact ⟨j + 1, P5, nb + 1, c5, D, nd, cd, rfl, rfl, Nat.le_refl _, hjm1, Hid.mk_ ⟨O6.out.below dr, by rw [HAG.out]; exact A6.out.below dr, S5.out, Q6.out.below dr, K6.out.then_ (Wr.of_below dr (fun _ => False)) (fun _ h => h.elim)⟩⟩
        · have e0 : j = m := by have h1 := hm.out; have := hjm.out; have := hnb.out; unfold many at h1; omega
          subst e0
          go_wp2_with (go_at_call 90; refine (len _ g o A _ (Hid.mk_ MI.out.q) r HR).mono ?_; rintro e w2 ⟨rfl, rfl⟩)
          go_meet
          exact ⟨B, nb, cb, D, nd, cd, rfl, rfl, MI⟩
      · have e0 : j = m := by have := hjm.out; have := hml.out; omega
        subst e0
        have HR : Hid ((0 : Int) = ((L.drop j).length : Int)) := Hid.mk_ (by rw [List.length_drop]; omega)
        go_wp2_with (go_at_call 90; refine (len _ g o A _ (Hid.mk_ MI.out.q) 0 HR).mono ?_; rintro e w2 ⟨rfl, rfl⟩)
        go_meet
        exact ⟨B, nb, cb, D, nd, cd, rfl, rfl, MI⟩
  case rest =>
    obtain ⟨B, nb, cb, D, nd, cd, rfl, rfl, MI⟩ := hcut
    have hml : m ≤ L.length := by rw [hm.out]; unfold many; omega
    have hnb : Hid (nb = m) := Hid.mk_ (by rw [MI.out.out.1, told_len _ _ hml])
    obtain ⟨G, hG⟩ : ∃ G, again o (L.take m) = G := ⟨_, rfl⟩
    obtain ⟨M0, hM0⟩ : ∃ M0, L.drop m = M0 := ⟨_, rfl⟩
    have HS : Hid (∀ i, St (putAll (G.take i) M0) ∧ Lt o (putAll (G.take i) M0)) := Hid.mk_ (fun i => by rw [← hG, ← hM0]; exact took_part h.out.st h.out.lt m i)
    have HTK : Hid (tookQ o m L = putAll G M0) := Hid.mk_ (by rw [tookQ, hG, hM0])
    have hob := Hid.mk_ h.out.ob
    have hnd : nd ≤ 100 := by have h1 := MI.out.ag.1; have h2 := again_len o (L.take m); have h3 := h.out.st.len; simp at h2; omega
    have HND : Hid (nd = G.length) := Hid.mk_ (by rw [MI.out.ag.1, hG])
    have MO := Hid.mk_ MI.out.out
    have MA : Hid (OwnD wc w.heap.size (.slice D nd cd) nd G) := Hid.mk_ (by rw [← hG]; exact MI.out.ag)
    have MQ : Hid (Que wc g o A M0) := Hid.mk_ (by rw [← hM0]; exact MI.out.q)
    have MK := Hid.mk_ MI.out.w_
    have SO : Hid (∀ k, (Value.slice B nb cb).ownBlock = some k → ¬ Its g A k) := Hid.mk_ (fun k hk hi => by have := (Rowz.blk MO.out.2 k hk).1; have := hits.out k hi; omega)
    have SD : Hid (∀ k, (Value.slice D nd cd).ownBlock = some k → ¬ Its g A k) := Hid.mk_ (fun k hk hi => by have := (Rowz.blk MA.out.2 k hk).1; have := hits.out k hi; omega)
    have HB : Hid (w.heap.size ≤ wc.heap.size) := Hid.mk_ MK.out.size
    clear MI hG hM0 hml
    go_wp2_with fail
    go_loopg [51] nd (fun gg s51 wr => ∃ (i : Nat) (A' : Option Addr), s51 = .int .i64 (i : Int) ∧ i ≤ nd ∧ nd - i ≤ gg ∧ Hid (Que wr g o A' (putAll (G.take i) M0)) ∧ Hid (OwnC wr w.heap.size (.slice B nb cb) nb (toldQ m L)) ∧ Hid (OwnD wr w.heap.size (.slice D nd cd) nd G) ∧ Hid (∀ k, (Value.slice B nb cb).ownBlock = some k → ¬ Its g A' k) ∧ Hid (∀ k, (Value.slice D nd cd).ownBlock = some k → ¬ Its g A' k) ∧ Hid (Fresh w A A') ∧ Hid (Wr w wr (Its g A)))
    case atStart => exact ⟨0, A, rfl, by omega, by omega, MQ, MO, MA, SO, SD, Hid.mk_ (Fresh.refl _ _), MK⟩
    case round =>
      clear MQ MO MA SO SD MK HB
      obtain ⟨i, A', rfl, hi, hg, Q, O, E, SO, SD, F, K⟩ := hrel
      by_cases hlt : i < nd
      · obtain ⟨t, ht⟩ : ∃ t, G[i]? = some t := ⟨_, List.getElem?_eq_getElem (by have := HND.out; omega)⟩
        obtain ⟨b, rfl, _, hb, x0, x1, x2, x3⟩ := E.out.row i t ht
        have HT := Hid.mk_ ht
        clear ht
        have l1 : (i : Int) < (nd : Int) := by omega
        have l0 : (0 : Int) ≤ (i : Int) := by omega
        go_upto_region 12 with fail
        have al := (Below.refl wr.heap.size wr).alloc (Nat.le_refl _) (.cells #[.int .i64 t.node, .int .i64 t.inc, .int .i64 t.hl, .int .i64 t.n] 137)
        have BX := Hid.mk_ (Box4.made wr t)
        have Q1 := Hid.mk_ (Q.out.below al)
        have O1 := Hid.mk_ (O.out.below al)
        have E1 := Hid.mk_ (E.out.below al)
        have K1 := Hid.mk_ (K.out.then_ (Wr.of_below al (fun _ => False)) (fun _ h => h.elim))
        obtain ⟨q, hq⟩ : ∃ q, q = wr.heap.size := ⟨_, rfl⟩
        have NQ : Hid (¬ Its g A' q) := Hid.mk_ (fun hh => by have := Q.out.its q hh; omega)
        have LO : Hid (∀ k, (Value.slice B nb cb).ownBlock = some k → k < q) := Hid.mk_ (fun k hk => by have := (Rowz.blk O.out.2 k hk).2; omega)
        have LD : Hid (∀ k, (Value.slice (some ⟨b, 0, none⟩) nd cd).ownBlock = some k → k < q) := Hid.mk_ (fun k hk => by have := (Rowz.blk E.out.2 k hk).2; omega)
        have ZB : Hid (w.heap.size ≤ q) := Hid.mk_ (by have := K.out.size; omega)
        rw [← hq] at BX ⊢
        clear x0 x1 x2 x3 al Q O E K hq hb
        generalize wr.alloc (.cells #[.int .i64 t.node, .int .i64 t.inc, .int .i64 t.hl, .int .i64 t.n] 137) = w1 at *
        obtain ⟨x0, x1, x2, x3, f3⟩ := BX.out
        obtain ⟨n1, c1, hs, p1, p2, p3⟩ := Q1.out.ex
        have P1 := Hid.mk_ p1
        have PS := Hid.mk_ (push_state t p2 p3)
        have hn1 : n1 < 1000000 := by have := Q1.out.st.len; have := p1.len; have := p3.length_eq; omega
        have QZ : Hid (q < w1.heap.size) := Hid.mk_ BX.out.lt
        clear p1 p2 p3
        go_region_held3 (fun w' => w'.cell? ⟨q, 0, none⟩ = some (.int .i64 t.node) ∧ w'.cell? ⟨q, 1, none⟩ = some (.int .i64 t.inc) ∧ w'.cell? ⟨q, 2, none⟩ = some (.int .i64 t.hl) ∧ w'.cell? ⟨q, 3, none⟩ = some (.int .i64 t.n)) (first | exact ⟨by assumption, by assumption, by assumption, by assumption⟩ | go_keep) (first
          | (go_at_call 77; refine (push (o := o) (w := w1.drew) (n := n1) (c := c1) (A := A') (hs := hs) t (by exact Hid.mk_ (P1.out.below (Below.refl _ _).drew)) hn1).mono ?_; rintro e w4 ⟨rfl, A4, n4, c4, h4, f4, r4⟩; have s0 := r4.out.cell (by exact x0) NQ.out; have s1 := r4.out.cell (by exact x1) NQ.out; have s2 := r4.out.cell (by exact x2) NQ.out; have s3 := r4.out.cell (by exact x3) NQ.out)
          | fail)
        have dr : Below w1.heap.size w1 w1.drew := (Below.refl _ _).drew
        have W4 := (Wr.of_below dr (Its g A')).then_ r4.out (fun i hi => .inl hi)
        have F4 : Fresh w1 A' A4 := f4.out
        have Q4 : Que w4 g o A4 (putAll (G.take (i + 1)) M0) := ⟨(HS.out (i + 1)).1, (HS.out (i + 1)).2, hob.out, n4, c4, _, h4.out, PS.out.1, by rw [putAll_snoc M0 HT.out]; exact PS.out.2⟩
        go_wp2_with fail
        go_roundg (nd - (i + 1))
        case measure => omega
        case rel => exact ⟨i + 1, A4, by go_num, by omega, Nat.le_refl _, Hid.mk_ Q4, Hid.mk_ ⟨O1.out.1, Rowz.keep O1.out.2 fun k hk hlt => W4.block k hlt (SO.out k hk)⟩, Hid.mk_ ⟨E1.out.1, Rowz.keep E1.out.2 fun k hk hlt => W4.block k hlt (SD.out k hk)⟩, Hid.mk_ (fun k hk hi => by
          rcases F4.its g k hi with h1 | h1
          · exact SO.out k hk h1
          · have := LO.out k hk; have := QZ.out; omega), Hid.mk_ (fun k hk hi => by
          rcases F4.its g k hi with h1 | h1
          · exact SD.out k hk h1
          · have := LD.out k hk; have := QZ.out; omega), Hid.mk_ (F.out.trans F4 K1.out.size), Hid.mk_ (K1.out.then_ W4 (F.out.its g))⟩
      · obtain rfl : i = nd := by omega
        have e1 : G.take i = G := List.take_of_length_le (by have := HND.out; omega)
        rw [e1] at Q
        go_wp2_with fail
        go_ret
        exact ⟨B, nb, cb, rfl, O, hnb, Hid.mk_ (by rw [HTK.out]; exact ⟨A', Q.out, F.out, K.out⟩)⟩
end Go.Proofs.YthndjhocmpelcaaGreat.Rum
