/- Chapter 3: a queue's functions: New, Len, Has. Conditions: the row lies in a block of its own. -/
import Derived.Test.YtoikadgfbjjfiaaRpI
namespace Go.Proofs.Ytoikadgfbjjfiaa.Rum
open Go.RowKit Kit Go.Shelf Hth Tri3
set_option linter.unusedVariables false
/-- A queue that holds L, and tells each so often as o. -/
structure Que (w : World) (g : Nat) (o : Int) (A : Option Addr) (L : List Tld) : Prop where
  st : St L
  lt : Lt o L
  ob : 1 ≤ o ∧ o ≤ 20
  ex : ∃ n c hs, HpS o w g A n c hs ∧ Hp hs ∧ hs.Perm L
theorem Que.wr {w w' : World} {S : Nat → Prop} {g : Nat} {o : Int} {A : Option Addr} {L : List Tld} (h : Que w g o A L) (hw : Wr w w' S) (hd : ∀ k, Its g A k → ¬ S k) : Que w' g o A L := by
  obtain ⟨h1, hl, ho, n, c, hs, h2, h3, h4⟩ := h
  exact ⟨h1, hl, ho, n, c, hs, h2.wr hw (hd g (.inl rfl)) (fun b off e => hd b (.inr ⟨off, e⟩)), h3, h4⟩
theorem Que.below {w w' : World} {g : Nat} {o : Int} {A : Option Addr} {L : List Tld} (h : Que w g o A L) (hw : Below w.heap.size w w') : Que w' g o A L :=
  h.wr (Wr.of_below hw (fun _ => False)) (fun k _ h => h)
theorem Que.its {w : World} {g : Nat} {o : Int} {A : Option Addr} {L : List Tld} (h : Que w g o A L) : ∀ k, Its g A k → k < w.heap.size := by
  obtain ⟨h1, hl, ho, n, c, hs, h2, h3, h4⟩ := h
  rintro k (rfl | ⟨off, rfl⟩)
  · exact h2.lt
  · exact (h2.own.block k off rfl).2
theorem Que.ge {w : World} {g : Nat} {o : Int} {A : Option Addr} {L : List Tld} (h : Que w g o A L) : ∀ k, Its g A k → g ≤ k := by
  obtain ⟨h1, hl, ho, n, c, hs, h2, h3, h4⟩ := h
  rintro k (rfl | ⟨off, rfl⟩)
  · exact Nat.le_refl _
  · have := (h2.own.block k off rfl).1
    omega
theorem Que.lt' {w : World} {g : Nat} {o : Int} {A : Option Addr} {L : List Tld} (h : Que w g o A L) : g < w.heap.size := h.its g (.inl rfl)
theorem Que.wrBelow {w w' : World} {g : Nat} {o : Int} {A : Option Addr} {L : List Tld} (hc : Que w g o A L) (h : Wr w w' (Its g A)) {B : Nat} (hB : B ≤ g) : Below B w w' :=
  h.below (by have := hc.lt'; omega) (fun k hk => by have := hc.ge k hk; omega)
/-- The queue at g is turned to L; nothing else is. -/
def Turn (w w' : World) (g : Nat) (o : Int) (A : Option Addr) (L : List Tld) : Prop := ∃ A', Que w' g o A' L ∧ Fresh w A A' ∧ Wr w w' (Its g A)
theorem Fresh.refl (w : World) (A : Option Addr) : Fresh w A A := fun b off h => .inl h
theorem Fresh.trans {w w' : World} {A B C : Option Addr} (h : Fresh w A B) (k : Fresh w' B C) (hz : w.heap.size ≤ w'.heap.size) : Fresh w A C := fun b off e => by
  rcases k b off e with h1 | h1
  · exact h b off h1
  · exact .inr (by omega)
theorem Turn.of_below {w w' : World} {g : Nat} {o : Int} {A : Option Addr} {L : List Tld} (h : Que w g o A L) (hb : Below w.heap.size w w') : Turn w w' g o A L :=
  ⟨A, h.below hb, Fresh.refl _ _, Wr.of_below hb _⟩
theorem Turn.trans {w w1 w2 : World} {g : Nat} {o : Int} {A : Option Addr} {L M : List Tld} (h : Turn w w1 g o A L) (k : ∀ A', Que w1 g o A' L → Turn w1 w2 g o A' M) : Turn w w2 g o A M := by
  obtain ⟨A1, h1, h2, h3⟩ := h
  obtain ⟨A2, k1, k2, k3⟩ := k A1 h1
  exact ⟨A2, k1, h2.trans k2 h3.size, h3.then_ k3 (h2.its g)⟩
theorem Turn.below {w w' : World} {g : Nat} {o : Int} {A : Option Addr} {L M : List Tld} (h : Turn w w' g o A M) (hc : Que w g o A L) {B : Nat} (hB : B ≤ g) : Below B w w' := by
  obtain ⟨A', h1, h2, h3⟩ := h
  exact hc.wrBelow h3 hB
def ofn (a : Int) : Int := if a < 1 then 1 else if 20 < a then 20 else a
theorem ofn_b (a : Int) : 1 ≤ ofn a ∧ ofn a ≤ 20 := by unfold ofn; split <;> (try split) <;> omega
theorem made (w : World) (o : Int) (ho : 1 ≤ o ∧ o ≤ 20) : Que (w.alloc (.cells #[.int .i64 o, .slice none 0 0] 91)) w.heap.size o none [] :=
  ⟨St.nil, fun _ h => absurd h List.not_mem_nil, ho, 0, 0, [], HpS.mk (by rw [World.cell?_alloc_new]; rfl) (World.frozen?_alloc_new _ _ _ _) (OwnT.nil _ _) (by rw [World.cell?_alloc_new]; rfl), (fun k k0 kn => absurd kn (Nat.not_lt_zero _)), .refl _⟩
theorem new0 (w : World) (a : Int) (o : Int) (ho : Hid (o = ofn a)) : Calls Try.prog 27 #[.int .i64 a] w fun e w' => ∃ g, e = .returned (.pointer (some ⟨g, 0, none⟩)) ∧ Hid (Que w' g o none []) ∧ Hid (w.heap.size ≤ g) ∧ Below w.heap.size w w' := by
  have hal := (Below.refl w.heap.size w).alloc (Nat.le_refl _) (.cells #[.int .i64 o, .slice none 0 0] 91)
  by_cases h1 : a < 1
  · have e : o = 1 := by rw [ho.out]; unfold ofn; rw [if_pos h1]
    have h2 : ¬ 20 < a := by omega
    have h3 : ¬ (1 < a) := by omega
    subst e
    clear ho
    go_enter Try.func27, Try.ntmps27
    go_wp2_with fail
    go_ret
    exact ⟨w.heap.size, rfl, Hid.mk_ (made w 1 (by omega)), Hid.mk_ (Nat.le_refl _), hal⟩
  · by_cases h2 : 20 < a
    · have e : o = 20 := by rw [ho.out]; unfold ofn; rw [if_neg h1, if_pos h2]
      subst e
      clear ho
      go_enter Try.func27, Try.ntmps27
      go_wp2_with fail
      go_ret
      exact ⟨w.heap.size, rfl, Hid.mk_ (made w 20 (by omega)), Hid.mk_ (Nat.le_refl _), hal⟩
    · have e : a = o := by rw [ho.out]; unfold ofn; rw [if_neg h1, if_neg h2]
      subst e
      clear ho
      have HB := Hid.mk_ (And.intro h1 h2)
      by_cases h3 : 1 < a
      · go_enter Try.func27, Try.ntmps27
        go_wp2_with fail
        go_ret
        exact ⟨w.heap.size, rfl, Hid.mk_ (made w a (by omega)), Hid.mk_ (Nat.le_refl _), hal⟩
      · obtain rfl : a = 1 := by omega
        clear h1 h2 h3
        go_enter Try.func27, Try.ntmps27
        go_wp2_with fail
        go_ret
        exact ⟨w.heap.size, rfl, Hid.mk_ (made w 1 (by omega)), Hid.mk_ (Nat.le_refl _), hal⟩
theorem len_nil (w : World) : Calls Try.prog 34 #[.pointer none] w fun e w' => e = .returned (.int .i64 0) ∧ w' = w := by
  go_enter Try.func34, Try.ntmps34
  go_wp2_with fail
  go_ret
  exact ⟨rfl, rfl⟩
theorem len (w : World) (g : Nat) (o : Int) (A : Option Addr) (L : List Tld) (h : Hid (Que w g o A L)) (r : Int) (hr : Hid (r = L.length)) : Calls Try.prog 34 #[.pointer (some ⟨g, 0, none⟩)] w fun e w' => e = .returned (.int .i64 r) ∧ w' = w := by
  obtain ⟨n, c, hs, h1, h2, h3⟩ := h.out.ex
  have hc := h1.cell
  have e0 : r = (n : Int) := by rw [hr.out, h1.len, h3.length_eq]
  subst e0
  clear hr
  go_enter Try.func34, Try.ntmps34
  go_wp2_with fail
  go_ret
  exact ⟨rfl, rfl⟩
/-- Three numbers in a block of their own. -/
structure Box3 (w : World) (q : Nat) (x y z : Int) : Prop where
  c0 : w.cell? ⟨q, 0, none⟩ = some (.int .i64 x)
  c1 : w.cell? ⟨q, 1, none⟩ = some (.int .i64 y)
  c2 : w.cell? ⟨q, 2, none⟩ = some (.int .i64 z)
  f0 : w.frozen? ⟨q, 0, none⟩ = false
  f1 : w.frozen? ⟨q, 1, none⟩ = false
  f2 : w.frozen? ⟨q, 2, none⟩ = false
theorem Box3.made (w : World) (x y z : Int) : Box3 (w.alloc (.cells #[.int .i64 x, .int .i64 y, .int .i64 z] 53)) w.heap.size x y z := by
  refine ⟨?_, ?_, ?_, World.frozen?_alloc_new _ _ _ _, World.frozen?_alloc_new _ _ _ _, World.frozen?_alloc_new _ _ _ _⟩ <;> (rw [World.cell?_alloc_new]; rfl)
theorem Box3.keep {w w' : World} {q : Nat} {x y z : Int} (h : Box3 w q x y z) (hb : Below w.heap.size w w') : Box3 w' q x y z := by
  have hq := World.block_lt_of_cell? w _ h.c0
  have hf : ∀ o, w'.frozen? ⟨q, o, none⟩ = w.frozen? ⟨q, o, none⟩ := fun o => hb.frozen (p := ⟨q, o, none⟩) hq
  exact ⟨keep1 hb h.c0, keep1 hb h.c1, keep1 hb h.c2, (hf 0).trans h.f0, (hf 1).trans h.f1, (hf 2).trans h.f2⟩
theorem Box3.lt {w : World} {q : Nat} {x y z : Int} (h : Box3 w q x y z) : q < w.heap.size := World.block_lt_of_cell? w _ h.c0
theorem below_set {z : Nat} {w w1 : World} {q o : Nat} {v : Value} (h : Below z w w1) (hq : z ≤ q) : Below z w (w1.setCell ⟨q, o, none⟩ v) :=
  ⟨h.os, h.tape, h.output, by simp [World.setCell]; exact h.size, fun k hk => (Below.heap_setCell _ _ _ _ (by simp only; omega)).trans (h.block k hk)⟩
theorem Box3.set {w : World} {q : Nat} {x y z : Int} (h : Box3 w q x y z) (x' y' z' : Int) : Box3 (((w.setCell ⟨q, 0, none⟩ (.int .i64 x')).setCell ⟨q, 1, none⟩ (.int .i64 y')).setCell ⟨q, 2, none⟩ (.int .i64 z')) q x' y' z' := by
  have e0 := World.cell?_setCell_same w ⟨q, 0, none⟩ (.int .i64 x') h.c0
  have e1 := World.cell?_setCell_same (w.setCell ⟨q, 0, none⟩ (.int .i64 x')) ⟨q, 1, none⟩ (.int .i64 y') ((World.cell?_setCell_other _ _ _ _ (by simp)).trans h.c1)
  refine ⟨?_, ?_, ?_, ?_, ?_, ?_⟩
  · rw [World.cell?_setCell_other _ _ _ _ (by simp), World.cell?_setCell_other _ _ _ _ (by simp)]; exact e0
  · rw [World.cell?_setCell_other _ _ _ _ (by simp)]; exact e1
  · exact World.cell?_setCell_same _ ⟨q, 2, none⟩ _ (((World.cell?_setCell_other _ _ _ _ (by simp)).trans (World.cell?_setCell_other _ _ _ _ (by simp))).trans h.c2)
  · simp only [World.frozen?_setCell]; exact h.f0
  · simp only [World.frozen?_setCell]; exact h.f1
  · simp only [World.frozen?_setCell]; exact h.f2
theorem results_cell2 {fn : Func} {p u v : Tmp} {ty : TypeId} (h : fn.results = #[.cell p ty, .tmp u, .tmp v]) (tmps : Array Value) (P : Program) (w : World) :
    (results fn tmps).run P w =
      ((asAddr (tmps.getD p undef)).run P w).andThen fun a w₁ => ((loadVar ty a).run P w₁).andThen fun x w₂ => .ok (.tuple #[x, tmps.getD u undef, tmps.getD v undef]) w₂ := by
  simp only [results, h]
  simp [Sem.run_bind, Result.andThen]
set_option maxHeartbeats 1000000 in
theorem has_nil (id : Int) (w : World) : Calls Try.prog 35 #[.pointer none, .int .i64 id] w fun e w' => e = .returned (.tuple #[.agg #[.int .i64 0, .int .i64 0, .int .i64 0], .int .i64 0, .bool false]) ∧ Below w.heap.size w w' := by
  have bx := Hid.mk_ (Box3.made w 0 0 0)
  have hal := Hid.mk_ ((Below.refl w.heap.size w).alloc (Nat.le_refl _) (.cells #[.int .i64 0, .int .i64 0, .int .i64 0] 53))
  go_enter Try.func35, Try.ntmps35
  go_upto_region 1 with fail
  generalize w.alloc (.cells #[.int .i64 0, .int .i64 0, .int .i64 0] 53) = w1 at *
  obtain ⟨q, hq⟩ : ∃ q, q = w.heap.size := ⟨_, rfl⟩
  have HQ : Hid (w.heap.size ≤ q) := Hid.mk_ (by omega)
  rw [← hq] at bx ⊢
  clear hq
  go_upto_region 2 with (go_at_call 46; refine (place_nil id _).mono ?_; rintro e w2 ⟨rfl, b2⟩)
  have b3 := Hid.mk_ (bx.out.keep b2)
  have z2 := Hid.mk_ (hal.out.trans (b2.mono hal.out.size))
  obtain ⟨x0, x1, x2, f0, f1, f2⟩ := b3.out
  go_wp2_with fail
  have b4 := b3.out.set 0 0 0
  have z4 := below_set (o := 2) (v := .int .i64 0) (below_set (o := 1) (v := .int .i64 0) (below_set (o := 0) (v := .int .i64 0) z2.out HQ.out) HQ.out) HQ.out
  generalize ((w2.setCell ⟨q, 0, none⟩ (.int .i64 0)).setCell ⟨q, 1, none⟩ (.int .i64 0)).setCell ⟨q, 2, none⟩ (.int .i64 0) = w4 at *
  clear x0 x1 x2 f0 f1 f2 b3 z2
  obtain ⟨x0, x1, x2, f0, f1, f2⟩ := b4
  (try simp only [Exit.inBlock, Exit.then])
  refine bodyPost_ret (v := .tuple #[.agg #[.int .i64 0, .int .i64 0, .int .i64 0], .int .i64 0, .bool false]) ?_ rfl ⟨rfl, z4⟩
  rw [results_cell2 rfl]
  go_simp
def hasV : Option Tld → Value
  | some t => .tuple #[.agg #[.int .i64 t.node, .int .i64 t.inc, .int .i64 t.hl], .int .i64 t.n, .bool true]
  | none => .tuple #[.agg #[.int .i64 0, .int .i64 0, .int .i64 0], .int .i64 0, .bool false]
set_option maxHeartbeats 2000000 in
theorem has0 (w : World) (g : Nat) (o : Int) (A : Option Addr) (L : List Tld) (id : Int) (h : Hid (Que w g o A L)) (v : Option Tld) (hv : Hid (v = qof id L)) :
    Calls Try.prog 35 #[.pointer (some ⟨g, 0, none⟩), .int .i64 id] w fun e w' => e = .returned (hasV v) ∧ Below w.heap.size w w' := by
  have bx := Hid.mk_ (Box3.made w 0 0 0)
  have hal := Hid.mk_ ((Below.refl w.heap.size w).alloc (Nat.le_refl _) (.cells #[.int .i64 0, .int .i64 0, .int .i64 0] 53))
  have h1 := Hid.mk_ (h.out.below hal.out)
  obtain ⟨n, c, hs, p1, p2, p3⟩ := h1.out.ex
  have hn : n ≤ 1000000 := by have := h1.out.st.len; have := p1.len; have := p3.length_eq; omega
  have hcon := place id (Hid.mk_ p1) hn _ (Hid.mk_ rfl)
  go_enter Try.func35, Try.ntmps35
  go_upto_region 1 with fail
  generalize w.alloc (.cells #[.int .i64 0, .int .i64 0, .int .i64 0] 53) = w1 at *
  obtain ⟨q, hq⟩ : ∃ q, q = w.heap.size := ⟨_, rfl⟩
  have HQ : Hid (w.heap.size ≤ q) := Hid.mk_ (by omega)
  have HGQ : Hid (g < q) := Hid.mk_ (by have := h.out.lt'; omega)
  have HI : Hid (∀ k, Its g A k → k < q) := Hid.mk_ (fun k hk => by have := h.out.its k hk; omega)
  rw [← hq] at bx ⊢
  clear hq
  rcases plc_cases hs id with ⟨e, hne⟩ | ⟨i, e, hi, hid⟩
  · rw [e] at hcon
    have ev : v = none := by rw [hv.out]; exact qof_none (fun t ht => hne t (p3.mem_iff.2 ht))
    subst ev
    clear hv e p1 p2 p3 hne
    go_upto_region 2 with (go_at_call 46; refine hcon.mono ?_; rintro e w2 ⟨rfl, b2⟩)
    have b3 := Hid.mk_ (bx.out.keep b2)
    have z2 := Hid.mk_ (hal.out.trans (b2.mono hal.out.size))
    obtain ⟨x0, x1, x2, f0, f1, f2⟩ := b3.out
    go_wp2_with fail
    have b4 := b3.out.set 0 0 0
    have z4 := below_set (o := 2) (v := .int .i64 0) (below_set (o := 1) (v := .int .i64 0) (below_set (o := 0) (v := .int .i64 0) z2.out HQ.out) HQ.out) HQ.out
    generalize ((w2.setCell ⟨q, 0, none⟩ (.int .i64 0)).setCell ⟨q, 1, none⟩ (.int .i64 0)).setCell ⟨q, 2, none⟩ (.int .i64 0) = w4 at *
    clear x0 x1 x2 f0 f1 f2 b3 z2
    obtain ⟨x0, x1, x2, f0, f1, f2⟩ := b4
    (try simp only [Exit.inBlock, Exit.then])
    refine bodyPost_ret (v := hasV none) ?_ rfl ⟨rfl, z4⟩
    rw [results_cell2 rfl]
    unfold hasV
    go_simp
  · rw [e] at hcon
    have hm : fn hs i ∈ L := p3.mem_iff.1 (by rw [fn_eq hi]; exact List.getElem_mem hi)
    obtain ⟨t, ht⟩ : ∃ t, t = fn hs i := ⟨_, rfl⟩
    have ev : v = some t := by rw [hv.out, ← hid, ht]; exact h.out.st.find hm
    subst ev
    have i0 : (0 : Int) ≤ (i : Int) := by omega
    have i1 : (i : Int) < (n : Int) := by have := p1.len; omega
    obtain ⟨b, rfl, _, _⟩ := p1.own.some_ (by omega)
    have hh := Hid.mk_ p1
    have hi' := Hid.mk_ hi
    clear hv e p1 p2 p3 hi hid hm
    go_upto_region 4 with (go_at_call 46; refine hcon.mono ?_; rintro e w2 ⟨rfl, b2⟩)
    have b3 := Hid.mk_ (bx.out.keep b2)
    have z2 := Hid.mk_ (hal.out.trans (b2.mono hal.out.size))
    have h2 := Hid.mk_ (hh.out.below b2)
    have k1 := h2.out.cell
    have hbq : q ≠ b := by
      have h6 := HI.out b (.inr ⟨0, rfl⟩)
      omega
    obtain ⟨⟨y0, y1, y2, y3⟩, _⟩ := h2.out.own.at_ i t (by rw [ht]; exact fn_get hi'.out)
    obtain ⟨x0, x1, x2, f0, f1, f2⟩ := b3.out
    have hgq : g ≠ q := by have := HGQ.out; omega
    clear hcon ht
    go_region
    have b4 := b3.out.set t.node t.inc t.hl
    have z4 := (below_set (o := 2) (v := .int .i64 t.hl) (below_set (o := 1) (v := .int .i64 t.inc) (below_set (o := 0) (v := .int .i64 t.node) z2.out HQ.out) HQ.out) HQ.out).drew
    generalize ((w2.setCell ⟨q, 0, none⟩ (.int .i64 t.node)).setCell ⟨q, 1, none⟩ (.int .i64 t.inc)).setCell ⟨q, 2, none⟩ (.int .i64 t.hl) = w4 at *
    clear x0 x1 x2 f0 f1 f2 b3 z2 y0 y1 y2 y3
    obtain ⟨x0, x1, x2, f0, f1, f2⟩ := b4
    go_wp2_with fail
    (try simp only [Exit.inBlock, Exit.then])
    refine bodyPost_ret (v := hasV (some t)) ?_ rfl ⟨rfl, z4⟩
    rw [results_cell2 rfl]
    unfold hasV
    go_simp
end Go.Proofs.Ytoikadgfbjjfiaa.Rum
