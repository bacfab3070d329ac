/- Chapter 3: the document's own queue: Put. Conditions: the rows lie in memory. -/
import Derived.Test.YthndjhocmpelcaaGreatRpP
import Derived.Test.YthndjhocmpelcaaGreatWLast
namespace Go.Proofs.YthndjhocmpelcaaGreat.Rum
open Go.RowKit Kit Go.Shelf Hth Tri3 Go.Proofs.YthndjhocmpelcaaGreatW.PrintLast
set_option linter.unusedVariables false
theorem step_app1 {P : Program} (w : World) {ops : Array Oper} {o : Oper} {a : Act} {K : Act → World → Prop} {Q : Exit → Act → World → Prop} {E0 : Prop} (hgd : o.guard = none) (x y : Operand) (T E : TypeId)
    (ho : o.op = .call { callee := .builtin .append, args := #[x, y], argTypes := #[T, T] })
    (i0 : TypeInfo) (z : Value) (s bs : Nat) (hT : P.underlying T = some (.slice E)) (hi : P.info? E = some i0) (hz0 : i0.zero = some z) (hz1 : i0.size = s) (hz2 : i0.bytes = bs) (hzs : z.cells.size = s) (hs : 0 < s)
    (base : Nat) (v : Value) (n : Nat) (xs : List Value) (hx : a.eval x = v) (hown : w.ownsRow base E s v n xs) (ad : Addr) (c : Nat) (ys : List Value) (hy : a.eval y = .slice (some ad) 1 c) (hl : ys.length = s) (hat : ∀ j u, ys[j]? = some u → w.cell? (ad.add j) = some u) (h1 : ∀ u ∈ ys, u.oneCell' = true)
    (hn : n ≤ 100000) (hbs : bs ≤ 10000) (hbase : base ≤ w.heap.size)
    (h : ∀ v' w', Hid (Rowz.Got w w' base E s v v' (n + 1) (xs ++ ys)) → K (a.put o.dst v') w') : if Region.wanted o (yielded ops a.tmps) = true then Oper.wp P o a w K Q else E0 := by
  have hw : Region.wanted o (yielded ops a.tmps) = true := by simp [Region.wanted, hgd]
  rw [if_pos hw]
  obtain ⟨v', w', hr, h2, h3, h4⟩ := Rowz.app1 w T E o.type i0 z s bs hT hi hz0 hz1 hz2 hzs hs base v n xs hown ad c ys hl hat h1 hn hbs hbase
  unfold Oper.wp execOp
  simp only [ho, resolve, invoke, builtin, Sem.run_bind, Sem.run_pure, Result.andThen_ok, List.map_toArray, List.map_cons, List.map_nil, hx, hy, hr]
  exact h v' w' ⟨h2, h3, h4⟩
theorem cmp_anti (i h j k : Int) : cmpC j k i h = - cmpC i h j k := by
  unfold cmpC
  repeat' split
  all_goals omega
theorem set_perm : ∀ (R : List Tld) (i : Nat) (x : Tld) (id : Int), (R.map Tld.node).Nodup → i < R.length → (fn R i).node = id → (R.set i x).Perm (x :: without id R)
  | [], _, _, _, _, h, _ => absurd h (Nat.not_lt_zero _)
  | a :: l, 0, x, id, hd, _, e => by
    have e : a.node = id := e
    rw [List.map_cons, List.nodup_cons] at hd
    have h1 : without id (a :: l) = l := by
      unfold without
      rw [List.filter_cons_of_neg (by simpa using e)]
      exact List.filter_eq_self.2 (fun t ht => decide_eq_true (fun e2 => hd.1 (List.mem_map.2 ⟨t, ht, by rw [e2, e]⟩)))
    rw [h1]
    exact .refl _
  | a :: l, i + 1, x, id, hd, h, e => by
    rw [List.map_cons, List.nodup_cons] at hd
    have hi : i < l.length := by simpa using h
    have e' : (fn l i).node = id := by unfold fn at e ⊢; simpa using e
    have ih := set_perm l i x id hd.2 hi e'
    have h0 : a.node ≠ id := fun e2 => hd.1 (List.mem_map.2 ⟨fn l i, by rw [fn_eq hi]; exact List.getElem_mem hi, by rw [e', e2]⟩)
    have h1 : without id (a :: l) = a :: without id l := by
      unfold without
      rw [List.filter_cons_of_pos (by simpa using h0)]
    rw [h1, List.set_cons_succ]
    exact (ih.cons a).trans (.swap _ _ _)
theorem OwnG.set {w : World} {base b n c : Nat} {hs : List Tld} (h : OwnG w base (.slice (some ⟨b, 0, none⟩) n c) n hs) (j : Nat) (m : Tld) :
    OwnG ((((w.setCell ⟨b, j * 4, none⟩ (.int .i64 m.node)).setCell ⟨b, j * 4 + 1, none⟩ (.int .i64 m.inc)).setCell ⟨b, j * 4 + 2, none⟩ (.int .i64 m.hl)).setCell ⟨b, j * 4 + 3, none⟩ (.int .i64 m.n)) base (.slice (some ⟨b, 0, none⟩) n c) n (hs.set j m) ∧ w.grownBy ((((w.setCell ⟨b, j * 4, none⟩ (.int .i64 m.node)).setCell ⟨b, j * 4 + 1, none⟩ (.int .i64 m.inc)).setCell ⟨b, j * 4 + 2, none⟩ (.int .i64 m.hl)).setCell ⟨b, j * 4 + 3, none⟩ (.int .i64 m.n)) (some b) := by
  obtain ⟨hn, h⟩ := h
  have h1 := World.ownsRow.stored h (j * 4) (.int .i64 m.node)
  have h2 := World.ownsRow.stored h1.1 (j * 4 + 1) (.int .i64 m.inc)
  have h3 := World.ownsRow.stored h2.1 (j * 4 + 2) (.int .i64 m.hl)
  have h4 := World.ownsRow.stored h3.1 (j * 4 + 3) (.int .i64 m.n)
  refine ⟨⟨by rw [List.length_set]; exact hn, ?_⟩, gb_trans (gb_trans (gb_trans h1.2 h2.2) h3.2) h4.2⟩
  rw [cells_set]
  exact h4.1
theorem oneAt67 (w : World) (t : Tld) : ∀ j u, (cellsT [t])[j]? = some u → (w.alloc (.cells #[.int .i64 t.node, .int .i64 t.inc, .int .i64 t.hl, .int .i64 t.n] 118)).cell? ((⟨w.heap.size, 0, none⟩ : Addr).add j) = some u := by
  intro j u hu
  rw [Addr.add_lit, Nat.zero_add, World.cell?_alloc_new]
  have : j = 0 ∨ j = 1 ∨ j = 2 ∨ j = 3 ∨ 4 ≤ j := by omega
  rcases this with rfl | rfl | rfl | rfl | h
  · exact hu
  · exact hu
  · exact hu
  · exact hu
  · rw [List.getElem?_eq_none (by rw [cells_len]; simp; omega)] at hu; cases hu
theorem RTurn.set {w w5 : World} {g b n k i : Nat} {o : Int} {R : List Tld} (S5 : RQS w5 g o (some ⟨b, 0, none⟩) n k R) (hB : Below w.heap.size w w5) (m : Tld) :
    RTurn w ((((w5.setCell ⟨b, i * 4, none⟩ (.int .i64 m.node)).setCell ⟨b, i * 4 + 1, none⟩ (.int .i64 m.inc)).setCell ⟨b, i * 4 + 2, none⟩ (.int .i64 m.hl)).setCell ⟨b, i * 4 + 3, none⟩ (.int .i64 m.n)).drew g o (some ⟨b, 0, none⟩) (R.set i m) := by
  obtain ⟨s1, s2⟩ := OwnG.set S5.own i m
  generalize (((w5.setCell ⟨b, i * 4, none⟩ (.int .i64 m.node)).setCell ⟨b, i * 4 + 1, none⟩ (.int .i64 m.inc)).setCell ⟨b, i * 4 + 2, none⟩ (.int .i64 m.hl)).setCell ⟨b, i * 4 + 3, none⟩ (.int .i64 m.n) = w6 at *
  have hw := Wr.of_gb s2
  have hgb : g ≠ b := fun e => by have := (Rowz.blk S5.own.2 b rfl).1; omega
  have S6 : RQS w6 g o (some ⟨b, 0, none⟩) n k (R.set i m) := ⟨hw.cell S5.c0 hgb, hw.cell S5.c1 hgb, (hw.frozen S5.lt hgb).trans S5.f1, s1⟩
  have hd : Below w6.heap.size w6 w6.drew := (Below.refl _ _).drew
  refine ⟨_, ⟨n, k, S6.wr (Wr.of_below hd (fun _ => False)) (fun _ _ h => h)⟩, Fresh.refl _ _, ?_⟩
  exact ((Wr.of_below hB _).then_ hw (fun i hi => .inl (by subst hi; exact .inr ⟨0, rfl⟩))).then_ (Wr.of_below hd (fun _ => False)) (fun _ h => h.elim)
theorem Got.wr {w w' : World} {base n : Nat} {E : TypeId} {s : Nat} {v v' : Value} {xs : List Value} (h : Rowz.Got w w' base E s v v' n xs) : Wr w w' (fun k => v.ownBlock = some k) :=
  ⟨h.gb.os, h.gb.tape, h.gb.output, h.gb.size, fun k hk hn => h.gb.block k hk (fun e => hn e.symm)⟩
theorem its_of {A : Option Addr} {n k : Nat} {b : Nat} {w : World} {base E s : Nat} {xs : List Value} (ho : w.ownsRow base E s (.slice A n k) n xs) (e : (Value.slice A n k).ownBlock = some b) : A = some ⟨b, 0, none⟩ := by
  obtain ⟨A', c', e', _, _, ⟨h3, _⟩ | ⟨b', h3, _⟩⟩ := Rowz.form ho
  · injection e' with e1; subst e1; rw [h3] at e; cases e
  · injection e' with e1; subst e1; rw [h3] at e; injection e with e; exact h3.trans (by subst e; rfl)
theorem RTurn.app {w wa w5 : World} {g n k : Nat} {o : Int} {A : Option Addr} {R : List Tld} {v5 : Value} {m : Tld} (hI : ∀ k, Its g A k → k < w.heap.size) (hB : Below w.heap.size w wa) (S : RQS wa g o A n k R)
    (g5 : Rowz.Got wa w5 (g + 1) 118 4 (.slice A n k) v5 (n + 1) (cellsT R ++ cellsT [m])) : RTurn w (w5.setCell ⟨g, 1, none⟩ v5) g o A (R ++ [m]) := by
  have hw := Got.wr g5
  obtain ⟨A5, c5, rfl, hc5, hcc, hf⟩ := Rowz.form g5.own
  have hg : ¬ (Value.slice A n k).ownBlock = some g := fun e => by have := (Rowz.blk S.own.2 g e).1; omega
  have c1 := hw.cell S.c1 hg
  refine ⟨A5, ⟨n + 1, c5, (World.cell?_setCell_other _ _ _ _ (by simp)).trans (hw.cell S.c0 hg), World.cell?_setCell_same _ _ _ c1, (World.frozen?_setCell _ _ _ _).trans ((hw.frozen S.lt hg).trans S.f1), by rw [List.length_append, ← S.own.1]; rfl, ?_⟩, fun b off e => ?_, ?_⟩
  · rw [cells_append]
    exact Rowz.keep g5.own fun j hj _ => Below.heap_setCell _ _ _ _ (by have := (Rowz.blk g5.own j hj).1; simp only; omega)
  · have e5 : (Value.slice A5 (n + 1) c5).ownBlock = some b := by rw [e]; rfl
    rcases g5.at_ with h1 | h1
    · have h2 := its_of S.own.2 (h1.symm.trans e5)
      have h3 := its_of g5.own e5
      rw [e] at h3
      exact .inl (h2.trans h3.symm)
    · exact .inr (Nat.le_trans hB.size (h1 b e5))
  · refine ((Wr.of_below hB _).then_ hw (fun i hi => ?_)).then_ (Wr.set w5 g 1 _) (fun i hi => .inl (.inl hi))
    exact .inl (.inr ⟨0, its_of S.own.2 hi⟩)
theorem rput_bad (w : World) (a : Option Addr) (c : Cl) (hg : good c = false) : Calls Tryz.prog 41 #[.pointer a, .agg #[.int .i64 c.n, .int .i64 c.i, .int .i64 c.h]] w fun e w' => e = .returned (.bool false) ∧ Below w.heap.size w w' := by
  have bx := Hid.mk_ (Box3.made w c.n c.i c.h)
  have hal := Hid.mk_ ((Below.refl w.heap.size w).alloc (Nat.le_refl _) (.cells #[.int .i64 c.n, .int .i64 c.i, .int .i64 c.h] 30))
  obtain ⟨x0, x1, x2, f0, f1, f2⟩ := bx.out
  cases hm : mayC c.n c.i c.h with
  | false =>
    have HM := Hid.mk_ hm.symm
    clear hm hg
    go_enter Tryz.func41, Tryz.ntmps41
    go_upto_region 1 with fail
    generalize w.alloc (.cells #[.int .i64 c.n, .int .i64 c.i, .int .i64 c.h] 30) = w1 at *
    go_wp2_with (go_at_call 37; refine (Rth.may1 _ _ _ _ false HM).mono ?_; rintro e w2 ⟨rfl, b2⟩)
    go_ret
    exact ⟨rfl, hal.out.trans (b2.mono hal.out.size)⟩
  | true =>
    have h0 : decide (c.i = 0 ∧ c.h = 0) = true := by unfold good at hg; rw [hm] at hg; unfold mayC at hm; simp at hg hm ⊢; omega
    have HM := Hid.mk_ hm.symm
    have HO := Hid.mk_ h0.symm
    clear hm hg h0
    go_enter Tryz.func41, Tryz.ntmps41
    go_upto_region 1 with fail
    generalize w.alloc (.cells #[.int .i64 c.n, .int .i64 c.i, .int .i64 c.h] 30) = w1 at *
    go_wp2_with (first
      | (go_at_call 37; refine (Rth.may1 _ _ _ _ true HM).mono ?_; rintro e w2 ⟨rfl, b2⟩; have y0 := keep1 b2 x0; have y1 := keep1 b2 x1; have y2 := keep1 b2 x2)
      | (go_at_call 38; refine (Rth.nothing1 _ _ _ _ true HO).mono ?_; rintro e w3 ⟨rfl, b3⟩))
    go_ret
    exact ⟨rfl, (hal.out.trans (b2.mono hal.out.size)).trans (b3.mono (Nat.le_trans hal.out.size b2.size))⟩
set_option maxRecDepth 100000 in
set_option maxHeartbeats 8000000 in
theorem rput (w : World) (g : Nat) (o : Int) (A : Option Addr) (R L : List Tld) (c : Cl) (h : Hid (RQ w g o A R)) (hp : Hid (R.Perm L)) (hst : Hid (St L)) (q : Bool) (hq : Hid (q = putB c L)) (M : List Tld) (hM : Hid (M = putQ c L)) :
    Calls Tryz.prog 41 #[.pointer (some ⟨g, 0, none⟩), .agg #[.int .i64 c.n, .int .i64 c.i, .int .i64 c.h]] w fun e w' => e = .returned (.bool q) ∧ ∃ S, Hid (S.Perm M) ∧ Hid (RTurn w w' g o A S) := by
  cases hgd : good c with
  | false =>
    have e1 : putB c L = false := by unfold putB; rw [hgd]; rfl
    have eq : q = false := by rw [hq.out, e1]
    have eM : M = L := by rw [hM.out]; unfold putQ; rw [e1]; rfl
    subst eq eM
    refine (rput_bad w _ c hgd).mono ?_
    rintro e w2 ⟨rfl, b2⟩
    exact ⟨rfl, R, hp, Hid.mk_ (RTurn.of_below h.out b2)⟩
  | true =>
  have bx := Hid.mk_ (Box3.made w c.n c.i c.h)
  have hal := Hid.mk_ ((Below.refl w.heap.size w).alloc (Nat.le_refl _) (.cells #[.int .i64 c.n, .int .i64 c.i, .int .i64 c.h] 30))
  have hmh : mayC c.n c.i c.h = true ∧ decide (c.i = 0 ∧ c.h = 0) = false := by have := (good_iff c).1 hgd; unfold mayC; simp; omega
  have HM := Hid.mk_ hmh.1.symm
  have HO := Hid.mk_ hmh.2.symm
  have hpos : q = match qof c.n L with | some t => decide (0 < cmpC c.i c.h t.inc t.hl) | none => true := by
    rw [hq.out, putB, hgd]; rfl
  have HP := Hid.mk_ hpos
  have HM2 : Hid (M = if q then ins (tl c) (without c.n L) else L) := Hid.mk_ (by rw [hM.out, putQ, ← hq.out])
  clear hq hM hgd hmh hpos
  obtain ⟨x0, x1, x2, f0, f1, f2⟩ := bx.out
  have HI := Hid.mk_ h.out.its
  go_enter Tryz.func41, Tryz.ntmps41
  go_upto_region 1 with fail
  generalize w.alloc (.cells #[.int .i64 c.n, .int .i64 c.i, .int .i64 c.h] 30) = w1 at *
  obtain ⟨z, hz⟩ : ∃ z, z = w.heap.size := ⟨_, rfl⟩
  have HZ := Hid.mk_ hz
  rw [← hz] at bx x0 x1 x2 f0 f1 f2 ⊢
  clear hz
  go_upto_region 3 with (first
    | (go_at_call 37; refine (Rth.may1 _ _ _ _ true HM).mono ?_; rintro e w2 ⟨rfl, b2⟩; have y0 := keep1 b2 x0; have y1 := keep1 b2 x1; have y2 := keep1 b2 x2)
    | (go_at_call 38; refine (Rth.nothing1 _ _ _ _ false HO).mono ?_; rintro e w3 ⟨rfl, b3⟩))
  have B3 := Hid.mk_ ((hal.out.trans (b2.mono hal.out.size)).trans (b3.mono (Nat.le_trans hal.out.size b2.size)))
  have bx3 := Hid.mk_ ((bx.out.keep b2).keep b3)
  clear x0 x1 x2 f0 f1 f2 b2 b3 y0 y1 y2 bx hal
  obtain ⟨x0, x1, x2, f0, f1, f2⟩ := bx3.out
  have K3 := Hid.mk_ (h.out.below B3.out)
  have hcon := rat0 w3 g o A R c.n K3 _ (Hid.mk_ rfl)
  rcases plc_cases R c.n with ⟨e, hne⟩ | ⟨i, e, hi, hid⟩
  · rw [e] at hcon
    have hne' : ∀ t ∈ L, t.node ≠ c.n := fun t ht => hne t (hp.out.mem_iff.2 ht)
    have eq : q = true := by rw [HP.out, qof_none hne']
    have eM : M = ins (tl c) L := by rw [HM2.out, eq, if_pos rfl, without_self hne']
    subst eq
    have EM := Hid.mk_ eM
    clear e hne hne' eM HP HM2
    go_upto_region 9 with (go_at_call 66; refine hcon.mono ?_; rintro e w4 ⟨rfl, b4⟩)
    have bx4 := Hid.mk_ (bx3.out.keep b4)
    have B4 := Hid.mk_ (B3.out.trans (b4.mono B3.out.size))
    clear x0 x1 x2 f0 f1 f2 bx3 B3 b4 hcon K3
    obtain ⟨x0, x1, x2, f0, f1, f2⟩ := bx4.out
    obtain ⟨n, k, S4⟩ := h.out.below B4.out
    have hS := Hid.mk_ S4
    have hcell := S4.c1
    have hn : n ≤ 1000 := by have := hst.out.len; have := hp.out.length_eq; have := S4.own.1; omega
    have LT := Hid.mk_ (And.intro S4.lt bx4.out.lt)
    have HG := Hid.mk_ (HI.out g (.inl rfl)).2
    clear S4 f0 f1 f2
    refine wp_region_last_drew (S := fun w' => w'.cell? ⟨g, 1, none⟩ = some (.slice A n k) ∧ w'.cell? ⟨z, 0, none⟩ = some (.int .i64 c.n) ∧ w'.cell? ⟨z, 1, none⟩ = some (.int .i64 c.i) ∧ w'.cell? ⟨z, 2, none⟩ = some (.int .i64 c.h)) (ds := [11]) (by kernel_rfl) (by exact ⟨hcell, x0, x1, x2⟩) (fun hHeld => ?_)
    refine' wpAnyLast_take (i := 0) (oi := _) (v := _) ?hi0 (by kernel_rfl) (by kernel_rfl) (by kernel_rfl) (by kernel_rfl) (by kernel_rfl) ?hQ0 (Or.inl ⟨?hw0, ?hy0⟩) (by assumption) ?rest0
    case hi0 => exact (by simp only [List.getElem?_toArray, List.getElem?_cons_zero]; rfl)
    case hQ0 => exact fun _ _ _ h => h
    case hw0 => rfl
    case hy0 =>
      intro w hSw
      try dsimp only at hSw
      obtain ⟨hSw, hS0, hS1, hS2⟩ := hSw
      go_simp
      all_goals with_reducible rfl
    try simp only [Act.put, List.setIfInBounds_toArray, List.set_cons_zero, List.set_cons_succ]
    refine' wpAnyLast_take (i := 1) (oi := _) (v := _) ?hi1 (by kernel_rfl) (by kernel_rfl) (by kernel_rfl) (by kernel_rfl) (by kernel_rfl) ?hQ1 (Or.inl ⟨?hw1, ?hy1⟩) (by assumption) ?rest1
    case hi1 => exact (by simp only [List.getElem?_toArray, List.getElem?_cons_zero, List.getElem?_cons_succ]; rfl)
    case hQ1 => exact fun _ _ _ h => h
    case hw1 => rfl
    case hy1 =>
      intro w hSw
      try dsimp only at hSw
      obtain ⟨hSw, hS0, hS1, hS2⟩ := hSw
      go_simp
      all_goals with_reducible rfl
    try simp only [Act.put, List.setIfInBounds_toArray, List.set_cons_zero, List.set_cons_succ]
    refine' wpAnyLast_take (i := 2) (oi := _) (v := _) ?hi2 (by kernel_rfl) (by kernel_rfl) (by kernel_rfl) (by kernel_rfl) (by kernel_rfl) ?hQ2 (Or.inl ⟨?hw2, ?hy2⟩) (by assumption) ?rest2
    case hi2 => exact (by simp only [List.getElem?_toArray, List.getElem?_cons_zero, List.getElem?_cons_succ]; rfl)
    case hQ2 => exact fun _ _ _ h => h
    case hw2 => rfl
    case hy2 =>
      intro w hSw
      try dsimp only at hSw
      obtain ⟨hSw, hS0, hS1, hS2⟩ := hSw
      go_simp
      all_goals with_reducible rfl
    try simp only [Act.put, List.setIfInBounds_toArray, List.set_cons_zero, List.set_cons_succ]
    refine' wpAnyLast_take (i := 3) (oi := _) (v := _) ?hi3 (by kernel_rfl) (by kernel_rfl) (by kernel_rfl) (by kernel_rfl) (by kernel_rfl) ?hQ3 (Or.inl ⟨?hw3, ?hy3⟩) (by assumption) ?rest3
    case hi3 => exact (by simp only [List.getElem?_toArray, List.getElem?_cons_zero, List.getElem?_cons_succ]; rfl)
    case hQ3 => exact fun _ _ _ h => h
    case hw3 => rfl
    case hy3 =>
      intro w hSw
      try dsimp only at hSw
      obtain ⟨hSw, hS0, hS1, hS2⟩ := hSw
      go_simp
      all_goals with_reducible rfl
    try simp only [Act.put, List.setIfInBounds_toArray, List.set_cons_zero, List.set_cons_succ]
    refine' wpAnyLast_take (i := 4) (oi := _) (v := _) ?hi4 (by kernel_rfl) (by kernel_rfl) (by kernel_rfl) (by kernel_rfl) (by kernel_rfl) ?hQ4 (Or.inl ⟨?hw4, ?hy4⟩) (by assumption) ?rest4
    case hi4 => exact (by simp only [List.getElem?_toArray, List.getElem?_cons_zero, List.getElem?_cons_succ]; rfl)
    case hQ4 => exact fun _ _ _ h => h
    case hw4 => rfl
    case hy4 =>
      intro w hSw
      try dsimp only at hSw
      obtain ⟨hSw, hS0, hS1, hS2⟩ := hSw
      go_simp
      all_goals with_reducible rfl
    try simp only [Act.put, List.setIfInBounds_toArray, List.set_cons_zero, List.set_cons_succ]
    refine' wpAnyLast_take (i := 5) (oi := _) (v := _) ?hi5 (by kernel_rfl) (by kernel_rfl) (by kernel_rfl) (by kernel_rfl) (by kernel_rfl) ?hQ5 (Or.inl ⟨?hw5, ?hy5⟩) (by assumption) ?rest5
    case hi5 => exact (by simp only [List.getElem?_toArray, List.getElem?_cons_zero, List.getElem?_cons_succ]; rfl)
    case hQ5 => exact fun _ _ _ h => h
    case hw5 => rfl
    case hy5 =>
      intro w hSw
      try dsimp only at hSw
      obtain ⟨hSw, hS0, hS1, hS2⟩ := hSw
      go_simp
      all_goals with_reducible rfl
    try simp only [Act.put, List.setIfInBounds_toArray, List.set_cons_zero, List.set_cons_succ]
    refine' wpAnyLast_take (i := 6) (oi := _) (v := _) ?hi6 (by kernel_rfl) (by kernel_rfl) (by kernel_rfl) (by kernel_rfl) (by kernel_rfl) ?hQ6 (Or.inl ⟨?hw6, ?hy6⟩) (by assumption) ?rest6
    case hi6 => exact (by simp only [List.getElem?_toArray, List.getElem?_cons_zero, List.getElem?_cons_succ]; rfl)
    case hQ6 => exact fun _ _ _ h => h
    case hw6 => rfl
    case hy6 =>
      intro w hSw
      try dsimp only at hSw
      obtain ⟨hSw, hS0, hS1, hS2⟩ := hSw
      go_simp
      all_goals with_reducible rfl
    try simp only [Act.put, List.setIfInBounds_toArray, List.set_cons_zero, List.set_cons_succ]
    refine wpAnyLast_ready (rs := [7]) (by kernel_rfl) (by simp) ?_
    refine AllReadyL.cons (by simp only [List.getElem?_toArray, List.getElem?_cons_zero, List.getElem?_cons_succ]; rfl) (by simp) (fun K hK => ?_) AllReadyL.nil
    go_simp
    have al0 := (((Below.refl w4.heap.size w4).alloc (Nat.le_refl _) (.cells #[.int .i64 c.n, .int .i64 c.i, .int .i64 c.h, .int .i64 0] 118))).drew
    have at0 : ∀ j u, (cellsT [tl c])[j]? = some u → (w4.alloc (.cells #[.int .i64 c.n, .int .i64 c.i, .int .i64 c.h, .int .i64 0] 118)).drew.cell? ((⟨w4.heap.size, 0, none⟩ : Addr).add j) = some u := oneAt67 w4 (tl c)
    have sz0 : w4.heap.size < (w4.alloc (.cells #[.int .i64 c.n, .int .i64 c.i, .int .i64 c.h, .int .i64 0] 118)).drew.heap.size := by simp
    generalize (w4.alloc (.cells #[.int .i64 c.n, .int .i64 c.i, .int .i64 c.h, .int .i64 0] 118)).drew = wa at *
    have BA := Hid.mk_ (B4.out.trans (al0.mono B4.out.size))
    have SA := Hid.mk_ (hS.out.wr (Wr.of_below al0 (fun _ => False)) (fun _ _ h => h))
    have ba := Hid.mk_ (bx4.out.keep al0)
    refine hK.out _ _ ⟨SA.out.c1, ba.out.c0, ba.out.c1, ba.out.c2⟩ (fun hHeld => ?_)
    clear hK K
    try simp only [Act.put, List.setIfInBounds_toArray, List.set_cons_zero, List.set_cons_succ]
    refine wpAnyLast_ready (rs := [8]) (by kernel_rfl) (by simp) ?_
    refine AllReadyL.cons (by simp only [List.getElem?_toArray, List.getElem?_cons_zero, List.getElem?_cons_succ]; rfl) (by simp) (fun K hK => ?_) AllReadyL.nil
    obtain ⟨i0, hi0, hz0, hz1, hz2⟩ := Rowz.info_parts info67
    refine step_app1 _ (by rfl) _ _ 111 118 (by rfl) i0 (.agg #[.int .i64 0, .int .i64 0, .int .i64 0, .int .i64 0]) 4 32 Tryz.underlying111 hi0 hz0 hz1 hz2 rfl (by decide) (g + 1) (.slice A n k) n (cellsT R) (by rfl) SA.out.own.2 ⟨w4.heap.size, 0, none⟩ _ (cellsT [tl c]) (by rfl) rfl (by exact at0) (cells_one _) (by omega) (by decide) (by have := SA.out.lt; exact this) ?_
    intro v5 w5 g5
    have hw5 := Got.wr g5.out
    have ng : ¬ (Value.slice A n k).ownBlock = some g := fun e => by have := (Rowz.blk SA.out.own.2 g e).1; omega
    have nz : ¬ (Value.slice A n k).ownBlock = some z := fun e => by have := HI.out z (.inr ⟨0, its_of SA.out.own.2 e⟩); have := HZ.out; omega
    have s5 := hw5.cell SA.out.c1 ng
    have f5 := (hw5.frozen SA.out.lt ng).trans SA.out.f1
    refine hK.out _ _ ⟨s5, hw5.cell ba.out.c0 nz, hw5.cell ba.out.c1 nz, hw5.cell ba.out.c2 nz⟩ (fun hHeld => ?_)
    clear hK K
    try simp only [Act.put, List.setIfInBounds_toArray, List.set_cons_zero, List.set_cons_succ]
    have TN : Hid (RTurn w (w5.setCell ⟨g, 1, none⟩ v5) g o A (R ++ [tl c])) := Hid.mk_ (RTurn.app (fun k hk => (HI.out k hk).2) BA.out SA.out g5.out)
    obtain ⟨A5, c5, e5, _⟩ := Rowz.form g5.out.own
    clear hw5 ng nz
    subst e5
    refine' wpAnyLast_take (i := 9) (oi := _) (v := _) ?hi9 (by kernel_rfl) (by kernel_rfl) (by kernel_rfl) (by kernel_rfl) (by kernel_rfl) ?hQ9 (Or.inl ⟨?hw9, ?hy9⟩) (by assumption) ?rest9
    case hi9 => exact (by simp only [List.getElem?_toArray, List.getElem?_cons_zero, List.getElem?_cons_succ]; rfl)
    case hQ9 => exact fun _ _ _ h => h
    case hw9 => rfl
    case hy9 =>
      intro w hSw
      try dsimp only at hSw
      go_simp
      all_goals with_reducible rfl
    try simp only [Act.put, List.setIfInBounds_toArray, List.set_cons_zero, List.set_cons_succ]
    refine' wpAnyLast_take (i := 10) (oi := _) (v := _) ?hi10 (by kernel_rfl) (by kernel_rfl) (by kernel_rfl) (by kernel_rfl) (by kernel_rfl) ?hQ10 (Or.inl ⟨?hw10, ?hy10⟩) (by assumption) ?rest10
    case hi10 => exact (by simp only [List.getElem?_toArray, List.getElem?_cons_zero, List.getElem?_cons_succ]; rfl)
    case hQ10 => exact fun _ _ _ h => h
    case hw10 => rfl
    case hy10 =>
      intro w hSw
      try dsimp only at hSw
      go_simp
      all_goals with_reducible rfl
    try simp only [Act.put, List.setIfInBounds_toArray, List.set_cons_zero, List.set_cons_succ]
    refine wpAnyLast_ready (rs := [11]) (by kernel_rfl) (by simp) ?_
    refine AllReadyL.cons_last (by simp only [List.getElem?_toArray, List.getElem?_cons_zero, List.getElem?_cons_succ]; rfl) (by simp) (fun K hK => ?_) AllReadyL.nil
    go_simp
    refine hK.out _ _ ?_
    clear hK K
    try simp only [Act.put, List.setIfInBounds_toArray, List.set_cons_zero, List.set_cons_succ]
    refine wpAnyLast_done (by kernel_rfl) ?_ _
    go_wp2_with fail
    go_ret
    refine ⟨rfl, R ++ [tl c], Hid.mk_ ?_, Hid.mk_ TN.out⟩
    · rw [EM.out]
      exact (List.perm_append_comm.trans (hp.out.cons (tl c))).trans (ins_perm _ _).symm
  · rw [e] at hcon
    obtain ⟨t, ht⟩ : ∃ t, t = fn R i := ⟨_, rfl⟩
    rw [← ht] at hid
    have htR : R[i]? = some t := by rw [ht]; exact fn_get hi
    have hm : t ∈ L := hp.out.mem_iff.1 (List.mem_of_getElem? htR)
    have eqf : qof c.n L = some t := by rw [← hid]; exact hst.out.find hm
    obtain ⟨r, hr⟩ : ∃ r, r = cmpC t.inc t.hl c.i c.h := ⟨_, rfl⟩
    have HR := Hid.mk_ hr
    have eq : q = decide (r < 0) := by rw [HP.out, eqf, hr, cmp_anti, decide_eq_decide]; omega
    have i0 : (0 : Int) ≤ (i : Int) := by omega
    have HTR := Hid.mk_ htR
    have HSP : Hid ((R.set i (tl c)).Perm (ins (tl c) (without c.n L))) := Hid.mk_ (by
      refine (set_perm R i (tl c) c.n ?_ hi (by rw [← ht]; exact hid)).trans ?_
      · exact ((hp.out.map Tld.node).nodup_iff).2 hst.out.nodup
      · exact ((hp.out.filter _).cons (tl c)).trans (ins_perm _ _).symm)
    have HIL := Hid.mk_ hi
    clear e HP eqf hr hid hm ht htR hi
    go_upto_region 5 with (go_at_call 66; refine hcon.mono ?_; rintro e w4 ⟨rfl, b4⟩)
    have bx4 := Hid.mk_ (bx3.out.keep b4)
    have B4 := Hid.mk_ (B3.out.trans (b4.mono B3.out.size))
    clear x0 x1 x2 f0 f1 f2 bx3 B3 b4 hcon K3
    obtain ⟨x0, x1, x2, f0, f1, f2⟩ := bx4.out
    obtain ⟨n, k, S4⟩ := h.out.below B4.out
    have hS := Hid.mk_ S4
    have hcell := S4.c1
    obtain ⟨b, rfl, _, hbz, ⟨y0, y1, y2, y3⟩, _⟩ := S4.own.row i t HTR.out
    have i1 : (i : Int) < (n : Int) := by have := HIL.out; have := S4.own.1; omega
    have hkc := S4.own.cap
    obtain ⟨hk1, hk2⟩ := hkc
    have lt1 := bx4.out.lt
    have lt2 := S4.lt
    clear S4
    refine wp_draws _ (Below.refl _ _) (by kernel_rfl) (by kernel_rfl) (fun hne hN => ?_)
    repeat (go_big_quiet_step (first | (go_at_call 60; with_reducible exact After.calls (Rth.compare1 t.node t.inc t.hl c.n c.i c.h _ r HR))))
    refine wpQuiet_nil (after_cells ?_)
    intro w5 b5 hc5
    have bx5 := Hid.mk_ (bx4.out.keep b5)
    have S5 := Hid.mk_ (hS.out.wr (Wr.of_below b5 (fun _ => False)) (fun _ _ h => h))
    have B5 := Hid.mk_ (B4.out.trans (b5.mono B4.out.size))
    clear x0 x1 x2 f0 f1 f2 bx4 hS B4 b5 hc5 hcell y0 y1 y2 y3 lt1 lt2 hne hN hbz
    by_cases hr0 : r < 0
    · have e1 : q = true := by rw [eq]; exact decide_eq_true hr0
      have EM : Hid (M = ins (tl c) (without c.n L)) := Hid.mk_ (by rw [HM2.out, e1, if_pos rfl])
      subst e1
      have hr1 : ¬ 0 ≤ r := by omega
      clear eq HM2
      obtain ⟨x0, x1, x2, f0, f1, f2⟩ := bx5.out
      have hcell := S5.out.c1
      obtain ⟨b', eb, hgb, hbz, ⟨y0, y1, y2, y3⟩, g0, g1, g2, g3⟩ := S5.out.own.row i t HTR.out
      injection eb with eb
      injection eb with eb _
      subst eb
      have lt1 := bx5.out.lt
      have lt2 := S5.out.lt
      clear f0 f1 f2
      go_upto_region 7 with fail
      go_region
      go_wp2_with fail
      go_ret
      exact ⟨rfl, R.set i (tl c), Hid.mk_ (by rw [EM.out]; exact HSP.out), Hid.mk_ (RTurn.set S5.out B5.out (tl c))⟩
    · have e1 : q = false := by rw [eq]; exact decide_eq_false hr0
      have EM : Hid (M = L) := Hid.mk_ (by rw [HM2.out, e1]; rfl)
      subst e1
      have hr1 : 0 ≤ r := by omega
      clear eq HM2
      go_wp2_with fail
      go_ret
      exact ⟨rfl, R, by rw [EM.out]; exact hp, Hid.mk_ (RTurn.of_below h.out B5.out)⟩
end Go.Proofs.YthndjhocmpelcaaGreat.Rum
