/- Chapter 3: the document's own queue: how it lies; New, At, SameClaims. Conditions: the rows lie in memory. -/
import Derived.Test.YthndjhocmpelcaaGreatGo
import Derived.Test.YthndjhocmpelcaaGreatRth
namespace Go.Proofs.YthndjhocmpelcaaGreat.Rum
open Go.RowKit Kit Go.Shelf Hth Tri3
set_option linter.unusedVariables false
/-- v is a row of one's own of the document's. -/
def OwnG (w : World) (base : Nat) (v : Value) (n : Nat) (ts : List Tld) : Prop := n = ts.length ∧ w.ownsRow base 118 4 v n (cellsT ts)
theorem OwnG.row {w : World} {base : Nat} {A : Option Addr} {n c : Nat} {ts : List Tld} (h : OwnG w base (.slice A n c) n ts) (j : Nat) (t : Tld) (hj : ts[j]? = some t) : ∃ b, A = some ⟨b, 0, none⟩ ∧ base ≤ b ∧ b < w.heap.size ∧
    (w.cell? ⟨b, j * 4, none⟩ = some (.int .i64 t.node) ∧ w.cell? ⟨b, j * 4 + 1, none⟩ = some (.int .i64 t.inc) ∧ w.cell? ⟨b, j * 4 + 2, none⟩ = some (.int .i64 t.hl) ∧ w.cell? ⟨b, j * 4 + 3, none⟩ = some (.int .i64 t.n)) ∧
    w.frozen? ⟨b, j * 4, none⟩ = false ∧ w.frozen? ⟨b, j * 4 + 1, none⟩ = false ∧ w.frozen? ⟨b, j * 4 + 2, none⟩ = false ∧ w.frozen? ⟨b, j * 4 + 3, none⟩ = false := by
  obtain ⟨hn, h⟩ := h
  subst hn
  have h0 := h
  have hlt := (List.getElem?_eq_some_iff.1 hj).1
  obtain ⟨c0, c1, c2, c3⟩ := cells_get ts j t hj
  obtain ⟨A', c', e, h1, h2, h3 | ⟨b, h3, h4, h5⟩⟩ := Rowz.form h
  · omega
  · injection e with e1 e2 e3
    subst e1
    subst h3
    refine ⟨b, rfl, h4, h5, ⟨?_, ?_, ?_, ?_⟩, World.ownsRow.frozenAt h0 _, World.ownsRow.frozenAt h0 _, World.ownsRow.frozenAt h0 _, World.ownsRow.frozenAt h0 _⟩
    · rw [World.ownsRow.cellAt h0 (j * 4) (by omega), c0]
    · rw [World.ownsRow.cellAt h0 (j * 4 + 1) (by omega), c1]
    · rw [World.ownsRow.cellAt h0 (j * 4 + 2) (by omega), c2]
    · rw [World.ownsRow.cellAt h0 (j * 4 + 3) (by omega), c3]
theorem OwnG.cap {w : World} {base : Nat} {A : Option Addr} {n c : Nat} {ts : List Tld} (h : OwnG w base (.slice A n c) n ts) : n ≤ c ∧ c ≤ 9223372036854775807 := by
  obtain ⟨_, c', e, h1, h2, _⟩ := Rowz.form h.2
  injection e with _ _ e2
  omega
theorem OwnG.below {w w' : World} {base : Nat} {v : Value} {n : Nat} {cs : List Tld} (h : OwnG w base v n cs) (hb : Below w.heap.size w w') : OwnG w' base v n cs := ⟨h.1, Rowz.below h.2 hb⟩
theorem info67 : (Tryz.prog.info? 118).map (fun i => (i.zero, i.size, i.bytes)) = some (some (.agg #[.int .i64 0, .int .i64 0, .int .i64 0, .int .i64 0]), 4, 32) := by kernel_rfl
/-- The document's own queue at g. -/
structure RQS (w : World) (g : Nat) (o : Int) (A : Option Addr) (n c : Nat) (R : List Tld) : Prop where
  c0 : w.cell? ⟨g, 0, none⟩ = some (.int .i64 o)
  c1 : w.cell? ⟨g, 1, none⟩ = some (.slice A n c)
  f1 : w.frozen? ⟨g, 1, none⟩ = false
  own : OwnG w (g + 1) (.slice A n c) n R
theorem RQS.lt {w : World} {g : Nat} {o : Int} {A : Option Addr} {n c : Nat} {R : List Tld} (h : RQS w g o A n c R) : g < w.heap.size := World.block_lt_of_cell? w _ h.c0
theorem RQS.wr {w w' : World} {S : Nat → Prop} {g : Nat} {o : Int} {A : Option Addr} {n c : Nat} {R : List Tld} (h : RQS w g o A n c R) (hw : Wr w w' S) (hd : ∀ k, Its g A k → ¬ S k) : RQS w' g o A n c R := by
  have hg := hd g (.inl rfl)
  refine ⟨hw.cell h.c0 hg, hw.cell h.c1 hg, (hw.frozen h.lt hg).trans h.f1, h.own.1, Rowz.keep h.own.2 fun k hk hlt => hw.block k hlt (hd k ?_)⟩
  cases A with
  | none => cases hk
  | some a =>
    obtain ⟨_, c', e, h1, h2, ⟨h3, _⟩ | ⟨b, h3, _⟩⟩ := Rowz.form h.own.2
    · injection e with e1; rw [← e1] at h3; cases h3
    · injection e with e1
      rw [← e1] at h3
      injection h3 with h3
      subst h3
      injection hk with hk
      subst hk
      exact .inr ⟨0, rfl⟩
def RQ (w : World) (g : Nat) (o : Int) (A : Option Addr) (R : List Tld) : Prop := ∃ n c, RQS w g o A n c R
theorem RQ.wr {w w' : World} {S : Nat → Prop} {g : Nat} {o : Int} {A : Option Addr} {R : List Tld} (h : RQ w g o A R) (hw : Wr w w' S) (hd : ∀ k, Its g A k → ¬ S k) : RQ w' g o A R := by
  obtain ⟨n, c, h⟩ := h
  exact ⟨n, c, h.wr hw hd⟩
theorem RQ.below {w w' : World} {g : Nat} {o : Int} {A : Option Addr} {R : List Tld} (h : RQ w g o A R) (hw : Below w.heap.size w w') : RQ w' g o A R := h.wr (Wr.of_below hw (fun _ => False)) (fun k _ h => h)
theorem RQ.its {w : World} {g : Nat} {o : Int} {A : Option Addr} {R : List Tld} (h : RQ w g o A R) : ∀ k, Its g A k → g ≤ k ∧ k < w.heap.size := by
  obtain ⟨n, c, h⟩ := h
  rintro k (rfl | ⟨off, rfl⟩)
  · exact ⟨Nat.le_refl _, h.lt⟩
  · have := Rowz.blk h.own.2
    obtain ⟨_, c', e, h1, h2, ⟨h3, _⟩ | ⟨b, h3, h4, h5⟩⟩ := Rowz.form h.own.2
    · injection e with e1; rw [← e1] at h3; cases h3
    · injection e with e1
      rw [← e1] at h3
      injection h3 with h3
      injection h3 with h3
      omega
/-- The document's queue at g is turned to M; nothing else is. -/
def RTurn (w w' : World) (g : Nat) (o : Int) (A : Option Addr) (M : List Tld) : Prop := ∃ A', RQ w' g o A' M ∧ Fresh w A A' ∧ Wr w w' (Its g A)
theorem RTurn.of_below {w w' : World} {g : Nat} {o : Int} {A : Option Addr} {L : List Tld} (h : RQ w g o A L) (hb : Below w.heap.size w w') : RTurn w w' g o A L :=
  ⟨A, h.below hb, Fresh.refl _ _, Wr.of_below hb _⟩
theorem RTurn.trans {w w1 w2 : World} {g : Nat} {o : Int} {A : Option Addr} {L M : List Tld} (h : RTurn w w1 g o A L) (k : ∀ A', RQ w1 g o A' L → RTurn w1 w2 g o A' M) : RTurn w w2 g o A M := by
  obtain ⟨A1, h1, h2, h3⟩ := h
  obtain ⟨A2, k1, k2, k3⟩ := k A1 h1
  exact ⟨A2, k1, h2.trans k2 h3.size, h3.then_ k3 (h2.its g)⟩
theorem rmade (w : World) (o : Int) : RQ (w.alloc (.cells #[.int .i64 o, .slice none 0 0] 113)) w.heap.size o none [] :=
  ⟨0, 0, by rw [World.cell?_alloc_new]; rfl, by rw [World.cell?_alloc_new]; rfl, World.frozen?_alloc_new _ _ _ _, rfl, Rowz.nil _ _ _ _⟩
theorem rnew0 (w : World) (a : Int) (o : Int) (ho : Hid (o = ofn a)) : Calls Tryz.prog 33 #[.int .i64 a] w fun e w' => ∃ g, e = .returned (.pointer (some ⟨g, 0, none⟩)) ∧ Hid (RQ w' g o none []) ∧ Hid (w.heap.size ≤ g) ∧ Below w.heap.size w w' := by
  have hal := (Below.refl w.heap.size w).alloc (Nat.le_refl _) (.cells #[.int .i64 o, .slice none 0 0] 113)
  by_cases h1 : a < 1
  · have e : o = 1 := by rw [ho.out]; unfold ofn; rw [if_pos h1]
    have h2 : ¬ 20 < a := by omega
    have h3 : ¬ (1 < a) := by omega
    subst e
    clear ho
    go_enter Tryz.func33, Tryz.ntmps33
    go_wp2_with fail
    go_ret
    exact ⟨w.heap.size, rfl, Hid.mk_ (rmade w 1), Hid.mk_ (Nat.le_refl _), hal⟩
  · by_cases h2 : 20 < a
    · have e : o = 20 := by rw [ho.out]; unfold ofn; rw [if_neg h1, if_pos h2]
      subst e
      clear ho
      go_enter Tryz.func33, Tryz.ntmps33
      go_wp2_with fail
      go_ret
      exact ⟨w.heap.size, rfl, Hid.mk_ (rmade w 20), Hid.mk_ (Nat.le_refl _), hal⟩
    · have e : a = o := by rw [ho.out]; unfold ofn; rw [if_neg h1, if_neg h2]
      subst e
      clear ho
      by_cases h3 : 1 < a
      · go_enter Tryz.func33, Tryz.ntmps33
        go_wp2_with fail
        go_ret
        exact ⟨w.heap.size, rfl, Hid.mk_ (rmade w a), Hid.mk_ (Nat.le_refl _), hal⟩
      · obtain rfl : a = 1 := by omega
        clear h1 h2 h3
        go_enter Tryz.func33, Tryz.ntmps33
        go_wp2_with fail
        go_ret
        exact ⟨w.heap.size, rfl, Hid.mk_ (rmade w 1), Hid.mk_ (Nat.le_refl _), hal⟩
set_option maxRecDepth 100000 in
set_option maxHeartbeats 2000000 in
theorem rat0 (w : World) (g : Nat) (o : Int) (A : Option Addr) (R : List Tld) (id : Int) (h : Hid (RQ w g o A R)) (x : Int) (hx : Hid (x = plc R id)) :
    Calls Tryz.prog 66 #[.pointer (some ⟨g, 0, none⟩), .int .i64 id] w fun e w' => e = .returned (.int .i64 x) ∧ Below w.heap.size w w' := by
  obtain ⟨n, c, h1⟩ := h.out
  have hcell := h1.c1
  have hn := Hid.mk_ h1.own.1
  obtain ⟨hc1, hc2⟩ := h1.own.cap
  have RW := Hid.mk_ h1.own
  clear h1
  go_enter Tryz.func66, Tryz.ntmps66
  go_wp2_with fail
  go_loopw [12] (fun i wr => ∃ k : Nat, i = .int .i64 (k : Int) ∧ k ≤ n ∧ Hid (∀ j, j < k → (fn R j).node ≠ id) ∧ Hid (Below w.heap.size w wr)) (fun i _ => n - (intOf i).toNat)
  case atStart => exact ⟨0, rfl, by omega, Hid.mk_ (fun j hj => absurd hj (Nat.not_lt_zero _)), Hid.mk_ (Below.refl _ _)⟩
  case round =>
    obtain ⟨k, rfl, hk, HA, BW⟩ := hrel
    by_cases hlt : k < n
    · have hkR : k < R.length := by have := hn.out; omega
      obtain ⟨m, hm⟩ : ∃ m, R[k]? = some m := ⟨_, List.getElem?_eq_getElem hkR⟩
      obtain ⟨b, rfl, _, _, ⟨c0, c1, c2, c3⟩, _⟩ := (RW.out.below BW.out).row k m hm
      have HM : Hid (m = fn R k) := Hid.mk_ (by have := fn_get hkR; rw [hm] at this; injection this)
      have HK := Hid.mk_ hkR
      clear hm hkR
      have l1 : (k : Int) < (n : Int) := by omega
      have l0 : (0 : Int) ≤ (k : Int) := by omega
      go_upto_region 4 with fail
      have x0 : (wr.alloc (.cells #[.int .i64 m.node, .int .i64 m.inc, .int .i64 m.hl, .int .i64 m.n] 118)).cell? ⟨wr.heap.size, 0, none⟩ = some (.int .i64 m.node) := by rw [World.cell?_alloc_new]; rfl
      have B3 := Hid.mk_ (BW.out.alloc BW.out.size (.cells #[.int .i64 m.node, .int .i64 m.inc, .int .i64 m.hl, .int .i64 m.n] 118))
      clear c0 c1 c2 c3 BW
      generalize wr.alloc (.cells #[.int .i64 m.node, .int .i64 m.inc, .int .i64 m.hl, .int .i64 m.n] 118) = wx at *
      by_cases hi : m.node = id
      · have hib : (m.node == id) = true := by simp [hi]
        have hr := hx.out
        unfold plc at hr
        rw [findIdx_hit R id k HK.out (by rw [← HM.out]; exact hi) HA.out] at hr
        simp only at hr
        subst hr
        clear hi
        go_wp2_with fail
        go_ret
        exact ⟨rfl, B3.out⟩
      · have hib : (m.node == id) = false := by simp [hi]
        have HI := Hid.mk_ hi
        clear hi
        go_wp2_with fail
        go_roundw
        case rel => exact ⟨k + 1, by go_num, by omega, Hid.mk_ (fun j hj => by
          by_cases e : j = k
          · subst e
            rw [← HM.out]; exact HI.out
          · exact HA.out j (by omega)), B3⟩
        case measure => simp [intOf]; omega
    · obtain rfl : k = n := by omega
      have hr := hx.out
      unfold plc at hr
      rw [findIdx_miss R id (fun j hj => HA.out j (by have := hn.out; omega))] at hr
      simp only at hr
      subst hr
      go_wp2_with fail
      go_ret
      exact ⟨rfl, BW.out⟩
set_option maxRecDepth 100000 in
set_option maxHeartbeats 2000000 in
theorem same0 (w : World) (cs : List Cl) (A B : Option Addr) (n c m d : Nat) (hA : Hid (ClAt w A cs)) (hB : Hid (ClAt w B cs)) (hn : Hid (n = cs.length)) (hm : Hid (m = n)) (hc : n ≤ c) (hcc : c ≤ 9223372036854775807) (hd : m ≤ d) (hdd : d ≤ 9223372036854775807) :
    Calls Tryz.prog 20 #[.slice A n c, .slice B m d] w fun e w' => e = .returned (.bool true) ∧ Below w.heap.size w w' := by
  obtain rfl : m = n := hm.out
  clear hm
  go_enter Tryz.func20, Tryz.ntmps20
  go_wp2_with fail
  go_loopw [13] (fun i wr => ∃ k : Nat, i = .int .i64 (k : Int) ∧ k ≤ m ∧ Hid (Below w.heap.size w wr)) (fun i _ => m - (intOf i).toNat)
  case atStart => exact ⟨0, rfl, by omega, Hid.mk_ (Below.refl _ _)⟩
  case round =>
    obtain ⟨k, rfl, hk, BW⟩ := hrel
    by_cases hlt : k < m
    · obtain ⟨t, ht⟩ : ∃ t, cs[k]? = some t := ⟨_, List.getElem?_eq_getElem (by have := hn.out; omega)⟩
      obtain ⟨a, ao, rfl, la, a0, a1, a2⟩ := (hA.out.keep BW.out) k t ht
      obtain ⟨b, bo, rfl, lb, b0, b1, b2⟩ := (hB.out.keep BW.out) k t ht
      have l1 : (k : Int) < (m : Int) := by omega
      have l0 : (0 : Int) ≤ (k : Int) := by omega
      have ne := neq53_self t.n t.i t.h
      clear ht
      go_upto_region 6 with fail
      refine wp_draws _ (Below.refl _ _) (by kernel_rfl) (by kernel_rfl) (fun hne hN => ?_)
      repeat (go_big_quiet_step (fail))
      refine wpQuiet_nil (after_cells ?_)
      intro w4 b4 _
      go_wp2_with fail
      go_roundw
      case rel => exact ⟨k + 1, by go_num, by omega, Hid.mk_ (BW.out.trans (b4.mono BW.out.size))⟩
      case measure => simp [intOf]; omega
    · obtain rfl : k = m := by omega
      go_wp2_with fail
      go_ret
      exact ⟨rfl, BW.out⟩
end Go.Proofs.YthndjhocmpelcaaGreat.Rum
