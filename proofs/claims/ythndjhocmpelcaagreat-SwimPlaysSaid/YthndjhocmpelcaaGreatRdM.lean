/- Chapter 6, the document's own detector handles a message. Conditions: its parts lie in blocks apart; the message's claims lie in memory, not in them. -/
import Derived.Test.YthndjhocmpelcaaGreatRdL
namespace Go.Proofs.YthndjhocmpelcaaGreat.Rd
open Go.RowKit Kit Tri3 Swi
open Go.Proofs.YthndjhocmpelcaaGreat.Hth (cmpI cmpC nodeB mayC)
set_option linter.unusedVariables false
theorem SentR.fin {w w1 w2 : World} {S S1 : Nat → Prop} {g : Nat} {d' : Dt} {v : Value} {ms : List Om} (h : SentR w1 w2 S1 (fun _ => False) g w.heap.size d' v ms) (hw : Rum.Wr w w1 S) (hS : ∀ k, S1 k → S k ∨ w.heap.size ≤ k) : ∃ T, Hid (Outs w2 w.heap.size v ms T) ∧ Hid (RTurnX w w2 S g d' T) := by
  obtain ⟨S', T', h1, h2, h3, h4, h5, h6⟩ := h
  exact ⟨T', Hid.mk_ h4, Hid.mk_ ⟨S', h1, fun k hk => (h2 k hk).elim (hS k) (fun h => .inr (Nat.le_trans hw.size h)), hw.then_ h3 (fun i hi => hi.elim (hS i) (fun h => h.elim)), h6⟩⟩
theorem RTurnX.of {w w' : World} {S : Nat → Prop} {g : Nat} {d : Dt} (h : RTurn w w' S g d) : RTurnX w w' S g d (fun _ => False) := by
  obtain ⟨S1, h1, k1, r1⟩ := h
  exact ⟨S1, h1, k1, r1, fun _ _ h => h⟩
theorem dHears_none (d : Dt) (c : Cl) (h : c.h = 0) : dHears d c = d := by
  unfold dHears dRef dbt Bel.hearB
  rw [h]
  simp
theorem dAns_no {e : Dt} {k s fo : Int} (h : ¬ (k = 2 ∧ fo = e.self)) : dAns e k s fo = e := by
  unfold dAns
  rw [if_neg (fun h2 => h ⟨h2.1, h2.2.1⟩)]
section
variable {d e : Dt} {k f t s fo ab : Int} {ls : List Cl}
theorem hnd (hno : ¬ (t ≠ d.self ∨ nodeB f = false ∨ f = d.self)) (he : e = dMeets d f ls) :
    dHandle d k f t s fo ab ls = (if (an e k f s fo ab).k = 0 ∨ (dAns e k s fo).left = true then dAns e k s fo else dSent (dAns e k s fo)) ∧ oHandle d k f t s fo ab ls = (if (an e k f s fo ab).k = 0 ∨ (dAns e k s fo).left = true then [] else [⟨(an e k f s fo ab).k, (dAns e k s fo).self, (an e k f s fo ab).t, (an e k f s fo ab).s, (an e k f s fo ab).fo, 0, dClaims (dAns e k s fo) (an e k f s fo ab).t⟩]) := by
  subst he
  unfold dHandle oHandle
  rw [if_neg hno, if_neg hno]
  exact ⟨rfl, rfl⟩
theorem hnd1 (hno : ¬ (t ≠ d.self ∨ nodeB f = false ∨ f = d.self)) (he : e = dMeets d f ls) (h2 : k = 2) (hs : fo = e.self) : dHandle d k f t s fo ab ls = dAns e k s fo ∧ oHandle d k f t s fo ab ls = [] := by
  have h0 : (an e k f s fo ab).k = 0 := by unfold an; rw [if_neg (by omega), if_pos h2, if_pos hs]
  obtain ⟨a, b⟩ := hnd (k := k) (s := s) (fo := fo) (ab := ab) hno he
  rw [a, b, if_pos (.inl h0), if_pos (.inl h0)]
  exact ⟨rfl, rfl⟩
theorem hnd2 (hno : ¬ (t ≠ d.self ∨ nodeB f = false ∨ f = d.self)) (he : e = dMeets d f ls) (hk : ¬ (k = 2 ∧ fo = e.self)) (hl : e.left = true) : dHandle d k f t s fo ab ls = e ∧ oHandle d k f t s fo ab ls = [] := by
  obtain ⟨a, b⟩ := hnd (k := k) (s := s) (fo := fo) (ab := ab) hno he
  rw [dAns_no hk] at a b
  rw [a, b, if_pos (.inr hl), if_pos (.inr hl)]
  exact ⟨rfl, rfl⟩
theorem hndS (hno : ¬ (t ≠ d.self ∨ nodeB f = false ∨ f = d.self)) (he : e = dMeets d f ls) (hk : ¬ (k = 2 ∧ fo = e.self)) (hl : e.left = false) (x : An) (hx : an e k f s fo ab = x) (h0 : ¬ x.k = 0) : dHandle d k f t s fo ab ls = dSent e ∧ oHandle d k f t s fo ab ls = [⟨x.k, e.self, x.t, x.s, x.fo, 0, dClaims e x.t⟩] := by
  obtain ⟨a, b⟩ := hnd (k := k) (s := s) (fo := fo) (ab := ab) hno he
  rw [dAns_no hk] at a b
  have hn : ¬ ((an e k f s fo ab).k = 0 ∨ e.left = true) := by
    rintro (h | h)
    · rw [hx] at h; exact h0 h
    · rw [hl] at h; cases h
  rw [a, b, if_neg hn, if_neg hn, hx]
  exact ⟨rfl, rfl⟩
theorem hndN (hno : ¬ (t ≠ d.self ∨ nodeB f = false ∨ f = d.self)) (he : e = dMeets d f ls) (hk : ¬ (k = 2 ∧ fo = e.self)) (h0 : (an e k f s fo ab).k = 0) : dHandle d k f t s fo ab ls = e ∧ oHandle d k f t s fo ab ls = [] := by
  obtain ⟨a, b⟩ := hnd (k := k) (s := s) (fo := fo) (ab := ab) hno he
  rw [dAns_no hk] at a b
  rw [a, b, if_pos (.inl h0), if_pos (.inl h0)]
  exact ⟨rfl, rfl⟩
end
theorem rnode (x : Int) (w : World) (b : Bool) (hb : Hid (b = nodeB x)) : Calls Tryz.prog 31 #[.int .i64 x] w fun e w' => e = .returned (.bool b) ∧ Below w.heap.size w w' := by
  refine (Rth.node1 x w b hb).mono ?_
  rintro e w' ⟨rfl, rfl⟩
  exact ⟨rfl, Below.refl _ _⟩
theorem onN_of {f : Int} (h : nodeB f = true) : Bel.onN f = f := by
  unfold nodeB at h
  unfold Bel.onN
  rw [if_pos (by simpa using h)]
set_option maxRecDepth 100000 in
set_option maxHeartbeats 8000000 in
theorem handleR_no1 (w : World) (S : Nat → Prop) (g : Nat) (d : Dt) (cs : Array Value) (k f t s fo ab : Int) (P : Option Addr) (n c : Nat) (ls : List Cl) (hD : Hid (DetD w S g d)) (hv : Hid (Vok d)) (hc : Hid (MsgC cs k f t s fo ab (.slice P n c))) (hl : Hid (ClAt w P ls)) (hS : Hid (∀ b off, P = some ⟨b, off, none⟩ → 0 < n → ¬ S b)) (hn : Hid (n = ls.length)) (hnc : n ≤ c) (hcc : c ≤ 9223372036854775807) (ht : ¬ t = d.self) :
    Calls Tryz.prog 14 #[.pointer (some ⟨g, 0, none⟩), .agg cs] w fun e w' => e = .returned (.slice none 0 0) ∧ Below w.heap.size w w' := by
  have al := Hid.mk_ ((Below.refl w.heap.size w).alloc (Nat.le_refl _) (.cells cs 46))
  have NS := Hid.mk_ hD.out.blk
  have M0 : Hid ((w.alloc (.cells cs 46)).heap[w.heap.size]? = some (.cells cs 46 (0, 0))) := Hid.mk_ (heap_alloc_new w _)
  have D1 := Hid.mk_ (hD.out.below al.out)
  have L1 := Hid.mk_ (hl.out.keep al.out)
  go_enter Tryz.func14, Tryz.ntmps14
  go_upto_region 1 with fail
  generalize w.alloc (.cells cs 46) = w1 at *
  obtain ⟨z, hz⟩ : ∃ z, z = w.heap.size := ⟨_, rfl⟩
  have HZ := Hid.mk_ hz
  have NZ : Hid (∀ i, S i → i < z) := Hid.mk_ (fun i hi => by have := NS.out i hi; omega)
  rw [← hz] at M0 ⊢
  clear hz NS
  have m1 : w1.cell? ⟨z, 1, none⟩ = some (.int .i64 f) := by rw [cell_of_row w1 z 1 cs 46 (0, 0) M0.out]; exact hc.out.c1
  have m2 : w1.cell? ⟨z, 2, none⟩ = some (.int .i64 t) := by rw [cell_of_row w1 z 2 cs 46 (0, 0) M0.out]; exact hc.out.c2
  obtain ⟨gv, gq, go, gc, A, B, n1, cc, C, X⟩ := D1.out
  have c0 : w1.cell? ⟨g, 0, none⟩ = some (.int .i64 d.self) := X.dcs.cell 0
  have lt1 := X.dcs.lt
  have lt2 := World.block_lt_of_cell? w1 _ m1
  clear X
  have htb : (t != d.self) = true := by simp [ht]
  clear ht
  refine wp_draws _ (Below.refl _ _) (by kernel_rfl) (by kernel_rfl) (fun hne hN => ?_)
  repeat (go_big_quiet_step (fail))
  refine wpQuiet_nil (after_cells ?_)
  intro w2 b2 hc2
  have B2 := Hid.mk_ (al.out.trans (b2.mono al.out.size))
  clear hne hN hc2 lt1 lt2 m1 m2 c0
  go_wp2_with fail
  go_ret
  exact ⟨rfl, B2.out⟩
set_option maxRecDepth 100000 in
set_option maxHeartbeats 8000000 in
theorem handleR_no2 (w : World) (S : Nat → Prop) (g : Nat) (d : Dt) (cs : Array Value) (k f t s fo ab : Int) (P : Option Addr) (n c : Nat) (ls : List Cl) (hD : Hid (DetD w S g d)) (hv : Hid (Vok d)) (hc : Hid (MsgC cs k f t s fo ab (.slice P n c))) (hl : Hid (ClAt w P ls)) (hS : Hid (∀ b off, P = some ⟨b, off, none⟩ → 0 < n → ¬ S b)) (hn : Hid (n = ls.length)) (hnc : n ≤ c) (hcc : c ≤ 9223372036854775807) (ht : t = d.self) (hb : Hid (false = nodeB f)) :
    Calls Tryz.prog 14 #[.pointer (some ⟨g, 0, none⟩), .agg cs] w fun e w' => e = .returned (.slice none 0 0) ∧ Below w.heap.size w w' := by
  have al := Hid.mk_ ((Below.refl w.heap.size w).alloc (Nat.le_refl _) (.cells cs 46))
  have NS := Hid.mk_ hD.out.blk
  have M0 : Hid ((w.alloc (.cells cs 46)).heap[w.heap.size]? = some (.cells cs 46 (0, 0))) := Hid.mk_ (heap_alloc_new w _)
  have D1 := Hid.mk_ (hD.out.below al.out)
  have L1 := Hid.mk_ (hl.out.keep al.out)
  go_enter Tryz.func14, Tryz.ntmps14
  go_upto_region 1 with fail
  generalize w.alloc (.cells cs 46) = w1 at *
  obtain ⟨z, hz⟩ : ∃ z, z = w.heap.size := ⟨_, rfl⟩
  have HZ := Hid.mk_ hz
  have NZ : Hid (∀ i, S i → i < z) := Hid.mk_ (fun i hi => by have := NS.out i hi; omega)
  rw [← hz] at M0 ⊢
  clear hz NS
  have m1 : w1.cell? ⟨z, 1, none⟩ = some (.int .i64 f) := by rw [cell_of_row w1 z 1 cs 46 (0, 0) M0.out]; exact hc.out.c1
  have m2 : w1.cell? ⟨z, 2, none⟩ = some (.int .i64 t) := by rw [cell_of_row w1 z 2 cs 46 (0, 0) M0.out]; exact hc.out.c2
  obtain ⟨gv, gq, go, gc, A, B, n1, cc, C, X⟩ := D1.out
  have c0 : w1.cell? ⟨g, 0, none⟩ = some (.int .i64 d.self) := X.dcs.cell 0
  have lt1 := X.dcs.lt
  have lt2 := World.block_lt_of_cell? w1 _ m1
  clear X
  have htb : (t != d.self) = false := by simp [ht]
  clear ht
  refine wp_draws _ (Below.refl _ _) (by kernel_rfl) (by kernel_rfl) (fun hne hN => ?_)
  repeat (go_big_quiet_step (first | (go_at_call 31; with_reducible exact After.calls (rnode f _ false hb)) | fail))
  refine wpQuiet_nil (after_cells ?_)
  intro w2 b2 hc2
  have B2 := Hid.mk_ (al.out.trans (b2.mono al.out.size))
  clear hne hN hc2 lt1 lt2 m1 m2 c0
  go_wp2_with fail
  go_ret
  exact ⟨rfl, B2.out⟩
set_option maxRecDepth 100000 in
set_option maxHeartbeats 8000000 in
theorem handleR_no3 (w : World) (S : Nat → Prop) (g : Nat) (d : Dt) (cs : Array Value) (k f t s fo ab : Int) (P : Option Addr) (n c : Nat) (ls : List Cl) (hD : Hid (DetD w S g d)) (hv : Hid (Vok d)) (hc : Hid (MsgC cs k f t s fo ab (.slice P n c))) (hl : Hid (ClAt w P ls)) (hS : Hid (∀ b off, P = some ⟨b, off, none⟩ → 0 < n → ¬ S b)) (hn : Hid (n = ls.length)) (hnc : n ≤ c) (hcc : c ≤ 9223372036854775807) (ht : t = d.self) (hb : Hid (true = nodeB f)) (hf : f = d.self) :
    Calls Tryz.prog 14 #[.pointer (some ⟨g, 0, none⟩), .agg cs] w fun e w' => e = .returned (.slice none 0 0) ∧ Below w.heap.size w w' := by
  have al := Hid.mk_ ((Below.refl w.heap.size w).alloc (Nat.le_refl _) (.cells cs 46))
  have NS := Hid.mk_ hD.out.blk
  have M0 : Hid ((w.alloc (.cells cs 46)).heap[w.heap.size]? = some (.cells cs 46 (0, 0))) := Hid.mk_ (heap_alloc_new w _)
  have D1 := Hid.mk_ (hD.out.below al.out)
  have L1 := Hid.mk_ (hl.out.keep al.out)
  go_enter Tryz.func14, Tryz.ntmps14
  go_upto_region 1 with fail
  generalize w.alloc (.cells cs 46) = w1 at *
  obtain ⟨z, hz⟩ : ∃ z, z = w.heap.size := ⟨_, rfl⟩
  have HZ := Hid.mk_ hz
  have NZ : Hid (∀ i, S i → i < z) := Hid.mk_ (fun i hi => by have := NS.out i hi; omega)
  rw [← hz] at M0 ⊢
  clear hz NS
  have m1 : w1.cell? ⟨z, 1, none⟩ = some (.int .i64 f) := by rw [cell_of_row w1 z 1 cs 46 (0, 0) M0.out]; exact hc.out.c1
  have m2 : w1.cell? ⟨z, 2, none⟩ = some (.int .i64 t) := by rw [cell_of_row w1 z 2 cs 46 (0, 0) M0.out]; exact hc.out.c2
  obtain ⟨gv, gq, go, gc, A, B, n1, cc, C, X⟩ := D1.out
  have c0 : w1.cell? ⟨g, 0, none⟩ = some (.int .i64 d.self) := X.dcs.cell 0
  have lt1 := X.dcs.lt
  have lt2 := World.block_lt_of_cell? w1 _ m1
  clear X
  have htb : (t != d.self) = false := by simp [ht]
  have hfb : (f == d.self) = true := by simp [hf]
  clear ht hf
  refine wp_draws _ (Below.refl _ _) (by kernel_rfl) (by kernel_rfl) (fun hne hN => ?_)
  repeat (go_big_quiet_step (first | (go_at_call 31; with_reducible exact After.calls (rnode f _ true hb)) | fail))
  refine wpQuiet_nil (after_cells ?_)
  intro w2 b2 hc2
  have B2 := Hid.mk_ (al.out.trans (b2.mono al.out.size))
  clear hne hN hc2 lt1 lt2 m1 m2 c0
  go_wp2_with fail
  go_ret
  exact ⟨rfl, B2.out⟩
set_option maxRecDepth 100000 in
set_option maxHeartbeats 16000000 in
theorem handleR_yes (w : World) (S : Nat → Prop) (g : Nat) (d : Dt) (cs : Array Value) (k f t s fo ab : Int) (P : Option Addr) (n c : Nat) (ls : List Cl) (hD : Hid (DetD w S g d)) (hv : Hid (Vok d)) (hc : Hid (MsgC cs k f t s fo ab (.slice P n c))) (hl : Hid (ClAt w P ls)) (hS : Hid (∀ b off, P = some ⟨b, off, none⟩ → 0 < n → ¬ S b)) (hn : Hid (n = ls.length)) (hnc : n ≤ c) (hcc : c ≤ 9223372036854775807) (ht : t = d.self) (hb : Hid (true = nodeB f)) (hf : ¬ f = d.self) (d' : Dt) (hd : Hid (d' = dHandle d k f t s fo ab ls)) (ms : List Om) (hms : Hid (ms = oHandle d k f t s fo ab ls)) :
    Calls Tryz.prog 14 #[.pointer (some ⟨g, 0, none⟩), .agg cs] w fun e w' => ∃ v T, e = .returned v ∧ Hid (Outs w' w.heap.size v ms T) ∧ Hid (RTurnX w w' S g d' T) := by
  have al := Hid.mk_ ((Below.refl w.heap.size w).alloc (Nat.le_refl _) (.cells cs 46))
  have NS := Hid.mk_ hD.out.blk
  have M0 : Hid ((w.alloc (.cells cs 46)).heap[w.heap.size]? = some (.cells cs 46 (0, 0))) := Hid.mk_ (heap_alloc_new w _)
  have D1 := Hid.mk_ (hD.out.below al.out)
  have L1 := Hid.mk_ (hl.out.keep al.out)
  go_enter Tryz.func14, Tryz.ntmps14
  go_upto_region 1 with fail
  generalize w.alloc (.cells cs 46) = w1 at *
  obtain ⟨z, hz⟩ : ∃ z, z = w.heap.size := ⟨_, rfl⟩
  have HZ := Hid.mk_ hz
  have NZ : Hid (∀ i, S i → i < z) := Hid.mk_ (fun i hi => by have := NS.out i hi; omega)
  rw [← hz] at M0 ⊢
  clear hz NS
  have m1 : w1.cell? ⟨z, 1, none⟩ = some (.int .i64 f) := by rw [cell_of_row w1 z 1 cs 46 (0, 0) M0.out]; exact hc.out.c1
  have m2 : w1.cell? ⟨z, 2, none⟩ = some (.int .i64 t) := by rw [cell_of_row w1 z 2 cs 46 (0, 0) M0.out]; exact hc.out.c2
  obtain ⟨gv, gq, go, gc, A, B, n1, cc, C, X⟩ := D1.out
  have c0 : w1.cell? ⟨g, 0, none⟩ = some (.int .i64 d.self) := X.dcs.cell 0
  have lt1 := X.dcs.lt
  have lt2 := World.block_lt_of_cell? w1 _ m1
  clear X
  have htb : (t != d.self) = false := by simp [ht]
  have hfb : (f == d.self) = false := by simp [hf]
  have HNO : Hid (¬ (t ≠ d.self ∨ nodeB f = false ∨ f = d.self)) := Hid.mk_ (by
    rintro (h | h | h)
    · exact h ht
    · rw [← hb.out] at h; cases h
    · exact hf h)
  clear ht hf
  refine wp_draws _ (Below.refl _ _) (by kernel_rfl) (by kernel_rfl) (fun hne hN => ?_)
  repeat (go_big_quiet_step (first | (go_at_call 31; with_reducible exact After.calls (rnode f _ true hb)) | fail))
  refine wpQuiet_nil (after_cells ?_)
  intro w2 b2 hc2
  have B2 := Hid.mk_ (al.out.trans (b2.mono al.out.size))
  have M2 : Hid (w2.heap[z]? = some (.cells cs 46 (0, 0))) := Hid.mk_ ((b2.block z (Array.getElem?_eq_some_iff.1 M0.out).1).trans M0.out)
  have D2 := Hid.mk_ (D1.out.below b2)
  have L2 := Hid.mk_ (L1.out.keep b2)
  clear hne hN hc2 lt1 lt2 m1 m2 c0 b2 M0 D1 L1 al htb hfb
  have z2 : Hid (z < w2.heap.size) := Hid.mk_ (Array.getElem?_eq_some_iff.1 M2.out).1
  have m61 : w2.cell? ⟨z, 61, none⟩ = some (.slice P n c) := by rw [cell_of_row w2 z 61 cs 46 (0, 0) M2.out]; exact hc.out.c61
  obtain ⟨em, hem⟩ : ∃ em, em = dMeets d f ls := ⟨_, rfl⟩
  have HEM := Hid.mk_ hem
  clear hem
  go_upto_region 5 with fail
  clear m61
  go_loopw [5, 34] (fun q i wr => ∃ (j m : Nat) (S' : Nat → Prop), q = .int .i64 (m : Int) ∧ i = .int .i64 (j : Int) ∧ j ≤ n ∧ m ≤ 4 ∧ Hid ((meetL d 0 (ls.take j)).2 = m) ∧ Hid (DetD wr S' g (meetL d 0 (ls.take j)).1) ∧ Hid (∀ i, S' i → S i ∨ w2.heap.size ≤ i) ∧ Hid (Rum.Wr w2 wr S)) (fun _ i _ => n - (intOf i).toNat)
  case atStart => exact ⟨0, 0, S, rfl, rfl, by omega, by omega, Hid.mk_ rfl, D2, Hid.mk_ (fun i hi => .inl hi), Hid.mk_ (Rum.Wr.of_below (Below.refl _ _) _)⟩
  case round =>
    obtain ⟨j, m, S', rfl, rfl, hj, hm4, HM, D, HS, R⟩ := hrel
    by_cases hlt : j < n
    · obtain ⟨x, hx⟩ : ∃ x, ls[j]? = some x := ⟨_, List.getElem?_eq_getElem (by have := hn.out; omega)⟩
      obtain ⟨b, off, rfl, bl, y0, y1, y2⟩ := L2.out j x hx
      have nb : ¬ S b := hS.out b off rfl (by omega)
      replace y0 := R.out.cell y0 nb
      replace y1 := R.out.cell y1 nb
      replace y2 := R.out.cell y2 nb
      have HX : Hid (ls.take (j + 1) = ls.take j ++ [x]) := Hid.mk_ (Tri3.take_snoc hx)
      clear hx bl nb
      have l1 : (j : Int) < (n : Int) := by omega
      have l0 : (0 : Int) ≤ (j : Int) := by omega
      go_upto_region 7 with fail
      have bx := Hid.mk_ (Rum.Box3.made wr x.n x.i x.h)
      have ax := (Below.refl wr.heap.size wr).alloc (Nat.le_refl _) (.cells #[.int .i64 x.n, .int .i64 x.i, .int .i64 x.h] 30)
      have D3 := Hid.mk_ (D.out.below ax)
      have R3 := Hid.mk_ (R.out.then_ (Rum.Wr.of_below ax (fun _ => False)) (fun _ h => h.elim))
      clear y0 y1 y2 D R ax
      generalize wr.heap.size = q at *
      generalize wr.alloc (.cells #[.int .i64 x.n, .int .i64 x.i, .int .i64 x.h] 30) = w3 at *
      obtain ⟨x0, x1, x2, _, _, _⟩ := bx.out
      cases hmay : mayC x.n x.i x.h with
      | false =>
        have HY := Hid.mk_ hmay.symm
        have E : Hid (meetL d 0 (ls.take (j + 1)) = meetL d 0 (ls.take j)) := Hid.mk_ (by rw [HX.out, meetL_snoc, if_neg (by rw [hmay]; simp)])
        clear hmay
        go_wp2_with (go_at_call 37; refine (Rth.may1 _ _ _ _ false HY).mono ?_; rintro e w4 ⟨rfl, b4⟩)
        go_roundw
        case rel => exact ⟨j + 1, m, S', rfl, by go_num, by omega, hm4, Hid.mk_ (by rw [E.out]; exact HM.out), Hid.mk_ (by rw [E.out]; exact D3.out.below b4), HS, Hid.mk_ (R3.out.then_ (Rum.Wr.of_below b4 (fun _ => False)) (fun _ h => h.elim))⟩
        case measure => simp [intOf]; omega
      | true =>
        have HY := Hid.mk_ hmay.symm
        by_cases h4 : m < 4
        · have h4i : (m : Int) < 4 := by omega
          have E : Hid (meetL d 0 (ls.take (j + 1)) = (dHears (meetL d 0 (ls.take j)).1 x, m + 1)) := Hid.mk_ (by rw [HX.out, meetL_snoc, HM.out, if_pos ⟨hmay, h4⟩])
          have H0 : Hid (x.h = 0 → x.i = 0) := Hid.mk_ (fun h0 => by unfold mayC at hmay; rw [decide_eq_true_eq] at hmay; omega)
          clear hmay
          by_cases hz : x.h = 0
          · have HN0 : Hid (true = decide (x.i = 0 ∧ x.h = 0)) := Hid.mk_ (by rw [decide_eq_true ⟨H0.out hz, hz⟩])
            have EN : Hid (dHears (meetL d 0 (ls.take j)).1 x = (meetL d 0 (ls.take j)).1) := Hid.mk_ (dHears_none _ _ hz)
            clear hz H0
            go_wp2_with (first
              | (have _t := tok1; go_at_call 38; refine (Rth.nothing1 _ _ _ _ true HN0).mono ?_; rintro e w5 ⟨rfl, b5⟩)
              | (go_at_call 37; refine (Rth.may1 _ _ _ _ true HY).mono ?_; rintro e w4 ⟨rfl, b4⟩; have z0 := keepC b4 x0; have z1 := keepC b4 x1; have z2 := keepC b4 x2; have tok1 : True := trivial))
            go_roundw
            case rel => exact ⟨j + 1, m + 1, S', by go_num, by go_num, by omega, by omega, Hid.mk_ (by rw [E.out]), Hid.mk_ (by rw [E.out]; simp only; rw [EN.out]; exact (D3.out.below b4).below b5), HS, Hid.mk_ ((R3.out.then_ (Rum.Wr.of_below b4 (fun _ => False)) (fun _ h => h.elim)).then_ (Rum.Wr.of_below b5 (fun _ => False)) (fun _ h => h.elim))⟩
            case measure => simp [intOf]; omega
          · have HN0 : Hid (false = decide (x.i = 0 ∧ x.h = 0)) := Hid.mk_ (by rw [decide_eq_false (fun h => hz h.2)])
            clear hz H0
            go_wp2_with (first
              | (have _t := tok2; go_at_call 39; refine (hearR w5 S' g (meetL d 0 (ls.take j)).1 x (Hid.mk_ ((D3.out.below b4).below b5)) HY _ (Hid.mk_ rfl) _ (Hid.mk_ rfl)).mono ?_; rintro e w6 ⟨rfl, t6⟩)
              | (have _t := tok1; go_at_call 38; refine (Rth.nothing1 _ _ _ _ false HN0).mono ?_; rintro e w5 ⟨rfl, b5⟩; have v0 := keepC b5 z0; have v1 := keepC b5 z1; have v2 := keepC b5 z2; have tok2 : True := trivial)
              | (go_at_call 37; refine (Rth.may1 _ _ _ _ true HY).mono ?_; rintro e w4 ⟨rfl, b4⟩; have z0 := keepC b4 x0; have z1 := keepC b4 x1; have z2 := keepC b4 x2; have tok1 : True := trivial))
            obtain ⟨S4, h4d, k4, r4⟩ := t6.out
            go_roundw
            case rel => exact ⟨j + 1, m + 1, S4, by go_num, by go_num, by omega, by omega, Hid.mk_ (by rw [E.out]), Hid.mk_ (by rw [E.out]; exact h4d), Hid.mk_ (fun i hi => (k4 i hi).elim (HS.out i) (fun h => .inr (by have := R3.out.size; have := b4.size; have := b5.size; omega))), Hid.mk_ (((R3.out.then_ (Rum.Wr.of_below b4 (fun _ => False)) (fun _ h => h.elim)).then_ (Rum.Wr.of_below b5 (fun _ => False)) (fun _ h => h.elim)).then_ r4 HS.out)⟩
            case measure => simp [intOf]; omega
        · have h4i : ¬ (m : Int) < 4 := by omega
          have E : Hid (meetL d 0 (ls.take (j + 1)) = meetL d 0 (ls.take j)) := Hid.mk_ (by rw [HX.out, meetL_snoc, HM.out, if_neg (by omega)])
          clear hmay
          go_wp2_with (go_at_call 37; refine (Rth.may1 _ _ _ _ true HY).mono ?_; rintro e w4 ⟨rfl, b4⟩)
          go_roundw
          case rel => exact ⟨j + 1, m, S', rfl, by go_num, by omega, hm4, Hid.mk_ (by rw [E.out]; exact HM.out), Hid.mk_ (by rw [E.out]; exact D3.out.below b4), HS, Hid.mk_ (R3.out.then_ (Rum.Wr.of_below b4 (fun _ => False)) (fun _ h => h.elim))⟩
          case measure => simp [intOf]; omega
    · obtain rfl : j = n := by omega
      have etk : ls.take j = ls := List.take_of_length_le (by have := hn.out; omega)
      rw [etk] at D HM
      obtain ⟨e, he⟩ : ∃ e, e = (meetL d 0 ls).1 := ⟨_, rfl⟩
      have HE := Hid.mk_ he
      rw [← he] at D
      have VE : Hid (Vok e) := Hid.mk_ (by rw [he]; exact Vok.meetL ls hv.out 0)
      have HDM : Hid (em = if Bel.on e.q f = 4 then e else dHears e ⟨f, (cOf e f).i, 1⟩) := Hid.mk_ (by rw [HEM.out]; unfold dMeets; simp only; rw [← he]; show (if Bel.on e.q f = 4 then e else dHears e ⟨Bel.onN f, (cOf e f).i, 1⟩) = _; rw [onN_of hb.out.symm])
      clear he HM hlt
      obtain ⟨gv, gq, go, gc, A, B, n1, cc, C, X⟩ := D.out
      have zS : ¬ S z := fun h => by have := NZ.out z h; omega
      have M3 : Hid (wr.heap[z]? = some (.cells cs 46 (0, 0))) := Hid.mk_ ((R.out.block z z2.out zS).trans M2.out)
      have m1 : wr.cell? ⟨z, 1, none⟩ = some (.int .i64 f) := by rw [cell_of_row wr z 1 cs 46 (0, 0) M3.out]; exact hc.out.c1
      have c7 : wr.cell? ⟨g, 7, none⟩ = some (.pointer (some ⟨gv, 0, none⟩)) := X.dcs.cell 7
      have XH := Hid.mk_ X
      have gl := Hid.mk_ X.dcs.lt
      have zl := Hid.mk_ (World.block_lt_of_cell? wr _ m1)
      clear X
      go_upto_region 12 with fail
      go_cut [8] from 53 to 60 (fun s7 wx => ∃ q5, s7 = .pointer (some ⟨q5, 0, none⟩) ∧ Hid (Rum.Box3 wx q5 (cOf e f).n (cOf e f).i (cOf e f).h) ∧ Hid (Below wr.heap.size wr wx) ∧ Hid (wr.heap.size ≤ q5))
      case first =>
        have n1 := World.new_ne wr _ c7
        have n2 := World.new_ne wr _ m1
        have ax := (Below.refl wr.heap.size wr).alloc (Nat.le_refl _) (.cells #[.int .i64 0, .int .i64 0, .int .i64 0] 30)
        have BX0 := Rum.Box3.made wr 0 0 0
        have BX := Hid.mk_ (box3k BX0 (Below.refl _ _).drew)
        have AX := Hid.mk_ ax.drew
        have k2 := Hid.mk_ (keepC ax.drew c7)
        have k3 := Hid.mk_ (keepC ax.drew m1)
        clear ax BX0
        go_region_held3 (fun w' => w'.cell? ⟨g, 7, none⟩ = some (.pointer (some ⟨gv, 0, none⟩)) ∧ w'.cell? ⟨z, 1, none⟩ = some (.int .i64 f)) (first | exact ⟨by assumption, by assumption⟩ | go_keep) (first
          | (go_at_call 24; refine (ofR (w := wr.drew) (by exact XH.out.below (Below.refl _ _).drew) f).mono ?_; rintro e0 w5 ⟨rfl, b5⟩; have s2 := keepC b5 (by exact c7); have s3 := keepC b5 (by exact m1); have n3 := World.new_ne w5 _ s2; have n4 := World.new_ne w5 _ s3)
          | (go_at_call 24; refine (ofR (w := (wr.alloc (.cells #[.int .i64 0, .int .i64 0, .int .i64 0] 30)).drew) (by exact XH.out.below AX.out) f).mono ?_; rintro e0 w5 ⟨rfl, b5⟩; have s2 := keepC b5 k2.out; have s3 := keepC b5 k3.out; have b0 := (box3k BX.out b5).c0; have b1 := (box3k BX.out b5).c1; have b2 := (box3k BX.out b5).c2; have g0 := (box3k BX.out b5).f0; have g1 := (box3k BX.out b5).f1; have g2 := (box3k BX.out b5).f2; have n5 : g ≠ wr.heap.size := Nat.ne_of_lt gl.out; have n6 : z ≠ wr.heap.size := Nat.ne_of_lt zl.out)
          | fail)
        · go_wp2_with fail
          go_meet
          have z5 := ((Below.refl wr.heap.size wr).drew.trans b5)
          exact ⟨w5.heap.size, rfl, Hid.mk_ (Rum.Box3.made w5 _ _ _), Hid.mk_ (z5.alloc z5.size _), Hid.mk_ z5.size⟩
        · go_wp2_with fail
          go_meet
          have z5 := AX.out.trans (b5.mono AX.out.size)
          exact ⟨wr.heap.size, rfl, Hid.mk_ ((box3k BX.out b5).set _ _ _), Hid.mk_ (Rum.below_set (Rum.below_set (Rum.below_set z5 (Nat.le_refl _)) (Nat.le_refl _)) (Nat.le_refl _)), Hid.mk_ (Nat.le_refl _)⟩
      case rest =>
        obtain ⟨q5, rfl, BQ, BC, HQ⟩ := hcut
        have D5 := Hid.mk_ (D.out.below BC.out)
        have R5 : Hid (Rum.Wr w wc S) := Hid.mk_ (((Rum.Wr.of_below B2.out S).then_ R.out (fun i hi => .inl hi)).then_ (Rum.Wr.of_below BC.out (fun _ => False)) (fun _ h => h.elim))
        have HS' : Hid (∀ i, S' i → S i ∨ w.heap.size ≤ i) := Hid.mk_ (fun i hi => (HS.out i hi).elim .inl (fun h => .inr (Nat.le_trans B2.out.size h)))
        have NZ5 : Hid (∀ i, S' i → ¬ i = z) := Hid.mk_ (fun i hi e1 => (HS.out i hi).elim (fun h => by have := NZ.out i h; omega) (fun h => by have := z2.out; omega))
        have M5 : Hid (wc.heap[z]? = some (.cells cs 46 (0, 0))) := Hid.mk_ ((BC.out.block z zl.out).trans M3.out)
        have MY : Hid (true = mayC f (cOf e f).i 1) := Hid.mk_ (by have h := cOf_may VE.out f 1 ⟨Int.le_refl 1, by decide⟩; rw [show (cOf e f).n = f from onN_of hb.out.symm] at h; exact h.symm)
        clear c7 m1 XH gl zl D R BC HQ HS M3 M2 D2 L2 B2
        obtain ⟨x0, x1, x2, f0, f1, f2⟩ := BQ.out
        have m1 : wc.cell? ⟨z, 1, none⟩ = some (.int .i64 f) := by rw [cell_of_row wc z 1 cs 46 (0, 0) M5.out]; exact hc.out.c1
        go_upto_if 62 with fail
        go_cut [2] from 60 to 71 (fun s2 wx => ∃ S5, Hid (DetD wx S5 g em) ∧ Hid (∀ i, S5 i → S i ∨ w.heap.size ≤ i) ∧ Hid (∀ i, S5 i → ¬ i = z) ∧ Hid (Rum.Wr w wx S) ∧ Hid (wx.heap[z]? = some (.cells cs 46 (0, 0))))
        case first =>
          by_cases h4 : Bel.on e.q f = 4
          · have hbb : ((cOf e f).h != 4) = false := by show (Bel.on e.q f != 4) = false; simp [h4]
            have ed : em = e := by rw [HDM.out, if_pos h4]
            clear h4
            go_wp2_with fail
            go_meet
            exact ⟨S', Hid.mk_ (by rw [ed]; exact D5.out), HS', NZ5, R5, M5⟩
          · have hbb : ((cOf e f).h != 4) = true := by show (Bel.on e.q f != 4) = true; simp [h4]
            have ed : Hid (em = dHears e ⟨f, (cOf e f).i, 1⟩) := Hid.mk_ (by rw [HDM.out, if_neg h4])
            clear h4
            go_wp2_with (go_at_call 39; refine (hearR wc S' g e ⟨f, (cOf e f).i, 1⟩ D5 MY em ed _ (Hid.mk_ rfl)).mono ?_; rintro e0 w7 ⟨rfl, t7⟩)
            go_meet
            obtain ⟨S7, d7, k7, r7⟩ := t7.out
            have lz := (Array.getElem?_eq_some_iff.1 M5.out).1
            exact ⟨S7, Hid.mk_ d7, Hid.mk_ (fun i hi => (k7 i hi).elim (HS'.out i) (fun h => .inr (Nat.le_trans R5.out.size h))), Hid.mk_ (fun i hi e1 => (k7 i hi).elim (fun h => NZ5.out i h e1) (fun h => by omega)), Hid.mk_ (R5.out.then_ r7 HS'.out), Hid.mk_ ((r7.block z lz (fun h => NZ5.out z h rfl)).trans M5.out)⟩
        case rest =>
          obtain ⟨S5, D6, HS6, NZ6, R6, M6⟩ := hcut
          clear x0 x1 x2 f0 f1 f2 m1 BQ D5 HS' NZ5 R5 M5 MY HDM HE VE
          generalize wc = w6 at *
          have m0 : w6.cell? ⟨z, 0, none⟩ = some (.int .i64 k) := by rw [cell_of_row w6 z 0 cs 46 (0, 0) M6.out]; exact hc.out.c0
          have m1 : w6.cell? ⟨z, 1, none⟩ = some (.int .i64 f) := by rw [cell_of_row w6 z 1 cs 46 (0, 0) M6.out]; exact hc.out.c1
          have m3 : w6.cell? ⟨z, 3, none⟩ = some (.int .i64 s) := by rw [cell_of_row w6 z 3 cs 46 (0, 0) M6.out]; exact hc.out.c3
          have m4 : w6.cell? ⟨z, 4, none⟩ = some (.int .i64 fo) := by rw [cell_of_row w6 z 4 cs 46 (0, 0) M6.out]; exact hc.out.c4
          have m5 : w6.cell? ⟨z, 5, none⟩ = some (.int .i64 ab) := by rw [cell_of_row w6 z 5 cs 46 (0, 0) M6.out]; exact hc.out.c5
          obtain ⟨gv6, gq6, go6, gc6, A6, B6, n6, cc6, C6, X6⟩ := D6.out
          have c0 : w6.cell? ⟨g, 0, none⟩ = some (.int .i64 em.self) := X6.dcs.cell 0
          have c3 : w6.cell? ⟨g, 3, none⟩ = some (.int .i64 em.seq) := X6.dcs.cell 3
          have c4 : w6.cell? ⟨g, 4, none⟩ = some (.int .i64 em.asked) := X6.dcs.cell 4
          have c6 : w6.cell? ⟨g, 6, none⟩ = some (.bool em.left) := X6.dcs.cell 6
          have c10 : w6.cell? ⟨g, 10, none⟩ = some (.pointer (some ⟨gc6, 0, none⟩)) := X6.dcs.cell 10
          have lt1 := X6.dcs.lt
          have lt2 := World.block_lt_of_cell? w6 _ m1
          have XH6 := Hid.mk_ X6
          clear X6
          go_upto_region 15 with fail
          by_cases k2 : k = 2
          · have kb2 : (k == 2) = true := by simp [k2]
            by_cases fs : fo = em.self
            · have fsb : (fo == em.self) = true := by simp [fs]
              refine wp_draws _ (Below.refl _ _) (by kernel_rfl) (by kernel_rfl) (fun hne hN => ?_)
              repeat (go_big_quiet_step (fail))
              refine wpQuiet_nil (after_cells ?_)
              intro w7 bw7 hw7
              have D7 := Hid.mk_ (D6.out.below bw7)
              have M7 : Hid (w7.heap[z]? = some (.cells cs 46 (0, 0))) := Hid.mk_ ((bw7.block z lt2).trans M6.out)
              have R7 := Hid.mk_ (R6.out.then_ (Rum.Wr.of_below bw7 (fun _ => False)) (fun _ h => h.elim))
              clear hne hN hw7 lt1 lt2 m0 m1 m3 m4 m5 c0 c3 c4 c6 c10 XH6
              clear D6 M6 R6 bw7
              have m0 : w7.cell? ⟨z, 0, none⟩ = some (.int .i64 k) := by rw [cell_of_row w7 z 0 cs 46 (0, 0) M7.out]; exact hc.out.c0
              have m1 : w7.cell? ⟨z, 1, none⟩ = some (.int .i64 f) := by rw [cell_of_row w7 z 1 cs 46 (0, 0) M7.out]; exact hc.out.c1
              have m3 : w7.cell? ⟨z, 3, none⟩ = some (.int .i64 s) := by rw [cell_of_row w7 z 3 cs 46 (0, 0) M7.out]; exact hc.out.c3
              have m4 : w7.cell? ⟨z, 4, none⟩ = some (.int .i64 fo) := by rw [cell_of_row w7 z 4 cs 46 (0, 0) M7.out]; exact hc.out.c4
              have m5 : w7.cell? ⟨z, 5, none⟩ = some (.int .i64 ab) := by rw [cell_of_row w7 z 5 cs 46 (0, 0) M7.out]; exact hc.out.c5
              obtain ⟨gv6, gq6, go6, gc6, A6, B6, n6, cc6, C6, X6⟩ := D7.out
              have c0 : w7.cell? ⟨g, 0, none⟩ = some (.int .i64 em.self) := X6.dcs.cell 0
              have c3 : w7.cell? ⟨g, 3, none⟩ = some (.int .i64 em.seq) := X6.dcs.cell 3
              have c4 : w7.cell? ⟨g, 4, none⟩ = some (.int .i64 em.asked) := X6.dcs.cell 4
              have c6 : w7.cell? ⟨g, 6, none⟩ = some (.bool em.left) := X6.dcs.cell 6
              have c10 : w7.cell? ⟨g, 10, none⟩ = some (.pointer (some ⟨gc6, 0, none⟩)) := X6.dcs.cell 10
              have lt1 := X6.dcs.lt
              have lt2 := World.block_lt_of_cell? w7 _ m1
              have XH6 := Hid.mk_ X6
              clear X6
              obtain ⟨hd1, hm1⟩ := hnd1 (s := s) (ab := ab) HNO.out HEM.out k2 fs
              have HD1 := Hid.mk_ (hd.out.trans hd1)
              have HM1 := Hid.mk_ (hms.out.trans hm1)
              clear hd1 hm1
              have AK : Hid (-1 ≤ em.asked ∧ em.asked ≤ 7) := Hid.mk_ XH6.out.ok.asked
              have KF : Hid (k = 2 ∧ fo = em.self) := Hid.mk_ ⟨k2, fs⟩
              clear k2 fs
              go_upto_region 16 with fail
              by_cases sq : s = em.seq
              · have sqb : (s == em.seq) = true := by simp [sq]
                by_cases ak : em.asked = -1
                · have akb : ¬ 0 ≤ em.asked := by omega
                  have ED : Hid (dAns em k s fo = em) := Hid.mk_ (by unfold dAns; rw [if_neg (fun h => h.2.2.2 ak)])
                  clear sq ak
                  refine wp_draws _ (Below.refl _ _) (by kernel_rfl) (by kernel_rfl) (fun hne hN => ?_)
                  repeat (go_big_quiet_step (fail))
                  refine wpQuiet_nil (after_cells ?_)
                  intro w8 bw8 hw8
                  have D8 := Hid.mk_ (D7.out.below bw8)
                  have M8 : Hid (w8.heap[z]? = some (.cells cs 46 (0, 0))) := Hid.mk_ ((bw8.block z lt2).trans M7.out)
                  have R8 := Hid.mk_ (R7.out.then_ (Rum.Wr.of_below bw8 (fun _ => False)) (fun _ h => h.elim))
                  clear hne hN hw8 lt1 lt2 m0 m1 m3 m4 m5 c0 c3 c4 c6 c10 XH6
                  clear D7 M7 R7 bw8
                  have m0 : w8.cell? ⟨z, 0, none⟩ = some (.int .i64 k) := by rw [cell_of_row w8 z 0 cs 46 (0, 0) M8.out]; exact hc.out.c0
                  have m1 : w8.cell? ⟨z, 1, none⟩ = some (.int .i64 f) := by rw [cell_of_row w8 z 1 cs 46 (0, 0) M8.out]; exact hc.out.c1
                  have m3 : w8.cell? ⟨z, 3, none⟩ = some (.int .i64 s) := by rw [cell_of_row w8 z 3 cs 46 (0, 0) M8.out]; exact hc.out.c3
                  have m4 : w8.cell? ⟨z, 4, none⟩ = some (.int .i64 fo) := by rw [cell_of_row w8 z 4 cs 46 (0, 0) M8.out]; exact hc.out.c4
                  have m5 : w8.cell? ⟨z, 5, none⟩ = some (.int .i64 ab) := by rw [cell_of_row w8 z 5 cs 46 (0, 0) M8.out]; exact hc.out.c5
                  obtain ⟨gv6, gq6, go6, gc6, A6, B6, n6, cc6, C6, X6⟩ := D8.out
                  have c0 : w8.cell? ⟨g, 0, none⟩ = some (.int .i64 em.self) := X6.dcs.cell 0
                  have c3 : w8.cell? ⟨g, 3, none⟩ = some (.int .i64 em.seq) := X6.dcs.cell 3
                  have c4 : w8.cell? ⟨g, 4, none⟩ = some (.int .i64 em.asked) := X6.dcs.cell 4
                  have c6 : w8.cell? ⟨g, 6, none⟩ = some (.bool em.left) := X6.dcs.cell 6
                  have c10 : w8.cell? ⟨g, 10, none⟩ = some (.pointer (some ⟨gc6, 0, none⟩)) := X6.dcs.cell 10
                  have lt1 := X6.dcs.lt
                  have lt2 := World.block_lt_of_cell? w8 _ m1
                  have XH6 := Hid.mk_ X6
                  clear X6
                  go_wp2_with fail
                  go_ret
                  rw [HD1.out, HM1.out, ED.out]
                  first | exact ⟨_, _, rfl, Hid.mk_ (Outs.nil _ _), Hid.mk_ (RTurnX.of ⟨S5, D8.out, HS6.out, R8.out⟩)⟩ | exact ⟨_, rfl, _, Hid.mk_ (Outs.nil _ _), Hid.mk_ (RTurnX.of ⟨S5, D8.out, HS6.out, R8.out⟩)⟩
                · have akb : 0 ≤ em.asked := by have := AK.out; omega
                  have ED : Hid (dAns em k s fo = { em with M := Wat.without 2 (Wat.without 1 em.M), asked := -1 }) := Hid.mk_ (by unfold dAns; rw [if_pos ⟨KF.out.1, KF.out.2, sq, ak⟩])
                  clear sq ak
                  refine wp_draws _ (Below.refl _ _) (by kernel_rfl) (by kernel_rfl) (fun hne hN => ?_)
                  repeat (go_big_quiet_step (fail))
                  refine wpQuiet_nil (after_cells ?_)
                  intro w8 bw8 hw8
                  have D8 := Hid.mk_ (D7.out.below bw8)
                  have M8 : Hid (w8.heap[z]? = some (.cells cs 46 (0, 0))) := Hid.mk_ ((bw8.block z lt2).trans M7.out)
                  have R8 := Hid.mk_ (R7.out.then_ (Rum.Wr.of_below bw8 (fun _ => False)) (fun _ h => h.elim))
                  clear hne hN hw8 lt1 lt2 m0 m1 m3 m4 m5 c0 c3 c4 c6 c10 XH6
                  clear D7 M7 R7 bw8
                  have m0 : w8.cell? ⟨z, 0, none⟩ = some (.int .i64 k) := by rw [cell_of_row w8 z 0 cs 46 (0, 0) M8.out]; exact hc.out.c0
                  have m1 : w8.cell? ⟨z, 1, none⟩ = some (.int .i64 f) := by rw [cell_of_row w8 z 1 cs 46 (0, 0) M8.out]; exact hc.out.c1
                  have m3 : w8.cell? ⟨z, 3, none⟩ = some (.int .i64 s) := by rw [cell_of_row w8 z 3 cs 46 (0, 0) M8.out]; exact hc.out.c3
                  have m4 : w8.cell? ⟨z, 4, none⟩ = some (.int .i64 fo) := by rw [cell_of_row w8 z 4 cs 46 (0, 0) M8.out]; exact hc.out.c4
                  have m5 : w8.cell? ⟨z, 5, none⟩ = some (.int .i64 ab) := by rw [cell_of_row w8 z 5 cs 46 (0, 0) M8.out]; exact hc.out.c5
                  obtain ⟨gv6, gq6, go6, gc6, A6, B6, n6, cc6, C6, X6⟩ := D8.out
                  have c0 : w8.cell? ⟨g, 0, none⟩ = some (.int .i64 em.self) := X6.dcs.cell 0
                  have c3 : w8.cell? ⟨g, 3, none⟩ = some (.int .i64 em.seq) := X6.dcs.cell 3
                  have c4 : w8.cell? ⟨g, 4, none⟩ = some (.int .i64 em.asked) := X6.dcs.cell 4
                  have c6 : w8.cell? ⟨g, 6, none⟩ = some (.bool em.left) := X6.dcs.cell 6
                  have c10 : w8.cell? ⟨g, 10, none⟩ = some (.pointer (some ⟨gc6, 0, none⟩)) := X6.dcs.cell 10
                  have lt1 := X6.dcs.lt
                  have lt2 := World.block_lt_of_cell? w8 _ m1
                  have XH6 := Hid.mk_ X6
                  clear X6
                  obtain ⟨M1, hM1⟩ : ∃ M1, M1 = Wat.without 1 em.M := ⟨_, rfl⟩
                  have HM1' := Hid.mk_ hM1
                  obtain ⟨M2, hM2⟩ : ∃ M2, M2 = Wat.without 2 M1 := ⟨_, rfl⟩
                  have HM2' := Hid.mk_ hM2
                  rw [← hM1, ← hM2] at ED
                  clear hM1 hM2
                  have CST : Hid (Wat.St em.M) := Hid.mk_ XH6.out.cst
                  have ST1 : Hid (Wat.St M1) := Hid.mk_ (by rw [HM1'.out]; exact CST.out.without _)
                  have ST2 : Hid (Wat.St M2) := Hid.mk_ (by rw [HM2'.out]; exact ST1.out.without _)
                  have CK : Hid (Wat.Ref w8 gc6 C6 em.M) := Hid.mk_ XH6.out.ck
                  go_upto_region 18 with (go_at_call 45; refine (Wat.rcut w8 gc6 C6 em.M 1 CK CST _ (Hid.mk_ rfl) M1 HM1').mono ?_; rintro e0 w9 ⟨rfl, t9⟩)
                  obtain ⟨C9, S9, x9, hS9, rS9⟩ := XH6.out.turnC t9.out ST1.out
                  have c10 : w9.cell? ⟨g, 10, none⟩ = some (.pointer (some ⟨gc6, 0, none⟩)) := x9.dcs.cell 10
                  have X9 := Hid.mk_ x9
                  have CK9 : Hid (Wat.Ref w9 gc6 C9 M1) := Hid.mk_ x9.ck
                  have R9 := Hid.mk_ (R8.out.then_ rS9 HS6.out)
                  have HS9 : Hid (∀ i, S9 i → S i ∨ w.heap.size ≤ i) := Hid.mk_ (fun i hi => (hS9 i hi).elim (HS6.out i) (fun h => .inr (Nat.le_trans R8.out.size h)))
                  clear m0 m1 m3 m4 m5 c0 c3 c4 c6 lt1 lt2 XH6 t9 x9 hS9 rS9 CK
                  go_upto_region 19 with (go_at_call 45; refine (Wat.rcut w9 gc6 C9 M1 2 CK9 ST1 _ (Hid.mk_ rfl) M2 HM2').mono ?_; rintro e0 wa ⟨rfl, ta⟩)
                  obtain ⟨Ca, Sa, xa, hSa, rSa⟩ := X9.out.turnC ta.out ST2.out
                  have c4 : wa.cell? ⟨g, 4, none⟩ = some (.int .i64 em.asked) := xa.dcs.cell 4
                  have f4 : wa.frozen? ⟨g, 4, none⟩ = false := xa.dcs.fr 4
                  have ws := Rum.Wr.set wa g 4 (.int .i64 (-1))
                  have xb : DetD (wa.setCell ⟨g, 4, none⟩ (.int .i64 (-1))) Sa g { em with M := M2, asked := -1 } := ⟨_, _, _, _, _, _, _, _, _, xa.turnD ws (xa.dcs.set 4 (.int .i64 (-1)) { em with M := M2, asked := -1 } rfl) ⟨xa.ok.self, xa.ok.inc, xa.ok.now, xa.ok.seq, by show (-1 : Int) ≤ -1 ∧ (-1 : Int) ≤ 7; omega⟩ ⟨rfl, rfl, rfl, rfl, rfl, rfl⟩⟩
                  have XB := Hid.mk_ xb
                  have HSa : Hid (∀ i, Sa i → S i ∨ w.heap.size ≤ i) := Hid.mk_ (fun i hi => (hSa i hi).elim (HS9.out i) (fun h => .inr (Nat.le_trans R9.out.size h)))
                  have Ra := Hid.mk_ ((R9.out.then_ rSa HS9.out).then_ ws (fun i hi => by rw [hi]; exact HSa.out g xa.sg))
                  clear c10 X9 CK9 R9 ta xa hSa rSa ws xb
                  go_wp2_with fail
                  go_ret
                  rw [HD1.out, HM1.out, ED.out]
                  first | exact ⟨_, _, rfl, Hid.mk_ (Outs.nil _ _), Hid.mk_ (RTurnX.of ⟨Sa, XB.out, HSa.out, Ra.out⟩)⟩ | exact ⟨_, rfl, _, Hid.mk_ (Outs.nil _ _), Hid.mk_ (RTurnX.of ⟨Sa, XB.out, HSa.out, Ra.out⟩)⟩
              · have sqb : (s == em.seq) = false := by simp [sq]
                have ED : Hid (dAns em k s fo = em) := Hid.mk_ (by unfold dAns; rw [if_neg (fun h => sq h.2.2.1)])
                clear sq
                refine wp_draws _ (Below.refl _ _) (by kernel_rfl) (by kernel_rfl) (fun hne hN => ?_)
                repeat (go_big_quiet_step (fail))
                refine wpQuiet_nil (after_cells ?_)
                intro w8 bw8 hw8
                have D8 := Hid.mk_ (D7.out.below bw8)
                have M8 : Hid (w8.heap[z]? = some (.cells cs 46 (0, 0))) := Hid.mk_ ((bw8.block z lt2).trans M7.out)
                have R8 := Hid.mk_ (R7.out.then_ (Rum.Wr.of_below bw8 (fun _ => False)) (fun _ h => h.elim))
                clear hne hN hw8 lt1 lt2 m0 m1 m3 m4 m5 c0 c3 c4 c6 c10 XH6
                clear D7 M7 R7 bw8
                have m0 : w8.cell? ⟨z, 0, none⟩ = some (.int .i64 k) := by rw [cell_of_row w8 z 0 cs 46 (0, 0) M8.out]; exact hc.out.c0
                have m1 : w8.cell? ⟨z, 1, none⟩ = some (.int .i64 f) := by rw [cell_of_row w8 z 1 cs 46 (0, 0) M8.out]; exact hc.out.c1
                have m3 : w8.cell? ⟨z, 3, none⟩ = some (.int .i64 s) := by rw [cell_of_row w8 z 3 cs 46 (0, 0) M8.out]; exact hc.out.c3
                have m4 : w8.cell? ⟨z, 4, none⟩ = some (.int .i64 fo) := by rw [cell_of_row w8 z 4 cs 46 (0, 0) M8.out]; exact hc.out.c4
                have m5 : w8.cell? ⟨z, 5, none⟩ = some (.int .i64 ab) := by rw [cell_of_row w8 z 5 cs 46 (0, 0) M8.out]; exact hc.out.c5
                obtain ⟨gv6, gq6, go6, gc6, A6, B6, n6, cc6, C6, X6⟩ := D8.out
                have c0 : w8.cell? ⟨g, 0, none⟩ = some (.int .i64 em.self) := X6.dcs.cell 0
                have c3 : w8.cell? ⟨g, 3, none⟩ = some (.int .i64 em.seq) := X6.dcs.cell 3
                have c4 : w8.cell? ⟨g, 4, none⟩ = some (.int .i64 em.asked) := X6.dcs.cell 4
                have c6 : w8.cell? ⟨g, 6, none⟩ = some (.bool em.left) := X6.dcs.cell 6
                have c10 : w8.cell? ⟨g, 10, none⟩ = some (.pointer (some ⟨gc6, 0, none⟩)) := X6.dcs.cell 10
                have lt1 := X6.dcs.lt
                have lt2 := World.block_lt_of_cell? w8 _ m1
                have XH6 := Hid.mk_ X6
                clear X6
                go_wp2_with fail
                go_ret
                rw [HD1.out, HM1.out, ED.out]
                first | exact ⟨_, _, rfl, Hid.mk_ (Outs.nil _ _), Hid.mk_ (RTurnX.of ⟨S5, D8.out, HS6.out, R8.out⟩)⟩ | exact ⟨_, rfl, _, Hid.mk_ (Outs.nil _ _), Hid.mk_ (RTurnX.of ⟨S5, D8.out, HS6.out, R8.out⟩)⟩
            · have fsb : (fo == em.self) = false := by simp [fs]
              refine wp_draws _ (Below.refl _ _) (by kernel_rfl) (by kernel_rfl) (fun hne hN => ?_)
              repeat (go_big_quiet_step (fail))
              refine wpQuiet_nil (after_cells ?_)
              intro w7 bw7 hw7
              have D7 := Hid.mk_ (D6.out.below bw7)
              have M7 : Hid (w7.heap[z]? = some (.cells cs 46 (0, 0))) := Hid.mk_ ((bw7.block z lt2).trans M6.out)
              have R7 := Hid.mk_ (R6.out.then_ (Rum.Wr.of_below bw7 (fun _ => False)) (fun _ h => h.elim))
              clear hne hN hw7 lt1 lt2 m0 m1 m3 m4 m5 c0 c3 c4 c6 c10 XH6
              clear D6 M6 R6 bw7
              have m0 : w7.cell? ⟨z, 0, none⟩ = some (.int .i64 k) := by rw [cell_of_row w7 z 0 cs 46 (0, 0) M7.out]; exact hc.out.c0
              have m1 : w7.cell? ⟨z, 1, none⟩ = some (.int .i64 f) := by rw [cell_of_row w7 z 1 cs 46 (0, 0) M7.out]; exact hc.out.c1
              have m3 : w7.cell? ⟨z, 3, none⟩ = some (.int .i64 s) := by rw [cell_of_row w7 z 3 cs 46 (0, 0) M7.out]; exact hc.out.c3
              have m4 : w7.cell? ⟨z, 4, none⟩ = some (.int .i64 fo) := by rw [cell_of_row w7 z 4 cs 46 (0, 0) M7.out]; exact hc.out.c4
              have m5 : w7.cell? ⟨z, 5, none⟩ = some (.int .i64 ab) := by rw [cell_of_row w7 z 5 cs 46 (0, 0) M7.out]; exact hc.out.c5
              obtain ⟨gv6, gq6, go6, gc6, A6, B6, n6, cc6, C6, X6⟩ := D7.out
              have c0 : w7.cell? ⟨g, 0, none⟩ = some (.int .i64 em.self) := X6.dcs.cell 0
              have c3 : w7.cell? ⟨g, 3, none⟩ = some (.int .i64 em.seq) := X6.dcs.cell 3
              have c4 : w7.cell? ⟨g, 4, none⟩ = some (.int .i64 em.asked) := X6.dcs.cell 4
              have c6 : w7.cell? ⟨g, 6, none⟩ = some (.bool em.left) := X6.dcs.cell 6
              have c10 : w7.cell? ⟨g, 10, none⟩ = some (.pointer (some ⟨gc6, 0, none⟩)) := X6.dcs.cell 10
              have lt1 := X6.dcs.lt
              have lt2 := World.block_lt_of_cell? w7 _ m1
              have XH6 := Hid.mk_ X6
              clear X6
              have HKF : Hid (¬ (k = 2 ∧ fo = em.self)) := Hid.mk_ (fun h => fs h.2)
              have K2 := Hid.mk_ k2
              have FS := Hid.mk_ fs
              clear k2 fs
              cases hleft : em.left with
              | true =>
                obtain ⟨hd1, hm1⟩ := hnd2 (s := s) (fo := fo) (ab := ab) HNO.out HEM.out HKF.out hleft
                have HD1 := Hid.mk_ (hd.out.trans hd1)
                have HM1 := Hid.mk_ (hms.out.trans hm1)
                clear hd1 hm1
                rw [hleft] at c6
                go_wp2_with fail
                go_ret
                rw [HD1.out, HM1.out]
                first | exact ⟨_, _, rfl, Hid.mk_ (Outs.nil _ _), Hid.mk_ (RTurnX.of ⟨S5, D7.out, HS6.out, R7.out⟩)⟩ | exact ⟨_, rfl, _, Hid.mk_ (Outs.nil _ _), Hid.mk_ (RTurnX.of ⟨S5, D7.out, HS6.out, R7.out⟩)⟩
              | false =>
                rw [hleft] at c6
                have hleft := Hid.mk_ hleft
                have kb1 : (k == 1) = false := by rw [K2.out]; rfl
                have kb3 : (k == 3) = false := by rw [K2.out]; rfl
                go_upto_region 23 with fail
                cases hnode : nodeB fo with
                | true =>
                  have HN := Hid.mk_ hnode.symm
                  clear hnode
                  have HA : Hid (an em k f s fo ab = ⟨2, fo, s, fo⟩) := Hid.mk_ (by unfold an; rw [if_neg (by rw [K2.out]; decide), if_pos K2.out, if_neg FS.out, ← HN.out]; rfl)
                  go_upto_region 24 with (go_at_call 31; refine (rnode fo _ true HN).mono ?_; rintro e0 w9 ⟨rfl, b9⟩)
                  have D9 := Hid.mk_ (D7.out.below b9)
                  have R9 := Hid.mk_ (R7.out.then_ (Rum.Wr.of_below b9 (fun _ => False)) (fun _ h => h.elim))
                  have M9 : Hid (w9.heap[z]? = some (.cells cs 46 (0, 0))) := Hid.mk_ ((b9.block z lt2).trans M7.out)
                  clear m0 m1 m3 m4 m5 c0 c3 c4 c6 c10 lt1 lt2 XH6 b9
                  have m3 : w9.cell? ⟨z, 3, none⟩ = some (.int .i64 s) := by rw [cell_of_row w9 z 3 cs 46 (0, 0) M9.out]; exact hc.out.c3
                  have m4 : w9.cell? ⟨z, 4, none⟩ = some (.int .i64 fo) := by rw [cell_of_row w9 z 4 cs 46 (0, 0) M9.out]; exact hc.out.c4
                  have HA : Hid (an em k f s fo ab = ⟨2, fo, s, fo⟩) := Hid.mk_ (HA.out)
                  obtain ⟨hd1, hm1⟩ := hndS HNO.out HEM.out HKF.out hleft.out _ HA.out (by simp)
                  have HD1 := Hid.mk_ (hd.out.trans hd1)
                  have HM1 := Hid.mk_ (hms.out.trans hm1)
                  clear hd1 hm1
                  have HB0 : Hid (w.heap.size ≤ w9.heap.size) := Hid.mk_ R9.out.size
                  have HO0 : Hid (Outs w9 w.heap.size (.slice none 0 0) [] (fun _ => False)) := Hid.mk_ (Outs.nil _ _)
                  have HT0 : Hid (∀ i, S5 i → ¬ (fun _ : Nat => False) i) := Hid.mk_ (fun _ _ h => h)
                  have HL0 : Hid (([] : List Om).length ≤ 100000) := Hid.mk_ (by decide)
                  have HMM : Hid ((⟨2, em.self, fo, s, fo, 0, dClaims em fo⟩ : Om) = ⟨2, em.self, fo, s, fo, 0, dClaims em fo⟩) := Hid.mk_ rfl
                  go_wp2_with (go_at_call 46; refine (sendR w9 S5 g em 2 0 fo s fo 0 (.slice none 0 0) D9 w.heap.size _ [] _ HO0 HB0 HT0 HL0 _ HMM).mono ?_; rintro e0 w8 ⟨v8, rfl, t8⟩)
                  go_ret
                  obtain ⟨T8, o8, x8⟩ := t8.out.fin R9.out HS6.out
                  rw [HD1.out, HM1.out]
                  first | exact ⟨_, T8, rfl, o8, x8⟩ | exact ⟨_, rfl, T8, o8, x8⟩
                | false =>
                  have HN := Hid.mk_ hnode.symm
                  clear hnode
                  have HA : Hid ((an em k f s fo ab).k = 0) := Hid.mk_ (by unfold an; rw [if_neg (by rw [K2.out]; decide), if_pos K2.out, if_neg FS.out, ← HN.out]; rfl)
                  obtain ⟨hd1, hm1⟩ := hndN HNO.out HEM.out HKF.out HA.out
                  have HD1 := Hid.mk_ (hd.out.trans hd1)
                  have HM1 := Hid.mk_ (hms.out.trans hm1)
                  clear hd1 hm1
                  go_upto_region 25 with (go_at_call 31; refine (rnode fo _ false HN).mono ?_; rintro e0 w9 ⟨rfl, b9⟩)
                  have D9 := Hid.mk_ (D7.out.below b9)
                  have R9 := Hid.mk_ (R7.out.then_ (Rum.Wr.of_below b9 (fun _ => False)) (fun _ h => h.elim))
                  have M9 : Hid (w9.heap[z]? = some (.cells cs 46 (0, 0))) := Hid.mk_ ((b9.block z lt2).trans M7.out)
                  clear m0 m1 m3 m4 m5 c0 c3 c4 c6 c10 lt1 lt2 XH6 b9 D7 R7 M7
                  have m0 : w9.cell? ⟨z, 0, none⟩ = some (.int .i64 k) := by rw [cell_of_row w9 z 0 cs 46 (0, 0) M9.out]; exact hc.out.c0
                  have m1 : w9.cell? ⟨z, 1, none⟩ = some (.int .i64 f) := by rw [cell_of_row w9 z 1 cs 46 (0, 0) M9.out]; exact hc.out.c1
                  have m3 : w9.cell? ⟨z, 3, none⟩ = some (.int .i64 s) := by rw [cell_of_row w9 z 3 cs 46 (0, 0) M9.out]; exact hc.out.c3
                  have m4 : w9.cell? ⟨z, 4, none⟩ = some (.int .i64 fo) := by rw [cell_of_row w9 z 4 cs 46 (0, 0) M9.out]; exact hc.out.c4
                  have m5 : w9.cell? ⟨z, 5, none⟩ = some (.int .i64 ab) := by rw [cell_of_row w9 z 5 cs 46 (0, 0) M9.out]; exact hc.out.c5
                  obtain ⟨gv6, gq6, go6, gc6, A6, B6, n6, cc6, C6, X6⟩ := D9.out
                  have c0 : w9.cell? ⟨g, 0, none⟩ = some (.int .i64 em.self) := X6.dcs.cell 0
                  have c3 : w9.cell? ⟨g, 3, none⟩ = some (.int .i64 em.seq) := X6.dcs.cell 3
                  have c4 : w9.cell? ⟨g, 4, none⟩ = some (.int .i64 em.asked) := X6.dcs.cell 4
                  have c6 : w9.cell? ⟨g, 6, none⟩ = some (.bool em.left) := X6.dcs.cell 6
                  have c10 : w9.cell? ⟨g, 10, none⟩ = some (.pointer (some ⟨gc6, 0, none⟩)) := X6.dcs.cell 10
                  have lt1 := X6.dcs.lt
                  have lt2 := World.block_lt_of_cell? w9 _ m1
                  have XH6 := Hid.mk_ X6
                  clear X6
                  refine wp_draws _ (Below.refl _ _) (by kernel_rfl) (by kernel_rfl) (fun hne hN => ?_)
                  repeat (go_big_quiet_step (fail))
                  refine wpQuiet_nil (after_cells ?_)
                  intro wb bwb hwb
                  have D7 := Hid.mk_ (D9.out.below bwb)
                  have M7 : Hid (wb.heap[z]? = some (.cells cs 46 (0, 0))) := Hid.mk_ ((bwb.block z lt2).trans M9.out)
                  have R7 := Hid.mk_ (R9.out.then_ (Rum.Wr.of_below bwb (fun _ => False)) (fun _ h => h.elim))
                  clear hne hN hwb lt1 lt2 m0 m1 m3 m4 m5 c0 c3 c4 c6 c10 XH6
                  clear D9 M9 R9 bwb
                  have m0 : wb.cell? ⟨z, 0, none⟩ = some (.int .i64 k) := by rw [cell_of_row wb z 0 cs 46 (0, 0) M7.out]; exact hc.out.c0
                  have m1 : wb.cell? ⟨z, 1, none⟩ = some (.int .i64 f) := by rw [cell_of_row wb z 1 cs 46 (0, 0) M7.out]; exact hc.out.c1
                  have m3 : wb.cell? ⟨z, 3, none⟩ = some (.int .i64 s) := by rw [cell_of_row wb z 3 cs 46 (0, 0) M7.out]; exact hc.out.c3
                  have m4 : wb.cell? ⟨z, 4, none⟩ = some (.int .i64 fo) := by rw [cell_of_row wb z 4 cs 46 (0, 0) M7.out]; exact hc.out.c4
                  have m5 : wb.cell? ⟨z, 5, none⟩ = some (.int .i64 ab) := by rw [cell_of_row wb z 5 cs 46 (0, 0) M7.out]; exact hc.out.c5
                  obtain ⟨gv6, gq6, go6, gc6, A6, B6, n6, cc6, C6, X6⟩ := D7.out
                  have c0 : wb.cell? ⟨g, 0, none⟩ = some (.int .i64 em.self) := X6.dcs.cell 0
                  have c3 : wb.cell? ⟨g, 3, none⟩ = some (.int .i64 em.seq) := X6.dcs.cell 3
                  have c4 : wb.cell? ⟨g, 4, none⟩ = some (.int .i64 em.asked) := X6.dcs.cell 4
                  have c6 : wb.cell? ⟨g, 6, none⟩ = some (.bool em.left) := X6.dcs.cell 6
                  have c10 : wb.cell? ⟨g, 10, none⟩ = some (.pointer (some ⟨gc6, 0, none⟩)) := X6.dcs.cell 10
                  have lt1 := X6.dcs.lt
                  have lt2 := World.block_lt_of_cell? wb _ m1
                  have XH6 := Hid.mk_ X6
                  clear X6
                  go_wp2_with fail
                  go_ret
                  rw [HD1.out, HM1.out]
                  first | exact ⟨_, _, rfl, Hid.mk_ (Outs.nil _ _), Hid.mk_ (RTurnX.of ⟨S5, D7.out, HS6.out, R7.out⟩)⟩ | exact ⟨_, rfl, _, Hid.mk_ (Outs.nil _ _), Hid.mk_ (RTurnX.of ⟨S5, D7.out, HS6.out, R7.out⟩)⟩
          · have kb2 : (k == 2) = false := by simp [k2]
            refine wp_draws _ (Below.refl _ _) (by kernel_rfl) (by kernel_rfl) (fun hne hN => ?_)
            repeat (go_big_quiet_step (fail))
            refine wpQuiet_nil (after_cells ?_)
            intro w7 bw7 hw7
            have D7 := Hid.mk_ (D6.out.below bw7)
            have M7 : Hid (w7.heap[z]? = some (.cells cs 46 (0, 0))) := Hid.mk_ ((bw7.block z lt2).trans M6.out)
            have R7 := Hid.mk_ (R6.out.then_ (Rum.Wr.of_below bw7 (fun _ => False)) (fun _ h => h.elim))
            clear hne hN hw7 lt1 lt2 m0 m1 m3 m4 m5 c0 c3 c4 c6 c10 XH6
            clear D6 M6 R6 bw7
            have m0 : w7.cell? ⟨z, 0, none⟩ = some (.int .i64 k) := by rw [cell_of_row w7 z 0 cs 46 (0, 0) M7.out]; exact hc.out.c0
            have m1 : w7.cell? ⟨z, 1, none⟩ = some (.int .i64 f) := by rw [cell_of_row w7 z 1 cs 46 (0, 0) M7.out]; exact hc.out.c1
            have m3 : w7.cell? ⟨z, 3, none⟩ = some (.int .i64 s) := by rw [cell_of_row w7 z 3 cs 46 (0, 0) M7.out]; exact hc.out.c3
            have m4 : w7.cell? ⟨z, 4, none⟩ = some (.int .i64 fo) := by rw [cell_of_row w7 z 4 cs 46 (0, 0) M7.out]; exact hc.out.c4
            have m5 : w7.cell? ⟨z, 5, none⟩ = some (.int .i64 ab) := by rw [cell_of_row w7 z 5 cs 46 (0, 0) M7.out]; exact hc.out.c5
            obtain ⟨gv6, gq6, go6, gc6, A6, B6, n6, cc6, C6, X6⟩ := D7.out
            have c0 : w7.cell? ⟨g, 0, none⟩ = some (.int .i64 em.self) := X6.dcs.cell 0
            have c3 : w7.cell? ⟨g, 3, none⟩ = some (.int .i64 em.seq) := X6.dcs.cell 3
            have c4 : w7.cell? ⟨g, 4, none⟩ = some (.int .i64 em.asked) := X6.dcs.cell 4
            have c6 : w7.cell? ⟨g, 6, none⟩ = some (.bool em.left) := X6.dcs.cell 6
            have c10 : w7.cell? ⟨g, 10, none⟩ = some (.pointer (some ⟨gc6, 0, none⟩)) := X6.dcs.cell 10
            have lt1 := X6.dcs.lt
            have lt2 := World.block_lt_of_cell? w7 _ m1
            have XH6 := Hid.mk_ X6
            clear X6
            have HKF : Hid (¬ (k = 2 ∧ fo = em.self)) := Hid.mk_ (fun h => k2 h.1)
            have K2 := Hid.mk_ k2
            clear k2
            cases hleft : em.left with
            | true =>
              obtain ⟨hd1, hm1⟩ := hnd2 (s := s) (fo := fo) (ab := ab) HNO.out HEM.out HKF.out hleft
              have HD1 := Hid.mk_ (hd.out.trans hd1)
              have HM1 := Hid.mk_ (hms.out.trans hm1)
              clear hd1 hm1
              rw [hleft] at c6
              go_wp2_with fail
              go_ret
              rw [HD1.out, HM1.out]
              first | exact ⟨_, _, rfl, Hid.mk_ (Outs.nil _ _), Hid.mk_ (RTurnX.of ⟨S5, D7.out, HS6.out, R7.out⟩)⟩ | exact ⟨_, rfl, _, Hid.mk_ (Outs.nil _ _), Hid.mk_ (RTurnX.of ⟨S5, D7.out, HS6.out, R7.out⟩)⟩
            | false =>
              rw [hleft] at c6
              have hleft := Hid.mk_ hleft
              by_cases k1 : k = 1
              · have kb1 : (k == 1) = true := by simp [k1]
                have K1 := Hid.mk_ k1
                clear k1
                go_upto_region 22 with fail
                have HA : Hid (an em k f s fo ab = ⟨2, f, s, fo⟩) := Hid.mk_ (by unfold an; rw [if_pos K1.out])
                obtain ⟨hd1, hm1⟩ := hndS HNO.out HEM.out HKF.out hleft.out _ HA.out (by simp)
                have HD1 := Hid.mk_ (hd.out.trans hd1)
                have HM1 := Hid.mk_ (hms.out.trans hm1)
                clear hd1 hm1
                have HB0 : Hid (w.heap.size ≤ w7.heap.size) := Hid.mk_ R7.out.size
                have HO0 : Hid (Outs w7 w.heap.size (.slice none 0 0) [] (fun _ => False)) := Hid.mk_ (Outs.nil _ _)
                have HT0 : Hid (∀ i, S5 i → ¬ (fun _ : Nat => False) i) := Hid.mk_ (fun _ _ h => h)
                have HL0 : Hid (([] : List Om).length ≤ 100000) := Hid.mk_ (by decide)
                have HMM : Hid ((⟨2, em.self, f, s, fo, 0, dClaims em f⟩ : Om) = ⟨2, em.self, f, s, fo, 0, dClaims em f⟩) := Hid.mk_ rfl
                go_wp2_with (go_at_call 46; refine (sendR w7 S5 g em 2 0 f s fo 0 (.slice none 0 0) D7 w.heap.size _ [] _ HO0 HB0 HT0 HL0 _ HMM).mono ?_; rintro e0 w8 ⟨v8, rfl, t8⟩)
                go_ret
                obtain ⟨T8, o8, x8⟩ := t8.out.fin R7.out HS6.out
                rw [HD1.out, HM1.out]
                first | exact ⟨_, T8, rfl, o8, x8⟩ | exact ⟨_, rfl, T8, o8, x8⟩
              · have kb1 : (k == 1) = false := by simp [k1]
                have K1 := Hid.mk_ k1
                clear k1
                go_upto_region 25 with fail
                by_cases k3 : k = 3
                · have kb3 : (k == 3) = true := by simp [k3]
                  have K3 := Hid.mk_ k3
                  clear k3
                  cases hnode : nodeB ab with
                  | true =>
                    have HN := Hid.mk_ hnode.symm
                    clear hnode
                    by_cases hself : ab = em.self
                    · have asb : (ab != em.self) = false := by simp [hself]
                      have AS := Hid.mk_ hself
                      clear hself
                      have HA : Hid ((an em k f s fo ab).k = 0) := Hid.mk_ (by unfold an; rw [if_neg K1.out, if_neg K2.out, if_neg (fun h => h.2.2 AS.out)])
                      obtain ⟨hd1, hm1⟩ := hndN HNO.out HEM.out HKF.out HA.out
                      have HD1 := Hid.mk_ (hd.out.trans hd1)
                      have HM1 := Hid.mk_ (hms.out.trans hm1)
                      clear hd1 hm1
                      refine wp_draws _ (Below.refl _ _) (by kernel_rfl) (by kernel_rfl) (fun hne hN => ?_)
                      repeat (go_big_quiet_step (first | (go_at_call 31; with_reducible exact After.calls (rnode ab _ true HN)) | fail))
                      refine wpQuiet_nil (after_cells ?_)
                      intro wb bwb hwb
                      have D7' := Hid.mk_ (D7.out.below bwb)
                      have M7' : Hid (wb.heap[z]? = some (.cells cs 46 (0, 0))) := Hid.mk_ ((bwb.block z lt2).trans M7.out)
                      have R7' := Hid.mk_ (R7.out.then_ (Rum.Wr.of_below bwb (fun _ => False)) (fun _ h => h.elim))
                      clear hne hN hwb lt1 lt2 m0 m1 m3 m4 m5 c0 c3 c4 c6 c10 XH6
                      clear D7 M7 R7 bwb
                      have m0 : wb.cell? ⟨z, 0, none⟩ = some (.int .i64 k) := by rw [cell_of_row wb z 0 cs 46 (0, 0) M7'.out]; exact hc.out.c0
                      have m1 : wb.cell? ⟨z, 1, none⟩ = some (.int .i64 f) := by rw [cell_of_row wb z 1 cs 46 (0, 0) M7'.out]; exact hc.out.c1
                      have m3 : wb.cell? ⟨z, 3, none⟩ = some (.int .i64 s) := by rw [cell_of_row wb z 3 cs 46 (0, 0) M7'.out]; exact hc.out.c3
                      have m4 : wb.cell? ⟨z, 4, none⟩ = some (.int .i64 fo) := by rw [cell_of_row wb z 4 cs 46 (0, 0) M7'.out]; exact hc.out.c4
                      have m5 : wb.cell? ⟨z, 5, none⟩ = some (.int .i64 ab) := by rw [cell_of_row wb z 5 cs 46 (0, 0) M7'.out]; exact hc.out.c5
                      obtain ⟨gv6, gq6, go6, gc6, A6, B6, n6, cc6, C6, X6⟩ := D7'.out
                      have c0 : wb.cell? ⟨g, 0, none⟩ = some (.int .i64 em.self) := X6.dcs.cell 0
                      have c3 : wb.cell? ⟨g, 3, none⟩ = some (.int .i64 em.seq) := X6.dcs.cell 3
                      have c4 : wb.cell? ⟨g, 4, none⟩ = some (.int .i64 em.asked) := X6.dcs.cell 4
                      have c6 : wb.cell? ⟨g, 6, none⟩ = some (.bool em.left) := X6.dcs.cell 6
                      have c10 : wb.cell? ⟨g, 10, none⟩ = some (.pointer (some ⟨gc6, 0, none⟩)) := X6.dcs.cell 10
                      have lt1 := X6.dcs.lt
                      have lt2 := World.block_lt_of_cell? wb _ m1
                      have XH6 := Hid.mk_ X6
                      clear X6
                      go_wp2_with fail
                      go_ret
                      rw [HD1.out, HM1.out]
                      first | exact ⟨_, _, rfl, Hid.mk_ (Outs.nil _ _), Hid.mk_ (RTurnX.of ⟨S5, D7'.out, HS6.out, R7'.out⟩)⟩ | exact ⟨_, rfl, _, Hid.mk_ (Outs.nil _ _), Hid.mk_ (RTurnX.of ⟨S5, D7'.out, HS6.out, R7'.out⟩)⟩
                    · have asb : (ab != em.self) = true := by simp [hself]
                      have AS := Hid.mk_ hself
                      clear hself
                      refine wp_draws _ (Below.refl _ _) (by kernel_rfl) (by kernel_rfl) (fun hne hN => ?_)
                      repeat (go_big_quiet_step (first | (go_at_call 31; with_reducible exact After.calls (rnode ab _ true HN)) | fail))
                      refine wpQuiet_nil (after_cells ?_)
                      intro wb bwb hwb
                      have D7' := Hid.mk_ (D7.out.below bwb)
                      have M7' : Hid (wb.heap[z]? = some (.cells cs 46 (0, 0))) := Hid.mk_ ((bwb.block z lt2).trans M7.out)
                      have R7' := Hid.mk_ (R7.out.then_ (Rum.Wr.of_below bwb (fun _ => False)) (fun _ h => h.elim))
                      clear hne hN hwb lt1 lt2 m0 m1 m3 m4 m5 c0 c3 c4 c6 c10 XH6
                      clear D7 M7 R7 bwb
                      have m0 : wb.cell? ⟨z, 0, none⟩ = some (.int .i64 k) := by rw [cell_of_row wb z 0 cs 46 (0, 0) M7'.out]; exact hc.out.c0
                      have m1 : wb.cell? ⟨z, 1, none⟩ = some (.int .i64 f) := by rw [cell_of_row wb z 1 cs 46 (0, 0) M7'.out]; exact hc.out.c1
                      have m3 : wb.cell? ⟨z, 3, none⟩ = some (.int .i64 s) := by rw [cell_of_row wb z 3 cs 46 (0, 0) M7'.out]; exact hc.out.c3
                      have m4 : wb.cell? ⟨z, 4, none⟩ = some (.int .i64 fo) := by rw [cell_of_row wb z 4 cs 46 (0, 0) M7'.out]; exact hc.out.c4
                      have m5 : wb.cell? ⟨z, 5, none⟩ = some (.int .i64 ab) := by rw [cell_of_row wb z 5 cs 46 (0, 0) M7'.out]; exact hc.out.c5
                      obtain ⟨gv6, gq6, go6, gc6, A6, B6, n6, cc6, C6, X6⟩ := D7'.out
                      have c0 : wb.cell? ⟨g, 0, none⟩ = some (.int .i64 em.self) := X6.dcs.cell 0
                      have c3 : wb.cell? ⟨g, 3, none⟩ = some (.int .i64 em.seq) := X6.dcs.cell 3
                      have c4 : wb.cell? ⟨g, 4, none⟩ = some (.int .i64 em.asked) := X6.dcs.cell 4
                      have c6 : wb.cell? ⟨g, 6, none⟩ = some (.bool em.left) := X6.dcs.cell 6
                      have c10 : wb.cell? ⟨g, 10, none⟩ = some (.pointer (some ⟨gc6, 0, none⟩)) := X6.dcs.cell 10
                      have lt1 := X6.dcs.lt
                      have lt2 := World.block_lt_of_cell? wb _ m1
                      have XH6 := Hid.mk_ X6
                      clear X6
                      have HA : Hid (an em k f s fo ab = ⟨1, ab, s, f⟩) := Hid.mk_ (by unfold an; rw [if_neg K1.out, if_neg K2.out, if_pos ⟨K3.out, HN.out.symm, AS.out⟩])
                      obtain ⟨hd1, hm1⟩ := hndS HNO.out HEM.out HKF.out hleft.out _ HA.out (by simp)
                      have HD1 := Hid.mk_ (hd.out.trans hd1)
                      have HM1 := Hid.mk_ (hms.out.trans hm1)
                      clear hd1 hm1
                      have HB0 : Hid (w.heap.size ≤ wb.heap.size) := Hid.mk_ R7'.out.size
                      have HO0 : Hid (Outs wb w.heap.size (.slice none 0 0) [] (fun _ => False)) := Hid.mk_ (Outs.nil _ _)
                      have HT0 : Hid (∀ i, S5 i → ¬ (fun _ : Nat => False) i) := Hid.mk_ (fun _ _ h => h)
                      have HL0 : Hid (([] : List Om).length ≤ 100000) := Hid.mk_ (by decide)
                      have HMM : Hid ((⟨1, em.self, ab, s, f, 0, dClaims em ab⟩ : Om) = ⟨1, em.self, ab, s, f, 0, dClaims em ab⟩) := Hid.mk_ rfl
                      go_wp2_with (go_at_call 46; refine (sendR wb S5 g em 1 0 ab s f 0 (.slice none 0 0) D7' w.heap.size _ [] _ HO0 HB0 HT0 HL0 _ HMM).mono ?_; rintro e0 w8 ⟨v8, rfl, t8⟩)
                      go_ret
                      obtain ⟨T8, o8, x8⟩ := t8.out.fin R7'.out HS6.out
                      rw [HD1.out, HM1.out]
                      first | exact ⟨_, T8, rfl, o8, x8⟩ | exact ⟨_, rfl, T8, o8, x8⟩
                  | false =>
                    have HN := Hid.mk_ hnode.symm
                    clear hnode
                    have HA : Hid ((an em k f s fo ab).k = 0) := Hid.mk_ (by unfold an; rw [if_neg K1.out, if_neg K2.out, if_neg (fun h => by rw [← HN.out] at h; exact absurd h.2.1 (by decide))])
                    obtain ⟨hd1, hm1⟩ := hndN HNO.out HEM.out HKF.out HA.out
                    have HD1 := Hid.mk_ (hd.out.trans hd1)
                    have HM1 := Hid.mk_ (hms.out.trans hm1)
                    clear hd1 hm1
                    refine wp_draws _ (Below.refl _ _) (by kernel_rfl) (by kernel_rfl) (fun hne hN => ?_)
                    repeat (go_big_quiet_step (first | (go_at_call 31; with_reducible exact After.calls (rnode ab _ false HN)) | fail))
                    refine wpQuiet_nil (after_cells ?_)
                    intro wb bwb hwb
                    have D7' := Hid.mk_ (D7.out.below bwb)
                    have M7' : Hid (wb.heap[z]? = some (.cells cs 46 (0, 0))) := Hid.mk_ ((bwb.block z lt2).trans M7.out)
                    have R7' := Hid.mk_ (R7.out.then_ (Rum.Wr.of_below bwb (fun _ => False)) (fun _ h => h.elim))
                    clear hne hN hwb lt1 lt2 m0 m1 m3 m4 m5 c0 c3 c4 c6 c10 XH6
                    clear D7 M7 R7 bwb
                    have m0 : wb.cell? ⟨z, 0, none⟩ = some (.int .i64 k) := by rw [cell_of_row wb z 0 cs 46 (0, 0) M7'.out]; exact hc.out.c0
                    have m1 : wb.cell? ⟨z, 1, none⟩ = some (.int .i64 f) := by rw [cell_of_row wb z 1 cs 46 (0, 0) M7'.out]; exact hc.out.c1
                    have m3 : wb.cell? ⟨z, 3, none⟩ = some (.int .i64 s) := by rw [cell_of_row wb z 3 cs 46 (0, 0) M7'.out]; exact hc.out.c3
                    have m4 : wb.cell? ⟨z, 4, none⟩ = some (.int .i64 fo) := by rw [cell_of_row wb z 4 cs 46 (0, 0) M7'.out]; exact hc.out.c4
                    have m5 : wb.cell? ⟨z, 5, none⟩ = some (.int .i64 ab) := by rw [cell_of_row wb z 5 cs 46 (0, 0) M7'.out]; exact hc.out.c5
                    obtain ⟨gv6, gq6, go6, gc6, A6, B6, n6, cc6, C6, X6⟩ := D7'.out
                    have c0 : wb.cell? ⟨g, 0, none⟩ = some (.int .i64 em.self) := X6.dcs.cell 0
                    have c3 : wb.cell? ⟨g, 3, none⟩ = some (.int .i64 em.seq) := X6.dcs.cell 3
                    have c4 : wb.cell? ⟨g, 4, none⟩ = some (.int .i64 em.asked) := X6.dcs.cell 4
                    have c6 : wb.cell? ⟨g, 6, none⟩ = some (.bool em.left) := X6.dcs.cell 6
                    have c10 : wb.cell? ⟨g, 10, none⟩ = some (.pointer (some ⟨gc6, 0, none⟩)) := X6.dcs.cell 10
                    have lt1 := X6.dcs.lt
                    have lt2 := World.block_lt_of_cell? wb _ m1
                    have XH6 := Hid.mk_ X6
                    clear X6
                    go_wp2_with fail
                    go_ret
                    rw [HD1.out, HM1.out]
                    first | exact ⟨_, _, rfl, Hid.mk_ (Outs.nil _ _), Hid.mk_ (RTurnX.of ⟨S5, D7'.out, HS6.out, R7'.out⟩)⟩ | exact ⟨_, rfl, _, Hid.mk_ (Outs.nil _ _), Hid.mk_ (RTurnX.of ⟨S5, D7'.out, HS6.out, R7'.out⟩)⟩
                · have kb3 : (k == 3) = false := by simp [k3]
                  have K3 := Hid.mk_ k3
                  clear k3
                  have HA : Hid ((an em k f s fo ab).k = 0) := Hid.mk_ (by unfold an; rw [if_neg K1.out, if_neg K2.out, if_neg (fun h => K3.out h.1)])
                  obtain ⟨hd1, hm1⟩ := hndN HNO.out HEM.out HKF.out HA.out
                  have HD1 := Hid.mk_ (hd.out.trans hd1)
                  have HM1 := Hid.mk_ (hms.out.trans hm1)
                  clear hd1 hm1
                  refine wp_draws _ (Below.refl _ _) (by kernel_rfl) (by kernel_rfl) (fun hne hN => ?_)
                  repeat (go_big_quiet_step (fail))
                  refine wpQuiet_nil (after_cells ?_)
                  intro wb bwb hwb
                  have D7' := Hid.mk_ (D7.out.below bwb)
                  have M7' : Hid (wb.heap[z]? = some (.cells cs 46 (0, 0))) := Hid.mk_ ((bwb.block z lt2).trans M7.out)
                  have R7' := Hid.mk_ (R7.out.then_ (Rum.Wr.of_below bwb (fun _ => False)) (fun _ h => h.elim))
                  clear hne hN hwb lt1 lt2 m0 m1 m3 m4 m5 c0 c3 c4 c6 c10 XH6
                  clear D7 M7 R7 bwb
                  have m0 : wb.cell? ⟨z, 0, none⟩ = some (.int .i64 k) := by rw [cell_of_row wb z 0 cs 46 (0, 0) M7'.out]; exact hc.out.c0
                  have m1 : wb.cell? ⟨z, 1, none⟩ = some (.int .i64 f) := by rw [cell_of_row wb z 1 cs 46 (0, 0) M7'.out]; exact hc.out.c1
                  have m3 : wb.cell? ⟨z, 3, none⟩ = some (.int .i64 s) := by rw [cell_of_row wb z 3 cs 46 (0, 0) M7'.out]; exact hc.out.c3
                  have m4 : wb.cell? ⟨z, 4, none⟩ = some (.int .i64 fo) := by rw [cell_of_row wb z 4 cs 46 (0, 0) M7'.out]; exact hc.out.c4
                  have m5 : wb.cell? ⟨z, 5, none⟩ = some (.int .i64 ab) := by rw [cell_of_row wb z 5 cs 46 (0, 0) M7'.out]; exact hc.out.c5
                  obtain ⟨gv6, gq6, go6, gc6, A6, B6, n6, cc6, C6, X6⟩ := D7'.out
                  have c0 : wb.cell? ⟨g, 0, none⟩ = some (.int .i64 em.self) := X6.dcs.cell 0
                  have c3 : wb.cell? ⟨g, 3, none⟩ = some (.int .i64 em.seq) := X6.dcs.cell 3
                  have c4 : wb.cell? ⟨g, 4, none⟩ = some (.int .i64 em.asked) := X6.dcs.cell 4
                  have c6 : wb.cell? ⟨g, 6, none⟩ = some (.bool em.left) := X6.dcs.cell 6
                  have c10 : wb.cell? ⟨g, 10, none⟩ = some (.pointer (some ⟨gc6, 0, none⟩)) := X6.dcs.cell 10
                  have lt1 := X6.dcs.lt
                  have lt2 := World.block_lt_of_cell? wb _ m1
                  have XH6 := Hid.mk_ X6
                  clear X6
                  go_wp2_with fail
                  go_ret
                  rw [HD1.out, HM1.out]
                  first | exact ⟨_, _, rfl, Hid.mk_ (Outs.nil _ _), Hid.mk_ (RTurnX.of ⟨S5, D7'.out, HS6.out, R7'.out⟩)⟩ | exact ⟨_, rfl, _, Hid.mk_ (Outs.nil _ _), Hid.mk_ (RTurnX.of ⟨S5, D7'.out, HS6.out, R7'.out⟩)⟩
theorem handleR (w : World) (S : Nat → Prop) (g : Nat) (d : Dt) (cs : Array Value) (k f t s fo ab : Int) (P : Option Addr) (n c : Nat) (ls : List Cl) (hD : Hid (DetD w S g d)) (hv : Hid (Vok d)) (hc : Hid (MsgC cs k f t s fo ab (.slice P n c))) (hl : Hid (ClAt w P ls)) (hS : Hid (∀ b off, P = some ⟨b, off, none⟩ → 0 < n → ¬ S b)) (hn : Hid (n = ls.length)) (hnc : n ≤ c) (hcc : c ≤ 9223372036854775807) (d' : Dt) (hd : Hid (d' = dHandle d k f t s fo ab ls)) (ms : List Om) (hms : Hid (ms = oHandle d k f t s fo ab ls)) :
    Calls Tryz.prog 14 #[.pointer (some ⟨g, 0, none⟩), .agg cs] w fun e w' => ∃ v T, e = .returned v ∧ Hid (Outs w' w.heap.size v ms T) ∧ Hid (RTurnX w w' S g d' T) := by
  have no : (t ≠ d.self ∨ nodeB f = false ∨ f = d.self) → ∀ e w', e = Ending.returned (.slice none 0 0) ∧ Below w.heap.size w w' → ∃ v T, e = .returned v ∧ Hid (Outs w' w.heap.size v ms T) ∧ Hid (RTurnX w w' S g d' T) := by
    rintro h e w' ⟨rfl, hb⟩
    have E1 : d' = d := by rw [hd.out]; unfold dHandle; rw [if_pos h]
    have E2 : ms = [] := by rw [hms.out]; unfold oHandle; rw [if_pos h]
    subst E1 E2
    exact ⟨_, _, rfl, Hid.mk_ (Outs.nil _ _), Hid.mk_ (RTurnX.of (RTurn.of_below hD.out hb))⟩
  by_cases ht : t = d.self
  · cases hb : nodeB f with
    | false => exact (handleR_no2 w S g d cs k f t s fo ab P n c ls hD hv hc hl hS hn hnc hcc ht (Hid.mk_ hb.symm)).mono (no (.inr (.inl hb)))
    | true =>
      by_cases hf : f = d.self
      · exact (handleR_no3 w S g d cs k f t s fo ab P n c ls hD hv hc hl hS hn hnc hcc ht (Hid.mk_ hb.symm) hf).mono (no (.inr (.inr hf)))
      · exact handleR_yes w S g d cs k f t s fo ab P n c ls hD hv hc hl hS hn hnc hcc ht (Hid.mk_ hb.symm) hf d' hd ms hms
  · exact (handleR_no1 w S g d cs k f t s fo ab P n c ls hD hv hc hl hS hn hnc hcc ht).mono (no (.inl ht))
end Go.Proofs.YthndjhocmpelcaaGreat.Rd
