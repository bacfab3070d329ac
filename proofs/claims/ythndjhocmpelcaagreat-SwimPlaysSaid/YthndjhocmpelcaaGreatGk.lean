/- A detector handles messages; what holds while a tick goes on. Conditions: as each theorem says. -/
import Derived.Test.YthndjhocmpelcaaGreatSwR
import Derived.Deep.MidRow
namespace Go.Proofs.YthndjhocmpelcaaGreat.Swi
open Go.RowKit Kit Hth Tri3
set_option linter.unusedVariables false
/-- A message that is sent, plain. -/
structure Om where
  k : Int
  f : Int
  t : Int
  s : Int
  fo : Int
  ab : Int
  cs : List Cl
/-- Where its claims lie. -/
structure Sl where
  P : Option Addr
  n : Nat
  c : Nat
@[reducible] def Sl.v (s : Sl) : Value := .slice s.P s.n s.c
def rowM (m : Om) (s : Sl) : Array Value := msg m.k m.f m.t m.s m.fo m.ab s.v
theorem rowM_size (m : Om) (s : Sl) : (rowM m s).size = 62 := rfl
theorem rowM_len (m : Om) (s : Sl) : (rowM m s).toList.length = 62 := rfl
theorem rowM_one (m : Om) (s : Sl) : (rowM m s).all (·.oneCell') = true := msg_one rfl
def cellsM : List Om → List Sl → List Value
  | m :: ms, s :: ss => (rowM m s).toList ++ cellsM ms ss
  | _, _ => []
theorem cellsM_one (m : Om) (s : Sl) : cellsM [m] [s] = (rowM m s).toList := by simp [cellsM]
theorem cellsM_len : ∀ (ms : List Om) (ss : List Sl), ss.length = ms.length → (cellsM ms ss).length = ms.length * 62
  | [], _, _ => by simp [cellsM]
  | _ :: _, [], h => by simp at h
  | m :: ms, s :: ss, h => by
    rw [cellsM, List.length_append, cellsM_len ms ss (by simpa using h), rowM_len]
    simp
    omega
theorem cellsM_append : ∀ (ms : List Om) (ss : List Sl) (ms' : List Om) (ss' : List Sl), ss.length = ms.length → cellsM (ms ++ ms') (ss ++ ss') = cellsM ms ss ++ cellsM ms' ss'
  | [], [], _, _, _ => rfl
  | [], _ :: _, _, _, h => by simp at h
  | _ :: _, [], _, _, h => by simp at h
  | m :: ms, s :: ss, ms', ss', h => by
    rw [List.cons_append, List.cons_append, cellsM, cellsM, cellsM_append ms ss ms' ss' (by simpa using h), List.append_assoc]
theorem cellsM_get : ∀ (ms : List Om) (ss : List Sl) (i : Nat) (m : Om) (s : Sl), ms[i]? = some m → ss[i]? = some s → ss.length = ms.length → ∀ j, j < 62 → (cellsM ms ss)[i * 62 + j]? = (rowM m s)[j]?
  | [], _, _, _, _, h, _, _, _, _ => by simp at h
  | _ :: _, [], _, _, _, _, _, h, _, _ => by simp at h
  | m :: ms, s :: ss, 0, m', s', h1, h2, h3, j, hj => by
    obtain rfl : m = m' := by simpa using h1
    obtain rfl : s = s' := by simpa using h2
    rw [cellsM, List.getElem?_append_left (by rw [rowM_len]; omega), Nat.zero_mul, Nat.zero_add]
    simp
  | m :: ms, s :: ss, i + 1, m', s', h1, h2, h3, j, hj => by
    rw [cellsM, List.getElem?_append_right (by rw [rowM_len]; omega), rowM_len, show (i + 1) * 62 + j - 62 = i * 62 + j by omega]
    exact cellsM_get ms ss i m' s' (by simpa using h1) (by simpa using h2) (by simpa using h3) j hj
/-- A row of messages that were sent: it and the claims of each lie in blocks T, each claims' block is not the row's. -/
def Outs (w : World) (base : Nat) (v : Value) (ms : List Om) (T : Nat → Prop) : Prop :=
  (∃ ss : List Sl, ss.length = ms.length ∧ w.ownsRow base 46 62 v ms.length (cellsM ms ss) ∧ ∀ (i : Nat) (m : Om) (s : Sl), ms[i]? = some m → ss[i]? = some s → Rum.OwnC w base s.v s.n m.cs ∧ ∀ j, s.v.ownBlock = some j → T j ∧ v.ownBlock ≠ some j) ∧
    (∀ j, v.ownBlock = some j → T j) ∧ ∀ j, T j → base ≤ j ∧ j < w.heap.size
theorem OwnC_keep {w w' : World} {base : Nat} {v : Value} {n : Nat} {cs : List Cl} (h : Rum.OwnC w base v n cs) (hb : ∀ k, v.ownBlock = some k → k < w.heap.size → w'.heap[k]? = w.heap[k]?) : Rum.OwnC w' base v n cs := ⟨h.1, Rowz.keep h.2 hb⟩
theorem Outs.keep {w w' : World} {base : Nat} {v : Value} {ms : List Om} {T : Nat → Prop} (h : Outs w base v ms T) (hs : w.heap.size ≤ w'.heap.size) (hk : ∀ j, T j → j < w.heap.size → w'.heap[j]? = w.heap[j]?) : Outs w' base v ms T := by
  obtain ⟨⟨ss, h1, h2, h3⟩, h4, h5⟩ := h
  refine ⟨⟨ss, h1, Rowz.keep h2 (fun k hk0 hlt => hk k (h4 k hk0) hlt), fun i m s hm hs0 => ?_⟩, h4, fun j hj => ⟨(h5 j hj).1, Nat.lt_of_lt_of_le (h5 j hj).2 hs⟩⟩
  obtain ⟨k1, k2⟩ := h3 i m s hm hs0
  exact ⟨OwnC_keep k1 (fun k hk0 hlt => hk k (k2 k hk0).1 hlt), k2⟩
theorem Outs.wr {w w' : World} {base : Nat} {v : Value} {ms : List Om} {T S : Nat → Prop} (h : Outs w base v ms T) (hw : Rum.Wr w w' S) (hd : ∀ j, S j → ¬ T j) : Outs w' base v ms T :=
  h.keep hw.size (fun j hj hlt => hw.block j hlt (fun hs => hd j hs hj))
theorem Outs.below {w w' : World} {base : Nat} {v : Value} {ms : List Om} {T : Nat → Prop} (h : Outs w base v ms T) (hb : Below w.heap.size w w') : Outs w' base v ms T :=
  h.keep hb.size (fun j hj hlt => hb.block j hlt)
theorem Outs.nil (w : World) (base : Nat) : Outs w base (.slice none 0 0) [] (fun _ => False) :=
  ⟨⟨[], rfl, World.ownsRow_nil _ _ _ _, fun i m s h => by simp at h⟩, fun j h => by simp [Value.ownBlock] at h, fun _ h => h.elim⟩
theorem Outs.form {w : World} {base : Nat} {v : Value} {ms : List Om} {T : Nat → Prop} (h : Outs w base v ms T) : ∃ A c, v = .slice A ms.length c ∧ ms.length ≤ c ∧ c ≤ 9223372036854775807 := by
  obtain ⟨⟨ss, h1, h2, h3⟩, h4, h5⟩ := h
  obtain ⟨A, c, e, k1, k2, _⟩ := Rowz.form h2
  exact ⟨A, c, e, k1, k2⟩
/-- One message alone: as buildSlice makes it. -/
theorem Outs.one {w : World} {base q : Nat} (m : Om) (s : Sl) (hq : base ≤ q) (h : w.heap[q]? = some (.cells (rowM m s) 46 (0, 0))) (hc : Rum.OwnC w base s.v s.n m.cs) (hn : ∀ j, s.v.ownBlock = some j → j ≠ q) :
    Outs w base (.slice (some ⟨q, 0, none⟩) 1 1) [m] (fun j => j = q ∨ s.v.ownBlock = some j) := by
  refine ⟨⟨[s], rfl, ⟨rfl, .inr ⟨q, 1, _, rfl, hq, h, Nat.le_refl _, by decide, rfl, ?_⟩⟩, fun i m' s' h1 h2 => ?_⟩, fun j hj => .inl (by simp [Value.ownBlock] at hj; exact hj.symm), fun j hj => ?_⟩
  · show List.take 62 (rowM m s).toList = cellsM [m] [s]
    rw [cellsM_one]
    exact List.take_of_length_le (by rw [rowM_len]; omega)
  · cases i with
    | succ i => simp at h1
    | zero =>
      obtain rfl : m = m' := by simpa using h1
      obtain rfl : s = s' := by simpa using h2
      exact ⟨hc, fun j hj => ⟨.inr hj, fun e => hn j hj (by simp [Value.ownBlock] at e; exact e.symm)⟩⟩
  · rcases hj with rfl | h1
    · exact ⟨hq, (Array.getElem?_eq_some_iff.1 h).1⟩
    · exact Rowz.blk hc.2 j h1
/-- One more message behind a row: of a block that holds it alone. -/
theorem Outs.app {w : World} {base : Nat} {v : Value} {ms : List Om} {T : Nat → Prop} (h : Outs w base v ms T) (m : Om) (s : Sl) (q : Nat) (hb : base ≤ w.heap.size) (hm : ms.length ≤ 100000) (h42 : w.heap[q]? = some (.cells (rowM m s) 46 (0, 0))) (hc : Rum.OwnC w base s.v s.n m.cs) (hn : ∀ j, s.v.ownBlock = some j → ¬ T j) (ty : TypeId) :
    ∃ v' w', (Builtin.append_ #[54, 54] ty #[v, .slice (some ⟨q, 0, none⟩) 1 1]).run Tryz.prog w = .ok v' w' ∧ ∃ T', Hid (Outs w' base v' (ms ++ [m]) T') ∧ Hid (w.grownBy w' v.ownBlock) ∧ Hid (∀ j, T' j → T j ∨ s.v.ownBlock = some j ∨ w.heap.size ≤ j) := by
  obtain ⟨⟨ss, h1, h2, h3⟩, h4, h5⟩ := h
  obtain ⟨i0, hi0, hz0, hz1, hz2⟩ := Rowz.info_parts info42
  obtain ⟨v', w', hr, k1, k2, k3⟩ := Rowz.app1 (P := Tryz.prog) w 54 46 ty i0 _ 62 552 Tryz.underlying54 hi0 hz0 hz1 hz2 (by rfl) (by decide) base v ms.length _ h2 ⟨q, 0, none⟩ 1 (rowM m s).toList (rowM_len m s)
    (fun j u hu => by rw [Addr.add_mid, Nat.zero_add, cell_of_row w q j _ 46 (0, 0) h42]; simpa using hu) (fun u hu => (Array.all_eq_true_iff_forall_mem.1 (rowM_one m s)) u (by simpa using hu)) (by omega) (by decide) hb
  have hc2 : ∀ j, s.v.ownBlock = some j → v.ownBlock ≠ some j := fun j hj e => hn j hj (h4 j e)
  refine ⟨v', w', hr, fun j => T j ∨ s.v.ownBlock = some j ∨ v'.ownBlock = some j, Hid.mk_ ⟨⟨ss ++ [s], by simp [h1], ?_, ?_⟩, fun j hj => .inr (.inr hj), ?_⟩, Hid.mk_ k2, Hid.mk_ ?_⟩
  · rw [cellsM_append _ _ _ _ h1, List.length_append, cellsM_one]
    exact k1
  · have fresh : ∀ j, j < w.heap.size → v.ownBlock ≠ some j → v'.ownBlock ≠ some j := fun j hj hv e => by
      rcases k3 with e1 | e1
      · rw [e1] at e; exact hv e
      · have := e1 j e; omega
    intro i m' s' hm' hs'
    by_cases hi : i < ms.length
    · rw [List.getElem?_append_left hi] at hm'
      rw [List.getElem?_append_left (by omega)] at hs'
      obtain ⟨a1, a2⟩ := h3 i m' s' hm' hs'
      exact ⟨OwnC_keep a1 (fun k hk hlt => k2.block k hlt (fun e => (a2 k hk).2 e.symm)), fun j hj => ⟨.inl (a2 j hj).1, fresh j (Rowz.blk a1.2 j hj).2 (a2 j hj).2⟩⟩
    · rw [List.getElem?_append_right (by omega)] at hm'
      rw [List.getElem?_append_right (by omega)] at hs'
      have hi0 : i - ms.length = 0 := by
        have := (List.getElem?_eq_some_iff.1 hm').1
        simp at this
        omega
      rw [hi0] at hm'
      rw [show i - ss.length = 0 by omega] at hs'
      obtain rfl : m = m' := by simpa using hm'
      obtain rfl : s = s' := by simpa using hs'
      exact ⟨OwnC_keep hc (fun k hk hlt => k2.block k hlt (fun e => hc2 k hk e.symm)), fun j hj => ⟨.inr (.inl hj), fresh j (Rowz.blk hc.2 j hj).2 (hc2 j hj)⟩⟩
  · rintro j (hj | hj | hj)
    · exact ⟨(h5 j hj).1, Nat.lt_of_lt_of_le (h5 j hj).2 k2.size⟩
    · have := Rowz.blk hc.2 j hj; exact ⟨this.1, Nat.lt_of_lt_of_le this.2 k2.size⟩
    · exact Rowz.blk k1 j hj
  · rintro j (hj | hj | hj)
    · exact .inl hj
    · exact .inr (.inl hj)
    · rcases k3 with e1 | e1
      · rw [e1] at hj; exact .inl (h4 j hj)
      · exact .inr (.inr (e1 j hj))
/-- A message of the row, as it lies. -/
theorem Outs.at_ {w : World} {base : Nat} {A : Option Addr} {n c : Nat} {ms : List Om} {T : Nat → Prop} (h : Outs w base (.slice A n c) ms T) (i : Nat) (m : Om) (hm : ms[i]? = some m) :
    ∃ b s, A = some ⟨b, 0, none⟩ ∧ T b ∧ b < w.heap.size ∧ Rum.OwnC w base s.v s.n m.cs ∧ (∀ j, s.v.ownBlock = some j → T j) ∧ w.rangeAt b (i * 62) (rowM m s).toList := by
  obtain ⟨⟨ss, h1, h2, h3⟩, h4, h5⟩ := h
  have hi := (List.getElem?_eq_some_iff.1 hm).1
  obtain ⟨s, hs⟩ : ∃ s, ss[i]? = some s := ⟨_, List.getElem?_eq_getElem (by omega)⟩
  obtain ⟨a1, a2⟩ := h3 i m s hm hs
  obtain ⟨A', c', e, k1, k2, k3⟩ := Rowz.form h2
  injection e with e1 e2 e3
  subst e1 e2 e3
  rcases k3 with ⟨_, _, h0⟩ | ⟨b, rfl, hb, hlt⟩
  · omega
  · refine ⟨b, s, rfl, h4 b rfl, hlt, a1, fun j hj => (a2 j hj).1, fun j v hv => ?_⟩
    have hj : j < 62 := by have := (List.getElem?_eq_some_iff.1 hv).1; rw [rowM_len] at this; exact this
    rw [World.ownsRow.cellAt h2 (i * 62 + j) (by omega), cellsM_get ms ss i m s hm hs h1 j hj]
    simpa using hv
theorem wpList_msgs (w : World) {ops : Array Oper} {rest : List Oper} {o : Oper} {a : Act} {Q : Exit → Act → World → Prop} (hgd : o.guard = none) (x : Operand) (ho : o.op = .buildSlice 54 1 #[(0, x)]) (cs : Array Value) (hx : a.eval x = .agg cs) (hc : cs.size = 62)
    (h : wpList Tryz.prog ops Q rest (a.put o.dst (.slice (some ⟨w.heap.size, 0, none⟩) 1 1)) (w.alloc (.cells cs 46))) : wpList Tryz.prog ops Q (o :: rest) a w :=
  wpList_plain hgd fun _ hK => by
    unfold Oper.wp execOp
    simp only [ho, List.map_toArray, List.map_cons, List.map_nil, hx, Sem.run_bind, run_msgs w cs hc, Result.andThen_ok, Sem.run_pure]
    exact hK _ _ h
/-- What is answered, plain. -/
structure An where
  k : Int
  t : Int
  s : Int
  fo : Int
def an (d : Dt) (k f s fo ab : Int) : An :=
  if k = 1 then ⟨2, f, s, fo⟩
  else if k = 2 then (if fo = d.self then ⟨0, 0, 0, 0⟩ else if nodeB fo then ⟨2, fo, s, fo⟩ else ⟨0, 0, 0, 0⟩)
  else if k = 3 ∧ nodeB ab = true ∧ ab ≠ d.self then ⟨1, ab, s, f⟩ else ⟨0, 0, 0, 0⟩
theorem aMsg_an (d : Dt) (k f s fo ab : Int) : aMsg d k f s fo ab = am (an d k f s fo ab).k (an d k f s fo ab).t (an d k f s fo ab).s (an d k f s fo ab).fo := by
  unfold aMsg an
  split
  · rfl
  · split
    · split
      · rfl
      · split <;> rfl
    · split <;> rfl
def dHandle (d : Dt) (k f t s fo ab : Int) (ls : List Cl) : Dt :=
  if t ≠ d.self ∨ nodeB f = false ∨ f = d.self then d
  else if (an (dMeets d f ls) k f s fo ab).k = 0 ∨ (dAns (dMeets d f ls) k s fo).left = true then dAns (dMeets d f ls) k s fo else dSent (dAns (dMeets d f ls) k s fo)
def oHandle (d : Dt) (k f t s fo ab : Int) (ls : List Cl) : List Om :=
  if t ≠ d.self ∨ nodeB f = false ∨ f = d.self then []
  else if (an (dMeets d f ls) k f s fo ab).k = 0 ∨ (dAns (dMeets d f ls) k s fo).left = true then []
  else [⟨(an (dMeets d f ls) k f s fo ab).k, (dAns (dMeets d f ls) k s fo).self, (an (dMeets d f ls) k f s fo ab).t, (an (dMeets d f ls) k f s fo ab).s, (an (dMeets d f ls) k f s fo ab).fo, 0, dClaims (dAns (dMeets d f ls) k s fo) (an (dMeets d f ls) k f s fo ab).t⟩]
end Go.Proofs.YthndjhocmpelcaaGreat.Swi
namespace Go.Proofs.YthndjhocmpelcaaGreat.Swi
open Go.RowKit Kit Hth Tri3
set_option linter.unusedVariables false
theorem DTurnX.after {w w1 w2 : World} {S : Nat → Prop} {g : Nat} {d : Dt} {T : Nat → Prop} (h : Rum.Wr w w1 S) {S1 : Nat → Prop} (hS : ∀ k, S1 k → S k ∨ w.heap.size ≤ k) (k : DTurnX w1 w2 S1 g d T) : DTurnX w w2 S g d T := by
  obtain ⟨S4, h4, k4, r4, n4⟩ := k
  exact ⟨S4, h4, fun i hi => (k4 i hi).elim (hS i) (fun h1 => .inr (Nat.le_trans h.size h1)), h.then_ r4 hS, n4⟩
theorem DTurnX.then_below {w w1 w2 : World} {S : Nat → Prop} {g : Nat} {d : Dt} {T T' : Nat → Prop} (h : DTurnX w w1 S g d T) (hb : Below w1.heap.size w1 w2) (hT : ∀ j, T' j → T j ∨ w1.heap.size ≤ j) : DTurnX w w2 S g d T' := by
  obtain ⟨S1, h1, k1, r1, n1⟩ := h
  exact ⟨S1, h1.below hb, k1, r1.then_ (Rum.Wr.of_below hb (fun _ => False)) (fun _ h => h.elim), fun j hj ht => (hT j ht).elim (n1 j hj) (fun h => by have := h1.blk j hj; omega)⟩
theorem DTurnX.of {w w' : World} {S : Nat → Prop} {g : Nat} {d : Dt} (h : DTurn w w' S g d) : DTurnX w w' S g d (fun _ => False) := by
  obtain ⟨S1, h1, k1, r1⟩ := h
  exact ⟨S1, h1, k1, r1, fun _ _ h => h⟩
set_option maxRecDepth 100000 in
set_option maxHeartbeats 8000000 in
theorem handle_no1 (w : World) (S : Nat → Prop) (g : Nat) (d : Dt) (cs : Array Value) (k f t s fo ab : Int) (P : Option Addr) (n c : Nat) (ls : List Cl) (hD : Hid (Det w S g d)) (hv : Hid (Vok d)) (hc : Hid (MsgC cs k f t s fo ab (.slice P n c))) (hl : Hid (ClAt w P ls)) (hS : Hid (∀ b off, P = some ⟨b, off, none⟩ → 0 < n → ¬ S b)) (hn : Hid (n = ls.length)) (hnc : n ≤ c) (hcc : c ≤ 9223372036854775807) (ht : ¬ t = d.self) :
    Calls Tryz.prog 13 #[.pointer (some ⟨g, 0, none⟩), .agg cs] w fun e w' => e = .returned (.slice none 0 0) ∧ Below w.heap.size w w' := by
  have al := Hid.mk_ ((Below.refl w.heap.size w).alloc (Nat.le_refl _) (.cells cs 46))
  have NS := Hid.mk_ hD.out.blk
  have M0 : Hid ((w.alloc (.cells cs 46)).heap[w.heap.size]? = some (.cells cs 46 (0, 0))) := Hid.mk_ (heap_alloc_new w _)
  have D1 := Hid.mk_ (hD.out.below al.out)
  have L1 := Hid.mk_ (hl.out.keep al.out)
  go_enter Tryz.func13, Tryz.ntmps13
  go_upto_region 1 with fail
  generalize w.alloc (.cells cs 46) = w1 at *
  obtain ⟨z, hz⟩ : ∃ z, z = w.heap.size := ⟨_, rfl⟩
  have HZ := Hid.mk_ hz
  have NZ : Hid (∀ i, S i → i < z) := Hid.mk_ (fun i hi => by have := NS.out i hi; omega)
  rw [← hz] at M0 ⊢
  clear hz NS
  have m1 : w1.cell? ⟨z, 1, none⟩ = some (.int .i64 f) := by rw [cell_of_row w1 z 1 cs 46 (0, 0) M0.out]; exact hc.out.c1
  have m2 : w1.cell? ⟨z, 2, none⟩ = some (.int .i64 t) := by rw [cell_of_row w1 z 2 cs 46 (0, 0) M0.out]; exact hc.out.c2
  obtain ⟨gv, gq, go, gc, A, B, n1, cc, C, X⟩ := D1.out
  have c0 : w1.cell? ⟨g, 0, none⟩ = some (.int .i64 d.self) := X.dcs.cell 0
  have lt1 := X.dcs.lt
  have lt2 := World.block_lt_of_cell? w1 _ m1
  clear X
  have htb : (t != d.self) = true := by simp [ht]
  clear ht
  refine wp_draws _ (Below.refl _ _) (by kernel_rfl) (by kernel_rfl) (fun hne hN => ?_)
  repeat (go_big_quiet_step (fail))
  refine wpQuiet_nil (after_cells ?_)
  intro w2 b2 hc2
  have B2 := Hid.mk_ (al.out.trans (b2.mono al.out.size))
  clear hne hN hc2 lt1 lt2 m1 m2 c0
  go_wp2_with fail
  go_ret
  exact ⟨rfl, B2.out⟩
set_option maxRecDepth 100000 in
set_option maxHeartbeats 8000000 in
theorem handle_no2 (w : World) (S : Nat → Prop) (g : Nat) (d : Dt) (cs : Array Value) (k f t s fo ab : Int) (P : Option Addr) (n c : Nat) (ls : List Cl) (hD : Hid (Det w S g d)) (hv : Hid (Vok d)) (hc : Hid (MsgC cs k f t s fo ab (.slice P n c))) (hl : Hid (ClAt w P ls)) (hS : Hid (∀ b off, P = some ⟨b, off, none⟩ → 0 < n → ¬ S b)) (hn : Hid (n = ls.length)) (hnc : n ≤ c) (hcc : c ≤ 9223372036854775807) (ht : t = d.self) (hb : Hid (false = nodeB f)) :
    Calls Tryz.prog 13 #[.pointer (some ⟨g, 0, none⟩), .agg cs] w fun e w' => e = .returned (.slice none 0 0) ∧ Below w.heap.size w w' := by
  have al := Hid.mk_ ((Below.refl w.heap.size w).alloc (Nat.le_refl _) (.cells cs 46))
  have NS := Hid.mk_ hD.out.blk
  have M0 : Hid ((w.alloc (.cells cs 46)).heap[w.heap.size]? = some (.cells cs 46 (0, 0))) := Hid.mk_ (heap_alloc_new w _)
  have D1 := Hid.mk_ (hD.out.below al.out)
  have L1 := Hid.mk_ (hl.out.keep al.out)
  go_enter Tryz.func13, Tryz.ntmps13
  go_upto_region 1 with fail
  generalize w.alloc (.cells cs 46) = w1 at *
  obtain ⟨z, hz⟩ : ∃ z, z = w.heap.size := ⟨_, rfl⟩
  have HZ := Hid.mk_ hz
  have NZ : Hid (∀ i, S i → i < z) := Hid.mk_ (fun i hi => by have := NS.out i hi; omega)
  rw [← hz] at M0 ⊢
  clear hz NS
  have m1 : w1.cell? ⟨z, 1, none⟩ = some (.int .i64 f) := by rw [cell_of_row w1 z 1 cs 46 (0, 0) M0.out]; exact hc.out.c1
  have m2 : w1.cell? ⟨z, 2, none⟩ = some (.int .i64 t) := by rw [cell_of_row w1 z 2 cs 46 (0, 0) M0.out]; exact hc.out.c2
  obtain ⟨gv, gq, go, gc, A, B, n1, cc, C, X⟩ := D1.out
  have c0 : w1.cell? ⟨g, 0, none⟩ = some (.int .i64 d.self) := X.dcs.cell 0
  have lt1 := X.dcs.lt
  have lt2 := World.block_lt_of_cell? w1 _ m1
  clear X
  have htb : (t != d.self) = false := by simp [ht]
  clear ht
  refine wp_draws _ (Below.refl _ _) (by kernel_rfl) (by kernel_rfl) (fun hne hN => ?_)
  repeat (go_big_quiet_step (first | (go_at_call 25; with_reducible exact After.calls (node24b f _ false hb)) | fail))
  refine wpQuiet_nil (after_cells ?_)
  intro w2 b2 hc2
  have B2 := Hid.mk_ (al.out.trans (b2.mono al.out.size))
  clear hne hN hc2 lt1 lt2 m1 m2 c0
  go_wp2_with fail
  go_ret
  exact ⟨rfl, B2.out⟩
set_option maxRecDepth 100000 in
set_option maxHeartbeats 8000000 in
theorem handle_no3 (w : World) (S : Nat → Prop) (g : Nat) (d : Dt) (cs : Array Value) (k f t s fo ab : Int) (P : Option Addr) (n c : Nat) (ls : List Cl) (hD : Hid (Det w S g d)) (hv : Hid (Vok d)) (hc : Hid (MsgC cs k f t s fo ab (.slice P n c))) (hl : Hid (ClAt w P ls)) (hS : Hid (∀ b off, P = some ⟨b, off, none⟩ → 0 < n → ¬ S b)) (hn : Hid (n = ls.length)) (hnc : n ≤ c) (hcc : c ≤ 9223372036854775807) (ht : t = d.self) (hb : Hid (true = nodeB f)) (hf : f = d.self) :
    Calls Tryz.prog 13 #[.pointer (some ⟨g, 0, none⟩), .agg cs] w fun e w' => e = .returned (.slice none 0 0) ∧ Below w.heap.size w w' := by
  have al := Hid.mk_ ((Below.refl w.heap.size w).alloc (Nat.le_refl _) (.cells cs 46))
  have NS := Hid.mk_ hD.out.blk
  have M0 : Hid ((w.alloc (.cells cs 46)).heap[w.heap.size]? = some (.cells cs 46 (0, 0))) := Hid.mk_ (heap_alloc_new w _)
  have D1 := Hid.mk_ (hD.out.below al.out)
  have L1 := Hid.mk_ (hl.out.keep al.out)
  go_enter Tryz.func13, Tryz.ntmps13
  go_upto_region 1 with fail
  generalize w.alloc (.cells cs 46) = w1 at *
  obtain ⟨z, hz⟩ : ∃ z, z = w.heap.size := ⟨_, rfl⟩
  have HZ := Hid.mk_ hz
  have NZ : Hid (∀ i, S i → i < z) := Hid.mk_ (fun i hi => by have := NS.out i hi; omega)
  rw [← hz] at M0 ⊢
  clear hz NS
  have m1 : w1.cell? ⟨z, 1, none⟩ = some (.int .i64 f) := by rw [cell_of_row w1 z 1 cs 46 (0, 0) M0.out]; exact hc.out.c1
  have m2 : w1.cell? ⟨z, 2, none⟩ = some (.int .i64 t) := by rw [cell_of_row w1 z 2 cs 46 (0, 0) M0.out]; exact hc.out.c2
  obtain ⟨gv, gq, go, gc, A, B, n1, cc, C, X⟩ := D1.out
  have c0 : w1.cell? ⟨g, 0, none⟩ = some (.int .i64 d.self) := X.dcs.cell 0
  have lt1 := X.dcs.lt
  have lt2 := World.block_lt_of_cell? w1 _ m1
  clear X
  have htb : (t != d.self) = false := by simp [ht]
  have hfb : (f == d.self) = true := by simp [hf]
  clear ht hf
  refine wp_draws _ (Below.refl _ _) (by kernel_rfl) (by kernel_rfl) (fun hne hN => ?_)
  repeat (go_big_quiet_step (first | (go_at_call 25; with_reducible exact After.calls (node24b f _ true hb)) | fail))
  refine wpQuiet_nil (after_cells ?_)
  intro w2 b2 hc2
  have B2 := Hid.mk_ (al.out.trans (b2.mono al.out.size))
  clear hne hN hc2 lt1 lt2 m1 m2 c0
  go_wp2_with fail
  go_ret
  exact ⟨rfl, B2.out⟩
set_option maxRecDepth 100000 in
set_option maxHeartbeats 8000000 in
theorem handle_yes (w : World) (S : Nat → Prop) (g : Nat) (d : Dt) (cs : Array Value) (k f t s fo ab : Int) (P : Option Addr) (n c : Nat) (ls : List Cl) (hD : Hid (Det w S g d)) (hv : Hid (Vok d)) (hc : Hid (MsgC cs k f t s fo ab (.slice P n c))) (hl : Hid (ClAt w P ls)) (hS : Hid (∀ b off, P = some ⟨b, off, none⟩ → 0 < n → ¬ S b)) (hn : Hid (n = ls.length)) (hnc : n ≤ c) (hcc : c ≤ 9223372036854775807) (ht : t = d.self) (hb : Hid (true = nodeB f)) (hf : ¬ f = d.self) (d' : Dt) (hd : Hid (d' = dHandle d k f t s fo ab ls)) (ms : List Om) (hms : Hid (ms = oHandle d k f t s fo ab ls)) :
    Calls Tryz.prog 13 #[.pointer (some ⟨g, 0, none⟩), .agg cs] w fun e w' => ∃ v T, e = .returned v ∧ Hid (Outs w' w.heap.size v ms T) ∧ Hid (DTurnX w w' S g d' T) := by
  have al := Hid.mk_ ((Below.refl w.heap.size w).alloc (Nat.le_refl _) (.cells cs 46))
  have NS := Hid.mk_ hD.out.blk
  have M0 : Hid ((w.alloc (.cells cs 46)).heap[w.heap.size]? = some (.cells cs 46 (0, 0))) := Hid.mk_ (heap_alloc_new w _)
  have D1 := Hid.mk_ (hD.out.below al.out)
  have L1 := Hid.mk_ (hl.out.keep al.out)
  go_enter Tryz.func13, Tryz.ntmps13
  go_upto_region 1 with fail
  generalize w.alloc (.cells cs 46) = w1 at *
  obtain ⟨z, hz⟩ : ∃ z, z = w.heap.size := ⟨_, rfl⟩
  have HZ := Hid.mk_ hz
  have NZ : Hid (∀ i, S i → i < z) := Hid.mk_ (fun i hi => by have := NS.out i hi; omega)
  rw [← hz] at M0 ⊢
  clear hz NS
  have m1 : w1.cell? ⟨z, 1, none⟩ = some (.int .i64 f) := by rw [cell_of_row w1 z 1 cs 46 (0, 0) M0.out]; exact hc.out.c1
  have m2 : w1.cell? ⟨z, 2, none⟩ = some (.int .i64 t) := by rw [cell_of_row w1 z 2 cs 46 (0, 0) M0.out]; exact hc.out.c2
  obtain ⟨gv, gq, go, gc, A, B, n1, cc, C, X⟩ := D1.out
  have c0 : w1.cell? ⟨g, 0, none⟩ = some (.int .i64 d.self) := X.dcs.cell 0
  have lt1 := X.dcs.lt
  have lt2 := World.block_lt_of_cell? w1 _ m1
  clear X
  have htb : (t != d.self) = false := by simp [ht]
  have hfb : (f == d.self) = false := by simp [hf]
  have HT : Hid (t = d.self ∧ ¬ f = d.self) := Hid.mk_ ⟨ht, hf⟩
  clear ht hf
  refine wp_draws _ (Below.refl _ _) (by kernel_rfl) (by kernel_rfl) (fun hne hN => ?_)
  repeat (go_big_quiet_step (first | (go_at_call 25; with_reducible exact After.calls (node24b f _ true hb)) | fail))
  refine wpQuiet_nil (after_cells ?_)
  intro w2 b2 hc2
  have B2 := Hid.mk_ (al.out.trans (b2.mono al.out.size))
  have M2 : Hid (w2.heap[z]? = some (.cells cs 46 (0, 0))) := Hid.mk_ ((b2.block z (Array.getElem?_eq_some_iff.1 M0.out).1).trans M0.out)
  have D2 := Hid.mk_ (D1.out.below b2)
  have L2 := Hid.mk_ (L1.out.keep b2)
  have sizeC : Hid ((Tryz.prog.info? 46).map (·.size) = some cs.size) := Hid.mk_ (by rw [hc.out.size]; exact size42)
  clear hne hN hc2 lt1 lt2 m1 m2 c0 b2 M0 D1 L1 al
  obtain ⟨e, he⟩ : ∃ e, e = dMeets d f ls := ⟨_, rfl⟩
  have HE := Hid.mk_ he
  clear he
  have tok1 : True := trivial
  go_upto_region 4 with (first
    | (refine wpList_load_row rfl 46 _ rfl z rfl 46 cs (0, 0) _ M2.out Tryz.underlying46 rfl sizeC.out ?_)
    | (go_at_call 42; refine (meets w2 S g d cs k f t s fo ab P n c ls D2 hv hc L2 hS hn hnc hcc e HE).mono ?_; rintro e0 w3 ⟨rfl, t3⟩))
  obtain ⟨S3, D3, HS3, R3⟩ := t3.out
  have M3 : Hid (w3.heap[z]? = some (.cells cs 46 (0, 0))) := Hid.mk_ ((R3.block z (Array.getElem?_eq_some_iff.1 M2.out).1 (fun h => by have := NZ.out z h; omega)).trans M2.out)
  have HD3 := Hid.mk_ D3
  have HHS3 : Hid (∀ i, S3 i → S i ∨ w.heap.size ≤ i) := Hid.mk_ (fun i hi => (HS3 i hi).elim .inl (fun h => .inr (Nat.le_trans B2.out.size h)))
  have HR3 : Hid (Rum.Wr w w3 S) := Hid.mk_ ((Rum.Wr.of_below B2.out S).then_ R3 (fun i hi => .inl hi))
  have NZ3 : Hid (∀ i, S3 i → ¬ i = z) := Hid.mk_ (fun i hi e1 => (HS3 i hi).elim (fun h => by have := NZ.out i h; omega) (fun h => by have := (Array.getElem?_eq_some_iff.1 M2.out).1; omega))
  clear t3 D3 HS3 R3 D2 L2 M2 B2
  obtain ⟨ak, hak⟩ : ∃ x, x = (an e k f s fo ab).k := ⟨_, rfl⟩
  obtain ⟨at_, hat⟩ : ∃ x, x = (an e k f s fo ab).t := ⟨_, rfl⟩
  obtain ⟨as_, has⟩ : ∃ x, x = (an e k f s fo ab).s := ⟨_, rfl⟩
  obtain ⟨afo, hafo⟩ : ∃ x, x = (an e k f s fo ab).fo := ⟨_, rfl⟩
  have HA : Hid (ak = (an e k f s fo ab).k ∧ at_ = (an e k f s fo ab).t ∧ as_ = (an e k f s fo ab).s ∧ afo = (an e k f s fo ab).fo) := Hid.mk_ ⟨hak, hat, has, hafo⟩
  have HM : Hid (am ak at_ as_ afo = aMsg e k f s fo ab) := Hid.mk_ (by rw [aMsg_an, hak, hat, has, hafo])
  clear hak hat has hafo
  obtain ⟨e2, he2⟩ : ∃ e2, e2 = dAns e k s fo := ⟨_, rfl⟩
  have HE2 := Hid.mk_ he2
  clear he2
  have one : Hid ((am ak at_ as_ afo).all (·.oneCell') = true) := Hid.mk_ (msg_one rfl)
  go_upto_region 5 with (first
    | (refine wpList_load_row rfl 46 _ rfl z rfl 46 cs (0, 0) _ M3.out Tryz.underlying46 rfl sizeC.out ?_)
    | (go_at_call 43; refine (answers w3 S3 g e cs k f t s fo ab _ HD3 hc _ HM e2 HE2).mono ?_; rintro e0 w4 ⟨rfl, t4⟩; have ZZ := Hid.mk_ (heap_alloc_new w4 (.cells zmsg 46)))
    | (refine wpList_store_row rfl 46 _ _ rfl w4.heap.size (am ak at_ as_ afo) rfl rfl 46 _ ZZ.out size42 rfl one.out ?_))
  obtain ⟨S4, D4, HS4, R4⟩ := t4.out
  have R5 := wr_row (w4.alloc (.cells zmsg 46)) w4.heap.size (am ak at_ as_ afo)
  have B5 := (Below.refl w4.heap.size w4).alloc (Nat.le_refl _) (.cells zmsg 46)
  have Y5 : Hid (((w4.alloc (.cells zmsg 46)).setRow w4.heap.size (am ak at_ as_ afo)).heap[w4.heap.size]? = some (.cells (am ak at_ as_ afo) 46 (0, 0))) := Hid.mk_ (ret_row _ ZZ.out)
  have D5 := Hid.mk_ ((D4.below B5).wr R5 (fun i hi e1 => by have := D4.blk i hi; omega))
  have W5 : Hid (Rum.Wr w ((w4.alloc (.cells zmsg 46)).setRow w4.heap.size (am ak at_ as_ afo)) S) := Hid.mk_ (((HR3.out.then_ R4 HHS3.out).then_ (Rum.Wr.of_below B5 (fun _ => False)) (fun _ h => h.elim)).then_ R5 (fun i hi => .inr (by have := HR3.out.size; have := R4.size; omega)))
  have HHS4 : Hid (∀ i, S4 i → S i ∨ w.heap.size ≤ i) := Hid.mk_ (fun i hi => (HS4 i hi).elim (HHS3.out i) (fun h => .inr (Nat.le_trans HR3.out.size h)))
  clear t4 D4 HS4 R4 R5 B5 ZZ HR3 HHS3 NZ3 M3 HD3
  generalize (w4.alloc (.cells zmsg 46)).setRow w4.heap.size (am ak at_ as_ afo) = w5 at *
  generalize w4.heap.size = y at *
  have y0 : w5.cell? ⟨y, 0, none⟩ = some (.int .i64 ak) := by rw [cell_of_row w5 y 0 _ 46 (0, 0) Y5.out]; rfl
  obtain ⟨gv2, gq2, go2, gc2, A2, B2, n2, cc2, C2, X5⟩ := D5.out
  have c10 : w5.cell? ⟨g, 10, none⟩ = some (.bool e2.left) := X5.dcs.cell 10
  clear X5
  have ed : ¬ (t ≠ d.self ∨ nodeB f = false ∨ f = d.self) := by
    rintro (h | h | h)
    · rw [HT.out.1] at h; exact h rfl
    · rw [← hb.out] at h; cases h
    · exact HT.out.2 h
  have HED : Hid (d' = if ak = 0 ∨ e2.left = true then e2 else dSent e2) := Hid.mk_ (by rw [hd.out]; unfold dHandle; rw [if_neg ed, ← HE.out, ← HE2.out, ← HA.out.1])
  have HEM : Hid (ms = if ak = 0 ∨ e2.left = true then [] else [⟨ak, e2.self, at_, as_, afo, 0, dClaims e2 at_⟩]) := Hid.mk_ (by rw [hms.out]; unfold oHandle; rw [if_neg ed, ← HE.out, ← HE2.out, ← HA.out.1, ← HA.out.2.1, ← HA.out.2.2.1, ← HA.out.2.2.2])
  clear hd hms ed
  by_cases hk0 : ak = 0
  · have hkb : (ak == 0) = true := by simp [hk0]
    have E1 : d' = e2 := by rw [HED.out, if_pos (.inl hk0)]
    have E2 : ms = [] := by rw [HEM.out, if_pos (.inl hk0)]
    subst E1 E2
    clear hk0
    go_wp2_with fail
    go_ret
    exact ⟨_, _, rfl, Hid.mk_ (Outs.nil _ _), Hid.mk_ (DTurnX.of ⟨S4, D5.out, HHS4.out, W5.out⟩)⟩
  · have hkb : (ak == 0) = false := by simp [hk0]
    cases hleft : e2.left with
    | true =>
      have E1 : d' = e2 := by rw [HED.out, if_pos (.inr hleft)]
      have E2 : ms = [] := by rw [HEM.out, if_pos (.inr hleft)]
      subst E1 E2
      rw [hleft] at c10
      clear hk0
      go_wp2_with fail
      go_ret
      exact ⟨_, _, rfl, Hid.mk_ (Outs.nil _ _), Hid.mk_ (DTurnX.of ⟨S4, D5.out, HHS4.out, W5.out⟩)⟩
    | false =>
      have hno : ¬ (ak = 0 ∨ e2.left = true) := by
        rintro (h | h)
        · exact hk0 h
        · rw [hleft] at h; cases h
      have E1 := Hid.mk_ (show d' = dSent e2 by rw [HED.out, if_neg hno])
      have E2 := Hid.mk_ (show ms = [⟨ak, e2.self, at_, as_, afo, 0, dClaims e2 at_⟩] by rw [HEM.out, if_neg hno])
      rw [hleft] at c10
      clear hk0 hno HED HEM hleft
      go_upto_region 7 with fail
      clear y0 c10
      go_wp2_with (first
        | (refine wpList_load_row rfl 46 _ rfl y rfl 46 (am ak at_ as_ afo) (0, 0) _ Y5.out Tryz.underlying46 rfl size42 ?_)
        | (go_at_call 44; refine (sends w5 S4 g e2 ak 0 at_ as_ afo 0 (.slice none 0 0) D5).mono ?_; rintro e0 w6 ⟨P6, np6, cp6, rfl, o6, t6⟩)
        | (refine wpList_msgs w6 rfl _ rfl (msg ak e2.self at_ as_ afo 0 (.slice P6 np6 cp6)) rfl rfl ?_))
      go_ret
      have b7 := (Below.refl w6.heap.size w6).alloc (Nat.le_refl _) (.cells (msg ak e2.self at_ as_ afo 0 (.slice P6 np6 cp6)) 46)
      have T6 := t6.out
      have sz : w.heap.size ≤ w5.heap.size := W5.out.size
      have o7 : Rum.OwnC (w6.alloc (.cells (msg ak e2.self at_ as_ afo 0 (.slice P6 np6 cp6)) 46)) w.heap.size (.slice P6 np6 cp6) np6 (dClaims e2 at_) := ⟨o6.out.1, Prb_own_mono (Rowz.below o6.out.2 b7) sz⟩
      have s6 : w.heap.size ≤ w6.heap.size := Nat.le_trans sz T6.turn.choose_spec.2.2.size
      refine ⟨.slice (some ⟨w6.heap.size, 0, none⟩) 1 1, fun j => j = w6.heap.size ∨ (Value.slice P6 np6 cp6).ownBlock = some j, rfl, Hid.mk_ ?_, Hid.mk_ ?_⟩
      · rw [E2.out, ← HZ.out]
        exact Outs.one ⟨ak, e2.self, at_, as_, afo, 0, dClaims e2 at_⟩ ⟨P6, np6, cp6⟩ (by rw [HZ.out]; exact s6) (heap_alloc_new w6 _) (by rw [HZ.out]; exact o7) (fun j hj e1 => by have := (Rowz.blk o6.out.2 j hj).2; omega)
      · rw [E1.out]
        exact DTurnX.after W5.out HHS4.out (T6.then_below b7 (fun j hj => hj.elim (fun h => .inr (by omega)) .inl))
theorem handle1 (w : World) (S : Nat → Prop) (g : Nat) (d : Dt) (cs : Array Value) (k f t s fo ab : Int) (P : Option Addr) (n c : Nat) (ls : List Cl) (hD : Hid (Det w S g d)) (hv : Hid (Vok d)) (hc : Hid (MsgC cs k f t s fo ab (.slice P n c))) (hl : Hid (ClAt w P ls)) (hS : Hid (∀ b off, P = some ⟨b, off, none⟩ → 0 < n → ¬ S b)) (hn : Hid (n = ls.length)) (hnc : n ≤ c) (hcc : c ≤ 9223372036854775807) (d' : Dt) (hd : Hid (d' = dHandle d k f t s fo ab ls)) (ms : List Om) (hms : Hid (ms = oHandle d k f t s fo ab ls)) :
    Calls Tryz.prog 13 #[.pointer (some ⟨g, 0, none⟩), .agg cs] w fun e w' => ∃ v T, e = .returned v ∧ Hid (Outs w' w.heap.size v ms T) ∧ Hid (DTurnX w w' S g d' T) := by
  have no : (t ≠ d.self ∨ nodeB f = false ∨ f = d.self) → ∀ e w', e = Ending.returned (.slice none 0 0) ∧ Below w.heap.size w w' → ∃ v T, e = .returned v ∧ Hid (Outs w' w.heap.size v ms T) ∧ Hid (DTurnX w w' S g d' T) := by
    rintro h e w' ⟨rfl, hb⟩
    have E1 : d' = d := by rw [hd.out]; unfold dHandle; rw [if_pos h]
    have E2 : ms = [] := by rw [hms.out]; unfold oHandle; rw [if_pos h]
    subst E1 E2
    exact ⟨_, _, rfl, Hid.mk_ (Outs.nil _ _), Hid.mk_ (DTurnX.of (DTurn.of_below hD.out hb))⟩
  by_cases ht : t = d.self
  · cases hb : nodeB f with
    | false => exact (handle_no2 w S g d cs k f t s fo ab P n c ls hD hv hc hl hS hn hnc hcc ht (Hid.mk_ hb.symm)).mono (no (.inr (.inl hb)))
    | true =>
      by_cases hf : f = d.self
      · exact (handle_no3 w S g d cs k f t s fo ab P n c ls hD hv hc hl hS hn hnc hcc ht (Hid.mk_ hb.symm) hf).mono (no (.inr (.inr hf)))
      · exact handle_yes w S g d cs k f t s fo ab P n c ls hD hv hc hl hS hn hnc hcc ht (Hid.mk_ hb.symm) hf d' hd ms hms
  · exact (handle_no1 w S g d cs k f t s fo ab P n c ls hD hv hc hl hS hn hnc hcc ht).mono (no (.inl ht))
end Go.Proofs.YthndjhocmpelcaaGreat.Swi
namespace Go.Proofs.YthndjhocmpelcaaGreat.Swi
open Go.RowKit Kit Hth Tri3
set_option linter.unusedVariables false
/-- One is asked to ask. -/
def ask1 (x : Dt × List Om) (n : Int) : Dt × List Om := (dSent x.1, x.2 ++ [⟨3, x.1.self, n, x.1.seq, 0, x.1.asked, dClaims x.1 n⟩])
def askL (x : Dt × List Om) (l : List Int) : Dt × List Om := l.foldl ask1 x
theorem askL_snoc (x : Dt × List Om) (l : List Int) (n : Int) : askL x (l ++ [n]) = ask1 (askL x l) n := by simp [askL]
/-- Who is asked to ask. -/
def hlp (ps : List Int) (d : Dt) : List Int := hl d.self d.asked ps 8
def shf (ps : List Int) (dr : Int) (d : Dt) : List Int := Prb.shuf ((hlp ps d).take 64).length dr ((hlp ps d).take 64)
def someL (ps : List Int) (dr : Int) (d : Dt) : List Int := (shf ps dr d).take (Prb.many 2 (shf ps dr d).length)
theorem someL_len (ps : List Int) (dr : Int) (d : Dt) : (someL ps dr d).length ≤ 2 := by
  unfold someL Prb.many
  rw [List.length_take]
  omega
def d2 (d : Dt) : Dt := { (if (cOf d d.asked).h = 1 then dHears d ⟨(cOf d d.asked).n, (cOf d d.asked).i, 2⟩ else d) with asked := -1 }
def d100 (d : Dt) (id : Int) : Dt := if (cOf d (id - 100)).h = 2 then dHears d ⟨(cOf d (id - 100)).n, (cOf d (id - 100)).i, 3⟩ else d
/-- What a moment that is due does. -/
def dueS (ps : List Int) (dr : Int) (x : Dt × List Om) (id : Int) : Dt × List Om :=
  if id = 1 then askL x (someL ps dr x.1) else if id = 2 then (d2 x.1, x.2) else (d100 x.1 id, x.2)
def dueA (ps : List Int) (dr : Int) (x : Dt × List Om) (l : List Int) : Dt × List Om := l.foldl (dueS ps dr) x
theorem dueA_snoc (ps : List Int) (dr : Int) (x : Dt × List Om) (l : List Int) (id : Int) : dueA ps dr x (l ++ [id]) = dueS ps dr (dueA ps dr x l) id := by simp [dueA]
theorem askL_len : ∀ (l : List Int) (x : Dt × List Om), (askL x l).2.length = x.2.length + l.length
  | [], x => rfl
  | a :: l, x => by
    have := askL_len l (ask1 x a)
    unfold askL at this ⊢
    rw [List.foldl_cons, this]
    simp [ask1]
    omega
theorem dueS_len (ps : List Int) (dr : Int) (x : Dt × List Om) (id : Int) : (dueS ps dr x id).2.length ≤ x.2.length + 2 := by
  unfold dueS
  split
  · rw [askL_len]; have := someL_len ps dr x.1; omega
  · split <;> simp
theorem dueA_len (ps : List Int) (dr : Int) : ∀ (l : List Int) (x : Dt × List Om), (dueA ps dr x l).2.length ≤ x.2.length + 2 * l.length
  | [], x => Nat.le_refl _
  | a :: l, x => by
    have h1 := dueA_len ps dr l (dueS ps dr x a)
    have h2 := dueS_len ps dr x a
    unfold dueA at h1 ⊢
    rw [List.foldl_cons]
    simp
    omega
theorem Vok.sent {d : Dt} (h : Vok d) : Vok (dSent d) := h.of rfl rfl
theorem Vok.askL : ∀ (l : List Int) (x : Dt × List Om), Vok x.1 → Vok (askL x l).1
  | [], x, h => h
  | a :: l, x, h => Vok.askL l (ask1 x a) h.sent
theorem Vok.d2 {d : Dt} (h : Vok d) : Vok (d2 d) := by
  unfold Swi.d2
  split
  · exact (h.hears _).of rfl rfl
  · exact h.of rfl rfl
theorem Vok.d100 {d : Dt} (h : Vok d) (id : Int) : Vok (d100 d id) := by
  unfold Swi.d100
  split
  · exact h.hears _
  · exact h
theorem Vok.dueS {ps : List Int} {dr : Int} {x : Dt × List Om} (h : Vok x.1) (id : Int) : Vok (dueS ps dr x id).1 := by
  unfold Swi.dueS
  split
  · exact Vok.askL _ _ h
  · split
    · exact h.d2
    · exact h.d100 id
theorem Vok.dueA {ps : List Int} {dr : Int} : ∀ (l : List Int) {x : Dt × List Om} (h : Vok x.1), Vok (dueA ps dr x l).1
  | [], x, h => h
  | a :: l, x, h => Vok.dueA l (h.dueS (ps := ps) (dr := dr) a)
/-- A tick. -/
def d1 (d : Dt) : Dt := { d with now := d.now + 1 }
def dDue (ps : List Int) (dr : Int) (d : Dt) : Dt × List Om := dueA ps dr ({ d1 d with M := Wat.restL (d.now + 1) d.M }, []) (Wat.dueL (d.now + 1) d.M)
def seq1 (x : Int) : Int := x.tmod 1000000 + 1
def dAsk (d : Dt) : Dt := { d with seq := seq1 d.seq }
def pOm (d : Dt) : Om := ⟨1, d.self, d.asked, d.seq, d.self, 0, dClaims d d.asked⟩
def dNxt (ps : List Int) (dr : Int) (d : Dt) : Dt := { d with zs := (Prb.nxt d.self ps d.zs dr).2, asked := (Prb.nxt d.self ps d.zs dr).1 }
def dSet (d : Dt) : Dt := { d with M := Wat.setLq 2 (d.now + 4) (Wat.setLq 1 (d.now + 2) d.M) }
def tickA (ps : List Int) (dr : Int) (x : Dt × List Om) : Dt × List Om :=
  if ¬ x.1.asked = -1 then x
  else if (dNxt ps dr x.1).asked = -1 then (dNxt ps dr x.1, x.2)
  else (dSet (dSent (dAsk (dNxt ps dr x.1))), x.2 ++ [pOm (dAsk (dNxt ps dr x.1))])
def dTick (ps : List Int) (dr : Int) (d : Dt) : Dt × List Om := if d.left = true then (d1 d, []) else tickA ps dr (dDue ps dr d)
theorem Vok.tick {ps : List Int} {dr : Int} {d : Dt} (h : Vok d) : Vok (dTick ps dr d).1 := by
  have hd : Vok (dDue ps dr d).1 := Vok.dueA _ (h.of rfl rfl)
  unfold dTick
  split
  · exact h.of rfl rfl
  · unfold tickA
    split
    · exact hd
    · split <;> exact hd.of rfl rfl
theorem Vok.ans {d : Dt} (h : Vok d) (k s fo : Int) : Vok (dAns d k s fo) := by
  unfold dAns
  split
  · exact h.of rfl rfl
  · exact h
theorem Vok.handle {d : Dt} (h : Vok d) (k f t s fo ab : Int) (ls : List Cl) : Vok (dHandle d k f t s fo ab ls) := by
  have hm := (h.meets f ls).ans k s fo
  unfold dHandle
  split
  · exact h
  · split
    · exact hm
    · exact hm.sent
theorem seq1_ok {x : Int} (h : 0 ≤ x ∧ x ≤ 1000000) : 0 ≤ seq1 x ∧ seq1 x ≤ 1000000 := by
  unfold seq1
  rw [Int.tmod_eq_emod_of_nonneg h.1]
  omega
theorem swp_all {p : Int → Prop} (h0 : p 0) (l : List Int) (i k : Nat) (h : ∀ x ∈ l, p x) : ∀ x ∈ Prb.swp l i k, p x := by
  have hg : ∀ j : Nat, p (l[j]?.getD 0) := fun j => by
    cases hj : l[j]? with
    | none => exact h0
    | some y => exact h y (List.mem_of_getElem? hj)
  intro x hx
  unfold Prb.swp at hx
  rcases List.mem_or_eq_of_mem_set hx with h1 | rfl
  · rcases List.mem_or_eq_of_mem_set h1 with h2 | rfl
    · exact h x h2
    · exact hg k
  · exact hg i
theorem shuf_all {p : Int → Prop} (h0 : p 0) : ∀ (m : Nat) (x : Int) (l : List Int), (∀ y ∈ l, p y) → ∀ y ∈ Prb.shuf m x l, p y
  | m + 2, x, l, h => by
    rw [Prb.shuf]
    exact shuf_all h0 (m + 1) _ _ (swp_all h0 _ _ _ h)
  | 1, _, l, h => h
  | 0, _, l, h => h
theorem br_all (me : Int) (zs : List Int) : ∀ k, ∀ x ∈ Prb.br me zs k, 0 ≤ x ∧ x < k
  | 0, x, h => by simp [Prb.br] at h
  | k + 1, x, h => by
    unfold Prb.br at h
    split at h
    · rcases List.mem_append.1 h with h1 | h1
      · have := br_all me zs k x h1; omega
      · obtain rfl : x = (k : Int) := by simpa using h1
        omega
    · have := br_all me zs k x h; omega
theorem nxt_ok (me : Int) (ps zs : List Int) (dr : Int) : -1 ≤ (Prb.nxt me ps zs dr).1 ∧ (Prb.nxt me ps zs dr).1 ≤ 7 := by
  unfold Prb.nxt
  split
  · exact ⟨Int.le_refl _, by show (-1 : Int) ≤ 7; decide⟩
  · have h : ∀ x ∈ Prb.pick (Prb.br me ps 8) zs dr, 0 ≤ x ∧ x ≤ 7 := by
      unfold Prb.pick
      split
      · exact shuf_all (p := fun x => 0 ≤ x ∧ x ≤ 7) (by omega) _ _ _ (fun y hy => by have := br_all me ps 8 y hy; omega)
      · intro x hx
        unfold Prb.kept at hx
        obtain ⟨_, h2⟩ := List.mem_filter.1 hx
        have := br_all me ps 8 x (by simpa using h2)
        omega
    generalize Prb.pick (Prb.br me ps 8) zs dr = l at h
    cases l with
    | nil => simp
    | cons a l => have := h a (by simp); simp; omega
/-- While a tick goes on: the detector at g, what is sent up to now; what there was ahead of it and is not the detector's is as it was. Its blocks are S'. -/
def TS (w0 w : World) (S : Nat → Prop) (g : Nat) (v : Value) (d : Dt) (ms : List Om) (S' : Nat → Prop) : Prop :=
  ∃ T, Det w S' g d ∧ (∀ k, S' k → S k ∨ w0.heap.size ≤ k) ∧ Rum.Wr w0 w S ∧ Outs w w0.heap.size v ms T ∧ ∀ k, S' k → ¬ T k
def TI (w0 w : World) (S : Nat → Prop) (g : Nat) (v : Value) (d : Dt) (ms : List Om) : Prop := ∃ S', TS w0 w S g v d ms S'
theorem TI.start {w : World} {S : Nat → Prop} {g : Nat} {d : Dt} (h : Det w S g d) : TI w w S g (.slice none 0 0) d [] :=
  ⟨S, _, h, fun _ h => .inl h, Rum.Wr.of_below (Below.refl _ _) _, Outs.nil _ _, fun _ _ h => h⟩
theorem TS.turn {w0 w w1 : World} {S S' : Nat → Prop} {g : Nat} {v : Value} {d d' : Dt} {ms : List Om} (h : TS w0 w S g v d ms S') (k : DTurn w w1 S' g d') : TI w0 w1 S g v d' ms := by
  obtain ⟨T, h1, h2, h3, h4, h5⟩ := h
  obtain ⟨S2, k1, k2, k3⟩ := k
  exact ⟨S2, T, k1, fun i hi => (k2 i hi).elim (h2 i) (fun h => .inr (Nat.le_trans h3.size h)), h3.then_ k3 h2, h4.wr k3 h5, fun i hi ht => (k2 i hi).elim (fun h => h5 i h ht) (fun h => by have := (h4.2.2 i ht).2; omega)⟩
theorem TS.below {w0 w w1 : World} {S S' : Nat → Prop} {g : Nat} {v : Value} {d : Dt} {ms : List Om} (h : TS w0 w S g v d ms S') (hb : Below w.heap.size w w1) : TS w0 w1 S g v d ms S' := by
  obtain ⟨T, h1, h2, h3, h4, h5⟩ := h
  exact ⟨T, h1.below hb, h2, h3.then_ (Rum.Wr.of_below hb (fun _ => False)) (fun _ h => h.elim), h4.below hb, h5⟩
/-- A block that was made since is written. -/
theorem TS.fresh {w0 w w1 : World} {S S' : Nat → Prop} {g : Nat} {v : Value} {d : Dt} {ms : List Om} {z : Nat} (h : TS w0 w S g v d ms S') (hz : w.heap.size ≤ z) (hb : Below w.heap.size w w1) {w2 : World} (r : Rum.Wr w1 w2 (fun k => k = z)) : TS w0 w2 S g v d ms S' :=
  h.below (r.below hb.size (fun i hi => by omega) |> fun r2 => hb.trans r2)
theorem TS.det {w0 w : World} {S S' : Nat → Prop} {g : Nat} {v : Value} {d : Dt} {ms : List Om} (h : TS w0 w S g v d ms S') : Det w S' g d := by
  obtain ⟨T, h1, _⟩ := h
  exact h1
theorem TI.wr {w0 w : World} {S : Nat → Prop} {g : Nat} {v : Value} {d : Dt} {ms : List Om} (h : TI w0 w S g v d ms) : Rum.Wr w0 w S := by
  obtain ⟨S', T, h1, h2, h3, _⟩ := h
  exact h3
theorem TI.form {w0 w : World} {S : Nat → Prop} {g : Nat} {v : Value} {d : Dt} {ms : List Om} (h : TI w0 w S g v d ms) : ∃ A c, v = .slice A ms.length c ∧ ms.length ≤ c ∧ c ≤ 9223372036854775807 := by
  obtain ⟨S', T, h1, h2, h3, h4, h5⟩ := h
  exact h4.form
/-- The same; and what there was ahead of w4 and is not in U is as it was there. -/
def US (w0 : World) (S : Nat → Prop) (w4 : World) (U : Nat → Prop) (w : World) (g : Nat) (v : Value) (d : Dt) (ms : List Om) (S' : Nat → Prop) : Prop :=
  ∃ T, Det w S' g d ∧ (∀ k, S' k → S k ∨ w0.heap.size ≤ k) ∧ Rum.Wr w0 w S ∧ Outs w w0.heap.size v ms T ∧ (∀ k, S' k → ¬ T k) ∧ (∀ k, S' k ∨ T k → U k ∨ w4.heap.size ≤ k) ∧ Rum.Wr w4 w U
def TU (w0 : World) (S : Nat → Prop) (w4 : World) (U : Nat → Prop) (w : World) (g : Nat) (v : Value) (d : Dt) (ms : List Om) : Prop := ∃ S', US w0 S w4 U w g v d ms S'
theorem TU.ti {w0 w4 w : World} {S U : Nat → Prop} {g : Nat} {v : Value} {d : Dt} {ms : List Om} (h : TU w0 S w4 U w g v d ms) : TI w0 w S g v d ms := by
  obtain ⟨S', T, h1, h2, h3, h4, h5, _⟩ := h
  exact ⟨S', T, h1, h2, h3, h4, h5⟩
theorem US.det {w0 w4 w : World} {S U S' : Nat → Prop} {g : Nat} {v : Value} {d : Dt} {ms : List Om} (h : US w0 S w4 U w g v d ms S') : Det w S' g d := by
  obtain ⟨T, h1, _⟩ := h
  exact h1
theorem TU.wr {w0 w4 w : World} {S U : Nat → Prop} {g : Nat} {v : Value} {d : Dt} {ms : List Om} (h : TU w0 S w4 U w g v d ms) : Rum.Wr w4 w U := by
  obtain ⟨S', T, h1, h2, h3, h4, h5, h6, h7⟩ := h
  exact h7
theorem US.below {w0 w4 w w1 : World} {S U S' : Nat → Prop} {g : Nat} {v : Value} {d : Dt} {ms : List Om} (h : US w0 S w4 U w g v d ms S') (hb : Below w.heap.size w w1) : US w0 S w4 U w1 g v d ms S' := by
  obtain ⟨T, h1, h2, h3, h4, h5, h6, h7⟩ := h
  exact ⟨T, h1.below hb, h2, h3.then_ (Rum.Wr.of_below hb (fun _ => False)) (fun _ h => h.elim), h4.below hb, h5, h6, h7.then_ (Rum.Wr.of_below hb (fun _ => False)) (fun _ h => h.elim)⟩
/-- Where a tick asks others, it begins: U is all that is the detector's or was sent, ahead of w. -/
theorem US.start {w0 w w4 : World} {S S' : Nat → Prop} {g : Nat} {v : Value} {d : Dt} {ms : List Om} (h : TS w0 w S g v d ms S') (hb : Below w.heap.size w w4) : ∃ U : Nat → Prop, Hid (∀ k, U k → k < w.heap.size) ∧ Hid (US w0 S w4 U w4 g v d ms S') := by
  obtain ⟨T, h1, h2, h3, h4, h5⟩ := h
  refine ⟨fun k => S' k ∨ T k, Hid.mk_ (fun k hk => hk.elim (h1.blk k) (fun h => (h4.2.2 k h).2)), Hid.mk_ ⟨T, h1.below hb, h2, h3.then_ (Rum.Wr.of_below hb (fun _ => False)) (fun _ h => h.elim), h4.below hb, h5, fun k hk => .inl hk, Rum.Wr.of_below (Below.refl _ _) _⟩⟩
/-- One message is sent, built and put behind the row. -/
theorem US.send {w0 w4 w w1 w2 : World} {S U S' : Nat → Prop} {g : Nat} {v : Value} {d d' : Dt} {ms : List Om} (h : US w0 S w4 U w g v d ms S') (m : Om) (s : Sl) (q : Nat) (k : DTurnX w w1 S' g d' (fun j => s.v.ownBlock = some j)) (hc : Rum.OwnC w1 w.heap.size s.v s.n m.cs)
    (hq : q = w1.heap.size) (hw : w2 = w1.alloc (.cells (rowM m s) 46)) (hm : ms.length ≤ 100000) (ty : TypeId) :
    ∃ v' w', (Builtin.append_ #[54, 54] ty #[v, .slice (some ⟨q, 0, none⟩) 1 1]).run Tryz.prog w2 = .ok v' w' ∧ Hid (TU w0 S w4 U w' g v' d' (ms ++ [m])) := by
  subst hq hw
  obtain ⟨T, h1, h2, h3, h4, h5, h6, h7⟩ := h
  obtain ⟨S2, k1, k2, k3, k4⟩ := k
  have b2 := (Below.refl w1.heap.size w1).alloc (Nat.le_refl _) (.cells (rowM m s) 46)
  have hs : w0.heap.size ≤ w.heap.size := h3.size
  have hs4 : w4.heap.size ≤ w.heap.size := h7.size
  have o1 := h4.wr k3 h5
  have o2 := o1.below b2
  have hc2 : Rum.OwnC (w1.alloc (.cells (rowM m s) 46)) w0.heap.size s.v s.n m.cs := ⟨hc.1, Prb_own_mono (Rowz.below hc.2 b2) hs⟩
  obtain ⟨v', w', hr, T', o3, g3, t3⟩ := o2.app m s w1.heap.size (by have := k3.size; have := b2.size; omega) hm (heap_alloc_new w1 _) hc2 (fun j hj ht => by have := (Rowz.blk hc.2 j hj).1; have := (h4.2.2 j ht).2; omega) ty
  have hS2T : ∀ i, S2 i → ¬ T i := fun i hi ht => (k2 i hi).elim (fun h => h5 i h ht) (fun h => by have := (h4.2.2 i ht).2; omega)
  have r3 : Rum.Wr (w1.alloc (.cells (rowM m s) 46)) w' (fun j => v.ownBlock = some j) := ⟨g3.out.os, g3.out.tape, g3.out.output, g3.out.size, fun j hj hn => g3.out.block j hj (fun e => hn e.symm)⟩
  have d3 := (k1.below b2).wr r3 (fun i hi e => hS2T i hi (o2.2.1 i e))
  refine ⟨v', w', hr, Hid.mk_ ⟨S2, T', d3, fun i hi => (k2 i hi).elim (h2 i) (fun h => .inr (Nat.le_trans hs h)), ?_, o3.out, fun i hi ht => ?_, ?_, ?_⟩⟩
  · exact ((h3.then_ k3 h2).then_ (Rum.Wr.of_below b2 (fun _ => False)) (fun _ h => h.elim)).then_ r3 (fun i hi => .inr (o2.2.2 i (o2.2.1 i hi)).1)
  · rcases t3.out i ht with h | h | h
    · exact hS2T i hi h
    · exact k4 i hi h
    · have := k1.blk i hi; have := b2.size; omega
  · rintro i (hi | hi)
    · exact (k2 i hi).elim (fun h => h6 i (.inl h)) (fun h => .inr (Nat.le_trans hs4 h))
    · rcases t3.out i hi with h | h | h
      · exact h6 i (.inr h)
      · exact .inr (Nat.le_trans hs4 (Rowz.blk hc.2 i h).1)
      · have := b2.size; have := k3.size; exact .inr (by omega)
  · exact ((h7.then_ k3 (fun i hi => h6 i (.inl hi))).then_ (Rum.Wr.of_below b2 (fun _ => False)) (fun _ h => h.elim)).then_ r3 (fun i hi => h6 i (.inr (o2.2.1 i hi)))
theorem TS.send {w0 w w1 w2 : World} {S S' : Nat → Prop} {g : Nat} {v : Value} {d d' : Dt} {ms : List Om} (h : TS w0 w S g v d ms S') (m : Om) (s : Sl) (q : Nat) (k : DTurnX w w1 S' g d' (fun j => s.v.ownBlock = some j)) (hc : Rum.OwnC w1 w.heap.size s.v s.n m.cs)
    (hq : q = w1.heap.size) (hw : w2 = w1.alloc (.cells (rowM m s) 46)) (hm : ms.length ≤ 100000) (ty : TypeId) :
    ∃ v' w', (Builtin.append_ #[54, 54] ty #[v, .slice (some ⟨q, 0, none⟩) 1 1]).run Tryz.prog w2 = .ok v' w' ∧ Hid (TI w0 w' S g v' d' (ms ++ [m])) := by
  obtain ⟨U, _, hU⟩ := US.start h (Below.refl _ _)
  obtain ⟨v', w', hr, h2⟩ := hU.out.send m s q k hc hq hw hm ty
  exact ⟨v', w', hr, Hid.mk_ h2.out.ti⟩
theorem Row_keep {w w' : World} {A : Option Addr} {zs : List Int} (h : Prb.Row w A zs) (hk : ∀ b off, A = some ⟨b, off, none⟩ → 0 < zs.length → b < w.heap.size → w'.heap[b]? = w.heap[b]?) : Prb.Row w' A zs := by
  cases zs with
  | nil => exact Prb.Row.nil _ _
  | cons a l => exact h.keep (fun b off e hlt => hk b off e (by simp) hlt)
theorem Prb_cap {w : World} {base : Nat} {A : Option Addr} {n c : Nat} {zs : List Int} (h : Prb.Own w base (.slice A n c) zs) : n ≤ c := by
  obtain ⟨A', c', e, h1, _⟩ := h.form
  injection e with e1 e2 e3
  omega
/-- A number of a row of one's own, as it lies. -/
theorem Prb_at {w : World} {base : Nat} {A : Option Addr} {n c : Nat} {zs : List Int} (h : Prb.Own w base (.slice A n c) zs) (j : Nat) (x : Int) (hx : zs[j]? = some x) : ∃ b, A = some ⟨b, 0, none⟩ ∧ base ≤ b ∧ w.cell? ⟨b, j, none⟩ = some (.int .i64 x) := by
  have o : w.ownsRow base 3 1 (.slice A n c) zs.length (Prb.ints zs) := by unfold Prb.Own at h; exact h
  obtain ⟨A', c', e', l1, l2, l3⟩ := Rowz.form o
  injection e' with e1 e2 e3
  subst e1 e2 e3
  have hlt := (List.getElem?_eq_some_iff.1 hx).1
  rcases l3 with ⟨_, _, h0⟩ | ⟨b, rfl, hb1, hb2⟩
  · omega
  · refine ⟨b, rfl, hb1, ?_⟩
    rw [World.ownsRow.cellAt o j (by omega), Prb.ints, List.getElem?_map, hx]
    rfl
theorem Outs.base {w : World} {a b : Nat} {v : Value} {ms : List Om} {T : Nat → Prop} (h : Outs w b v ms T) (hab : a ≤ b) : Outs w a v ms T := by
  obtain ⟨⟨ss, h1, h2, h3⟩, h4, h5⟩ := h
  refine ⟨⟨ss, h1, Prb_own_mono h2 hab, fun i m s hm hs0 => ?_⟩, h4, fun j hj => ⟨Nat.le_trans hab (h5 j hj).1, (h5 j hj).2⟩⟩
  obtain ⟨k1, k2⟩ := h3 i m s hm hs0
  exact ⟨⟨k1.1, Prb_own_mono k1.2 hab⟩, k2⟩
theorem TI.done {w w0 w' : World} {S : Nat → Prop} {g : Nat} {v : Value} {d : Dt} {ms : List Om} (h : TI w0 w' S g v d ms) (h0 : Rum.Wr w w0 S) : ∃ T, Hid (Outs w' w.heap.size v ms T) ∧ Hid (DTurnX w w' S g d T) := by
  obtain ⟨S', T, h1, h2, h3, h4, h5⟩ := h
  exact ⟨T, Hid.mk_ (h4.base h0.size), Hid.mk_ ⟨S', h1, fun i hi => (h2 i hi).elim .inl (fun h => .inr (Nat.le_trans h0.size h)), h0.then_ h3 (fun i hi => .inl hi), h5⟩⟩
/-- The clock alone is turned, its pile where it was. -/
theorem DetX.turnC0 {w w' : World} {S : Nat → Prop} {g gv gq go gc : Nat} {d : Dt} {A B C : Option Addr} {n c : Nat} {M : List Wat.Mom} (h : DetX w S g d gv gq go gc A B n c C) (hc : Wat.Clk w' gc C M) (hw0 : Wat.Wr w w' (Wat.Its gc C)) : DetX w' S g { d with M := M } gv gq go gc A B n c C ∧ Rum.Wr w w' S := by
  have hw := wrW hw0
  obtain ⟨col, c0, c1, c2, c3, c4⟩ := h.sep
  refine ⟨⟨⟨h.ok.self, h.ok.inc, h.ok.now, h.ok.seq, h.ok.asked⟩, ?_, ?_, ?_, ?_, hc, fun k hk => Nat.lt_of_lt_of_le (h.blk k hk) hw.size, h.sg, h.sv, h.sq, h.so, h.sc, h.sep⟩, hw.mono h.sc⟩
  · exact h.dcs.wr hw (fun hk => by have := c4 g hk; omega)
  · exact (hw.block gv h.vw.lt (fun hk => by have := c4 gv hk; omega)).trans h.vw
  · exact h.qu.wr hw (fun k hk hk2 => by have := c4 k hk2; have := c2 k hk; omega)
  · exact h.od.wr (wrP' hw) (fun hk => by have := c4 go hk; have := c3 go (.inl rfl); omega) (fun b off eb hk => by have := c4 b hk; have := c3 b (.inr ⟨off, eb⟩); omega)
theorem runs_msgs {oi : Oper} {a : Act} {w : World} {x : Operand} {cs : Array Value} (ho : oi.op = .buildSlice 54 1 #[(0, x)]) (hx : a.eval x = .agg cs) (hc : cs.size = 62) :
    (execOp a.eval oi).run Tryz.prog w = .ok (.value (.slice (some ⟨w.heap.size, 0, none⟩) 1 1)) (w.alloc (.cells cs 46)) := by
  unfold execOp
  simp only [ho, List.map_toArray, List.map_cons, List.map_nil, hx, Sem.run_bind, run_msgs w cs hc, Result.andThen_ok, Sem.run_pure]
theorem runs_app {oi : Oper} {a : Act} {w w' : World} {x y : Operand} {v u v' : Value} (ho : oi.op = .call { callee := .builtin .append, args := #[x, y], argTypes := #[54, 54] }) (hx : a.eval x = v) (hy : a.eval y = u)
    (hr : (Builtin.append_ #[54, 54] oi.type #[v, u]).run Tryz.prog w = .ok v' w') : (execOp a.eval oi).run Tryz.prog w = .ok (.value v') w' := by
  unfold execOp
  simp only [ho, resolve, invoke, builtin, Sem.run_bind, Sem.run_pure, Result.andThen_ok, List.map_toArray, List.map_cons, List.map_nil, hx, hy, hr]
/-- A call of a method value. -/
theorem goesF_ {P : Program} {ops : Array Oper} {Q : Exit → Act → World → Prop} {oi : Oper} {N : Option Tmp} {a : Act} {w : World} {K : Act → World → Prop} {f : FuncId} {fn : Func} {x y : Operand} {ts : Array TypeId} (p u : Value) (hf : P.funcs[f]? = some fn) (hname : (fn.name == "runtime.NumGoroutine") = false) (hb : fn.body.isSome = true)
    (hw : Region.wanted oi (yielded ops a.tmps) = true) (hN : oi.dst = N) (hop : oi.op = .call { callee := .value x, args := #[y], argTypes := ts }) (hx : a.eval x = .func (.func f) #[p] #[]) (hy : a.eval y = u)
    (h : Calls P f #[p, u] w fun e w' => ∃ v, e = .returned v ∧ K (a.put N v) w') : if Region.wanted oi (yielded ops a.tmps) = true then Oper.wp P oi a w K Q else K (a.put N undef) w := by
  refine Go.Proofs.YthndjhocmpelcaaGreatW.PrintLast.call_ f #[p, u] hw hN ?_ h
  have he := Go.Proofs.YthndjhocmpelcaaGreatW.PrintLast.enters_ hf hname hb #[p, u] w
  unfold execOp
  simp [hop, resolve, Deferred.ofValue, invoke, hx, hy, he]
end Go.Proofs.YthndjhocmpelcaaGreat.Swi
namespace Go.Proofs.YthndjhocmpelcaaGreat.Swi
open Go.RowKit Kit Hth Tri3
set_option linter.unusedVariables false
set_option maxRecDepth 100000 in
set_option maxHeartbeats 4000000 in
theorem tick_left (w : World) (S : Nat → Prop) (g : Nat) (d : Dt) (hD : Hid (Det w S g d)) (hl : d.left = true) (hn : d.now < 1000000) (v2 v3 : Value) (d' : Dt) (hd : Hid (d' = d1 d)) :
    Calls Tryz.prog 15 #[.pointer (some ⟨g, 0, none⟩), v2, v3] w fun e w' => e = .returned (.slice none 0 0) ∧ Hid (DTurn w w' S g d') := by
  obtain ⟨gv, gq, go, gc, A, B, n1, cc, C, X⟩ := hD.out
  have c6 : w.cell? ⟨g, 6, none⟩ = some (.int .i64 d.now) := X.dcs.cell 6
  have f6 : w.frozen? ⟨g, 6, none⟩ = false := X.dcs.fr 6
  have o6 := X.ok.now
  have hw1 : IntKind.i64.wrap (d.now + 1) = d.now + 1 := IntWalk.i64_in _ (by have : 0 ≤ d.now ∧ d.now ≤ 1000000 := o6; omega)
  have XH := Hid.mk_ X
  have O6 := Hid.mk_ o6
  have HN := Hid.mk_ hn
  clear X o6 hn
  go_enter Tryz.func15, Tryz.ntmps15
  go_upto_region 4 with fail
  have ws := Rum.Wr.set w g 6 (.int .i64 (d.now + 1))
  have X1 := Hid.mk_ (XH.out.turnD ws (XH.out.dcs.set 6 (.int .i64 (d.now + 1)) (d1 d) rfl) ⟨XH.out.ok.self, XH.out.ok.inc, by show 0 ≤ d.now + 1 ∧ d.now + 1 ≤ 1000000; have := O6.out; have := HN.out; omega, XH.out.ok.seq, XH.out.ok.asked⟩ ⟨rfl, rfl, rfl, rfl, rfl, rfl⟩)
  have R1 : Hid (Rum.Wr w (w.setCell ⟨g, 6, none⟩ (.int .i64 (d.now + 1))) S) := Hid.mk_ (ws.mono (fun i hi => by rw [hi]; exact XH.out.sg))
  clear c6 f6 ws
  generalize w.setCell ⟨g, 6, none⟩ (.int .i64 (d.now + 1)) = w1 at *
  have c10 : w1.cell? ⟨g, 10, none⟩ = some (.bool true) := by rw [← hl]; exact X1.out.dcs.cell 10
  go_wp2_with fail
  go_ret
  exact ⟨rfl, Hid.mk_ ⟨S, by rw [hd.out]; exact ⟨gv, gq, go, gc, A, B, n1, cc, C, X1.out⟩, fun k hk => .inl hk, R1.out⟩⟩
set_option maxRecDepth 100000 in
theorem tick_nil (w : World) (v2 v3 : Value) : Calls Tryz.prog 15 #[.pointer none, v2, v3] w fun e w' => e = .returned (.slice none 0 0) ∧ Below w.heap.size w w' := by
  go_enter Tryz.func15, Tryz.ntmps15
  go_wp2_with fail
  go_ret
  exact ⟨rfl, Below.refl _ _⟩
set_option maxRecDepth 100000 in
set_option maxHeartbeats 4000000 in
theorem handle_nil (w : World) (cs : Array Value) : Calls Tryz.prog 13 #[.pointer none, .agg cs] w fun e w' => e = .returned (.slice none 0 0) ∧ Below w.heap.size w w' := by
  have al := Hid.mk_ ((Below.refl w.heap.size w).alloc (Nat.le_refl _) (.cells cs 46))
  go_enter Tryz.func13, Tryz.ntmps13
  go_upto_region 1 with fail
  generalize w.alloc (.cells cs 46) = w1 at *
  refine wp_draws _ (Below.refl _ _) (by kernel_rfl) (by kernel_rfl) (fun hne hN => ?_)
  repeat (go_big_quiet_step (fail))
  refine wpQuiet_nil (after_cells ?_)
  intro w2 b2 hc2
  have B2 := Hid.mk_ (al.out.trans (b2.mono al.out.size))
  clear hne hN hc2
  go_wp2_with fail
  go_ret
  exact ⟨rfl, B2.out⟩
end Go.Proofs.YthndjhocmpelcaaGreat.Swi
