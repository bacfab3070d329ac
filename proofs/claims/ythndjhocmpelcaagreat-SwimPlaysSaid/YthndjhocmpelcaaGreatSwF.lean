/- Chapter 6: messages: how they are built and lie in memory. No condition. -/
import Derived.Test.YthndjhocmpelcaaGreatGh
import Derived.Great.BuildSlice
import Derived.Maps.AppendAt
import Derived.Test.YthndjhocmpelcaaGreatWLast
namespace Go.Proofs.YthndjhocmpelcaaGreat.Swi
open Go.RowKit Kit Hth Tri3 Go.Proofs.YthndjhocmpelcaaGreatW.PrintLast
set_option linter.unusedVariables false
/-- The cells of a message. -/
def msg (k f t s fo ab : Int) (cl : Value) : Array Value := #[.int .i64 k, .int .i64 f, .int .i64 t, .int .i64 s, .int .i64 fo, .int .i64 ab, .int .i64 0, .int .i64 0, strVal "", .int .i64 0, .int .i64 0, .int .i64 0, .int .i64 0, .int .i64 0, .int .i64 0, .int .i64 0, .int .i64 0, .slice none 0 0, .int .i64 0, .int .i64 0, .int .i64 0, .int .i64 0, .int .i64 0, .int .i64 0, .int .i64 0, .int .i64 0, .int .i64 0, .int .i64 0, .slice none 0 0, .int .i64 0, .int .i64 0, .int .i64 0, .int .i64 0, .int .i64 0, .int .i64 0, .int .i64 0, .int .i64 0, .int .i64 0, .int .i64 0, .int .i64 0, .int .i64 0, .int .i64 0, .int .i64 0, .int .i64 0, .int .i64 0, .int .i64 0, .int .i64 0, .int .i64 0, .int .i64 0, .int .i64 0, .int .i64 0, .int .i64 0, .int .i64 0, .int .i64 0, .int .i64 0, .int .i64 0, .int .i64 0, .int .i64 0, .int .i64 0, .int .i64 0, .int .i64 0, cl]
theorem info42 : (Tryz.prog.info? 46).map (fun i => (i.zero, i.size, i.bytes)) = some (some (.agg (msg 0 0 0 0 0 0 (.slice none 0 0))), 62, 552) := by kernel_rfl
theorem size42 : (Tryz.prog.info? 46).map (·.size) = some 62 := by kernel_rfl
theorem msg_size (k f t s fo ab : Int) (cl : Value) : (msg k f t s fo ab cl).size = 62 := rfl
theorem msg_one {k f t s fo ab : Int} {cl : Value} (h : cl.oneCell' = true) : (msg k f t s fo ab cl).all (·.oneCell') = true := by
  simp [msg, Value.oneCell']
  exact ⟨rfl, h⟩
/-- One whole part is filled in. -/
theorem fill_one (n : Nat) (hn : 0 < n) (z cs : Array Value) (hz : z.size = n) (hc : cs.size = n) : Instr.fill (fun i => some (i * n, n)) z [(0, .agg cs)] = some cs := by
  obtain ⟨r, h1, h2, h3⟩ := Great.fill_dense hn [.agg cs] 0 z (fun v hv => by simp at hv; subst hv; exact hc) (by simp; omega)
  have e : ((([Value.agg cs] : List Value).zipIdx 0).map fun x => (x.2, x.1)) = [(0, .agg cs)] := rfl
  rw [e] at h1
  rw [h1]
  congr 1
  apply Array.ext_getElem?
  intro k
  rw [h3 k]
  by_cases hk : k < n
  · rw [if_pos (by simp; exact hk), Nat.div_eq_of_lt hk, Nat.mod_eq_of_lt hk]
    simp [Value.cells]
  · rw [if_neg (by simp; omega), Array.getElem?_eq_none (by omega), Array.getElem?_eq_none (by omega)]
theorem run_msgs (w : World) (cs : Array Value) (hc : cs.size = 62) : (Instr.buildSlice 54 1 #[(0, .agg cs)]).run Tryz.prog w = .ok (.slice (some ⟨w.heap.size, 0, none⟩) 1 1) (w.alloc (.cells cs 46)) := by
  obtain ⟨i0, hi0, hz0, hz1, hz2⟩ := Prb.info_parts info42
  refine run_buildSlice w 54 46 1 _ cs i0 _ Tryz.underlying54 hi0 hz0 (by rw [hz1]; decide) (by rw [hz1]; decide) ?_
  rw [hz1]
  refine fill_one 62 (by decide) _ cs ?_ hc
  simp
@[reducible] def zmsg : Array Value := #[.int .i64 0, .int .i64 0, .int .i64 0, .int .i64 0, .int .i64 0, .int .i64 0, .int .i64 0, .int .i64 0, .string ⟨#[]⟩, .int .i64 0, .int .i64 0, .int .i64 0, .int .i64 0, .int .i64 0, .int .i64 0, .int .i64 0, .int .i64 0, .slice none 0 0, .int .i64 0, .int .i64 0, .int .i64 0, .int .i64 0, .int .i64 0, .int .i64 0, .int .i64 0, .int .i64 0, .int .i64 0, .int .i64 0, .slice none 0 0, .int .i64 0, .int .i64 0, .int .i64 0, .int .i64 0, .int .i64 0, .int .i64 0, .int .i64 0, .int .i64 0, .int .i64 0, .int .i64 0, .int .i64 0, .int .i64 0, .int .i64 0, .int .i64 0, .int .i64 0, .int .i64 0, .int .i64 0, .int .i64 0, .int .i64 0, .int .i64 0, .int .i64 0, .int .i64 0, .int .i64 0, .int .i64 0, .int .i64 0, .int .i64 0, .int .i64 0, .int .i64 0, .int .i64 0, .int .i64 0, .int .i64 0, .int .i64 0, .slice none 0 0]
theorem zmsg_eq : zmsg = msg 0 0 0 0 0 0 (.slice none 0 0) := by kernel_rfl
/-- A message lies in block q. -/
def Msg (w : World) (q : Nat) (k f t s fo ab : Int) (cl : Value) : Prop := w.heap[q]? = some (.cells (msg k f t s fo ab cl) 46 (0, 0))
section
variable {w w' : World} {q : Nat} {k f t s fo ab : Int} {cl : Value}
theorem Msg.cell (h : Msg w q k f t s fo ab cl) (i : Nat) : w.cell? ⟨q, i, none⟩ = (msg k f t s fo ab cl)[i]? := cell_of_row w q i _ 46 (0, 0) h
theorem Msg.fr (h : Msg w q k f t s fo ab cl) (i : Nat) : w.frozen? ⟨q, i, none⟩ = false := frozen_of_row w q i _ 46 h
theorem Msg.lt (h : Msg w q k f t s fo ab cl) : q < w.heap.size := (Array.getElem?_eq_some_iff.1 h).1
theorem Msg.below (h : Msg w q k f t s fo ab cl) (hb : Below w.heap.size w w') : Msg w' q k f t s fo ab cl := (hb.block q h.lt).trans h
theorem Msg.wr {S : Nat → Prop} (h : Msg w q k f t s fo ab cl) (r : Rum.Wr w w' S) (hn : ¬ S q) : Msg w' q k f t s fo ab cl := (r.block q h.lt hn).trans h
theorem Msg.set1 (h : Msg w q k f t s fo ab cl) (x : Int) : Msg (w.setCell ⟨q, 1, none⟩ (.int .i64 x)) q k x t s fo ab cl := heap_setCell_same w q 1 _ 46 (.int .i64 x) h
theorem Msg.set61 (h : Msg w q k f t s fo ab cl) (x : Value) : Msg (w.setCell ⟨q, 61, none⟩ x) q k f t s fo ab x := heap_setCell_same w q 61 _ 46 x h
end
/-- What is believed of n, as a claim. -/
def cOf (d : Dt) (n : Int) : Cl := ⟨Bel.onN n, Bel.on d.p n, Bel.on d.q n⟩
def dMany (d : Dt) : Nat := Rum.many 2 d.L.length
def dSent (d : Dt) : Dt := { d with L := Rum.tookQ 3 (dMany d) d.L }
def susp (d : Dt) (t : Int) : Bool := Bel.on d.q t == 2 || Bel.on d.q t == 3
def dClaims (d : Dt) (t : Int) : List Cl := (cOf d d.self :: if susp d t then [cOf d t] else []) ++ Rum.toldQ (dMany d) d.L
/-- As DTurn; and the detector's blocks are not in T. -/
def DTurnX (w w' : World) (S : Nat → Prop) (g : Nat) (d : Dt) (T : Nat → Prop) : Prop := ∃ S', Det w' S' g d ∧ (∀ k, S' k → S k ∨ w.heap.size ≤ k) ∧ Rum.Wr w w' S ∧ ∀ k, S' k → ¬ T k
theorem DTurnX.turn {w w' : World} {S : Nat → Prop} {g : Nat} {d : Dt} {T : Nat → Prop} (h : DTurnX w w' S g d T) : DTurn w w' S g d := by
  obtain ⟨S', h1, h2, h3, _⟩ := h
  exact ⟨S', h1, h2, h3⟩
theorem of1 {w : World} {S : Nat → Prop} {g gv gq go gc : Nat} {d : Dt} {A B C : Option Addr} {n cc : Nat} (X : DetX w S g d gv gq go gc A B n cc C) (x : Int) :
    Calls Tryz.prog 50 #[.pointer (some ⟨gv, 0, none⟩), .int .i64 x] w fun e w' => e = .returned (.agg #[.int .i64 (cOf d x).n, .int .i64 (cOf d x).i, .int .i64 (cOf d x).h]) ∧ Below w.heap.size w w' := Bel.of0 d.p d.q gv x w X.vw
theorem keepSA {w : World} {z o g k : Nat} {v u : Value} {ob : Obj} (h : w.cell? ⟨g, k, none⟩ = some u) (hg : g ≠ z) : ((w.setCell ⟨z, o, none⟩ v).alloc ob).cell? ⟨g, k, none⟩ = some u := by
  have h1 : (w.setCell ⟨z, o, none⟩ v).cell? ⟨g, k, none⟩ = some u := (World.cell?_setCell_other _ _ _ _ (by intro e; injection e with e1; exact hg e1.symm)).trans h
  exact keepC ((Below.refl _ _).alloc (Nat.le_refl _) _) h1
theorem Prb_own_mono {w : World} {a b : Nat} {E : TypeId} {s : Nat} {v : Value} {n : Nat} {xs : List Value} (h : w.ownsRow b E s v n xs) (hab : a ≤ b) : w.ownsRow a E s v n xs := by
  refine ⟨h.1, ?_⟩
  rcases h.2 with h1 | ⟨g, cap, cur, h1, h3, h4⟩
  · exact .inl h1
  · exact .inr ⟨g, cap, cur, h1, Nat.le_trans hab h3, h4⟩
theorem run_noneC (w : World) (ty : TypeId) (i0 : TypeInfo) (hi : Tryz.prog.info? 30 = some i0) (base n c : Nat) (v : Value) (xs : List Value) (hown : w.ownsRow base 30 3 v n xs) :
    (Builtin.append_ #[44, 44] ty #[v, .slice none 0 c]).run Tryz.prog w = .ok v w := by
  rcases hown.2 with ⟨rfl, rfl⟩ | ⟨g, cap, cur, rfl, hbg, hg, hnc, hcm, hcs, htake⟩
  · simp [Builtin.append_, run_underlying Tryz.underlying44, sizeOf, typeInfo, hi, Builtin.lenOf, Builtin.firstCells]
  · simp [Builtin.append_, run_underlying Tryz.underlying44, sizeOf, typeInfo, hi, Builtin.lenOf, Builtin.firstCells, loadCells, hnc, storeCells]
theorem clat_cells {w : World} {ad : Addr} {L : List Cl} (h : ClAt w (some ad) L) : ∀ j u, (Rum.cellsC L)[j]? = some u → w.cell? (ad.add j) = some u := by
  intro j u hu
  have hj := (List.getElem?_eq_some_iff.1 hu).1
  rw [Rum.cellsC_len] at hj
  obtain ⟨m, hm⟩ : ∃ m, L[j / 3]? = some m := ⟨_, List.getElem?_eq_getElem (by omega)⟩
  obtain ⟨b, off, e, _, h1, h2, h3⟩ := h (j / 3) m hm
  obtain ⟨c1, c2, c3⟩ := Rum.cellsC_get L (j / 3) m hm
  injection e with e
  subst e
  rw [Addr.add_lit]
  have : j = j / 3 * 3 ∨ j = j / 3 * 3 + 1 ∨ j = j / 3 * 3 + 2 := by omega
  rcases this with e | e | e
  · rw [← e] at h1 c1
    rw [h1, ← hu, c1]
  · rw [← e] at c2
    rw [← hu, c2, ← h2]
    congr 2
    omega
  · rw [← e] at c3
    rw [← hu, c3, ← h3]
    congr 2
    omega
theorem run_appC (w : World) (ty : TypeId) (base : Nat) (v : Value) (n : Nat) (xs : List Cl) (hown : Rum.OwnC w base v n xs) (A : Option Addr) (ls : List Cl) (m c : Nat) (hm : m = ls.length) (hat : ClAt w A ls) (hn : n + ls.length ≤ 1000) (hbase : base ≤ w.heap.size) :
    ∃ v' w', (Builtin.append_ #[44, 44] ty #[v, .slice A m c]).run Tryz.prog w = .ok v' w' ∧ Rum.OwnC w' base v' (n + m) (xs ++ ls) ∧ w.grownBy w' v.ownBlock ∧ (v'.ownBlock = v.ownBlock ∨ v'.ownBlock = some w.heap.size) := by
  obtain ⟨i0, hi0, hz0, hz1, hz2⟩ := Rowz.info_parts Rum.info53
  subst hm
  cases A with
  | none =>
    have e0 : ls = [] := by
      cases ls with
      | nil => rfl
      | cons a l =>
        obtain ⟨b, off, e, _⟩ := hat 0 a rfl
        cases e
    subst e0
    refine ⟨v, w, run_noneC w ty i0 hi0 base _ c v _ hown.2, by rw [List.append_nil]; exact hown, ⟨rfl, rfl, rfl, Nat.le_refl _, fun _ _ _ => rfl⟩, .inl rfl⟩
  | some ad =>
    obtain ⟨v', w', hr, h1, h2, _, h3⟩ := run_append_own_at (P := Tryz.prog) w base 44 ty 30 i0 _ 3 24 Tryz.underlying44 hi0 hz0 hz1 hz2 rfl (by decide) v n (Rum.cellsC xs) hown.2 ad ls.length c (Rum.cellsC ls) (by rw [Rum.cellsC_len]) (clat_cells hat) (Rum.cellsC_one ls) (by unfold maxLen; omega) (by omega) hbase
    refine ⟨v', w', hr, ⟨by rw [List.length_append, ← hown.1], ?_⟩, h2, h3⟩
    rw [Rum.cellsC_append]
    exact h1
theorem step_appC (w : World) {ops : Array Oper} {o : Oper} {a : Act} {K : Act → World → Prop} {Q : Exit → Act → World → Prop} {E : Prop} (hgd : o.guard = none) (s x : Operand)
    (ho : o.op = .call { callee := .builtin .append, args := #[s, x], argTypes := #[44, 44] })
    (base : Nat) (v : Value) (n : Nat) (xs : List Cl) (hs : a.eval s = v) (hown : Rum.OwnC w base v n xs) (A : Option Addr) (ls : List Cl) (m c : Nat) (hx : a.eval x = .slice A m c) (hm : m = ls.length) (hat : ClAt w A ls) (hn : n + ls.length ≤ 1000) (hbase : base ≤ w.heap.size)
    (h : ∀ v' w', Rum.OwnC w' base v' (n + m) (xs ++ ls) → w.grownBy w' v.ownBlock → (v'.ownBlock = v.ownBlock ∨ v'.ownBlock = some w.heap.size) → K (a.put o.dst v') w') :
    if Region.wanted o (yielded ops a.tmps) = true then Oper.wp Tryz.prog o a w K Q else E := by
  have hw : Region.wanted o (yielded ops a.tmps) = true := by simp [Region.wanted, hgd]
  rw [if_pos hw]
  obtain ⟨v', w', hr, h2, h3, h4⟩ := run_appC w o.type base v n xs hown A ls m c hm hat hn hbase
  unfold Oper.wp execOp
  simp only [ho, resolve, invoke, builtin, Sem.run_bind, Sem.run_pure, Result.andThen_ok, List.map_toArray, List.map_cons, List.map_nil, hs, hx, hr]
  exact h v' w' h2 h3 h4
theorem own1 {w : World} {base g : Nat} (c : Cl) (hb : base ≤ g) (h : w.heap[g]? = some (.cells #[.int .i64 c.n, .int .i64 c.i, .int .i64 c.h] 30 (0, 0))) : Rum.OwnC w base (.slice (some ⟨g, 0, none⟩) 1 1) 1 [c] :=
  ⟨rfl, rfl, .inr ⟨g, 1, _, rfl, hb, h, Nat.le_refl _, by decide, rfl, rfl⟩⟩
set_option maxRecDepth 100000 in
set_option maxHeartbeats 8000000 in
theorem sends (w : World) (S : Nat → Prop) (g : Nat) (d : Dt) (k f t s fo ab : Int) (cl : Value) (hD : Hid (Det w S g d)) :
    Calls Tryz.prog 44 #[.pointer (some ⟨g, 0, none⟩), .agg (msg k f t s fo ab cl)] w fun e w' => ∃ P np cp, e = .returned (.agg (msg k d.self t s fo ab (.slice P np cp))) ∧ Hid (Rum.OwnC w' w.heap.size (.slice P np cp) np (dClaims d t)) ∧ Hid (DTurnX w w' S g (dSent d) (fun j => (Value.slice P np cp).ownBlock = some j)) := by
  obtain ⟨gv, gq, go, gc, A, B, n, cc, C, X⟩ := hD.out
  have al1 := (Below.refl w.heap.size w).alloc (Nat.le_refl _) (.cells (msg k f t s fo ab cl) 46)
  have al2 : Below w.heap.size w ((w.alloc (.cells (msg k f t s fo ab cl) 46)).alloc (.cells zmsg 46)) := al1.alloc al1.size _
  have X1 := Hid.mk_ (X.below al2)
  have B1 := Hid.mk_ al2
  have NS := Hid.mk_ X.blk
  have M1 : Hid (Msg ((w.alloc (.cells (msg k f t s fo ab cl) 46)).alloc (.cells zmsg 46)) w.heap.size k f t s fo ab cl) := Hid.mk_ (Msg.below (heap_alloc_new w _) ((Below.refl _ _).alloc (Nat.le_refl _) _))
  have Z1 : Hid (Msg ((w.alloc (.cells (msg k f t s fo ab cl) 46)).alloc (.cells zmsg 46)) (w.heap.size + 1) 0 0 0 0 0 0 (.slice none 0 0)) := Hid.mk_ (by
    have := heap_alloc_new (w.alloc (.cells (msg k f t s fo ab cl) 46)) (.cells zmsg 46)
    rw [show (w.alloc (.cells (msg k f t s fo ab cl) 46)).heap.size = w.heap.size + 1 by simp] at this
    unfold Msg
    rw [← zmsg_eq]
    exact this)
  clear al1 al2 X
  go_enter Tryz.func44, Tryz.ntmps44
  go_upto_region 1 with fail
  generalize (w.alloc (.cells (msg k f t s fo ab cl) 46)).alloc (.cells zmsg 46) = w1 at *
  obtain ⟨z, hz⟩ : ∃ z, z = w.heap.size := ⟨_, rfl⟩
  have HZ := Hid.mk_ hz
  have NZ : Hid (∀ i, S i → i < z) := Hid.mk_ (fun i hi => by have := NS.out i hi; omega)
  rw [← hz] at M1 Z1 ⊢
  clear hz NS
  have c0 : w1.cell? ⟨g, 0, none⟩ = some (.int .i64 d.self) := X1.out.dcs.cell 0
  have m1 : w1.cell? ⟨z, 1, none⟩ = some (.int .i64 f) := M1.out.cell 1
  have mf : w1.frozen? ⟨z, 1, none⟩ = false := M1.out.fr 1
  go_upto_region 2 with fail
  have ws := Rum.Wr.set w1 z 1 (.int .i64 d.self)
  have X2 := Hid.mk_ (X1.out.wr ws (fun i hi e => by have := NZ.out i hi; omega))
  have M2 := Hid.mk_ (M1.out.set1 d.self)
  have Z2 := Hid.mk_ (Z1.out.wr ws (by omega))
  have B2 : Hid (Below w.heap.size w (w1.setCell ⟨z, 1, none⟩ (.int .i64 d.self))) := Hid.mk_ (Rum.below_set B1.out (by rw [HZ.out]; exact Nat.le_refl _))
  clear c0 m1 mf ws X1 M1 Z1 B1
  generalize w1.setCell ⟨z, 1, none⟩ (.int .i64 d.self) = w2 at *
  clear w1
  have c0 : w2.cell? ⟨g, 0, none⟩ = some (.int .i64 d.self) := X2.out.dcs.cell 0
  have c2 : w2.cell? ⟨g, 2, none⟩ = some (.pointer (some ⟨gv, 0, none⟩)) := X2.out.dcs.cell 2
  have m1 : w2.cell? ⟨z, 61, none⟩ = some cl := M2.out.cell 61
  have mf : w2.frozen? ⟨z, 61, none⟩ = false := M2.out.fr 61
  go_region_held3 (fun w' => w'.cell? ⟨g, 0, none⟩ = some (.int .i64 d.self) ∧ w'.cell? ⟨g, 2, none⟩ = some (.pointer (some ⟨gv, 0, none⟩))) (first | exact ⟨by assumption, by assumption⟩ | exact ⟨keepSA (by assumption) (by assumption), keepSA (by assumption) (by assumption)⟩ | go_keep) (first
    | (go_at_call 50; refine (of1 (w := w2.drew) (by exact X2.out.below (Below.refl _ _).drew) d.self).mono ?_; rintro e w3 ⟨rfl, b3⟩; have s0 := keepC b3 (by exact c0); have s2 := keepC b3 (by exact c2); have s61 := keepC b3 (by exact m1); have f61 : w3.frozen? ⟨z, 61, none⟩ = false := (b3.frozen (p := ⟨z, 61, none⟩) (by exact M2.out.lt)).trans mf; have lz : z < w3.heap.size := Nat.lt_of_lt_of_le M2.out.lt b3.size; have lg : g < w3.heap.size := Nat.lt_of_lt_of_le X2.out.dcs.lt b3.size; have gz : g ≠ z := fun e => by have := NZ.out g X2.out.sg; omega)
    | fail)
  have dr : Below w2.heap.size w2 w2.drew := (Below.refl _ _).drew
  have X3 := (X2.out.below dr).below b3
  have M3 := (M2.out.below dr).below b3
  have Z3 := (Z2.out.below dr).below b3
  have B3 := (B2.out.drew).trans (b3.mono B2.out.size)
  have ws := Rum.Wr.set w3 z 61 (.slice (some ⟨w3.heap.size, 0, none⟩) 1 1)
  have al := (Below.refl (w3.setCell ⟨z, 61, none⟩ (.slice (some ⟨w3.heap.size, 0, none⟩) 1 1)).heap.size (w3.setCell ⟨z, 61, none⟩ (.slice (some ⟨w3.heap.size, 0, none⟩) 1 1))).alloc (Nat.le_refl _) (.cells #[.int .i64 (cOf d d.self).n, .int .i64 (cOf d d.self).i, .int .i64 (cOf d d.self).h] 30)
  have X4 := Hid.mk_ ((X3.wr ws (fun i hi e => by have := NZ.out i hi; omega)).below al)
  have M4 := Hid.mk_ ((M3.set61 (.slice (some ⟨w3.heap.size, 0, none⟩) 1 1)).below al)
  have Z4 := Hid.mk_ ((Z3.wr ws (by omega)).below al)
  have BS3 := Rum.below_set (o := 61) (v := .slice (some ⟨w3.heap.size, 0, none⟩) 1 1) B3 (q := z) (by rw [HZ.out]; exact Nat.le_refl _)
  have B4 := Hid.mk_ (BS3.trans (al.mono BS3.size))
  have O4 : Hid (Rum.OwnC ((w3.setCell ⟨z, 61, none⟩ (.slice (some ⟨w3.heap.size, 0, none⟩) 1 1)).alloc (.cells #[.int .i64 (cOf d d.self).n, .int .i64 (cOf d d.self).i, .int .i64 (cOf d d.self).h] 30)) (z + 2) (.slice (some ⟨w3.heap.size, 0, none⟩) 1 1) 1 [cOf d d.self]) := Hid.mk_ (own1 _ (by have := Z3.lt; omega) (by
    have := heap_alloc_new (w3.setCell ⟨z, 61, none⟩ (.slice (some ⟨w3.heap.size, 0, none⟩) 1 1)) (.cells #[.int .i64 (cOf d d.self).n, .int .i64 (cOf d d.self).i, .int .i64 (cOf d d.self).h] 30)
    rw [show (w3.setCell ⟨z, 61, none⟩ (.slice (some ⟨w3.heap.size, 0, none⟩) 1 1)).heap.size = w3.heap.size by simp [World.setCell]] at this
    exact this))
  clear c0 c2 m1 mf s0 s2 s61 f61 lz lg gz b3 dr X3 M3 Z3 B3 ws al BS3 X2 M2 Z2 B2
  generalize (w3.setCell ⟨z, 61, none⟩ (.slice (some ⟨w3.heap.size, 0, none⟩) 1 1)).alloc (.cells #[.int .i64 (cOf d d.self).n, .int .i64 (cOf d d.self).i, .int .i64 (cOf d d.self).h] 30) = w4 at *
  generalize w3.heap.size = y at *
  have c2 : w4.cell? ⟨g, 2, none⟩ = some (.pointer (some ⟨gv, 0, none⟩)) := X4.out.dcs.cell 2
  have m2 : w4.cell? ⟨z, 2, none⟩ = some (.int .i64 t) := M4.out.cell 2
  go_upto_region 3 with fail
  go_cut [5] from 22 to 28 (fun s5 wx => ∃ q5, s5 = .pointer (some ⟨q5, 0, none⟩) ∧ Hid (Rum.Box3 wx q5 (cOf d t).n (cOf d t).i (cOf d t).h) ∧ Hid (Below w4.heap.size w4 wx) ∧ Hid (w4.heap.size ≤ q5))
  case first =>
    have n1 := World.new_ne w4 _ c2
    have n2 := World.new_ne w4 _ m2
    have ax := (Below.refl w4.heap.size w4).alloc (Nat.le_refl _) (.cells #[.int .i64 0, .int .i64 0, .int .i64 0] 30)
    have BX0 := Rum.Box3.made w4 0 0 0
    have BX := Hid.mk_ (box3k BX0 (Below.refl _ _).drew)
    have AX := Hid.mk_ ax.drew
    have k2 := Hid.mk_ (keepC ax.drew c2)
    have k3 := Hid.mk_ (keepC ax.drew m2)
    clear ax BX0
    go_region_held3 (fun w' => w'.cell? ⟨g, 2, none⟩ = some (.pointer (some ⟨gv, 0, none⟩)) ∧ w'.cell? ⟨z, 2, none⟩ = some (.int .i64 t)) (first | exact ⟨by assumption, by assumption⟩ | go_keep) (first
      | (go_at_call 50; refine (of1 (w := w4.drew) (by exact X4.out.below (Below.refl _ _).drew) t).mono ?_; rintro e w5 ⟨rfl, b5⟩; have s2 := keepC b5 (by exact c2); have s3 := keepC b5 (by exact m2); have n3 := World.new_ne w5 _ s2; have n4 := World.new_ne w5 _ s3; have tokA : True := trivial)
      | (go_at_call 50; refine (of1 (w := (w4.alloc (.cells #[.int .i64 0, .int .i64 0, .int .i64 0] 30)).drew) (by exact X4.out.below AX.out) t).mono ?_; rintro e w5 ⟨rfl, b5⟩; have s2 := keepC b5 k2.out; have s3 := keepC b5 k3.out; have b0 := (box3k BX.out b5).c0; have b1 := (box3k BX.out b5).c1; have b2 := (box3k BX.out b5).c2; have g0 := (box3k BX.out b5).f0; have g1 := (box3k BX.out b5).f1; have g2 := (box3k BX.out b5).f2; have n5 : g ≠ w4.heap.size := (by have := X4.out.dcs.lt; omega); have n6 : z ≠ w4.heap.size := (by have := M4.out.lt; omega))
      | fail)
    · go_wp2_with fail
      go_meet
      have z5 := ((Below.refl w4.heap.size w4).drew.trans b5)
      exact ⟨w5.heap.size, rfl, Hid.mk_ (Rum.Box3.made w5 _ _ _), Hid.mk_ (z5.alloc z5.size _), Hid.mk_ z5.size⟩
    · go_wp2_with fail
      go_meet
      have z5 := AX.out.trans (b5.mono AX.out.size)
      exact ⟨w4.heap.size, rfl, Hid.mk_ ((box3k BX.out b5).set _ _ _), Hid.mk_ (Rum.below_set (Rum.below_set (Rum.below_set z5 (Nat.le_refl _)) (Nat.le_refl _)) (Nat.le_refl _)), Hid.mk_ (Nat.le_refl _)⟩
  case rest =>
    obtain ⟨q5, rfl, BQ, BC, HQ⟩ := hcut
    have X5 := Hid.mk_ (X4.out.below BC.out)
    have M5 := Hid.mk_ (M4.out.below BC.out)
    have Z5 := Hid.mk_ (Z4.out.below BC.out)
    have O5 := Hid.mk_ (O4.out.below BC.out)
    have B5 := Hid.mk_ (B4.out.trans (BC.out.mono B4.out.size))
    clear X4 M4 Z4 O4 B4 BC HQ c2 m2
    generalize wc = w5 at *
    obtain ⟨i0, hi0, hz0, hz1, hz2⟩ := Rowz.info_parts Rum.info53
    go_upto_region 4 with fail
    go_cut [36] from 29 to 36 (fun s36 wx => s36 = .bool (susp d t) ∧ wx = w5)
    case first =>
      obtain ⟨x0, x1, x2, _, _, _⟩ := BQ.out
      have hsp : Hid (susp d t = ((cOf d t).h == 2 || (cOf d t).h == 3)) := Hid.mk_ rfl
      cases h2 : ((cOf d t).h == 2) with
      | true =>
        go_wp2_with fail
        go_meet
        exact ⟨by rw [hsp.out, h2]; rfl, rfl⟩
      | false =>
        go_wp2_with fail
        go_meet
        exact ⟨by rw [hsp.out, h2]; rfl, rfl⟩
    obtain ⟨rfl, ew⟩ := hcut
    have ew2 := ew.symm
    subst ew2
    go_upto_if 36 with fail
    go_cut [28] from 36 to 42 (fun s28 wx => ∃ P1 n1 k1, Hid (DetX wx S g d gv gq go gc A B n cc C) ∧ Hid (Msg wx z k d.self t s fo ab (.slice P1 n1 k1)) ∧ Hid (Msg wx (z + 1) 0 0 0 0 0 0 (.slice none 0 0)) ∧ Hid (Rum.OwnC wx (z + 2) (.slice P1 n1 k1) n1 (cOf d d.self :: if susp d t then [cOf d t] else [])) ∧ Hid (Below w.heap.size w wx) ∧ n1 ≤ 2)
    case first =>
      obtain ⟨x0, x1, x2, _, _, _⟩ := BQ.out
      cases hsu : susp d t with
      | false =>
        go_wp2_with fail
        go_meet
        exact ⟨_, _, _, X5, M5, Z5, Hid.mk_ (by rw [hsu]; exact O5.out), B5, by omega⟩
      | true =>
        have m1 : w5.cell? ⟨z, 61, none⟩ = some (.slice (some ⟨y, 0, none⟩) 1 1) := M5.out.cell 61
        have mf : w5.frozen? ⟨z, 61, none⟩ = false := M5.out.fr 61
        have lz := Hid.mk_ M5.out.lt
        have lz1 := Hid.mk_ Z5.out.lt
        have fin : ∀ (v7 : Value) (w7 : World), Rowz.Got (w5.alloc (.cells #[.int .i64 (cOf d t).n, .int .i64 (cOf d t).i, .int .i64 (cOf d t).h] 30)) w7 (z + 2) 30 3 (.slice (some ⟨y, 0, none⟩) 1 1) v7 2 (Rum.cellsC [cOf d d.self] ++ Rum.cellsC [cOf d t]) →
            ∃ P1 k1, v7 = .slice P1 2 k1 ∧ w7.cell? ⟨z, 61, none⟩ = some (.slice (some ⟨y, 0, none⟩) 1 1) ∧ w7.frozen? ⟨z, 61, none⟩ = false ∧ Hid (DetX (w7.setCell ⟨z, 61, none⟩ v7) S g d gv gq go gc A B n cc C) ∧ Hid (Msg (w7.setCell ⟨z, 61, none⟩ v7) z k d.self t s fo ab v7) ∧ Hid (Msg (w7.setCell ⟨z, 61, none⟩ v7) (z + 1) 0 0 0 0 0 0 (.slice none 0 0)) ∧ Hid (Rum.OwnC (w7.setCell ⟨z, 61, none⟩ v7) (z + 2) v7 2 [cOf d d.self, cOf d t]) ∧ Hid (Below w.heap.size w (w7.setCell ⟨z, 61, none⟩ v7)) := fun v7 w7 g7 => by
          have al := (Below.refl w5.heap.size w5).alloc (Nat.le_refl _) (.cells #[.int .i64 (cOf d t).n, .int .i64 (cOf d t).i, .int .i64 (cOf d t).h] 30)
          have OA := O5.out.below al
          have d7 := g7.below OA.2 (by have := lz1.out; have := al.size; omega)
          have rT := Rum.Wr.ofB d7
          have XA := (X5.out.below al).wr rT (fun i hi e => by have := NZ.out i hi; omega)
          have MA := (M5.out.below al).wr rT (by omega)
          have ZA := (Z5.out.below al).wr rT (by omega)
          have ws := Rum.Wr.set w7 z 61 v7
          have BA : Below w.heap.size w w7 := (B5.out.trans (al.mono B5.out.size)).trans (d7.mono (by have := HZ.out; omega))
          obtain ⟨P1, k1, e7, _⟩ := Rowz.form g7.own
          refine ⟨P1, k1, e7, MA.cell 61, MA.fr 61, Hid.mk_ (XA.wr ws (fun i hi e => by have := NZ.out i hi; omega)), Hid.mk_ (MA.set61 v7), Hid.mk_ (ZA.wr ws (by omega)), Hid.mk_ ⟨rfl, Rowz.keep g7.own fun j hj _ => Below.heap_setCell _ _ _ _ (by have := (Rowz.blk g7.own j hj).1; simp only; omega)⟩, Hid.mk_ (Rum.below_set BA (by rw [HZ.out]; exact Nat.le_refl _))⟩
        go_wp2_with (at_builtin; refine Rowz.wpList_app1 _ rfl _ _ 44 30 rfl i0 (.agg #[.int .i64 0, .int .i64 0, .int .i64 0]) 3 24 Tryz.underlying44 hi0 hz0 hz1 hz2 rfl (by decide) (z + 2) (.slice (some ⟨y, 0, none⟩) 1 1) 1 (Rum.cellsC [cOf d d.self]) rfl (O5.out.below ((Below.refl _ _).alloc (Nat.le_refl _) _)).2 _ _ (Rum.cellsC [cOf d t]) rfl rfl (Rum.claimAt _ (Rum.Tld.mk (cOf d t).n (cOf d t).i (cOf d t).h 0)) (Rum.cellsC_one _) (by omega) (by decide) (by have := lz1.out; simp; omega) ?_; intro v7 w7 g7; obtain ⟨P1, k1, rfl, m7, f7, r1, r2, r3, r4, r5⟩ := fin v7 w7 g7.out)
        go_meet
        exact ⟨P1, 2, k1, r1, r2, r3, Hid.mk_ (by rw [hsu]; exact r4.out), r5, Nat.le_refl _⟩
    case rest =>
      obtain ⟨P1, n1, k1, X6, M6, Z6, O6, B6, hn1⟩ := hcut
      clear X5 M5 Z5 O5 B5 BQ
      have m1 : wc.cell? ⟨z, 61, none⟩ = some (.slice P1 n1 k1) := M6.out.cell 61
      have mf : wc.frozen? ⟨z, 61, none⟩ = false := M6.out.fr 61
      have c3 : wc.cell? ⟨g, 3, none⟩ = some (.pointer (some ⟨gq, 0, none⟩)) := X6.out.dcs.cell 3
      have QD : Hid (Rum.Que wc.drew gq 3 A d.L) := Hid.mk_ (X6.out.below (Below.refl _ _).drew).qu
      have NQ : Hid (¬ Rum.Its gq A z) := Hid.mk_ (fun e => by have := NZ.out z (X6.out.sq z e); omega)
      have L8 : Hid ((Rum.toldQ (dMany d) d.L).length ≤ 8) := Hid.mk_ (by have h1 := X6.out.qu.st.len; unfold Rum.toldQ; simp; omega)
      obtain ⟨cl1, hcl1⟩ : ∃ cl1, cl1 = (cOf d d.self :: if susp d t then [cOf d t] else []) := ⟨_, rfl⟩
      rw [← hcl1] at O6
      have HC1 := Hid.mk_ hcl1
      clear hcl1
      go_upto_region 6 with fail
      refine wp_region_last_drew (S := fun w' => w'.cell? ⟨z, 61, none⟩ = some (.slice P1 n1 k1) ∧ w'.cell? ⟨g, 3, none⟩ = some (.pointer (some ⟨gq, 0, none⟩))) (ds := [9]) (by kernel_rfl) (by exact ⟨m1, c3⟩) (fun hHeld => ?_)
      refine' wpAnyLast_take (i := 0) (oi := _) (v := _) ?hi0 (by kernel_rfl) (by kernel_rfl) (by kernel_rfl) (by kernel_rfl) (by kernel_rfl) ?hQ0 (Or.inl ⟨?hw0, ?hy0⟩) (by assumption) ?rest0
      case hi0 => exact (by simp only [List.getElem?_toArray, List.getElem?_cons_zero]; rfl)
      case hQ0 => exact fun _ _ _ h => h
      case hw0 => rfl
      case hy0 =>
        intro w hSw
        try dsimp only at hSw
        obtain ⟨hSw, hS0⟩ := hSw
        go_simp
        all_goals with_reducible rfl
      try simp only [Act.put, List.setIfInBounds_toArray, List.set_cons_zero, List.set_cons_succ]
      refine' wpAnyLast_take (i := 1) (oi := _) (v := _) ?hi1 (by kernel_rfl) (by kernel_rfl) (by kernel_rfl) (by kernel_rfl) (by kernel_rfl) ?hQ1 (Or.inl ⟨?hw1, ?hy1⟩) (by assumption) ?rest1
      case hi1 => exact (by simp only [List.getElem?_toArray, List.getElem?_cons_zero, List.getElem?_cons_succ]; rfl)
      case hQ1 => exact fun _ _ _ h => h
      case hw1 => rfl
      case hy1 =>
        intro w hSw
        try dsimp only at hSw
        obtain ⟨hSw, hS0⟩ := hSw
        go_simp
        all_goals with_reducible rfl
      try simp only [Act.put, List.setIfInBounds_toArray, List.set_cons_zero, List.set_cons_succ]
      refine' wpAnyLast_take (i := 2) (oi := _) (v := _) ?hi2 (by kernel_rfl) (by kernel_rfl) (by kernel_rfl) (by kernel_rfl) (by kernel_rfl) ?hQ2 (Or.inl ⟨?hw2, ?hy2⟩) (by assumption) ?rest2
      case hi2 => exact (by simp only [List.getElem?_toArray, List.getElem?_cons_zero, List.getElem?_cons_succ]; rfl)
      case hQ2 => exact fun _ _ _ h => h
      case hw2 => rfl
      case hy2 =>
        intro w hSw
        try dsimp only at hSw
        obtain ⟨hSw, hS0⟩ := hSw
        go_simp
        all_goals with_reducible rfl
      try simp only [Act.put, List.setIfInBounds_toArray, List.set_cons_zero, List.set_cons_succ]
      refine' wpAnyLast_take (i := 3) (oi := _) (v := _) ?hi3 (by kernel_rfl) (by kernel_rfl) (by kernel_rfl) (by kernel_rfl) (by kernel_rfl) ?hQ3 (Or.inl ⟨?hw3, ?hy3⟩) (by assumption) ?rest3
      case hi3 => exact (by simp only [List.getElem?_toArray, List.getElem?_cons_zero, List.getElem?_cons_succ]; rfl)
      case hQ3 => exact fun _ _ _ h => h
      case hw3 => rfl
      case hy3 =>
        intro w hSw
        try dsimp only at hSw
        obtain ⟨hSw, hS0⟩ := hSw
        go_simp
        all_goals with_reducible rfl
      try simp only [Act.put, List.setIfInBounds_toArray, List.set_cons_zero, List.set_cons_succ]
      refine' wpAnyLast_take (i := 4) (oi := _) (v := _) ?hi4 (by kernel_rfl) (by kernel_rfl) (by kernel_rfl) (by kernel_rfl) (by kernel_rfl) ?hQ4 (Or.inl ⟨?hw4, ?hy4⟩) (by assumption) ?rest4
      case hi4 => exact (by simp only [List.getElem?_toArray, List.getElem?_cons_zero, List.getElem?_cons_succ]; rfl)
      case hQ4 => exact fun _ _ _ h => h
      case hw4 => rfl
      case hy4 =>
        intro w hSw
        try dsimp only at hSw
        obtain ⟨hSw, hS0⟩ := hSw
        go_simp
        all_goals with_reducible rfl
      try simp only [Act.put, List.setIfInBounds_toArray, List.set_cons_zero, List.set_cons_succ]
      refine' wpAnyLast_take (i := 5) (oi := _) (v := _) ?hi5 (by kernel_rfl) (by kernel_rfl) (by kernel_rfl) (by kernel_rfl) (by kernel_rfl) ?hQ5 (Or.inl ⟨?hw5, ?hy5⟩) (by assumption) ?rest5
      case hi5 => exact (by simp only [List.getElem?_toArray, List.getElem?_cons_zero, List.getElem?_cons_succ]; rfl)
      case hQ5 => exact fun _ _ _ h => h
      case hw5 => rfl
      case hy5 =>
        intro w hSw
        try dsimp only at hSw
        obtain ⟨hSw, hS0⟩ := hSw
        go_simp
        all_goals with_reducible rfl
      try simp only [Act.put, List.setIfInBounds_toArray, List.set_cons_zero, List.set_cons_succ]
      refine wpAnyLast_ready (rs := [6]) (by kernel_rfl) (by simp) ?_
      refine AllReadyL.cons (by simp only [List.getElem?_toArray, List.getElem?_cons_zero, List.getElem?_cons_succ]; rfl) (by simp) (fun K hK => ?_) AllReadyL.nil
      refine goes_ (N := some 49) Tryz.func67 (by kernel_rfl) rfl #[.pointer (some ⟨gq, 0, none⟩), .int .i64 2] (by rfl) rfl rfl (by simp [Act.eval]) ?_
      refine (Rum.take0 wc.drew gq 3 A d.L 2 QD (dMany d) (Hid.mk_ rfl)).mono ?_
      rintro e w7 ⟨B7, nb, cb, rfl, o7, e7, t7⟩
      refine ⟨_, rfl, ?_⟩
      have r7 := turnWr t7.out
      have s7 := r7.cell (by exact m1) NQ.out
      have s8 := r7.cell (by exact c3) X6.out.ne.2.1
      have f7 : w7.frozen? ⟨z, 61, none⟩ = false := (r7.frozen (by exact M6.out.lt) NQ.out).trans mf
      refine hK.out _ _ ⟨s7, s8⟩ (fun hHeld => ?_)
      clear hK K
      try simp only [Act.put, List.setIfInBounds_toArray, List.set_cons_zero, List.set_cons_succ]
      have dr : Below wc.heap.size wc wc.drew := (Below.refl _ _).drew
      have O7 : Hid (Rum.OwnC w7 (z + 2) (.slice P1 n1 k1) n1 cl1) := Hid.mk_ ⟨O6.out.1, Rowz.keep (O6.out.below dr).2 fun j hj hlt => r7.block j hlt (fun e => by have := NZ.out j (X6.out.sq j e); have := (Rowz.blk O6.out.2 j hj).1; omega)⟩
      refine wpAnyLast_ready (rs := [7]) (by kernel_rfl) (by simp) ?_
      refine AllReadyL.cons (by simp only [List.getElem?_toArray, List.getElem?_cons_zero, List.getElem?_cons_succ]; rfl) (by simp) (fun K hK => ?_) AllReadyL.nil
      refine step_appC _ (by rfl) _ _ (by rfl) (z + 2) (.slice P1 n1 k1) n1 cl1 (by rfl) O7.out B7 (Rum.toldQ (dMany d) d.L) nb cb (by rfl) o7.out.1 o7.out.row (by have := L8.out; omega) (by have := Z6.out.lt; have := r7.size; have := dr.size; omega) ?_
      intro v8 w8 o8 g8 at8
      have r8 : Rum.Wr w7 w8 (fun j => (Value.slice P1 n1 k1).ownBlock = some j) := ⟨g8.os, g8.tape, g8.output, g8.size, fun j hj hn => g8.block j hj (fun e => hn e.symm)⟩
      have nz8 : ¬ (Value.slice P1 n1 k1).ownBlock = some z := fun e => by have := (Rowz.blk O7.out.2 z e).1; omega
      have ng8 : ¬ (Value.slice P1 n1 k1).ownBlock = some g := fun e => by have := (Rowz.blk O7.out.2 g e).1; have := NZ.out g X6.out.sg; omega
      have s9 := r8.cell s7 nz8
      have f9 : w8.frozen? ⟨z, 61, none⟩ = false := (r8.frozen (by have := M6.out.lt; have := r7.size; have := dr.size; omega) nz8).trans f7
      refine hK.out _ _ ⟨s9, r8.cell s8 ng8⟩ (fun hHeld => ?_)
      clear hK K
      try simp only [Act.put, List.setIfInBounds_toArray, List.set_cons_zero, List.set_cons_succ]
      obtain ⟨P8, k8, e8, _⟩ := Rowz.form o8.2
      subst e8
      have at8 := Hid.mk_ at8
      refine' wpAnyLast_take (i := 8) (oi := _) (v := _) ?hi8 (by kernel_rfl) (by kernel_rfl) (by kernel_rfl) (by kernel_rfl) (by kernel_rfl) ?hQ8 (Or.inl ⟨?hw8, ?hy8⟩) (by assumption) ?rest8
      case hi8 => exact (by simp only [List.getElem?_toArray, List.getElem?_cons_zero, List.getElem?_cons_succ]; rfl)
      case hQ8 => exact fun _ _ _ h => h
      case hw8 => rfl
      case hy8 =>
        intro w hSw
        try dsimp only at hSw
        obtain ⟨hSw, hS0⟩ := hSw
        go_simp
        all_goals with_reducible rfl
      try simp only [Act.put, List.setIfInBounds_toArray, List.set_cons_zero, List.set_cons_succ]
      refine wpAnyLast_ready (rs := [9]) (by kernel_rfl) (by simp) ?_
      refine AllReadyL.cons_last (by simp only [List.getElem?_toArray, List.getElem?_cons_zero, List.getElem?_cons_succ]; rfl) (by simp) (fun K hK => ?_) AllReadyL.nil
      go_simp
      refine hK.out _ _ ?_
      clear hK K
      try simp only [Act.put, List.setIfInBounds_toArray, List.set_cons_zero, List.set_cons_succ]
      refine wpAnyLast_done (by kernel_rfl) ?_ _
      obtain ⟨mm, hmm⟩ : ∃ mm, mm = msg k d.self t s fo ab (.slice P8 (n1 + nb) k8) := ⟨_, rfl⟩
      have HMM := Hid.mk_ hmm
      clear hmm
      have M8 := ((M6.out.below dr).wr r7 NQ.out).wr r8 nz8
      have Z8 := ((Z6.out.below dr).wr r7 (fun e => by have := NZ.out _ (X6.out.sq _ e); omega)).wr r8 (fun e => by have := (Rowz.blk O7.out.2 _ e).1; omega)
      have ws := Rum.Wr.set w8 z 61 (.slice P8 (n1 + nb) k8)
      have M9 : Hid ((w8.setCell ⟨z, 61, none⟩ (.slice P8 (n1 + nb) k8)).heap[z]? = some (.cells mm 46 (0, 0))) := Hid.mk_ (by rw [HMM.out]; exact M8.set61 _)
      have Z9 : Hid ((w8.setCell ⟨z, 61, none⟩ (.slice P8 (n1 + nb) k8)).heap[z + 1]? = some (.cells (msg 0 0 0 0 0 0 (.slice none 0 0)) 46 (0, 0))) := Hid.mk_ (Z8.wr ws (by omega))
      have size9 : Hid ((Tryz.prog.info? 46).map (·.size) = some mm.size) := Hid.mk_ (by rw [HMM.out]; exact size42)
      have size8 : Hid ((msg 0 0 0 0 0 0 (.slice none 0 0)).size = mm.size) := Hid.mk_ (by rw [HMM.out]; rfl)
      have one9 : Hid (mm.all (·.oneCell') = true) := Hid.mk_ (by rw [HMM.out]; exact msg_one rfl)
      obtain ⟨A7, S7, x7, hS7, rS7⟩ := (X6.out.below dr).turnQ t7.out
      have OB : ∀ j, (Value.slice P1 n1 k1).ownBlock = some j → z + 2 ≤ j ∧ j < wc.heap.size := fun j hj => Rowz.blk O6.out.2 j hj
      have N7 : ∀ j, S7 j → ¬ j = z ∧ ¬ j = z + 1 ∧ ¬ (Value.slice P1 n1 k1).ownBlock = some j := fun j hj => by
        rcases hS7 j hj with h1 | h1
        · have := NZ.out j h1
          exact ⟨by omega, by omega, fun e => by have := (OB j e).1; omega⟩
        · have := M6.out.lt; have := Z6.out.lt; have := dr.size
          exact ⟨by omega, by omega, fun e => by have := (OB j e).2; omega⟩
      have X9 := Hid.mk_ ((x7.wr r8 (fun j hj e => (N7 j hj).2.2 e)).wr ws (fun j hj e => (N7 j hj).1 e))
      have N8 : Hid (∀ j, S7 j → ¬ (Value.slice P8 (n1 + nb) k8).ownBlock = some j) := Hid.mk_ (fun j hj e => by
        rcases at8.out with h1 | h1
        · rw [h1] at e; exact (N7 j hj).2.2 e
        · rw [h1] at e
          injection e with e1
          have := x7.blk j hj
          omega)
      have N7' := Hid.mk_ (fun j (hj : S7 j) => (N7 j hj).2.1)
      have HS7 : Hid (∀ j, S7 j → S j ∨ w.heap.size ≤ j) := Hid.mk_ (fun j hj => (hS7 j hj).elim .inl (fun h => .inr (by have := B6.out.size; have := dr.size; omega)))
      have R9 : Hid (Rum.Wr w (w8.setCell ⟨z, 61, none⟩ (.slice P8 (n1 + nb) k8)) S) := Hid.mk_ (((((Rum.Wr.of_below B6.out S).then_ (Rum.Wr.of_below dr (fun _ => False)) (fun _ h => h.elim)).then_ rS7 (fun i hi => .inl hi)).then_ r8 (fun i hi => .inr (by have := (OB i hi).1; have := HZ.out; omega))).then_ ws (fun i hi => .inr (by have := HZ.out; omega)))
      have O9 : Hid (Rum.OwnC (w8.setCell ⟨z, 61, none⟩ (.slice P8 (n1 + nb) k8)) (z + 2) (.slice P8 (n1 + nb) k8) (n1 + nb) (cl1 ++ Rum.toldQ (dMany d) d.L)) := Hid.mk_ (o8.keepW ws (fun j hj => by omega))
      clear m1 mf c3 QD NQ L8 r7 s7 s8 f7 dr O7 r8 nz8 ng8 s9 f9 M8 Z8 ws x7 hS7 rS7 OB N7 t7 o7 o8 g8 M6 Z6 X6 O6 B6 e7
      generalize w8.setCell ⟨z, 61, none⟩ (.slice P8 (n1 + nb) k8) = w9 at *
      go_wp2_with (first
        | (refine wpList_load_row rfl 46 _ rfl z rfl 46 mm (0, 0) _ M9.out Tryz.underlying46 rfl size9.out ?_)
        | (refine wpList_store_row rfl 46 _ _ rfl (z + 1) mm rfl rfl 46 _ Z9.out size9.out size8.out one9.out ?_))
      have hg := setRow_heap w9 (z + 1) _ mm 46 (0, 0) Z9.out
      have wr : Rum.Wr w9 (w9.setRow (z + 1) mm) (fun j => j = z + 1) := ⟨rfl, rfl, rfl, by simp, fun j hj hn => setRow_other w9 (z + 1) j mm hn⟩
      have X10 := X9.out.wr wr (fun j hj e => N7'.out j hj e)
      have O10 := O9.out.keepW wr (fun j hj => by omega)
      (try simp only [Exit.inBlock, Exit.then])
      refine bodyPost_ret (v := .agg mm) (results_cell_row rfl _ _ (z + 1) 46 mm (0, 0) _ rfl hg Tryz.underlying46 rfl size9.out) rfl ⟨P8, n1 + nb, k8, by rw [HMM.out], Hid.mk_ ?_, Hid.mk_ ⟨S7, ⟨gv, gq, go, gc, A7, B, n, cc, C, X10⟩, HS7.out, R9.out.then_ wr (fun i hi => .inr (by have := HZ.out; omega)), N8.out⟩⟩
      have e : dClaims d t = cl1 ++ Rum.toldQ (dMany d) d.L := by rw [HC1.out]; rfl
      rw [e]
      exact ⟨O10.1, Prb_own_mono O10.2 (by have := HZ.out; omega)⟩
end Go.Proofs.YthndjhocmpelcaaGreat.Swi
