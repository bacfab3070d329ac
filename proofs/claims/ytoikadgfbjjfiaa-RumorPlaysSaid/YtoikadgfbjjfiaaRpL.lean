/- Chapter 3: a queue's functions: Take. Conditions: the row lies in a block of its own. -/
import Derived.Test.YtoikadgfbjjfiaaRpK
import Derived.Test.YtoikadgfbjjfiaaRowz
import Derived.Deep.CutRange
import Derived.Deep.CutBlock
namespace Go.Proofs.Ytoikadgfbjjfiaa.Rum
open Go.RowKit Kit Go.Shelf Hth Tri3
set_option linter.unusedVariables false
def cellsC (cs : List Cl) : List Value := cs.flatMap fun c => [.int .i64 c.n, .int .i64 c.i, .int .i64 c.h]
theorem cellsC_len : ∀ cs : List Cl, (cellsC cs).length = cs.length * 3
  | [] => rfl
  | m :: l => by rw [cellsC, List.flatMap_cons, List.length_append, ← cellsC, cellsC_len l]; simp; omega
theorem cellsC_get : ∀ (cs : List Cl) (j : Nat) (c : Cl), cs[j]? = some c → (cellsC cs)[j * 3]? = some (.int .i64 c.n) ∧ (cellsC cs)[j * 3 + 1]? = some (.int .i64 c.i) ∧ (cellsC cs)[j * 3 + 2]? = some (.int .i64 c.h)
  | a :: l, 0, m, h => by
    obtain rfl : a = m := by simpa using h
    exact ⟨rfl, rfl, rfl⟩
  | a :: l, j + 1, m, h => by
    have := cellsC_get l j m (by simpa using h)
    rw [show (j + 1) * 3 = j * 3 + 3 by omega]
    exact this
theorem cellsC_append (xs ys : List Cl) : cellsC (xs ++ ys) = cellsC xs ++ cellsC ys := by simp [cellsC]
theorem cellsC_one (cs : List Cl) : ∀ u ∈ cellsC cs, u.oneCell' = true := by
  intro u hu
  obtain ⟨m, _, h⟩ := List.mem_flatMap.1 hu
  simp only [List.mem_cons, List.not_mem_nil, or_false] at h
  rcases h with rfl | rfl | rfl <;> rfl
/-- v is a row of one's own of the claims cs. -/
def OwnC (w : World) (base : Nat) (v : Value) (n : Nat) (cs : List Cl) : Prop := n = cs.length ∧ w.ownsRow base 53 3 v n (cellsC cs)
def OwnD (w : World) (base : Nat) (v : Value) (n : Nat) (ts : List Tld) : Prop := n = ts.length ∧ w.ownsRow base 93 4 v n (cellsT ts)
theorem OwnC.row {w : World} {base : Nat} {A : Option Addr} {n c : Nat} {cs : List Cl} (h : OwnC w base (.slice A n c) n cs) : ClAt w A cs := by
  obtain ⟨hn, h⟩ := h
  subst hn
  have h0 := h
  intro j m hj
  have hlt := (List.getElem?_eq_some_iff.1 hj).1
  obtain ⟨c0, c1, c2⟩ := cellsC_get cs j m hj
  obtain ⟨A', c', e, h1, h2, h3 | ⟨b, h3, h4, h5⟩⟩ := Rowz.form h
  · omega
  · injection e with e1 e2 e3
    subst e1
    subst h3
    refine ⟨b, 0, rfl, h5, ?_, ?_, ?_⟩
    · rw [Nat.zero_add, World.ownsRow.cellAt h0 (j * 3) (by omega), c0]
    · rw [Nat.zero_add, World.ownsRow.cellAt h0 (j * 3 + 1) (by omega), c1]
    · rw [Nat.zero_add, World.ownsRow.cellAt h0 (j * 3 + 2) (by omega), c2]
theorem OwnD.row {w : World} {base : Nat} {A : Option Addr} {n c : Nat} {ts : List Tld} (h : OwnD w base (.slice A n c) n ts) (j : Nat) (t : Tld) (hj : ts[j]? = some t) : ∃ b, A = some ⟨b, 0, none⟩ ∧ base ≤ b ∧ b < w.heap.size ∧
    w.cell? ⟨b, j * 4, none⟩ = some (.int .i64 t.node) ∧ w.cell? ⟨b, j * 4 + 1, none⟩ = some (.int .i64 t.inc) ∧ w.cell? ⟨b, j * 4 + 2, none⟩ = some (.int .i64 t.hl) ∧ w.cell? ⟨b, j * 4 + 3, none⟩ = some (.int .i64 t.n) := by
  obtain ⟨hn, h⟩ := h
  subst hn
  have h0 := h
  have hlt := (List.getElem?_eq_some_iff.1 hj).1
  obtain ⟨c0, c1, c2, c3⟩ := cells_get ts j t hj
  obtain ⟨A', c', e, h1, h2, h3 | ⟨b, h3, h4, h5⟩⟩ := Rowz.form h
  · omega
  · injection e with e1 e2 e3
    subst e1
    subst h3
    refine ⟨b, rfl, h4, h5, ?_, ?_, ?_, ?_⟩
    · rw [World.ownsRow.cellAt h0 (j * 4) (by omega), c0]
    · rw [World.ownsRow.cellAt h0 (j * 4 + 1) (by omega), c1]
    · rw [World.ownsRow.cellAt h0 (j * 4 + 2) (by omega), c2]
    · rw [World.ownsRow.cellAt h0 (j * 4 + 3) (by omega), c3]
theorem info53 : (Try.prog.info? 53).map (fun i => (i.zero, i.size, i.bytes)) = some (some (.agg #[.int .i64 0, .int .i64 0, .int .i64 0]), 3, 24) := by kernel_rfl
theorem OwnC.keepW {w w' : World} {base : Nat} {v : Value} {n : Nat} {cs : List Cl} {S : Nat → Prop} (h : OwnC w base v n cs) (hw : Wr w w' S) (hS : ∀ k, S k → k < base) : OwnC w' base v n cs :=
  ⟨h.1, Rowz.keep h.2 fun k hk hlt => hw.block k hlt (fun hs => by have := hS k hs; have := (Rowz.blk h.2 k hk).1; omega)⟩
theorem OwnD.keepW {w w' : World} {base : Nat} {v : Value} {n : Nat} {cs : List Tld} {S : Nat → Prop} (h : OwnD w base v n cs) (hw : Wr w w' S) (hS : ∀ k, S k → k < base) : OwnD w' base v n cs :=
  ⟨h.1, Rowz.keep h.2 fun k hk hlt => hw.block k hlt (fun hs => by have := hS k hs; have := (Rowz.blk h.2 k hk).1; omega)⟩
theorem OwnC.below {w w' : World} {base : Nat} {v : Value} {n : Nat} {cs : List Cl} (h : OwnC w base v n cs) (hb : Below w.heap.size w w') : OwnC w' base v n cs := ⟨h.1, Rowz.below h.2 hb⟩
theorem OwnD.below {w w' : World} {base : Nat} {v : Value} {n : Nat} {cs : List Tld} (h : OwnD w base v n cs) (hb : Below w.heap.size w w') : OwnD w' base v n cs := ⟨h.1, Rowz.below h.2 hb⟩
theorem take_nil (n : Int) (w : World) : Calls Try.prog 30 #[.pointer none, .int .i64 n] w fun e w' => e = .returned (.slice none 0 0) ∧ w' = w := by
  go_enter Try.func30, Try.ntmps30
  go_wp2
  go_loopg [5, 6] 0 (fun gg s5 s6 wr => s5 = .slice none 0 0 ∧ s6 = .slice none 0 0 ∧ wr = w)
  case atStart => exact ⟨rfl, rfl, rfl⟩
  case round =>
    obtain ⟨rfl, rfl, rfl⟩ := hrel
    go_wp2_with (go_at_call 34; refine (len_nil _).mono ?_; rintro e w2 ⟨rfl, rfl⟩)
    go_loopg [51] 0 (fun gg s51 wr => s51 = .int .i64 0 ∧ wr = w2)
    case atStart => exact ⟨rfl, rfl⟩
    case round =>
      obtain ⟨rfl, rfl⟩ := hrel
      go_wp2_with fail
      go_ret
      exact ⟨rfl, rfl⟩
theorem take_snoc' {l : List Tld} {k : Nat} {c : Tld} (h : l[k]? = some c) : l.take (k + 1) = l.take k ++ [c] := by
  rw [List.take_add_one, h]; rfl
theorem told_snoc {L : List Tld} {j : Nat} {t : Tld} (h : L[j]? = some t) : toldQ (j + 1) L = toldQ j L ++ [clm t] := by
  unfold toldQ
  rw [take_snoc' h, List.map_append]
  rfl
theorem again_snoc {L : List Tld} {j : Nat} {t : Tld} (o : Int) (h : L[j]? = some t) : again o (L.take (j + 1)) = again o (L.take j) ++ if t.n + 1 < o then [inc1 t] else [] := by
  unfold again
  rw [take_snoc' h, List.filter_append, List.map_append]
  by_cases e : t.n + 1 < o
  · rw [if_pos e, List.filter_cons_of_pos (by simpa using e)]; rfl
  · rw [if_neg e, List.filter_cons_of_neg (by simpa using e)]; rfl
theorem told_len (j : Nat) (L : List Tld) (h : j ≤ L.length) : (toldQ j L).length = j := by unfold toldQ; simp; omega
theorem again_len (o : Int) (l : List Tld) : (again o l).length ≤ l.length := by unfold again; rw [List.length_map]; exact List.length_filter_le _ _
theorem took_part {L : List Tld} (h : St L) {o : Int} (hl : Lt o L) (k i : Nat) : St (putAll ((again o (L.take k)).take i) (L.drop k)) ∧ Lt o (putAll ((again o (L.take k)).take i) (L.drop k)) := by
  refine ⟨St.putAll _ (h.drop k) ?_ (fun t ht => ?_), fun t ht => ?_⟩
  · have h1 := h.nodup
    rw [← List.take_append_drop k L, List.map_append] at h1
    rw [List.map_append]
    exact h1.sublist (List.Sublist.append ((List.Sublist.map _ (List.take_sublist _ _)).trans (again_node o _)) (List.Sublist.refl _))
  · obtain ⟨s, hs, _, rfl⟩ := again_mem.1 (List.mem_of_mem_take ht)
    exact h.ok s (List.mem_of_mem_take hs)
  · rcases putAll_mem.1 ht with h1 | h1
    · obtain ⟨s, hs, h2, rfl⟩ := again_mem.1 (List.mem_of_mem_take h1)
      have := hl s (List.mem_of_mem_take hs)
      exact ⟨by show 0 ≤ s.n + 1; omega, h2⟩
    · exact hl t (List.mem_of_mem_drop h1)
theorem putAll_snoc {G : List Tld} {i : Nat} {t : Tld} (M : List Tld) (h : G[i]? = some t) : putAll (G.take (i + 1)) M = ins t (putAll (G.take i) M) := by
  rw [take_snoc' h]
  unfold putAll
  rw [List.foldl_append]
  rfl
/-- One told, lying by itself. -/
structure Box4 (w : World) (q : Nat) (t : Tld) : Prop where
  c0 : w.cell? ⟨q, 0, none⟩ = some (.int .i64 t.node)
  c1 : w.cell? ⟨q, 1, none⟩ = some (.int .i64 t.inc)
  c2 : w.cell? ⟨q, 2, none⟩ = some (.int .i64 t.hl)
  c3 : w.cell? ⟨q, 3, none⟩ = some (.int .i64 t.n)
  f3 : w.frozen? ⟨q, 3, none⟩ = false
theorem Box4.made (w : World) (t : Tld) : Box4 (w.alloc (.cells #[.int .i64 t.node, .int .i64 t.inc, .int .i64 t.hl, .int .i64 t.n] 93)) w.heap.size t := by
  refine ⟨?_, ?_, ?_, ?_, World.frozen?_alloc_new _ _ _ _⟩ <;> (rw [World.cell?_alloc_new]; rfl)
theorem Box4.lt {w : World} {q : Nat} {t : Tld} (h : Box4 w q t) : q < w.heap.size := World.block_lt_of_cell? w _ h.c0
theorem Box4.keep {w w' : World} {q : Nat} {t : Tld} (h : Box4 w q t) (hb : w'.heap[q]? = w.heap[q]?) : Box4 w' q t := by
  have hc : ∀ o, w'.cell? ⟨q, o, none⟩ = w.cell? ⟨q, o, none⟩ := fun o => by simp [World.cell?, hb]
  exact ⟨(hc 0).trans h.c0, (hc 1).trans h.c1, (hc 2).trans h.c2, (hc 3).trans h.c3, by rw [← h.f3]; simp [World.frozen?, hb]⟩
theorem Box4.inc {w : World} {q : Nat} {t : Tld} (h : Box4 w q t) : Box4 (w.setCell ⟨q, 3, none⟩ (.int .i64 (t.n + 1))) q (inc1 t) := by
  refine ⟨?_, ?_, ?_, ?_, ?_⟩
  · exact (World.cell?_setCell_other _ _ _ _ (by simp)).trans h.c0
  · exact (World.cell?_setCell_other _ _ _ _ (by simp)).trans h.c1
  · exact (World.cell?_setCell_other _ _ _ _ (by simp)).trans h.c2
  · exact World.cell?_setCell_same _ ⟨q, 3, none⟩ _ h.c3
  · rw [World.frozen?_setCell]; exact h.f3
theorem Wr.ofB {w w' : World} {B : Nat} (h : Below B w w') : Wr w w' (fun k => B ≤ k) := ⟨h.os, h.tape, h.output, h.size, fun k hk hn => h.block k (by omega)⟩
theorem Wr.of_base {w w' : World} {B : Nat} (h : Below B w w') (S : Nat → Prop) {w0 : World} (k : Wr w0 w S) (hB : w0.heap.size ≤ B) : Wr w0 w' S :=
  ⟨h.os.trans k.os, h.tape.trans k.tape, h.output.trans k.output, Nat.le_trans k.size h.size, fun i hi hn => (h.block i (by omega)).trans (k.block i hi hn)⟩
theorem claimAt (w : World) (t : Tld) : ∀ j u, (cellsC [clm t])[j]? = some u → (w.alloc (.cells #[.int .i64 t.node, .int .i64 t.inc, .int .i64 t.hl] 53)).cell? ((⟨w.heap.size, 0, none⟩ : Addr).add j) = some u := by
  intro j u hu
  rw [Addr.add_lit, Nat.zero_add, World.cell?_alloc_new]
  have : j = 0 ∨ j = 1 ∨ j = 2 ∨ 3 ≤ j := by omega
  rcases this with rfl | rfl | rfl | h
  · exact hu
  · exact hu
  · exact hu
  · rw [List.getElem?_eq_none (by rw [cellsC_len]; simp; omega)] at hu; cases hu
theorem toldAt (w : World) (t : Tld) : ∀ j u, (cellsT [t])[j]? = some u → (w.alloc (.cells #[.int .i64 t.node, .int .i64 t.inc, .int .i64 t.hl, .int .i64 t.n] 93)).cell? ((⟨w.heap.size, 0, none⟩ : Addr).add j) = some u := by
  intro j u hu
  rw [Addr.add_lit, Nat.zero_add, World.cell?_alloc_new]
  have : j = 0 ∨ j = 1 ∨ j = 2 ∨ j = 3 ∨ 4 ≤ j := by omega
  rcases this with rfl | rfl | rfl | rfl | h
  · exact hu
  · exact hu
  · exact hu
  · exact hu
  · rw [List.getElem?_eq_none (by rw [cells_len]; simp; omega)] at hu; cases hu
/-- What the first loop holds. -/
structure Mid (w wr : World) (g : Nat) (o : Int) (A : Option Addr) (L : List Tld) (j : Nat) (vo : Value) (no : Nat) (va : Value) (na : Nat) : Prop where
  out : OwnC wr w.heap.size vo no (toldQ j L)
  ag : OwnD wr w.heap.size va na (again o (L.take j))
  sep : ∀ k, vo.ownBlock = some k → va.ownBlock ≠ some k
  q : Que wr g o A (L.drop j)
  w_ : Wr w wr (Its g A)
theorem Mid.keep {w wr wr' : World} {g : Nat} {o : Int} {A : Option Addr} {L : List Tld} {j no na : Nat} {vo va : Value} (h : Mid w wr g o A L j vo no va na) (hb : Below wr.heap.size wr wr') : Mid w wr' g o A L j vo no va na :=
  ⟨h.out.below hb, h.ag.below hb, h.sep, h.q.below hb, h.w_.then_ (Wr.of_below hb (fun _ => False)) (fun _ h => h.elim)⟩
set_option maxRecDepth 100000 in
set_option maxHeartbeats 8000000 in
theorem take0 (w : World) (g : Nat) (o : Int) (A : Option Addr) (L : List Tld) (n : Int) (h : Hid (Que w g o A L)) (m : Nat) (hm : Hid (m = many n L.length)) :
    Calls Try.prog 30 #[.pointer (some ⟨g, 0, none⟩), .int .i64 n] w fun e w' => ∃ B nb cb, e = .returned (.slice B nb cb) ∧ Hid (OwnC w' w.heap.size (.slice B nb cb) nb (toldQ m L)) ∧ Hid (nb = m) ∧ Hid (Turn w w' g o A (tookQ o m L)) := by
  have hits := Hid.mk_ h.out.its
  have hta := ta
  go_enter Try.func30, Try.ntmps30
  go_upto_block 0 with fail
  go_cut [5, 6, 7, 8] from 11 to 48 (fun s5 s6 s7 s8 wx => ∃ (B : Option Addr) (nb cb : Nat) (D : Option Addr) (nd cd : Nat), s5 = .slice B nb cb ∧ s6 = .slice D nd cd ∧ Hid (Mid w wx g o A L m (.slice B nb cb) nb (.slice D nd cd) nd))
  case first =>
    go_wp2_with fail
    go_loopg [5, 6] L.length (fun gg s5 s6 wr => ∃ (j : Nat) (B : Option Addr) (nb cb : Nat) (D : Option Addr) (nd cd : Nat), s5 = .slice B nb cb ∧ s6 = .slice D nd cd ∧ L.length - j ≤ gg ∧ Hid (j ≤ m) ∧ Hid (Mid w wr g o A L j (.slice B nb cb) nb (.slice D nd cd) nd))
    case atStart => exact ⟨0, none, 0, 0, none, 0, 0, rfl, rfl, by omega, Hid.mk_ (Nat.zero_le _), Hid.mk_ ⟨⟨rfl, Rowz.nil _ _ _ _⟩, ⟨rfl, Rowz.nil _ _ _ _⟩, (fun k hk => by cases hk), h.out, Wr.of_below (Below.refl _ _) _⟩⟩
    case round =>
      obtain ⟨j, B, nb, cb, D, nd, cd, rfl, rfl, hg, hjm, MI⟩ := hrel
      have hml : Hid (m ≤ L.length) := Hid.mk_ (by rw [hm.out]; unfold many; omega)
      have hnb : Hid (nb = j) := Hid.mk_ (by rw [MI.out.out.1, told_len]; have := hjm.out; have := hml.out; omega)
      by_cases hjl : j < L.length
      · obtain ⟨t, ht⟩ : ∃ t, L[j]? = some t := ⟨_, List.getElem?_eq_getElem hjl⟩
        have hdr : L.drop j = t :: L.drop (j + 1) := by
          rw [List.getElem?_eq_getElem hjl] at ht
          injection ht with ht
          rw [← ht, List.drop_eq_getElem_cons hjl]
        obtain ⟨r, hr⟩ : ∃ r : Int, r = ((L.drop j).length : Int) := ⟨_, rfl⟩
        have r0 : (0 : Int) < r := by rw [hr, List.length_drop]; omega
        have HR := Hid.mk_ hr
        clear hr
        by_cases hnn : (nb : Int) < n
        · obtain ⟨n1, c1, hs, p1, p2, p3⟩ := MI.out.q.ex
          have hst := MI.out.q.st
          have hlt := MI.out.q.lt
          have hob := Hid.mk_ MI.out.q.ob
          have hdl : (L.drop j).length ≤ 8 := hst.len
          rw [hdr] at p3 hst hlt
          obtain ⟨k, hk⟩ : ∃ k, n1 = k + 1 := ⟨n1 - 1, by have := p1.len; have := p3.length_eq; simp at this; omega⟩
          obtain ⟨s1, s2, s3⟩ := pop_state p2 p3 hst.ord (k := k) (p1.len.symm.trans hk)
          have hkn : k < 1000000 := by have h1 := p1.len; have h2 := p3.length_eq; rw [← hdr] at h2; omega
          have hcon := pop (Hid.mk_ p1) k (Hid.mk_ hk) hkn
          rw [s1] at hcon
          unfold boxT at hcon
          have PS := Hid.mk_ (And.intro s2 s3)
          have ST := Hid.mk_ hst
          have LT := Hid.mk_ hlt
          have HDR := Hid.mk_ hdr
          have HTJ := Hid.mk_ ht
          have HL8 : Hid (L.length ≤ 8) := Hid.mk_ h.out.st.len
          have hJ : j < L.length := hjl
          clear s1 s2 s3 p1 p2 p3 hst hlt hk hdr ht hdl hjl
          go_upto_region 5 with (first | (go_at_call 34; refine (len _ g o A _ (Hid.mk_ MI.out.q) r HR).mono ?_; rintro e w2 ⟨rfl, rfl⟩) | (go_at_call 42; refine hcon.mono ?_; rintro e w3 ⟨rfl, h3, r3⟩))
          have o3 := MI.out.out.keepW r3.out hits.out
          have a3 := MI.out.ag.keepW r3.out hits.out
          have k3 := MI.out.w_.then_ r3.out (fun i hi => .inl hi)
          have Q3 : Que w3 g o A (L.drop (j + 1)) := ⟨ST.out.tail, fun x hx => LT.out x (List.mem_cons_of_mem _ hx), hob.out, k, c1, _, h3.out, PS.out.1, PS.out.2⟩
          have NO : Hid (∀ k, (Value.slice B nb cb).ownBlock = some k → k < w3.heap.size) := Hid.mk_ (fun k hk => (Rowz.blk o3.2 k hk).2)
          have NA : Hid (∀ k, (Value.slice D nd cd).ownBlock = some k → k < w3.heap.size) := Hid.mk_ (fun k hk => (Rowz.blk a3.2 k hk).2)
          have al := (Below.refl w3.heap.size w3).alloc (Nat.le_refl _) (.cells #[.int .i64 t.node, .int .i64 t.inc, .int .i64 t.hl, .int .i64 t.n] 93)
          have BX := Hid.mk_ (Box4.made w3 t)
          have O4 := Hid.mk_ (o3.below al)
          have A4 := Hid.mk_ (a3.below al)
          have Q4 := Hid.mk_ (Q3.below al)
          have K4 := Hid.mk_ (k3.then_ (Wr.of_below al (fun _ => False)) (fun _ h => h.elim))
          have SEP := Hid.mk_ MI.out.sep
          have ZB : Hid (w.heap.size ≤ w3.heap.size) := Hid.mk_ k3.size
          clear o3 a3 k3 Q3 al h3 r3 hcon MI
          obtain ⟨q, hq⟩ : ∃ q, q = w3.heap.size := ⟨_, rfl⟩
          rw [← hq] at NO NA BX ZB ⊢
          clear hq
          generalize w3.alloc (.cells #[.int .i64 t.node, .int .i64 t.inc, .int .i64 t.hl, .int .i64 t.n] 93) = wq at *
          clear w3
          obtain ⟨x0, x1, x2, x3, f3⟩ := BX.out
          obtain ⟨i0, hi0, hz0, hz1, hz2⟩ := Rowz.info_parts info53
          obtain ⟨i1, hi1, gz0, gz1, gz2⟩ := Rowz.info_parts info93
          go_upto_region 6 with (at_builtin; refine Rowz.wpList_app1 _ rfl _ _ 57 53 rfl i0 (.agg #[.int .i64 0, .int .i64 0, .int .i64 0]) 3 24 Try.underlying57 hi0 hz0 hz1 hz2 rfl (by decide) w.heap.size (.slice B nb cb) nb (cellsC (toldQ j L)) rfl (Rowz.below O4.out.2 ((Below.refl _ _).alloc (Nat.le_refl _) _)) _ _ (cellsC [clm t]) rfl rfl (claimAt _ t) (cellsC_one _) (by have := hnb.out; have := HL8.out; omega) (by decide) (by have := ZB.out; have := BX.out.lt; simp; omega) ?_; intro v5 w5 g5)
          have alq := (Below.refl wq.heap.size wq).alloc (Nat.le_refl _) (.cells #[.int .i64 t.node, .int .i64 t.inc, .int .i64 t.hl] 53)
          have ZQ : Hid (w.heap.size ≤ (wq.alloc (.cells #[.int .i64 t.node, .int .i64 t.inc, .int .i64 t.hl] 53)).heap.size ∧ q < (wq.alloc (.cells #[.int .i64 t.node, .int .i64 t.inc, .int .i64 t.hl] 53)).heap.size) := Hid.mk_ (by have := ZB.out; have := BX.out.lt; simp; omega)
          have OA := O4.out.below alq
          have AA := A4.out.below alq
          have d5 := g5.out.below OA.2 ZQ.out.1
          have A5 : Hid (OwnD w5 w.heap.size (.slice D nd cd) nd (again o (L.take j))) := Hid.mk_ ⟨AA.1, g5.out.other AA.2 SEP.out⟩
          have S5 := Hid.mk_ (g5.out.apart AA.2 SEP.out)
          have O5 : Hid (OwnC w5 w.heap.size v5 (nb + 1) (toldQ (j + 1) L)) := Hid.mk_ ⟨by rw [told_len _ _ hJ, hnb.out], by rw [told_snoc HTJ.out, cellsC_append]; exact g5.out.own⟩
          have Q5 := Hid.mk_ ((Q4.out.below alq).wr (Wr.ofB d5) (fun k hk hn => by have := hits.out k hk; omega))
          have K5 := Hid.mk_ (Wr.of_base d5 _ (K4.out.then_ (Wr.of_below alq (fun _ => False)) (fun _ h => h.elim)) (Nat.le_refl _))
          have B5 : Hid (Box4 w5 q t) := Hid.mk_ ((BX.out.keep (alq.block q BX.out.lt)).keep (g5.out.gb.block q ZQ.out.2 (fun e => Nat.lt_irrefl _ (NO.out q e.symm))))
          have NV : Hid (∀ k, v5.ownBlock = some k → k ≠ q) := Hid.mk_ (fun k hk e => by
            subst e
            rcases g5.out.at_ with h1 | h1
            · rw [h1] at hk; exact Nat.lt_irrefl _ (NO.out k hk)
            · have := h1 k hk; have := ZQ.out.2; omega)
          obtain ⟨P5, c5, rfl, _, _, _⟩ := Rowz.form g5.out.own
          clear OA AA d5 alq ZQ O4 A4 Q4 K4 BX SEP NO g5 x0 x1 x2 x3 f3
          obtain ⟨x0, x1, x2, x3, f3⟩ := B5.out
          have tb := LT.out t (by simp)
          have ob := hob.out
          go_upto_region 7 with fail
          have ws := Wr.set w5 q 3 (.int .i64 (t.n + 1))
          have B6 := Hid.mk_ B5.out.inc
          have O6 : Hid (OwnC (w5.setCell ⟨q, 3, none⟩ (.int .i64 (t.n + 1))) w.heap.size (.slice P5 (nb + 1) c5) (nb + 1) (toldQ (j + 1) L)) := Hid.mk_ ⟨O5.out.1, Rowz.keep O5.out.2 fun k hk hlt => ws.block k hlt (NV.out k hk)⟩
          have A6 : Hid (OwnD (w5.setCell ⟨q, 3, none⟩ (.int .i64 (t.n + 1))) w.heap.size (.slice D nd cd) nd (again o (L.take j))) := Hid.mk_ ⟨A5.out.1, Rowz.keep A5.out.2 fun k hk hlt => ws.block k hlt (fun e => by have := NA.out k hk; omega)⟩
          have Q6 := Hid.mk_ (Q5.out.wr ws (fun k hk e => by have := hits.out k hk; have := ZB.out; omega))
          have K6 := Hid.mk_ (K5.out.then_ ws (fun i hi => .inr (by rw [hi]; exact ZB.out)))
          clear ws O5 A5 Q5 K5 B5 x0 x1 x2 x3 f3
          generalize w5.setCell ⟨q, 3, none⟩ (.int .i64 (t.n + 1)) = w6 at *
          obtain ⟨x0, x1, x2, x3, f3⟩ := B6.out
          simp only [inc1] at x0 x1 x2 x3
          obtain ⟨n6, c6, hs6, p6, _, _⟩ := Q6.out.ex
          have xo := p6.oft
          clear p6
          have hjm1 : Hid (j + 1 ≤ m) := Hid.mk_ (by have h1 := hm.out; have := hnb.out; unfold many at h1; omega)
          by_cases hlo : t.n + 1 < o
          · have hag : again o (L.take (j + 1)) = again o (L.take j) ++ [inc1 t] := by rw [again_snoc o HTJ.out, if_pos hlo]
            have HAG := Hid.mk_ hag
            clear hag
            go_region
            have B7 : Box4 w6.drew q (inc1 t) := ⟨B6.out.c0, B6.out.c1, B6.out.c2, B6.out.c3, B6.out.f3⟩
            have dr : Below w6.heap.size w6 w6.drew := (Below.refl _ _).drew
            have O7 := Hid.mk_ (O6.out.below dr)
            have A7 := Hid.mk_ (A6.out.below dr)
            have Q7 := Hid.mk_ (Q6.out.below dr)
            have K7 := Hid.mk_ (K6.out.then_ (Wr.of_below dr (fun _ => False)) (fun _ h => h.elim))
            clear O6 A6 Q6 K6 dr x0 x1 x2 x3 f3 B6 xo
            generalize w6.drew = w7 at *
            have BX7 := Hid.mk_ B7
            clear B7
            obtain ⟨x0, x1, x2, x3, f3⟩ := BX7.out
            simp only [inc1] at x0 x1 x2 x3
            have nda : nd ≤ 100 := by have h1 := A7.out.1; have h2 := again_len o (L.take j); have h3 := HL8.out; simp at h2; omega
            go_wp2_with (at_builtin; refine Rowz.wpList_app1 _ rfl _ _ 88 93 rfl i1 (.agg #[.int .i64 0, .int .i64 0, .int .i64 0, .int .i64 0]) 4 32 Try.underlying88 hi1 gz0 gz1 gz2 rfl (by decide) w.heap.size (.slice D nd cd) nd (cellsT (again o (L.take j))) rfl (Rowz.below A7.out.2 ((Below.refl _ _).alloc (Nat.le_refl _) _)) _ _ (cellsT [inc1 t]) rfl rfl (toldAt _ (inc1 t)) (cells_one _) (by omega) (by decide) (by have := ZB.out; have := BX7.out.lt; simp; omega) ?_; intro v8 w8 g8)
            have alq := (Below.refl w7.heap.size w7).alloc (Nat.le_refl _) (.cells #[.int .i64 (inc1 t).node, .int .i64 (inc1 t).inc, .int .i64 (inc1 t).hl, .int .i64 (inc1 t).n] 93)
            have OA := O7.out.below alq
            have AA := A7.out.below alq
            have hb8 : w.heap.size ≤ (w7.alloc (.cells #[.int .i64 (inc1 t).node, .int .i64 (inc1 t).inc, .int .i64 (inc1 t).hl, .int .i64 (inc1 t).n] 93)).heap.size := by have := ZB.out; have := BX7.out.lt; simp; omega
            have d8 := g8.out.below AA.2 hb8
            have sep2 : ∀ k, (Value.slice D nd cd).ownBlock = some k → (Value.slice P5 (nb + 1) c5).ownBlock ≠ some k := fun k hk hu => S5.out k hu hk
            have O8 : OwnC w8 w.heap.size (.slice P5 (nb + 1) c5) (nb + 1) (toldQ (j + 1) L) := ⟨OA.1, g8.out.other OA.2 sep2⟩
            have sep8 := g8.out.apart OA.2 sep2
            have A8 : OwnD w8 w.heap.size v8 (nd + 1) (again o (L.take (j + 1))) := ⟨by rw [HAG.out, List.length_append, ← A7.out.1]; rfl, by rw [HAG.out, cells_append]; exact g8.out.own⟩
            have Q8 := (Q7.out.below alq).wr (Wr.ofB d8) (fun k hk hn => by have := hits.out k hk; omega)
            have K8 := Wr.of_base d8 _ (K7.out.then_ (Wr.of_below alq (fun _ => False)) (fun _ h => h.elim)) (Nat.le_refl _)
            obtain ⟨P8, c8, rfl, _, _, _⟩ := Rowz.form g8.out.own
            go_roundg (L.length - (j + 1))
            case measure => omega
            case rel => exact ⟨j + 1, P5, nb + 1, c5, P8, nd + 1, c8, rfl, rfl, Nat.le_refl _, hjm1, Hid.mk_ ⟨O8, A8, fun k hk hu => sep8 k hu hk, Q8, K8⟩⟩
          · have hag : again o (L.take (j + 1)) = again o (L.take j) := by rw [again_snoc o HTJ.out, if_neg hlo, List.append_nil]
            have HAG := Hid.mk_ hag
            clear hag
            go_region
            have dr : Below w6.heap.size w6 w6.drew := (Below.refl _ _).drew
            go_wp2_with fail
            go_roundg (L.length - (j + 1))
            case measure => omega
            case rel => exact ⟨j + 1, P5, nb + 1, c5, D, nd, cd, rfl, rfl, Nat.le_refl _, hjm1, Hid.mk_ ⟨O6.out.below dr, by rw [HAG.out]; exact A6.out.below dr, S5.out, Q6.out.below dr, K6.out.then_ (Wr.of_below dr (fun _ => False)) (fun _ h => h.elim)⟩⟩
        · have e0 : j = m := by have h1 := hm.out; have := hjm.out; have := hnb.out; unfold many at h1; omega
          subst e0
          go_wp2_with (go_at_call 34; refine (len _ g o A _ (Hid.mk_ MI.out.q) r HR).mono ?_; rintro e w2 ⟨rfl, rfl⟩)
          go_meet
          exact ⟨B, nb, cb, D, nd, cd, rfl, rfl, MI⟩
      · have e0 : j = m := by have := hjm.out; have := hml.out; omega
        subst e0
        have HR : Hid ((0 : Int) = ((L.drop j).length : Int)) := Hid.mk_ (by rw [List.length_drop]; omega)
        go_wp2_with (go_at_call 34; refine (len _ g o A _ (Hid.mk_ MI.out.q) 0 HR).mono ?_; rintro e w2 ⟨rfl, rfl⟩)
        go_meet
        exact ⟨B, nb, cb, D, nd, cd, rfl, rfl, MI⟩
  case rest =>
    obtain ⟨B, nb, cb, D, nd, cd, rfl, rfl, MI⟩ := hcut
    have hml : m ≤ L.length := by rw [hm.out]; unfold many; omega
    have hnb : Hid (nb = m) := Hid.mk_ (by rw [MI.out.out.1, told_len _ _ hml])
    obtain ⟨G, hG⟩ : ∃ G, again o (L.take m) = G := ⟨_, rfl⟩
    obtain ⟨M0, hM0⟩ : ∃ M0, L.drop m = M0 := ⟨_, rfl⟩
    have HS : Hid (∀ i, St (putAll (G.take i) M0) ∧ Lt o (putAll (G.take i) M0)) := Hid.mk_ (fun i => by rw [← hG, ← hM0]; exact took_part h.out.st h.out.lt m i)
    have HTK : Hid (tookQ o m L = putAll G M0) := Hid.mk_ (by rw [tookQ, hG, hM0])
    have hob := Hid.mk_ h.out.ob
    have hnd : nd ≤ 100 := by have h1 := MI.out.ag.1; have h2 := again_len o (L.take m); have h3 := h.out.st.len; simp at h2; omega
    have HND : Hid (nd = G.length) := Hid.mk_ (by rw [MI.out.ag.1, hG])
    have MO := Hid.mk_ MI.out.out
    have MA : Hid (OwnD wc w.heap.size (.slice D nd cd) nd G) := Hid.mk_ (by rw [← hG]; exact MI.out.ag)
    have MQ : Hid (Que wc g o A M0) := Hid.mk_ (by rw [← hM0]; exact MI.out.q)
    have MK := Hid.mk_ MI.out.w_
    have SO : Hid (∀ k, (Value.slice B nb cb).ownBlock = some k → ¬ Its g A k) := Hid.mk_ (fun k hk hi => by have := (Rowz.blk MO.out.2 k hk).1; have := hits.out k hi; omega)
    have SD : Hid (∀ k, (Value.slice D nd cd).ownBlock = some k → ¬ Its g A k) := Hid.mk_ (fun k hk hi => by have := (Rowz.blk MA.out.2 k hk).1; have := hits.out k hi; omega)
    have HB : Hid (w.heap.size ≤ wc.heap.size) := Hid.mk_ MK.out.size
    clear MI hG hM0 hml
    go_wp2_with fail
    go_loopg [51] nd (fun gg s51 wr => ∃ (i : Nat) (A' : Option Addr), s51 = .int .i64 (i : Int) ∧ i ≤ nd ∧ nd - i ≤ gg ∧ Hid (Que wr g o A' (putAll (G.take i) M0)) ∧ Hid (OwnC wr w.heap.size (.slice B nb cb) nb (toldQ m L)) ∧ Hid (OwnD wr w.heap.size (.slice D nd cd) nd G) ∧ Hid (∀ k, (Value.slice B nb cb).ownBlock = some k → ¬ Its g A' k) ∧ Hid (∀ k, (Value.slice D nd cd).ownBlock = some k → ¬ Its g A' k) ∧ Hid (Fresh w A A') ∧ Hid (Wr w wr (Its g A)))
    case atStart => exact ⟨0, A, rfl, by omega, by omega, MQ, MO, MA, SO, SD, Hid.mk_ (Fresh.refl _ _), MK⟩
    case round =>
      clear MQ MO MA SO SD MK HB
      obtain ⟨i, A', rfl, hi, hg, Q, O, E, SO, SD, F, K⟩ := hrel
      by_cases hlt : i < nd
      · obtain ⟨t, ht⟩ : ∃ t, G[i]? = some t := ⟨_, List.getElem?_eq_getElem (by have := HND.out; omega)⟩
        obtain ⟨b, rfl, _, hb, x0, x1, x2, x3⟩ := E.out.row i t ht
        have HT := Hid.mk_ ht
        clear ht
        have l1 : (i : Int) < (nd : Int) := by omega
        have l0 : (0 : Int) ≤ (i : Int) := by omega
        go_upto_region 12 with fail
        have al := (Below.refl wr.heap.size wr).alloc (Nat.le_refl _) (.cells #[.int .i64 t.node, .int .i64 t.inc, .int .i64 t.hl, .int .i64 t.n] 93)
        have BX := Hid.mk_ (Box4.made wr t)
        have Q1 := Hid.mk_ (Q.out.below al)
        have O1 := Hid.mk_ (O.out.below al)
        have E1 := Hid.mk_ (E.out.below al)
        have K1 := Hid.mk_ (K.out.then_ (Wr.of_below al (fun _ => False)) (fun _ h => h.elim))
        obtain ⟨q, hq⟩ : ∃ q, q = wr.heap.size := ⟨_, rfl⟩
        have NQ : Hid (¬ Its g A' q) := Hid.mk_ (fun hh => by have := Q.out.its q hh; omega)
        have LO : Hid (∀ k, (Value.slice B nb cb).ownBlock = some k → k < q) := Hid.mk_ (fun k hk => by have := (Rowz.blk O.out.2 k hk).2; omega)
        have LD : Hid (∀ k, (Value.slice (some ⟨b, 0, none⟩) nd cd).ownBlock = some k → k < q) := Hid.mk_ (fun k hk => by have := (Rowz.blk E.out.2 k hk).2; omega)
        have ZB : Hid (w.heap.size ≤ q) := Hid.mk_ (by have := K.out.size; omega)
        rw [← hq] at BX ⊢
        clear x0 x1 x2 x3 al Q O E K hq hb
        generalize wr.alloc (.cells #[.int .i64 t.node, .int .i64 t.inc, .int .i64 t.hl, .int .i64 t.n] 93) = w1 at *
        obtain ⟨x0, x1, x2, x3, f3⟩ := BX.out
        obtain ⟨n1, c1, hs, p1, p2, p3⟩ := Q1.out.ex
        have P1 := Hid.mk_ p1
        have PS := Hid.mk_ (push_state t p2 p3)
        have hn1 : n1 < 1000000 := by have := Q1.out.st.len; have := p1.len; have := p3.length_eq; omega
        have QZ : Hid (q < w1.heap.size) := Hid.mk_ BX.out.lt
        clear p1 p2 p3
        go_region_held3 (fun w' => w'.cell? ⟨q, 0, none⟩ = some (.int .i64 t.node) ∧ w'.cell? ⟨q, 1, none⟩ = some (.int .i64 t.inc) ∧ w'.cell? ⟨q, 2, none⟩ = some (.int .i64 t.hl) ∧ w'.cell? ⟨q, 3, none⟩ = some (.int .i64 t.n)) (first | exact ⟨by assumption, by assumption, by assumption, by assumption⟩ | go_keep) (first
          | (go_at_call 41; refine (push (o := o) (w := w1.drew) (n := n1) (c := c1) (A := A') (hs := hs) t (by exact Hid.mk_ (P1.out.below (Below.refl _ _).drew)) hn1).mono ?_; rintro e w4 ⟨rfl, A4, n4, c4, h4, f4, r4⟩; have s0 := r4.out.cell (by exact x0) NQ.out; have s1 := r4.out.cell (by exact x1) NQ.out; have s2 := r4.out.cell (by exact x2) NQ.out; have s3 := r4.out.cell (by exact x3) NQ.out)
          | fail)
        have dr : Below w1.heap.size w1 w1.drew := (Below.refl _ _).drew
        have W4 := (Wr.of_below dr (Its g A')).then_ r4.out (fun i hi => .inl hi)
        have F4 : Fresh w1 A' A4 := f4.out
        have Q4 : Que w4 g o A4 (putAll (G.take (i + 1)) M0) := ⟨(HS.out (i + 1)).1, (HS.out (i + 1)).2, hob.out, n4, c4, _, h4.out, PS.out.1, by rw [putAll_snoc M0 HT.out]; exact PS.out.2⟩
        go_wp2_with fail
        go_roundg (nd - (i + 1))
        case measure => omega
        case rel => exact ⟨i + 1, A4, by go_num, by omega, Nat.le_refl _, Hid.mk_ Q4, Hid.mk_ ⟨O1.out.1, Rowz.keep O1.out.2 fun k hk hlt => W4.block k hlt (SO.out k hk)⟩, Hid.mk_ ⟨E1.out.1, Rowz.keep E1.out.2 fun k hk hlt => W4.block k hlt (SD.out k hk)⟩, Hid.mk_ (fun k hk hi => by
          rcases F4.its g k hi with h1 | h1
          · exact SO.out k hk h1
          · have := LO.out k hk; have := QZ.out; omega), Hid.mk_ (fun k hk hi => by
          rcases F4.its g k hi with h1 | h1
          · exact SD.out k hk h1
          · have := LD.out k hk; have := QZ.out; omega), Hid.mk_ (F.out.trans F4 K1.out.size), Hid.mk_ (K1.out.then_ W4 (F.out.its g))⟩
      · obtain rfl : i = nd := by omega
        have e1 : G.take i = G := List.take_of_length_le (by have := HND.out; omega)
        rw [e1] at Q
        go_wp2_with fail
        go_ret
        exact ⟨B, nb, cb, rfl, O, hnb, Hid.mk_ (by rw [HTK.out]; exact ⟨A', Q.out, F.out, K.out⟩)⟩
end Go.Proofs.Ytoikadgfbjjfiaa.Rum
