/- Words for the laws: what stays, calls that come in, what is believed of all. Conditions: as each theorem says. -/
import Derived.Test.YthndjhocmpelcaaGreatGl
namespace Go.Proofs.YthndjhocmpelcaaGreat.Swi
open Go.RowKit Kit Hth Tri3
set_option linter.unusedVariables false
/-- Its own name, whether it has left, its ticks, whom it asked. -/
structure Kp (d d' : Dt) : Prop where
  self : d'.self = d.self
  left : d'.left = d.left
  now : d'.now = d.now
  seq : d'.seq = d.seq
  asked : d'.asked = d.asked
theorem Kp.refl (d : Dt) : Kp d d := ⟨rfl, rfl, rfl, rfl, rfl⟩
theorem Kp.trans {a b c : Dt} (h : Kp a b) (k : Kp b c) : Kp a c := ⟨k.self.trans h.self, k.left.trans h.left, k.now.trans h.now, k.seq.trans h.seq, k.asked.trans h.asked⟩
theorem Kp.ref (d : Dt) (i h : Int) : Kp d (dRef d i h) := by
  unfold dRef
  split
  · split
    · exact ⟨rfl, rfl, rfl, rfl, rfl⟩
    · exact ⟨rfl, rfl, rfl, rfl, rfl⟩
  · exact Kp.refl d
theorem Kp.hears (d : Dt) (c : Cl) : Kp d (dHears d c) := by
  unfold dHears
  split
  · exact Kp.ref d _ _
  · split
    · exact ⟨rfl, rfl, rfl, rfl, rfl⟩
    · exact Kp.refl d
theorem Kp.meetL : ∀ (l : List Cl) (d : Dt) (n : Nat), Kp d (meetL d n l).1
  | [], d, n => Kp.refl d
  | a :: l, d, n => by
    rw [Swi.meetL]
    split
    · exact (Kp.hears d a).trans (Kp.meetL l _ _)
    · exact Kp.meetL l _ _
theorem Kp.meets (d : Dt) (f : Int) (l : List Cl) : Kp d (dMeets d f l) := by
  unfold dMeets
  simp only
  split
  · exact Kp.meetL l d 0
  · exact (Kp.meetL l d 0).trans (Kp.hears _ _)
end Go.Proofs.YthndjhocmpelcaaGreat.Swi
namespace Go.Proofs.YthndjhocmpelcaaGreat.Swi
open Go.RowKit Kit Hth Tri3
set_option linter.unusedVariables false
theorem fld1 (x y z : Value) (w : World) : (Instr.field 30 (.agg #[x, y, z]) 1).run Tryz.prog w = .ok y w := by kernel_rfl
theorem fld2 (x y z : Value) (w : World) : (Instr.field 30 (.agg #[x, y, z]) 2).run Tryz.prog w = .ok z w := by kernel_rfl
theorem zcall_size : Tryz.zeroCells49.size = 68 := by kernel_rfl
theorem size58 : (Tryz.prog.info? 49).map (·.size) = some 68 := by kernel_rfl
/-- Calls lie from A on. -/
def QsAt (w : World) (A : Option Addr) (qs : List Qc) : Prop :=
  ∀ (i : Nat) (q : Qc), qs[i]? = some q → ∃ b off es, A = some ⟨b, off, none⟩ ∧ b < w.heap.size ∧ w.rangeAt b (off + i * 68) es ∧ CallL w es q
theorem list_ofQ (P : Nat → Qc → Prop) : ∀ n, (∀ i, i < n → ∃ c, P i c) → ∃ ls : List Qc, ls.length = n ∧ ∀ (i : Nat) (c : Qc), ls[i]? = some c → P i c
  | 0, _ => ⟨[], rfl, fun i c h => by simp at h⟩
  | n + 1, h => by
    obtain ⟨ls, hl, hp⟩ := list_ofQ P n (fun i hi => h i (by omega))
    obtain ⟨c, hc⟩ := h n (by omega)
    refine ⟨ls ++ [c], by simp [hl], fun i d hd => ?_⟩
    by_cases hi : i < n
    · rw [List.getElem?_append_left (by omega)] at hd
      exact hp i d hd
    · rw [List.getElem?_append_right (by omega)] at hd
      have : i = n := by
        have := (List.getElem?_eq_some_iff.1 hd).1
        simp at this; omega
      subst this
      rw [hl] at hd
      simp at hd
      subst hd
      exact hc
theorem rd_calls {w : World} {A : Option Addr} {n c : Nat} (h : RD w (.slice shCall) [.slice A n c]) : ∃ qs : List Qc, qs.length = n ∧ QsAt w A qs ∧ n ≤ c ∧ c ≤ maxLen := by
  rcases h with h | ⟨a, len, cap, h, hl, hm, hi⟩
  · simp only [List.cons.injEq, Value.slice.injEq, and_true] at h
    obtain ⟨rfl, rfl, rfl⟩ := h
    exact ⟨[], rfl, fun i c h => by simp at h, Nat.le_refl _, by simp [maxLen]⟩
  · simp only [List.cons.injEq, Value.slice.injEq, and_true] at h
    obtain ⟨rfl, rfl, rfl⟩ := h
    have e68 : shCall.size = 68 := rfl
    obtain ⟨qs, hls, hp⟩ := list_ofQ (fun i q => ∃ b off es, some a = some ⟨b, off, none⟩ ∧ b < w.heap.size ∧ w.rangeAt b (off + i * 68) es ∧ CallL w es q) n (fun i hin => by
      obtain ⟨es, hel, hat, hr⟩ := hi i hin
      rw [e68] at hat
      obtain ⟨q, hq⟩ := rd_call hr
      have hs : a.spot = none := by
        cases hsp : a.spot with
        | none => rfl
        | some v =>
          obtain ⟨es0, hel0, hat0, hr0⟩ := hi 0 (by omega)
          obtain ⟨q0, hq0⟩ := rd_call hr0
          have := hat0 0 (by rw [e68]; omega)
          rw [hq0.e0] at this
          unfold Addr.add at this
          simp [World.cell?, hsp] at this
          split at this <;> simp at this
      have hr2 : w.rangeAt a.block (a.off + i * 68) es := fun j v hv => by
        have hj : j < 68 := by have := (List.getElem?_eq_some_iff.1 hv).1; rw [hq.len] at this; exact this
        have := hat j hj
        rw [Tri3.add_off a _ hs] at this
        rw [Nat.add_assoc, this, hv]
      refine ⟨q, a.block, a.off, es, ?_, ?_, hr2, hq⟩
      · obtain ⟨b, o, s⟩ := a; simp only at hs; subst hs; rfl
      · exact World.block_lt_of_cell? w ⟨a.block, a.off + i * 68 + 0, none⟩ (hr2 0 _ hq.e0))
    exact ⟨qs, hls, hp, hl, hm⟩
theorem range_keep {w w' : World} {b o : Nat} {es : List Value} (h : w.rangeAt b o es) (hb : b < w.heap.size → w'.heap[b]? = w.heap[b]?) : w'.rangeAt b o es := fun j v hv => by
  have h0 := h j v hv
  rw [← h0]
  have := hb (World.block_lt_of_cell? w _ h0)
  simp [World.cell?, this]
theorem CallL.noS {w : World} {es : List Value} {q : Qc} {S : Nat → Prop} (h : CallL w es q) (hS : ∀ k, S k → w.heap.size ≤ k) : Hid (∀ b off, q.P = some ⟨b, off, none⟩ → 0 < q.n → ¬ S b) := Hid.mk_ (fun b off e hn hs => by
  have hl := h.ln
  obtain ⟨c, hc⟩ : ∃ c, q.ls[0]? = some c := ⟨_, List.getElem?_eq_getElem (by omega)⟩
  obtain ⟨b', off', e', hlt, _⟩ := h.cl 0 c hc
  rw [e'] at e
  injection e with e
  injection e with e1 _
  have := hS b hs
  omega)
theorem CallL.noA {w : World} {es : List Value} {q : Qc} {S : Nat → Prop} (h : CallL w es q) (hS : ∀ k, S k → w.heap.size ≤ k) : Hid (∀ b off, q.Ap = some ⟨b, off, none⟩ → 0 < q.np → ¬ S b) := Hid.mk_ (fun b off e hn hs => by
  have hl := h.pn
  obtain ⟨c, hc⟩ : ∃ c, q.ps[0]? = some c := ⟨_, List.getElem?_eq_getElem (by omega)⟩
  obtain ⟨b', off', e', hcell⟩ := h.row 0 c hc
  have hlt := World.block_lt_of_cell? w _ hcell
  rw [e'] at e
  injection e with e
  injection e with e1 _
  have := hS b hs
  simp only at hlt
  omega)
/-- A call that was loaded lies in a block of its own. -/
theorem call_box (wr : World) (es : List Value) : ((wr.alloc (.cells Tryz.zeroCells49 49)).setRow wr.heap.size es.toArray).heap[wr.heap.size]? = some (.cells es.toArray 49 (0, 0)) ∧ Below wr.heap.size wr ((wr.alloc (.cells Tryz.zeroCells49 49)).setRow wr.heap.size es.toArray) := by
  have b1 := (Below.refl wr.heap.size wr).alloc (Nat.le_refl _) (.cells Tryz.zeroCells49 49)
  have r : Rum.Wr (wr.alloc (.cells Tryz.zeroCells49 49)) ((wr.alloc (.cells Tryz.zeroCells49 49)).setRow wr.heap.size es.toArray) (fun j => j = wr.heap.size) := ⟨rfl, rfl, rfl, by simp, fun j hj hn => setRow_other _ _ j _ hn⟩
  exact ⟨setRow_heap _ _ _ _ 49 (0, 0) (heap_alloc_new wr (.cells Tryz.zeroCells49 49)), b1.trans (r.below b1.size (fun i hi => by omega))⟩
theorem rowe {w : World} {z i : Nat} {es : List Value} {t : TypeId} {v : Value} (h : w.heap[z]? = some (.cells es.toArray t (0, 0))) (hv : es[i]? = some v) : w.cell? ⟨z, i, none⟩ = some v := by
  rw [cell_of_row w z i _ t (0, 0) h]
  simpa using hv
theorem rowe_msg {w : World} {z : Nat} {es : List Value} {t : TypeId} (h : w.heap[z]? = some (.cells es.toArray t (0, 0))) : w.rangeAt z 4 ((es.drop 4).take 62) := row_msg h
theorem call_one {w : World} {es : List Value} {q : Qc} (h : CallL w es q) : es.toArray.all (·.oneCell') = true := by
  rw [Array.all_eq_true_iff_forall_mem]
  intro v hv
  exact h.one v (by simpa using hv)
theorem call_size {w : World} {es : List Value} {q : Qc} (h : CallL w es q) : (Tryz.prog.info? 49).map (·.size) = some es.toArray.size := by rw [size58]; simp [h.len]
theorem call_size2 {w : World} {es : List Value} {q : Qc} (h : CallL w es q) : (Tryz.prog.info? 49).map (·.size) = some es.length := by rw [size58, h.len]
theorem call_size3 {w : World} {es : List Value} {q : Qc} (h : CallL w es q) : Tryz.zeroCells49.size = es.toArray.size := by rw [zcall_size]; simp [h.len]
/-- What comes behind. -/
theorem DTurn.next {w0 wr wb w2 : World} {S0 S1 : Nat → Prop} {g : Nat} {d : Dt} (r1 : Rum.Wr w0 wr S0) (k1 : ∀ k, S1 k → S0 k ∨ w0.heap.size ≤ k) (hb : Below wr.heap.size wr wb) (t : DTurn wb w2 S1 g d) : DTurn w0 w2 S0 g d :=
  DTurn.after (r1.then_ (Rum.Wr.of_below hb (fun _ => False)) (fun _ h => h.elim)) k1 t
theorem DTurn.size {w0 wr : World} {S0 : Nat → Prop} {g : Nat} {d : Dt} (h : DTurn w0 wr S0 g d) : w0.heap.size ≤ wr.heap.size := by
  obtain ⟨_, _, _, r⟩ := h
  exact r.size
theorem DTurn.belowB {B : Nat} {w0 wr : World} {S0 : Nat → Prop} {g : Nat} {d : Dt} (h : DTurn w0 wr S0 g d) (hB : B ≤ w0.heap.size) (hS : ∀ k, S0 k → B ≤ k) : Below B w0 wr := by
  obtain ⟨_, _, _, r⟩ := h
  exact r.below hB hS
set_option maxRecDepth 100000 in
theorem node20 (n : Int) (w : World) (q : Bool) (hq : Hid (q = nodeB n)) : Calls Tryz.prog 31 #[.int .i64 n] w fun e w' => e = .returned (.bool q) ∧ w' = w := by
  by_cases h0 : 0 ≤ n
  · by_cases h1 : n < 8
    · go_enter Tryz.func31, Tryz.ntmps31
      go_wp2_with fail
      go_ret
      exact ⟨by rw [hq.out]; simp [nodeB, h0, h1], rfl⟩
    · go_enter Tryz.func31, Tryz.ntmps31
      go_wp2_with fail
      go_ret
      exact ⟨by rw [hq.out]; simp [nodeB, h1], rfl⟩
  · go_enter Tryz.func31, Tryz.ntmps31
    go_wp2_with fail
    go_ret
    exact ⟨by rw [hq.out]; simp [nodeB]; omega, rfl⟩
/-- What is known behind light. -/
def LightP (w : World) (n : Nat) (e : Ending) (w' : World) : Prop := ∃ b, e = .returned (.bool b) ∧ Hid (b = true → n ≤ 80) ∧ Below w.heap.size w w'
set_option maxRecDepth 100000 in
set_option maxHeartbeats 8000000 in
theorem light1 (w : World) (A : Option Addr) (n c : Nat) (qs : List Qc) (hq : Hid (QsAt w A qs)) (hn : Hid (n = qs.length)) (hc : n ≤ c) (hcc : c ≤ 9223372036854775807) :
    Calls Tryz.prog 4 #[.slice A n c] w (LightP w n) := by
  go_enter Tryz.func4, Tryz.ntmps4
  go_wp2_with fail
  go_loopw [7] (fun i wr => ∃ j : Nat, i = .int .i64 (j : Int) ∧ j ≤ n ∧ j ≤ 80 ∧ Hid (Below w.heap.size w wr)) (fun i _ => n - (intOf i).toNat)
  case atStart => exact ⟨0, rfl, by omega, by omega, Hid.mk_ (Below.refl _ _)⟩
  case round =>
    obtain ⟨j, rfl, hj, hj8, HB⟩ := hrel
    by_cases hlt : j < n
    · obtain ⟨q, hqj⟩ : ∃ q, qs[j]? = some q := ⟨_, List.getElem?_eq_getElem (by have := hn.out; omega)⟩
      obtain ⟨b, off, es, rfl, hb, hr, hl⟩ := hq.out j q hqj
      have HL := Hid.mk_ hl
      have HR : Hid (wr.rangeAt b (off + j * 68) es) := Hid.mk_ (range_keep hr (fun h => HB.out.block b h))
      clear hqj hb hr hl
      have l1 : (j : Int) < (n : Int) := by omega
      have l0 : (0 : Int) ≤ (j : Int) := by omega
      have CB := Hid.mk_ (call_box wr es)
      have ZZ := Hid.mk_ (heap_alloc_new wr (.cells Tryz.zeroCells49 49))
      go_upto_region 4 with (first
        | (refine wpList_load_mid rfl 49 _ rfl b (off + j * 68) rfl es _ HR.out Tryz.underlying49 rfl (call_size2 HL.out) ?_)
        | (refine wpList_store_row rfl 49 _ _ rfl wr.heap.size es.toArray rfl rfl 49 _ ZZ.out (call_size HL.out) (call_size3 HL.out) (call_one HL.out) ?_))
      have HB2 := Hid.mk_ (HB.out.trans (CB.out.2.mono HB.out.size))
      clear ZZ
      generalize (wr.alloc (.cells Tryz.zeroCells49 49)).setRow wr.heap.size es.toArray = wb at *
      generalize wr.heap.size = z at *
      have y65 : wb.cell? ⟨z, 65, none⟩ = some (.slice q.P q.n q.cc) := rowe CB.out.1 HL.out.e65
      have y66 : wb.cell? ⟨z, 66, none⟩ = some (.slice q.Ap q.np q.cp) := rowe CB.out.1 HL.out.e66
      clear CB
      by_cases h80 : 80 ≤ j
      · have h80b : (80 : Int) ≤ (j : Int) := by omega
        go_wp2_with fail
        go_ret
        exact ⟨false, rfl, Hid.mk_ (fun h => by cases h), HB2.out⟩
      · have h80b : ¬ (80 : Int) ≤ (j : Int) := by omega
        by_cases h20 : 20 < q.n
        · have h20b : (20 : Int) < (q.n : Int) := by omega
          go_wp2_with fail
          go_ret
          exact ⟨false, rfl, Hid.mk_ (fun h => by cases h), HB2.out⟩
        · have h20b : ¬ (20 : Int) < (q.n : Int) := by omega
          by_cases h21 : 20 < q.np
          · have h21b : (20 : Int) < (q.np : Int) := by omega
            go_wp2_with fail
            go_ret
            exact ⟨false, rfl, Hid.mk_ (fun h => by cases h), HB2.out⟩
          · have h21b : ¬ (20 : Int) < (q.np : Int) := by omega
            go_wp2_with fail
            go_roundw
            case rel => exact ⟨j + 1, by go_num, by omega, by omega, HB2⟩
            case measure => simp [intOf]; omega
    · obtain rfl : j = n := by omega
      go_wp2_with fail
      go_ret
      exact ⟨true, rfl, Hid.mk_ (fun _ => hj8), HB.out⟩
/-- Who is held to have left is so from then on. -/
theorem left_not {d : Dt} {n : Nat} (h : d.q n = 4) (c : Cl) : ¬ (Bel.hearB d.p d.q c.n c.i c.h = true ∧ c.n = (n : Int)) := by
  rintro ⟨h1, h2⟩
  unfold Bel.hearB at h1
  rw [h2] at h1
  simp [h] at h1
  have := h1.2.2
  unfold cmpC at this
  split at this
  · simp at this
  · simp at this
theorem left_heard {d : Dt} {n : Nat} (h : d.q n = 4) (c : Cl) : (dHeard d c).q n = 4 := by
  unfold dHeard Bel.upd
  simp only
  rw [if_neg (left_not h c)]
  exact h
theorem left_says {d : Dt} {n : Nat} (h : d.q n = 4) (x : Int) : (dSays d x).q n = 4 := left_heard h ⟨d.self, d.inc, x⟩
theorem left_ref {d : Dt} {n : Nat} (h : d.q n = 4) (i x : Int) : (dRef d i x).q n = 4 := by
  unfold dRef
  split
  · split
    · exact h
    · exact left_says (d := { d with inc := i + 1 }) h 1
  · exact h
theorem left_hears {d : Dt} {n : Nat} (h : d.q n = 4) (c : Cl) : (dHears d c).q n = 4 := by
  unfold dHears
  split
  · exact left_ref h _ _
  · split
    · exact left_heard h c
    · exact h
theorem left_meetL {n : Nat} : ∀ (l : List Cl) {d : Dt} (h : d.q n = 4) (k : Nat), (meetL d k l).1.q n = 4
  | [], d, h, k => h
  | a :: l, d, h, k => by
    rw [meetL]
    split
    · exact left_meetL l (left_hears h a) _
    · exact left_meetL l h _
theorem left_meets {d : Dt} {n : Nat} (h : d.q n = 4) (f : Int) (l : List Cl) : (dMeets d f l).q n = 4 := by
  unfold dMeets
  simp only
  split
  · exact left_meetL l h 0
  · exact left_hears (left_meetL l h 0) _
theorem ans_q (d : Dt) (k s fo : Int) : (dAns d k s fo).q = d.q ∧ (dAns d k s fo).p = d.p ∧ (dAns d k s fo).left = d.left ∧ (dAns d k s fo).now = d.now ∧ (dAns d k s fo).self = d.self ∧ (dAns d k s fo).inc = d.inc := by
  unfold dAns
  split <;> exact ⟨rfl, rfl, rfl, rfl, rfl, rfl⟩
theorem left_handle {d : Dt} {n : Nat} (h : d.q n = 4) (k f t s fo ab : Int) (ls : List Cl) : (dHandle d k f t s fo ab ls).q n = 4 := by
  have h1 := left_meets h f ls
  have h2 : (dAns (dMeets d f ls) k s fo).q n = 4 := by rw [(ans_q _ k s fo).1]; exact h1
  unfold dHandle
  split
  · exact h
  · split
    · exact h2
    · exact h2
/-- One that has left sends nothing. -/
theorem handle_left {d : Dt} (h : d.left = true) (k f t s fo ab : Int) (ls : List Cl) : oHandle d k f t s fo ab ls = [] ∧ (dHandle d k f t s fo ab ls).left = true ∧ (dHandle d k f t s fo ab ls).now = d.now := by
  have h1 : (dAns (dMeets d f ls) k s fo).left = true := by rw [(ans_q _ k s fo).2.2.1, (Kp.meets d f ls).left]; exact h
  have h2 : (dAns (dMeets d f ls) k s fo).now = d.now := by rw [(ans_q _ k s fo).2.2.2.1, (Kp.meets d f ls).now]
  unfold oHandle dHandle
  split
  · exact ⟨rfl, h, rfl⟩
  · rw [if_pos (.inr h1), if_pos (.inr h1)]
    exact ⟨rfl, h1, h2⟩
theorem tick_leftD {d : Dt} (h : d.left = true) (ps : List Int) (dr : Int) : dTick ps dr d = (d1 d, []) := by unfold dTick; rw [if_pos h]
theorem hear_kp (d : Dt) (c : Cl) : Kp d (dHear d c) := by
  unfold dHear
  split
  · exact Kp.hears d c
  · exact Kp.refl d
theorem left_hear {d : Dt} {n : Nat} (h : d.q n = 4) (c : Cl) : (dHear d c).q n = 4 := by
  unfold dHear
  split
  · exact left_hears h c
  · exact h
theorem Vok.hear {d : Dt} (h : Vok d) (c : Cl) : Vok (dHear d c) := by
  unfold dHear
  split
  · exact h.hears c
  · exact h
theorem Vok.leave {d : Dt} (h : Vok d) : Vok (dLeave d) := by
  unfold dLeave
  split
  · exact h
  · exact Vok.says (d := { d with left := true }) (h.of rfl rfl) 4
theorem leave_same {d : Dt} (h : d.left = true) : dLeave d = d := by unfold dLeave; rw [h]; rfl
end Go.Proofs.YthndjhocmpelcaaGreat.Swi
namespace Go.Proofs.YthndjhocmpelcaaGreat.Swi
open Go.RowKit Kit Hth Tri3
set_option linter.unusedVariables false
/-- How loud. -/
def Kl (i h : Int) : Int := if h = 4 then 8000000 else 4 * i + h
theorem cmp_pos {i h j k : Int} (h1 : 0 ≤ i ∧ i ≤ 1000000 ∧ 0 ≤ h ∧ h ≤ 4) (h2 : 0 ≤ j ∧ j ≤ 1000000 ∧ 0 ≤ k ∧ k ≤ 4) (hc : 0 < cmpC i h j k) : Kl j k ≤ Kl i h := by
  unfold cmpC at hc
  unfold Kl
  repeat' split at hc
  all_goals first | omega | (repeat' split) <;> omega
theorem cmp_neg {i h j k : Int} (h1 : 0 ≤ i ∧ i ≤ 1000000 ∧ 0 ≤ h ∧ h ≤ 4) (h2 : 0 ≤ j ∧ j ≤ 1000000 ∧ 0 ≤ k ∧ k ≤ 4) (hk : Kl j k ≤ Kl i h) : ¬ cmpC i h j k < 0 := by
  unfold cmpC
  unfold Kl at hk
  repeat' split at hk
  all_goals (repeat' split) <;> omega
/-- Nothing falls. -/
def Up (d d' : Dt) : Prop := ∀ n : Nat, n < 8 → Kl (d.p n) (d.q n) ≤ Kl (d'.p n) (d'.q n)
theorem Up.refl (d : Dt) : Up d d := fun _ _ => Int.le_refl _
theorem Up.trans {a b c : Dt} (h : Up a b) (k : Up b c) : Up a c := fun n hn => Int.le_trans (h n hn) (k n hn)
theorem Up.of {d d' : Dt} (hp : d'.p = d.p) (hq : d'.q = d.q) : Up d d' := fun n hn => by rw [hp, hq]; exact Int.le_refl _
theorem Up.heard {d : Dt} (hv : Vok d) (c : Cl) : Up d (dHeard d c) := fun n hn => by
  unfold dHeard Bel.upd
  simp only
  by_cases e : Bel.hearB d.p d.q c.n c.i c.h = true ∧ c.n = (n : Int)
  · rw [if_pos e, if_pos e]
    obtain ⟨h1, h2⟩ := e
    unfold Bel.hearB at h1
    rw [Bool.and_eq_true, Bool.and_eq_true] at h1
    obtain ⟨m, _, l⟩ := h1
    rw [h2] at l
    have b1 : 0 ≤ c.i ∧ c.i ≤ 1000000 ∧ 0 ≤ c.h ∧ c.h ≤ 4 := by unfold mayC at m; simp at m; omega
    exact cmp_pos b1 (hv n hn) (by simpa using l)
  · rw [if_neg e, if_neg e]
    exact Int.le_refl _
/-- Its own claim: gone for good, if it has left; else alive, with its incarnation. -/
structure Ow (s : Nat) (d : Dt) : Prop where
  self : d.self = (s : Int)
  lt : s < 8
  inc : 0 ≤ d.inc ∧ d.inc ≤ 1000000
  gone : d.left = true → d.q s = 4
  here : d.left = false → d.q s = 1 ∧ d.p s = d.inc
theorem Ow.of {s : Nat} {d d' : Dt} (h : Ow s d) (h1 : d'.self = d.self) (h2 : d'.inc = d.inc) (h3 : d'.left = d.left) (h4 : d'.p = d.p) (h5 : d'.q = d.q) : Ow s d' :=
  ⟨h1.trans h.self, h.lt, by rw [h2]; exact h.inc, fun e => by rw [h5]; exact h.gone (h3 ▸ e), fun e => by rw [h4, h5, h2]; exact h.here (h3 ▸ e)⟩
/-- One step: all stays in bounds, nothing falls. -/
structure Stp (s : Nat) (d d' : Dt) : Prop where
  vok : Vok d'
  ow : Ow s d'
  up : Up d d'
  inc : d.inc ≤ d'.inc
  left : d'.left = d.left
theorem Stp.refl {s : Nat} {d : Dt} (hv : Vok d) (ho : Ow s d) : Stp s d d := ⟨hv, ho, Up.refl d, Int.le_refl _, rfl⟩
theorem Stp.trans {s : Nat} {a b c : Dt} (h : Stp s a b) (k : Stp s b c) : Stp s a c := ⟨k.vok, k.ow, h.up.trans k.up, Int.le_trans h.inc k.inc, k.left.trans h.left⟩
theorem Stp.same {s : Nat} {d d' : Dt} (hv : Vok d) (ho : Ow s d) (h1 : d'.self = d.self) (h2 : d'.inc = d.inc) (h3 : d'.left = d.left) (h4 : d'.p = d.p) (h5 : d'.q = d.q) : Stp s d d' :=
  ⟨hv.of h4 h5, ho.of h1 h2 h3 h4 h5, Up.of h4 h5, by rw [h2]; exact Int.le_refl _, h3⟩
theorem says_here {s : Nat} {d : Dt} (h1 : d.self = (s : Int)) (h2 : s < 8) (h3 : 0 ≤ d.inc ∧ d.inc ≤ 1000000) (h4 : d.q s = 1) (h5 : d.p s < d.inc) : (dSays d 1).q s = 1 ∧ (dSays d 1).p s = d.inc := by
  have e : Bel.hearB d.p d.q d.self d.inc 1 = true ∧ d.self = (s : Int) := by
    refine ⟨?_, h1⟩
    unfold Bel.hearB
    rw [h1]
    have m : mayC (s : Int) d.inc 1 = true := by unfold mayC; simp; omega
    rw [m]
    simp [h4]
    unfold cmpC
    rw [if_neg (by decide), if_neg (by decide), if_neg (by omega), if_pos h5]
    decide
  unfold dSays Bel.upd
  simp only
  rw [if_pos e, if_pos e]
  exact ⟨rfl, rfl⟩
theorem Stp.ref {s : Nat} {d : Dt} (hv : Vok d) (ho : Ow s d) (i h : Int) (hi : 0 ≤ i ∧ i ≤ 1000000) : Stp s d (dRef d i h) := by
  unfold dRef
  split
  · rename_i hb
    have hle : d.inc ≤ i := by unfold dbt at hb; simp at hb; exact hb.2
    split
    · exact Stp.same hv ho rfl rfl rfl rfl rfl
    · rename_i hn
      have v1 : Vok { d with inc := i + 1 } := hv.of rfl rfl
      refine ⟨v1.says 1, ⟨ho.self, ho.lt, ?_, fun e => ?_, fun e => ?_⟩, (Up.of (d' := { d with inc := i + 1 }) rfl rfl).trans (Up.heard v1 ⟨d.self, i + 1, 1⟩), ?_, rfl⟩
      · show 0 ≤ i + 1 ∧ i + 1 ≤ 1000000; omega
      · exact left_says (d := { d with inc := i + 1 }) (ho.gone e) 1
      · have hh := ho.here e
        have := says_here (d := { d with inc := i + 1 }) ho.self ho.lt (by show 0 ≤ i + 1 ∧ i + 1 ≤ 1000000; omega) hh.1 (by show d.p s < i + 1; rw [hh.2]; omega)
        exact this
      · show d.inc ≤ i + 1; omega
  · exact Stp.refl hv ho
theorem may_i {n i h : Int} (m : mayC n i h = true) : 0 ≤ n ∧ n < 8 ∧ 0 ≤ i ∧ i ≤ 1000000 := by unfold mayC at m; simp at m; omega
theorem Stp.hears {s : Nat} {d : Dt} (hv : Vok d) (ho : Ow s d) (c : Cl) (m : mayC c.n c.i c.h = true) : Stp s d (dHears d c) := by
  have hb := may_i m
  unfold dHears
  split
  · exact Stp.ref hv ho _ _ hb.2.2
  · rename_i hn
    split
    · have v1 := hv.heard c
      have hno : ∀ b : Bool, ¬ (b = true ∧ c.n = (s : Int)) := fun b e => hn (e.2.trans ho.self.symm)
      refine ⟨v1.of rfl rfl, ⟨ho.self, ho.lt, ho.inc, fun e => ?_, fun e => ?_⟩, Up.heard hv c, Int.le_refl _, rfl⟩
      · show Bel.upd d.q c.n c.h _ s = 4
        unfold Bel.upd
        rw [if_neg (hno _)]
        exact ho.gone e
      · show Bel.upd d.q c.n c.h _ s = 1 ∧ Bel.upd d.p c.n c.i _ s = d.inc
        unfold Bel.upd
        rw [if_neg (hno _), if_neg (hno _)]
        exact ho.here e
    · exact Stp.refl hv ho
theorem Stp.meetL {s : Nat} : ∀ (l : List Cl) {d : Dt} (hv : Vok d) (ho : Ow s d) (k : Nat), Stp s d (meetL d k l).1
  | [], d, hv, ho, k => Stp.refl hv ho
  | a :: l, d, hv, ho, k => by
    rw [Swi.meetL]
    split
    · rename_i h
      have h1 := Stp.hears hv ho a h.1
      exact h1.trans (Stp.meetL l h1.vok h1.ow _)
    · exact Stp.meetL l hv ho _
theorem Stp.meets {s : Nat} {d : Dt} (hv : Vok d) (ho : Ow s d) (f : Int) (l : List Cl) : Stp s d (dMeets d f l) := by
  have h1 := Stp.meetL l hv ho 0
  unfold dMeets
  simp only
  split
  · exact h1
  · exact h1.trans (Stp.hears h1.vok h1.ow _ (cOf_may h1.vok f 1 (by omega)))
theorem Stp.ans {s : Nat} {d : Dt} (hv : Vok d) (ho : Ow s d) (k t fo : Int) : Stp s d (dAns d k t fo) :=
  have h := ans_q d k t fo
  Stp.same hv ho h.2.2.2.2.1 h.2.2.2.2.2 h.2.2.1 h.2.1 h.1
theorem Stp.handle {s : Nat} {d : Dt} (hv : Vok d) (ho : Ow s d) (k f t n fo ab : Int) (ls : List Cl) : Stp s d (dHandle d k f t n fo ab ls) := by
  have h1 := Stp.meets hv ho f ls
  have h2 := h1.trans (Stp.ans h1.vok h1.ow k n fo)
  unfold dHandle
  split
  · exact Stp.refl hv ho
  · split
    · exact h2
    · exact h2.trans (Stp.same h2.vok h2.ow rfl rfl rfl rfl rfl)
theorem Stp.askL {s : Nat} : ∀ (l : List Int) {x : Dt × List Om} (hv : Vok x.1) (ho : Ow s x.1), Stp s x.1 (askL x l).1
  | [], x, hv, ho => Stp.refl hv ho
  | a :: l, x, hv, ho => by
    have h1 : Stp s x.1 (ask1 x a).1 := Stp.same hv ho rfl rfl rfl rfl rfl
    exact h1.trans (Stp.askL l (x := ask1 x a) h1.vok h1.ow)
theorem Stp.d2 {s : Nat} {d : Dt} (hv : Vok d) (ho : Ow s d) : Stp s d (d2 d) := by
  unfold Swi.d2
  split
  · have h1 := Stp.hears hv ho ⟨(cOf d d.asked).n, (cOf d d.asked).i, 2⟩ (cOf_may hv d.asked 2 (by omega))
    exact h1.trans (Stp.same h1.vok h1.ow rfl rfl rfl rfl rfl)
  · exact Stp.same hv ho rfl rfl rfl rfl rfl
theorem Stp.d100 {s : Nat} {d : Dt} (hv : Vok d) (ho : Ow s d) (id : Int) : Stp s d (d100 d id) := by
  unfold Swi.d100
  split
  · exact Stp.hears hv ho _ (cOf_may hv (id - 100) 3 (by omega))
  · exact Stp.refl hv ho
theorem Stp.dueS {s : Nat} {ps : List Int} {dr : Int} {x : Dt × List Om} (hv : Vok x.1) (ho : Ow s x.1) (id : Int) : Stp s x.1 (dueS ps dr x id).1 := by
  unfold Swi.dueS
  split
  · exact Stp.askL _ hv ho
  · split
    · exact Stp.d2 hv ho
    · exact Stp.d100 hv ho id
theorem Stp.dueA {s : Nat} {ps : List Int} {dr : Int} : ∀ (l : List Int) {x : Dt × List Om} (hv : Vok x.1) (ho : Ow s x.1), Stp s x.1 (dueA ps dr x l).1
  | [], x, hv, ho => Stp.refl hv ho
  | a :: l, x, hv, ho => by
    have h1 := Stp.dueS (ps := ps) (dr := dr) hv ho a
    exact h1.trans (Stp.dueA l h1.vok h1.ow)
theorem Stp.tick {s : Nat} {ps : List Int} {dr : Int} {d : Dt} (hv : Vok d) (ho : Ow s d) : Stp s d (dTick ps dr d).1 := by
  have h0 : Stp s d { d1 d with M := Wat.restL (d.now + 1) d.M } := Stp.same hv ho rfl rfl rfl rfl rfl
  have h1 : Stp s d (dDue ps dr d).1 := h0.trans (Stp.dueA _ (x := ({ d1 d with M := Wat.restL (d.now + 1) d.M }, [])) h0.vok h0.ow)
  unfold dTick
  split
  · exact Stp.same hv ho rfl rfl rfl rfl rfl
  · unfold tickA
    split
    · exact h1
    · split <;> exact h1.trans (Stp.same h1.vok h1.ow rfl rfl rfl rfl rfl)
theorem Stp.hear {s : Nat} {d : Dt} (hv : Vok d) (ho : Ow s d) (c : Cl) : Stp s d (dHear d c) := by
  unfold dHear
  split
  · rename_i h
    exact Stp.hears hv ho c (by unfold goodC at h; rw [Bool.and_eq_true] at h; exact h.1)
  · exact Stp.refl hv ho
/-- Leave. -/
theorem leave_step {s : Nat} {d : Dt} (hv : Vok d) (ho : Ow s d) : Vok (dLeave d) ∧ Ow s (dLeave d) ∧ Up d (dLeave d) ∧ d.inc ≤ (dLeave d).inc ∧ (dLeave d).left = true := by
  cases hl : d.left with
  | true =>
    rw [leave_same hl]
    exact ⟨hv, ho, Up.refl d, Int.le_refl _, hl⟩
  | false =>
    have hh := ho.here hl
    have v1 : Vok { d with left := true } := hv.of rfl rfl
    have e0 : dLeave d = dSays { d with left := true } 4 := by unfold dLeave; rw [hl]; rfl
    have e : Bel.hearB d.p d.q d.self d.inc 4 = true ∧ d.self = (s : Int) := by
      refine ⟨?_, ho.self⟩
      unfold Bel.hearB
      rw [ho.self]
      have m : mayC (s : Int) d.inc 4 = true := by have := ho.lt; have := ho.inc; unfold mayC; simp; omega
      rw [m]
      simp [hh.1]
      unfold cmpC
      rw [if_pos rfl, if_neg (by decide)]
      decide
    rw [e0]
    refine ⟨v1.says 4, ⟨ho.self, ho.lt, ho.inc, fun _ => ?_, fun e1 => ?_⟩, (Up.of (d' := { d with left := true }) rfl rfl).trans (Up.heard v1 ⟨d.self, d.inc, 4⟩), Int.le_refl _, rfl⟩
    · show Bel.upd d.q d.self 4 _ s = 4
      unfold Bel.upd
      exact if_pos e
    · cases e1
/-- Who hears that it is doubted. -/
theorem hear_doubt {s : Nat} {d : Dt} (ho : Ow s d) (c : Cl) (h1 : c.n = d.self) (h2 : c.h = 2 ∨ c.h = 3) (hm : mayC c.n c.i c.h = true) (h3 : d.inc ≤ c.i) : (c.i ≠ 1000000 → (dHear d c).inc = c.i + 1) ∧ (c.i = 1000000 → (dHear d c).over = true) := by
  have hg : goodC c = true := by
    unfold goodC
    rw [hm]
    rcases h2 with e | e <;> simp [e]
  have hd : dbt d.inc c.i c.h = true := by
    unfold dbt
    rcases h2 with e | e <;> simp [e, h3]
  unfold dHear
  rw [if_pos hg]
  unfold dHears
  rw [if_pos h1]
  unfold dRef
  rw [if_pos hd]
  refine ⟨fun e => by rw [if_neg e]; rfl, fun e => by rw [if_pos e]⟩
theorem new_ow {s : Nat} {i : Int} (hs : s < 8) (hi : 0 ≤ i ∧ i ≤ 1000000) : Ow s (dNew (s : Int) i) := by
  have e : Bel.hearB Bel.z8 Bel.z8 (s : Int) i 1 = true ∧ (s : Int) = (s : Int) := by
    refine ⟨?_, rfl⟩
    unfold Bel.hearB
    have m : mayC (s : Int) i 1 = true := by unfold mayC; simp; omega
    rw [m]
    show (true && (!((1 : Int) == 0) && decide (0 < cmpC i 1 0 0))) = true
    have : 0 < cmpC i 1 0 0 := by
      unfold cmpC
      rw [if_neg (by decide), if_neg (by decide)]
      split
      · omega
      · split
        · decide
        · rw [if_neg (by decide), if_pos (by decide)]; decide
    simp [this]
  refine ⟨rfl, hs, hi, (fun h => by cases h), fun _ => ?_⟩
  show Bel.upd Bel.z8 (s : Int) 1 _ s = 1 ∧ Bel.upd Bel.z8 (s : Int) i _ s = i
  unfold Bel.upd
  exact ⟨if_pos e, if_pos e⟩
/-- What is believed of all, as claims. -/
def lsC (sel : Nat → Bool) (p q : Nat → Int) : Nat → List Cl
  | 0 => []
  | k + 1 => if sel k then lsC sel p q k ++ [⟨(k : Int), p k, q k⟩] else lsC sel p q k
theorem lsC_cells (sel : Nat → Bool) (p q : Nat → Int) : ∀ k, Bel.listC sel p q k = Rum.cellsC (lsC sel p q k) ∧ Bel.cntC sel k = (lsC sel p q k).length
  | 0 => ⟨rfl, rfl⟩
  | k + 1 => by
    obtain ⟨h1, h2⟩ := lsC_cells sel p q k
    unfold Bel.listC Bel.cntC lsC
    split
    · refine ⟨?_, by rw [List.length_append, h2]; rfl⟩
      rw [Rum.cellsC_append, h1]
      rfl
    · exact ⟨h1, h2⟩
theorem lsC_mem (sel : Nat → Bool) (p q : Nat → Int) : ∀ k c, c ∈ lsC sel p q k → ∃ j, j < k ∧ c = ⟨(j : Int), p j, q j⟩
  | 0, c, h => by simp [lsC] at h
  | k + 1, c, h => by
    unfold lsC at h
    split at h
    · rcases List.mem_append.1 h with h1 | h1
      · obtain ⟨j, h2, h3⟩ := lsC_mem sel p q k c h1
        exact ⟨j, by omega, h3⟩
      · obtain rfl : c = _ := by simpa using h1
        exact ⟨k, by omega, rfl⟩
    · obtain ⟨j, h2, h3⟩ := lsC_mem sel p q k c h
      exact ⟨j, by omega, h3⟩
theorem listed_own {w w' : World} {sel : Nat → Bool} {p q : Nat → Int} {e : Ending} (h : Bel.Listed w sel p q e w') : ∃ A n c, e = .returned (.slice A n c) ∧ Rum.OwnC w' w.heap.size (.slice A n c) n (lsC sel p q 8) ∧ n ≤ c ∧ c ≤ 9223372036854775807 ∧ Below w.heap.size w w' := by
  obtain ⟨v, rfl, h1, h2⟩ := h
  obtain ⟨e1, e2⟩ := lsC_cells sel p q 8
  rw [e1, e2] at h1
  obtain ⟨A, c, rfl, k1, k2, _⟩ := Rowz.form h1
  exact ⟨A, _, c, rfl, ⟨rfl, h1⟩, k1, k2, h2⟩
end Go.Proofs.YthndjhocmpelcaaGreat.Swi
