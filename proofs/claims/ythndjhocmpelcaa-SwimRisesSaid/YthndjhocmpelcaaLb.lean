/- Chapter 6: words for the laws: rows of calls, how they are gone through; who has left stays so. Conditions: the rows lie in memory. -/
import Derived.Test.YthndjhocmpelcaaLa
namespace Go.Proofs.Ythndjhocmpelcaa.Swi
open Go.RowKit Kit Hth Tri3
set_option linter.unusedVariables false
theorem fld1 (x y z : Value) (w : World) : (Instr.field 48 (.agg #[x, y, z]) 1).run Try.prog w = .ok y w := by kernel_rfl
theorem fld2 (x y z : Value) (w : World) : (Instr.field 48 (.agg #[x, y, z]) 2).run Try.prog w = .ok z w := by kernel_rfl
theorem zcall_size : Try.zeroCells58.size = 68 := by kernel_rfl
theorem size58 : (Try.prog.info? 58).map (·.size) = some 68 := by kernel_rfl
/-- Calls lie from A on. -/
def QsAt (w : World) (A : Option Addr) (qs : List Qc) : Prop :=
  ∀ (i : Nat) (q : Qc), qs[i]? = some q → ∃ b off es, A = some ⟨b, off, none⟩ ∧ b < w.heap.size ∧ w.rangeAt b (off + i * 68) es ∧ CallL w es q
theorem list_ofQ (P : Nat → Qc → Prop) : ∀ n, (∀ i, i < n → ∃ c, P i c) → ∃ ls : List Qc, ls.length = n ∧ ∀ (i : Nat) (c : Qc), ls[i]? = some c → P i c
  | 0, _ => ⟨[], rfl, fun i c h => by simp at h⟩
  | n + 1, h => by
    obtain ⟨ls, hl, hp⟩ := list_ofQ P n (fun i hi => h i (by omega))
    obtain ⟨c, hc⟩ := h n (by omega)
    refine ⟨ls ++ [c], by simp [hl], fun i d hd => ?_⟩
    by_cases hi : i < n
    · rw [List.getElem?_append_left (by omega)] at hd
      exact hp i d hd
    · rw [List.getElem?_append_right (by omega)] at hd
      have : i = n := by
        have := (List.getElem?_eq_some_iff.1 hd).1
        simp at this; omega
      subst this
      rw [hl] at hd
      simp at hd
      subst hd
      exact hc
theorem rd_calls {w : World} {A : Option Addr} {n c : Nat} (h : RD w (.slice shCall) [.slice A n c]) : ∃ qs : List Qc, qs.length = n ∧ QsAt w A qs ∧ n ≤ c ∧ c ≤ maxLen := by
  rcases h with h | ⟨a, len, cap, h, hl, hm, hi⟩
  · simp only [List.cons.injEq, Value.slice.injEq, and_true] at h
    obtain ⟨rfl, rfl, rfl⟩ := h
    exact ⟨[], rfl, fun i c h => by simp at h, Nat.le_refl _, by simp [maxLen]⟩
  · simp only [List.cons.injEq, Value.slice.injEq, and_true] at h
    obtain ⟨rfl, rfl, rfl⟩ := h
    have e68 : shCall.size = 68 := rfl
    obtain ⟨qs, hls, hp⟩ := list_ofQ (fun i q => ∃ b off es, some a = some ⟨b, off, none⟩ ∧ b < w.heap.size ∧ w.rangeAt b (off + i * 68) es ∧ CallL w es q) n (fun i hin => by
      obtain ⟨es, hel, hat, hr⟩ := hi i hin
      rw [e68] at hat
      obtain ⟨q, hq⟩ := rd_call hr
      have hs : a.spot = none := by
        cases hsp : a.spot with
        | none => rfl
        | some v =>
          obtain ⟨es0, hel0, hat0, hr0⟩ := hi 0 (by omega)
          obtain ⟨q0, hq0⟩ := rd_call hr0
          have := hat0 0 (by rw [e68]; omega)
          rw [hq0.e0] at this
          unfold Addr.add at this
          simp [World.cell?, hsp] at this
          split at this <;> simp at this
      have hr2 : w.rangeAt a.block (a.off + i * 68) es := fun j v hv => by
        have hj : j < 68 := by have := (List.getElem?_eq_some_iff.1 hv).1; rw [hq.len] at this; exact this
        have := hat j hj
        rw [Tri3.add_off a _ hs] at this
        rw [Nat.add_assoc, this, hv]
      refine ⟨q, a.block, a.off, es, ?_, ?_, hr2, hq⟩
      · obtain ⟨b, o, s⟩ := a; simp only at hs; subst hs; rfl
      · exact World.block_lt_of_cell? w ⟨a.block, a.off + i * 68 + 0, none⟩ (hr2 0 _ hq.e0))
    exact ⟨qs, hls, hp, hl, hm⟩
theorem range_keep {w w' : World} {b o : Nat} {es : List Value} (h : w.rangeAt b o es) (hb : b < w.heap.size → w'.heap[b]? = w.heap[b]?) : w'.rangeAt b o es := fun j v hv => by
  have h0 := h j v hv
  rw [← h0]
  have := hb (World.block_lt_of_cell? w _ h0)
  simp [World.cell?, this]
theorem CallL.noS {w : World} {es : List Value} {q : Qc} {S : Nat → Prop} (h : CallL w es q) (hS : ∀ k, S k → w.heap.size ≤ k) : Hid (∀ b off, q.P = some ⟨b, off, none⟩ → 0 < q.n → ¬ S b) := Hid.mk_ (fun b off e hn hs => by
  have hl := h.ln
  obtain ⟨c, hc⟩ : ∃ c, q.ls[0]? = some c := ⟨_, List.getElem?_eq_getElem (by omega)⟩
  obtain ⟨b', off', e', hlt, _⟩ := h.cl 0 c hc
  rw [e'] at e
  injection e with e
  injection e with e1 _
  have := hS b hs
  omega)
theorem CallL.noA {w : World} {es : List Value} {q : Qc} {S : Nat → Prop} (h : CallL w es q) (hS : ∀ k, S k → w.heap.size ≤ k) : Hid (∀ b off, q.Ap = some ⟨b, off, none⟩ → 0 < q.np → ¬ S b) := Hid.mk_ (fun b off e hn hs => by
  have hl := h.pn
  obtain ⟨c, hc⟩ : ∃ c, q.ps[0]? = some c := ⟨_, List.getElem?_eq_getElem (by omega)⟩
  obtain ⟨b', off', e', hcell⟩ := h.row 0 c hc
  have hlt := World.block_lt_of_cell? w _ hcell
  rw [e'] at e
  injection e with e
  injection e with e1 _
  have := hS b hs
  simp only at hlt
  omega)
/-- A call that was loaded lies in a block of its own. -/
theorem call_box (wr : World) (es : List Value) : ((wr.alloc (.cells Try.zeroCells58 58)).setRow wr.heap.size es.toArray).heap[wr.heap.size]? = some (.cells es.toArray 58 (0, 0)) ∧ Below wr.heap.size wr ((wr.alloc (.cells Try.zeroCells58 58)).setRow wr.heap.size es.toArray) := by
  have b1 := (Below.refl wr.heap.size wr).alloc (Nat.le_refl _) (.cells Try.zeroCells58 58)
  have r : Rum.Wr (wr.alloc (.cells Try.zeroCells58 58)) ((wr.alloc (.cells Try.zeroCells58 58)).setRow wr.heap.size es.toArray) (fun j => j = wr.heap.size) := ⟨rfl, rfl, rfl, by simp, fun j hj hn => setRow_other _ _ j _ hn⟩
  exact ⟨setRow_heap _ _ _ _ 58 (0, 0) (heap_alloc_new wr (.cells Try.zeroCells58 58)), b1.trans (r.below b1.size (fun i hi => by omega))⟩
theorem rowe {w : World} {z i : Nat} {es : List Value} {t : TypeId} {v : Value} (h : w.heap[z]? = some (.cells es.toArray t (0, 0))) (hv : es[i]? = some v) : w.cell? ⟨z, i, none⟩ = some v := by
  rw [cell_of_row w z i _ t (0, 0) h]
  simpa using hv
theorem rowe_msg {w : World} {z : Nat} {es : List Value} {t : TypeId} (h : w.heap[z]? = some (.cells es.toArray t (0, 0))) : w.rangeAt z 4 ((es.drop 4).take 62) := row_msg h
theorem call_one {w : World} {es : List Value} {q : Qc} (h : CallL w es q) : es.toArray.all (·.oneCell') = true := by
  rw [Array.all_eq_true_iff_forall_mem]
  intro v hv
  exact h.one v (by simpa using hv)
theorem call_size {w : World} {es : List Value} {q : Qc} (h : CallL w es q) : (Try.prog.info? 58).map (·.size) = some es.toArray.size := by rw [size58]; simp [h.len]
theorem call_size2 {w : World} {es : List Value} {q : Qc} (h : CallL w es q) : (Try.prog.info? 58).map (·.size) = some es.length := by rw [size58, h.len]
theorem call_size3 {w : World} {es : List Value} {q : Qc} (h : CallL w es q) : Try.zeroCells58.size = es.toArray.size := by rw [zcall_size]; simp [h.len]
/-- What comes behind. -/
theorem DTurn.next {w0 wr wb w2 : World} {S0 S1 : Nat → Prop} {g : Nat} {d : Dt} (r1 : Rum.Wr w0 wr S0) (k1 : ∀ k, S1 k → S0 k ∨ w0.heap.size ≤ k) (hb : Below wr.heap.size wr wb) (t : DTurn wb w2 S1 g d) : DTurn w0 w2 S0 g d :=
  DTurn.after (r1.then_ (Rum.Wr.of_below hb (fun _ => False)) (fun _ h => h.elim)) k1 t
theorem DTurn.size {w0 wr : World} {S0 : Nat → Prop} {g : Nat} {d : Dt} (h : DTurn w0 wr S0 g d) : w0.heap.size ≤ wr.heap.size := by
  obtain ⟨_, _, _, r⟩ := h
  exact r.size
theorem DTurn.belowB {B : Nat} {w0 wr : World} {S0 : Nat → Prop} {g : Nat} {d : Dt} (h : DTurn w0 wr S0 g d) (hB : B ≤ w0.heap.size) (hS : ∀ k, S0 k → B ≤ k) : Below B w0 wr := by
  obtain ⟨_, _, _, r⟩ := h
  exact r.below hB hS
set_option maxRecDepth 100000 in
theorem node20 (n : Int) (w : World) (q : Bool) (hq : Hid (q = nodeB n)) : Calls Try.prog 20 #[.int .i64 n] w fun e w' => e = .returned (.bool q) ∧ w' = w := by
  by_cases h0 : 0 ≤ n
  · by_cases h1 : n < 8
    · go_enter Try.func20, Try.ntmps20
      go_wp2_with fail
      go_ret
      exact ⟨by rw [hq.out]; simp [nodeB, h0, h1], rfl⟩
    · go_enter Try.func20, Try.ntmps20
      go_wp2_with fail
      go_ret
      exact ⟨by rw [hq.out]; simp [nodeB, h1], rfl⟩
  · go_enter Try.func20, Try.ntmps20
    go_wp2_with fail
    go_ret
    exact ⟨by rw [hq.out]; simp [nodeB]; omega, rfl⟩
/-- What is known behind light. -/
def LightP (w : World) (n : Nat) (e : Ending) (w' : World) : Prop := ∃ b, e = .returned (.bool b) ∧ Hid (b = true → n ≤ 80) ∧ Below w.heap.size w w'
set_option maxRecDepth 100000 in
set_option maxHeartbeats 8000000 in
theorem light1 (w : World) (A : Option Addr) (n c : Nat) (qs : List Qc) (hq : Hid (QsAt w A qs)) (hn : Hid (n = qs.length)) (hc : n ≤ c) (hcc : c ≤ 9223372036854775807) :
    Calls Try.prog 16 #[.slice A n c] w (LightP w n) := by
  go_enter Try.func16, Try.ntmps16
  go_wp2_with fail
  go_loopw [7] (fun i wr => ∃ j : Nat, i = .int .i64 (j : Int) ∧ j ≤ n ∧ j ≤ 80 ∧ Hid (Below w.heap.size w wr)) (fun i _ => n - (intOf i).toNat)
  case atStart => exact ⟨0, rfl, by omega, by omega, Hid.mk_ (Below.refl _ _)⟩
  case round =>
    obtain ⟨j, rfl, hj, hj8, HB⟩ := hrel
    by_cases hlt : j < n
    · obtain ⟨q, hqj⟩ : ∃ q, qs[j]? = some q := ⟨_, List.getElem?_eq_getElem (by have := hn.out; omega)⟩
      obtain ⟨b, off, es, rfl, hb, hr, hl⟩ := hq.out j q hqj
      have HL := Hid.mk_ hl
      have HR : Hid (wr.rangeAt b (off + j * 68) es) := Hid.mk_ (range_keep hr (fun h => HB.out.block b h))
      clear hqj hb hr hl
      have l1 : (j : Int) < (n : Int) := by omega
      have l0 : (0 : Int) ≤ (j : Int) := by omega
      have CB := Hid.mk_ (call_box wr es)
      have ZZ := Hid.mk_ (heap_alloc_new wr (.cells Try.zeroCells58 58))
      go_upto_region 4 with (first
        | (refine wpList_load_mid rfl 58 _ rfl b (off + j * 68) rfl es _ HR.out Try.underlying58 rfl (call_size2 HL.out) ?_)
        | (refine wpList_store_row rfl 58 _ _ rfl wr.heap.size es.toArray rfl rfl 58 _ ZZ.out (call_size HL.out) (call_size3 HL.out) (call_one HL.out) ?_))
      have HB2 := Hid.mk_ (HB.out.trans (CB.out.2.mono HB.out.size))
      clear ZZ
      generalize (wr.alloc (.cells Try.zeroCells58 58)).setRow wr.heap.size es.toArray = wb at *
      generalize wr.heap.size = z at *
      have y65 : wb.cell? ⟨z, 65, none⟩ = some (.slice q.P q.n q.cc) := rowe CB.out.1 HL.out.e65
      have y66 : wb.cell? ⟨z, 66, none⟩ = some (.slice q.Ap q.np q.cp) := rowe CB.out.1 HL.out.e66
      clear CB
      by_cases h80 : 80 ≤ j
      · have h80b : (80 : Int) ≤ (j : Int) := by omega
        go_wp2_with fail
        go_ret
        exact ⟨false, rfl, Hid.mk_ (fun h => by cases h), HB2.out⟩
      · have h80b : ¬ (80 : Int) ≤ (j : Int) := by omega
        by_cases h20 : 20 < q.n
        · have h20b : (20 : Int) < (q.n : Int) := by omega
          go_wp2_with fail
          go_ret
          exact ⟨false, rfl, Hid.mk_ (fun h => by cases h), HB2.out⟩
        · have h20b : ¬ (20 : Int) < (q.n : Int) := by omega
          by_cases h21 : 20 < q.np
          · have h21b : (20 : Int) < (q.np : Int) := by omega
            go_wp2_with fail
            go_ret
            exact ⟨false, rfl, Hid.mk_ (fun h => by cases h), HB2.out⟩
          · have h21b : ¬ (20 : Int) < (q.np : Int) := by omega
            go_wp2_with fail
            go_roundw
            case rel => exact ⟨j + 1, by go_num, by omega, by omega, HB2⟩
            case measure => simp [intOf]; omega
    · obtain rfl : j = n := by omega
      go_wp2_with fail
      go_ret
      exact ⟨true, rfl, Hid.mk_ (fun _ => hj8), HB.out⟩
/-- Who is held to have left is so from then on. -/
theorem left_not {d : Dt} {n : Nat} (h : d.q n = 4) (c : Cl) : ¬ (Bel.hearB d.p d.q c.n c.i c.h = true ∧ c.n = (n : Int)) := by
  rintro ⟨h1, h2⟩
  unfold Bel.hearB at h1
  rw [h2] at h1
  simp [h] at h1
  have := h1.2.2
  unfold cmpC at this
  split at this
  · simp at this
  · simp at this
theorem left_heard {d : Dt} {n : Nat} (h : d.q n = 4) (c : Cl) : (dHeard d c).q n = 4 := by
  unfold dHeard Bel.upd
  simp only
  rw [if_neg (left_not h c)]
  exact h
theorem left_says {d : Dt} {n : Nat} (h : d.q n = 4) (x : Int) : (dSays d x).q n = 4 := left_heard h ⟨d.self, d.inc, x⟩
theorem left_ref {d : Dt} {n : Nat} (h : d.q n = 4) (i x : Int) : (dRef d i x).q n = 4 := by
  unfold dRef
  split
  · split
    · exact h
    · exact left_says (d := { d with inc := i + 1 }) h 1
  · exact h
theorem left_hears {d : Dt} {n : Nat} (h : d.q n = 4) (c : Cl) : (dHears d c).q n = 4 := by
  unfold dHears
  split
  · exact left_ref h _ _
  · split
    · exact left_heard h c
    · exact h
theorem left_meetL {n : Nat} : ∀ (l : List Cl) {d : Dt} (h : d.q n = 4) (k : Nat), (meetL d k l).1.q n = 4
  | [], d, h, k => h
  | a :: l, d, h, k => by
    rw [meetL]
    split
    · exact left_meetL l (left_hears h a) _
    · exact left_meetL l h _
theorem left_meets {d : Dt} {n : Nat} (h : d.q n = 4) (f : Int) (l : List Cl) : (dMeets d f l).q n = 4 := by
  unfold dMeets
  simp only
  split
  · exact left_meetL l h 0
  · exact left_hears (left_meetL l h 0) _
theorem ans_q (d : Dt) (k s fo : Int) : (dAns d k s fo).q = d.q ∧ (dAns d k s fo).p = d.p ∧ (dAns d k s fo).left = d.left ∧ (dAns d k s fo).now = d.now ∧ (dAns d k s fo).self = d.self ∧ (dAns d k s fo).inc = d.inc := by
  unfold dAns
  split <;> exact ⟨rfl, rfl, rfl, rfl, rfl, rfl⟩
theorem left_handle {d : Dt} {n : Nat} (h : d.q n = 4) (k f t s fo ab : Int) (ls : List Cl) : (dHandle d k f t s fo ab ls).q n = 4 := by
  have h1 := left_meets h f ls
  have h2 : (dAns (dMeets d f ls) k s fo).q n = 4 := by rw [(ans_q _ k s fo).1]; exact h1
  unfold dHandle
  split
  · exact h
  · split
    · exact h2
    · exact h2
/-- One that has left sends nothing. -/
theorem handle_left {d : Dt} (h : d.left = true) (k f t s fo ab : Int) (ls : List Cl) : oHandle d k f t s fo ab ls = [] ∧ (dHandle d k f t s fo ab ls).left = true ∧ (dHandle d k f t s fo ab ls).now = d.now := by
  have h1 : (dAns (dMeets d f ls) k s fo).left = true := by rw [(ans_q _ k s fo).2.2.1, (Kp.meets d f ls).left]; exact h
  have h2 : (dAns (dMeets d f ls) k s fo).now = d.now := by rw [(ans_q _ k s fo).2.2.2.1, (Kp.meets d f ls).now]
  unfold oHandle dHandle
  split
  · exact ⟨rfl, h, rfl⟩
  · rw [if_pos (.inr h1), if_pos (.inr h1)]
    exact ⟨rfl, h1, h2⟩
theorem tick_leftD {d : Dt} (h : d.left = true) (ps : List Int) (dr : Int) : dTick ps dr d = (d1 d, []) := by unfold dTick; rw [if_pos h]
theorem hear_kp (d : Dt) (c : Cl) : Kp d (dHear d c) := by
  unfold dHear
  split
  · exact Kp.hears d c
  · exact Kp.refl d
theorem left_hear {d : Dt} {n : Nat} (h : d.q n = 4) (c : Cl) : (dHear d c).q n = 4 := by
  unfold dHear
  split
  · exact left_hears h c
  · exact h
theorem Vok.hear {d : Dt} (h : Vok d) (c : Cl) : Vok (dHear d c) := by
  unfold dHear
  split
  · exact h.hears c
  · exact h
theorem Vok.leave {d : Dt} (h : Vok d) : Vok (dLeave d) := by
  unfold dLeave
  split
  · exact h
  · exact Vok.says (d := { d with left := true }) (h.of rfl rfl) 4
theorem leave_same {d : Dt} (h : d.left = true) : dLeave d = d := by unfold dLeave; rw [h]; rfl
end Go.Proofs.Ythndjhocmpelcaa.Swi
