/- ProbeSome: the walk of the law: so many different ones of different ones. Condition: the row lies in memory. -/
import Derived.Test.YthobimdnjggkfaaPrP
namespace Go.Proofs.Ythobimdnjggkfaa.WProbeSome
open Go.RowKit Kit Prb
set_option linter.unusedVariables false
theorem mem_br {me : Int} {zs : List Int} {x : Int} : ∀ {k : Nat}, x ∈ br me zs k → ∃ i : Nat, i < k ∧ x = (i : Int)
  | 0, h => by simp [br] at h
  | k + 1, h => by
    unfold br at h
    split at h
    · rcases List.mem_append.1 h with h | h
      · obtain ⟨i, h1, h2⟩ := mem_br h
        exact ⟨i, by omega, h2⟩
      · exact ⟨k, by omega, by simpa using h⟩
    · obtain ⟨i, h1, h2⟩ := mem_br h
      exact ⟨i, by omega, h2⟩
theorem br_count (me : Int) (zs : List Int) (x : Int) : ∀ k, (br me zs k).count x ≤ 1
  | 0 => by simp [br]
  | k + 1 => by
    have ih := br_count me zs x k
    unfold br
    split
    · rw [List.count_append]
      by_cases h : (k : Int) = x
      · have : (br me zs k).count x = 0 := List.count_eq_zero.2 fun hm => by
          obtain ⟨i, h1, h2⟩ := mem_br hm
          omega
        rw [this]
        simp [List.count_cons]
        split <;> omega
      · simp [List.count_cons, h]
        exact ih
    · exact ih
/-- m: different ones; s: some of them, each once. -/
structure Dif (m s : List Int) : Prop where
  one : ∀ x, m.count x ≤ 1
  le : ∀ x, s.count x ≤ m.count x
  rng : ∀ x, x ∈ m → ∃ a : Nat, a < 8 ∧ x = (a : Int)
theorem Dif.mem {m s : List Int} (h : Dif m s) {x : Int} (hx : x ∈ s) : x ∈ m := List.count_pos_iff.1 (Nat.lt_of_lt_of_le (List.count_pos_iff.2 hx) (h.le x))
theorem Dif.fresh {m s : List Int} (h : Dif m s) {j : Nat} {x : Int} (hx : s[j]? = some x) : ¬ x ∈ s.take j := fun hm => by
  have h1 := h.le x
  have h2 := h.one x
  have h3 : (s.take (j + 1)).count x ≤ s.count x := (List.take_sublist _ _).count_le x
  rw [count_step s j x x hx, if_pos rfl] at h3
  have := List.count_pos_iff.2 hm
  omega
theorem Dif.len {m s : List Int} (h : Dif m s) : (m.filter fun x => decide (x ∈ s)).length = s.length := by
  refine List.Perm.length_eq (List.perm_iff_count.2 fun x => ?_)
  by_cases hx : x ∈ s
  · rw [List.count_filter (by simpa using hx)]
    have h1 := h.le x
    have h2 := h.one x
    have := List.count_pos_iff.2 hx
    omega
  · rw [List.count_eq_zero.2 hx, List.count_eq_zero.2 (fun hm => hx (by simpa using (List.mem_filter.1 hm).2))]
theorem dif (zs : List Int) (d : Int) (r : Nat) : Dif (br (-1) zs 8) ((shuf (br (-1) zs 8).length d (br (-1) zs 8)).take r) :=
  ⟨fun x => br_count _ _ x 8, fun x => by
    rw [← shuf_count _ d (br (-1) zs 8) (Nat.le_refl _) x]
    exact (List.take_sublist _ _).count_le x, fun x hx => mem_br hx⟩
theorem filter_step (m s : List Int) (j : Nat) (x : Int) (hx : m[j]? = some x) : ((m.take (j + 1)).filter fun x => decide (x ∈ s)).length = ((m.take j).filter fun x => decide (x ∈ s)).length + if x ∈ s then 1 else 0 := by
  rw [List.take_add_one, hx, List.filter_append, List.length_append]
  congr 1
  by_cases h : x ∈ s <;> simp [h]
def ins (s : List Int) (k : Nat) : Value := .int .i64 (if (k : Int) ∈ s then 1 else 0)
theorem big (A : Option Addr) (n c : Nat) (zs : List Int) (k d : Int) (w : World) (hr : Hid (Row w A zs)) (hn : Hid (n = zs.length)) (h : 60 < n) (hm : n ≤ 9223372036854775807) :
    Calls Try.prog 4 #[.slice A n c, .int .i64 k, .int .u64 d] w fun e w' => e = .returned (.bool true) ∧ Below w.heap.size w w' := by
  go_enter Try.func4, Try.ntmps4
  go_wp2_with fail
  refine (peers A n c zs (-1) _ hr hn hm).mono ?_
  rintro e w1 ⟨A1, c1, rfl, own1, b1⟩
  go_wp2_with fail
  refine Calls.cells (awakeP _) ?_
  intro w3 h3 c3
  go_wp2_with fail
  go_ret
  exact ⟨rfl, b1.trans (h3.mono b1.size)⟩
set_option maxHeartbeats 4000000 in
theorem small (A : Option Addr) (n c : Nat) (zs : List Int) (k d : Int) (w : World) (hr : Hid (Row w A zs)) (hn : Hid (n = zs.length)) (h : n ≤ 60) (hd : Hid (0 ≤ d)) :
    Calls Try.prog 4 #[.slice A n c, .int .i64 k, .int .u64 d] w fun e w' => e = .returned (.bool true) ∧ Below w.heap.size w w' := by
  have hD := dif zs d
  have hl8 := br_len (-1) zs 8
  go_enter Try.func4, Try.ntmps4
  go_wp2_with fail
  refine (peers A n c zs (-1) _ hr hn (by omega)).mono ?_
  rintro e w1 ⟨A1, c1, rfl, own1, b1⟩
  generalize br (-1) zs 8 = ms at *
  obtain ⟨m, em⟩ : ∃ m, m = ms.length := ⟨_, rfl⟩
  rw [← em] at own1 hl8 ⊢
  have EM := Hid.mk_ em
  clear em
  obtain ⟨hc1, hm1⟩ := own1.bounds
  obtain ⟨s, hs⟩ : ∃ s, shuf (ms.take 64).length d (ms.take 64) = s := ⟨_, rfl⟩
  have hs' : shuf ms.length d ms = s := by rw [List.take_of_length_le (by have := EM.out; omega)] at hs; exact hs
  have hsl : s.length = m := by rw [← hs', shuf_len, EM.out]
  rw [hs'] at hD
  obtain ⟨r, hrr⟩ : ∃ r, many k s.length = r := ⟨_, rfl⟩
  have D := Hid.mk_ (hD r)
  have me := many_eq k s.length
  have ml := many_le k s.length
  rw [hrr, hsl] at me ml
  have HS := Hid.mk_ hs
  have HR := Hid.mk_ hrr
  have SL := Hid.mk_ hsl
  clear hs hs' hsl hrr hD
  have R1 := Hid.mk_ own1.row.2.1
  have O1 := Hid.mk_ own1
  clear own1
  go_wp2_with fail
  refine (some0 A1 m c1 ms k d _ R1 EM (by omega) hc1 hd s HS r HR).mono ?_
  rintro e w2 ⟨A2, c2, rfl, own2, hrs, b2⟩
  rw [SL.out] at hrs
  have R2 := Hid.mk_ (R1.out.below b2)
  have S2 := Hid.mk_ (own2.row.2.1.take r)
  have B2 := Hid.mk_ (b1.trans (b2.mono b1.size))
  have hl4 : Hid (r = (s.take r).length) := Hid.mk_ (by have := SL.out; simp; omega)
  clear own2 R1 O1 HS HR b1 b2
  generalize s.take r = t at *
  clear SL
  go_upto_region 6 with fail
  have a0 : Arr (w2.alloc (.cells #[.int .i64 0, .int .i64 0, .int .i64 0, .int .i64 0, .int .i64 0, .int .i64 0, .int .i64 0, .int .i64 0] 30)) w2.heap.size 30 (ins (t.take 0)) :=
    (show Arr _ _ _ (fun _ => .int .i64 0) from heap_alloc_new w2 _).congr fun k _ => by simp [ins]
  have b0 : Below w2.heap.size w2 (w2.alloc (.cells #[.int .i64 0, .int .i64 0, .int .i64 0, .int .i64 0, .int .i64 0, .int .i64 0, .int .i64 0, .int .i64 0] 30)) := (Below.refl _ _).alloc (Nat.le_refl _) _
  have A0 := Hid.mk_ a0
  have B0 := Hid.mk_ b0
  clear a0 b0
  go_wp2_with fail
  go_loopw [11, 27] (fun _ i wr => ∃ j : Nat, j ≤ r ∧ i = .int .i64 (j : Int) ∧ Hid (Arr wr w2.heap.size 30 (ins (t.take j))) ∧ Hid (Below w2.heap.size w2 wr)) (fun _ i _ => r - (intOf i).toNat)
  case atStart => exact ⟨0, by omega, rfl, A0, B0⟩
  case round =>
    clear A0 B0
    obtain ⟨j, hj, rfl, ha, hb⟩ := hrel
    by_cases hlt : j < r
    · obtain ⟨x, hx⟩ : ∃ x, t[j]? = some x := ⟨_, List.getElem?_eq_getElem (by have := hl4.out; omega)⟩
      obtain ⟨b1, o1, rfl, cx⟩ := (S2.out.keep fun b _ _ hlt => hb.out.block b hlt) j x hx
      have hst : t.take (j + 1) = t.take j ++ [x] := by rw [List.take_add_one, hx]; rfl
      have HX := Hid.mk_ hst
      have hfr := D.out.fresh hx
      obtain ⟨a, a8, rfl⟩ := D.out.rng x (D.out.mem (List.mem_of_getElem? hx))
      have ca := ha.out.cell a a8
      rw [show ins (t.take j) a = .int .i64 0 by simp [ins, hfr]] at ca
      have fa := ha.out.frozen a
      have i0 : (0 : Int) ≤ (a : Int) := by omega
      have i1 : (a : Int) < 8 := by omega
      have A3 := Hid.mk_ ((ha.out.set a a8 (.int .i64 1)).congr (g := ins (t.take (j + 1))) fun k _ => by
        rw [HX.out]
        unfold upd ins
        by_cases h : k = a
        · subst h
          simp
        · have : ¬ (k : Int) = (a : Int) := by omega
          simp [h, this])
      have B3 := Hid.mk_ (hb.out.trans ((Below.refl w2.heap.size wr).setCell (p := ⟨w2.heap.size, a, none⟩) (Nat.le_refl _) (.int .i64 1)))
      clear hx hst hfr ha hb
      go_wp2_with fail
      go_roundw
      case rel => exact ⟨j + 1, by omega, by go_num, A3, B3⟩
      case measure => simp [intOf]; omega
    · obtain rfl : j = r := by omega
      rw [List.take_of_length_le (by have := hl4.out; omega)] at ha
      have R3 := Hid.mk_ (R2.out.keep fun b _ _ hlt => hb.out.block b hlt)
      go_wp2_with fail
      go_loop [12, 48] (fun v i => ∃ (l q : Nat), l ≤ m ∧ i = .int .i64 (l : Int) ∧ v = .int .i64 (q : Int) ∧ q ≤ l ∧ Hid (q = ((ms.take l).filter fun x => decide (x ∈ t)).length)) (fun _ i => m - (intOf i).toNat)
      case atStart => exact ⟨0, 0, by omega, rfl, rfl, by omega, Hid.mk_ (by simp)⟩
      case round =>
        obtain ⟨l, q, hl, rfl, rfl, hql, hq⟩ := hrel
        by_cases hlt2 : l < m
        · obtain ⟨x, hx⟩ : ∃ x, ms[l]? = some x := ⟨_, List.getElem?_eq_getElem (by have := EM.out; omega)⟩
          obtain ⟨b1, o1, rfl, cx⟩ := R3.out l x hx
          have HF := Hid.mk_ (filter_step ms t l x hx)
          obtain ⟨a, a8, rfl⟩ := D.out.rng x (List.mem_of_getElem? hx)
          have ca := ha.out.cell a a8
          have i0 : (0 : Int) ≤ (a : Int) := by omega
          have i1 : (a : Int) < 8 := by omega
          clear hx
          by_cases hin : (a : Int) ∈ t
          · rw [show ins t a = .int .i64 1 by simp [ins, hin]] at ca
            go_wp2_with fail
            go_round
            case rel => exact ⟨l + 1, q + 1, by omega, by go_num, by go_num, by omega, Hid.mk_ (by rw [HF.out, ← hq.out, if_pos hin])⟩
            case measure => simp [intOf]; omega
          · rw [show ins t a = .int .i64 0 by simp [ins, hin]] at ca
            go_wp2_with fail
            go_round
            case rel => exact ⟨l + 1, q, by omega, by go_num, by go_num, by omega, Hid.mk_ (by rw [HF.out, ← hq.out, if_neg hin]; rfl)⟩
            case measure => simp [intOf]; omega
        · obtain rfl : l = m := by omega
          obtain rfl : q = j := by
            have h := hq.out
            rw [List.take_of_length_le (by have := EM.out; omega), D.out.len] at h
            have := hl4.out
            omega
          go_wp2_with fail
          refine Calls.cells (awakeP _) ?_
          intro w6 b6 _
          go_wp2_with fail
          go_ret
          have B5 := B2.out.trans (hb.out.mono B2.out.size)
          exact ⟨rfl, B5.trans (b6.mono B5.size)⟩
def sh0 : Sh := .int .i64
theorem walk (w : World) (A : Option Addr) (n c : Nat) (h : RD w (.slice sh0) [.slice A n c]) (k : Int) (hk : (Lit.int .i64 k).wf = true) (d : Int) (hd : (Lit.int .u64 d).wf = true) :
    Calls Try.prog 4 #[.slice A n c, .int .i64 k, .int .u64 d] w fun e w' => e = .returned (.bool true) ∧ Below w.heap.size w w' := by
  obtain ⟨zs, h1, h2, h3, h4, _⟩ := rd_ints h
  by_cases h60 : 60 < n
  · exact big A n c zs k d w (Hid.mk_ h2) (Hid.mk_ h1.symm) h60 (by omega)
  · exact small A n c zs k d w (Hid.mk_ h2) (Hid.mk_ h1.symm) (by omega) (Hid.mk_ (by
      simp [Lit.wf] at hd
      exact hd.1))
end Go.Proofs.Ythobimdnjggkfaa.WProbeSome
