/- Chapter 2: how loud a claim is, as a number; what a row of claims leaves, by loudness. Plain. -/
import Derived.Test.YthobimdnjggkfaaBelQ
namespace Go.Proofs.Ythobimdnjggkfaa.Bel
open PBeliefJoins
def key (i h : Int) : Int := if h = 4 then 8000008 else i * 8 + h
def okIH (i h : Int) : Prop := 0 ≤ i ∧ i ≤ 1000000 ∧ 0 ≤ h ∧ h ≤ 4 ∧ (h = 0 → i = 0)
theorem cmp_pos {i h j k : Int} (a : okIH i h) (b : okIH j k) : 0 < cmpC i h j k ↔ key j k < key i h := by
  unfold okIH at a b
  unfold cmpC key
  repeat' split
  all_goals omega
theorem cmp_zero {i h j k : Int} (a : okIH i h) (b : okIH j k) : cmpC i h j k = 0 ↔ key i h = key j k := by
  unfold okIH at a b
  unfold cmpC key
  repeat' split
  all_goals omega
theorem cmp_neg {i h j k : Int} (a : okIH i h) (b : okIH j k) : cmpC i h j k < 0 ↔ key i h < key j k := by
  unfold okIH at a b
  unfold cmpC key
  repeat' split
  all_goals omega
theorem key_nonneg {i h : Int} (a : okIH i h) : 0 ≤ key i h := by
  unfold okIH at a
  unfold key
  split <;> omega
theorem key_zero {i h : Int} (a : okIH i h) : key i h = 0 ↔ h = 0 := by
  unfold okIH at a
  unfold key
  split <;> omega
def good (c : Cl) : Bool := mayC c.n c.i c.h && !(c.h == 0)
theorem good_iff (c : Cl) : good c = true ↔ 0 ≤ c.n ∧ c.n < 8 ∧ 0 ≤ c.i ∧ c.i ≤ 1000000 ∧ 1 ≤ c.h ∧ c.h ≤ 4 := by
  unfold good mayC
  simp
  omega
theorem good_ok {c : Cl} (h : good c = true) : okIH c.i c.h := by
  have := (good_iff c).1 h
  unfold okIH
  omega
def Ok (s : St) : Prop := ∀ m, okIH (s.p m) (s.q m)
def K (s : St) (m : Nat) : Int := key (s.p m) (s.q m)
theorem hb_key {s : St} (h : Ok s) (c : Cl) : hb s c = (good c && decide (K s c.n.toNat < key c.i c.h)) := by
  cases hg : good c with
  | false =>
    unfold hb hearB
    unfold good at hg
    rw [← Bool.and_assoc, hg]
    simp
  | true =>
    have hk := cmp_pos (good_ok hg) (h c.n.toNat)
    unfold hb hearB
    have hg' := hg
    unfold good at hg'
    rw [← Bool.and_assoc, hg']
    simp only [Bool.true_and]
    rw [Bool.eq_iff_iff]
    simp only [decide_eq_true_eq]
    exact hk
theorem hear1_at {s : St} {c : Cl} {m : Nat} (h : hb s c = true ∧ c.n = (m : Int)) : (hear1 s c).p m = c.i ∧ (hear1 s c).q m = c.h := by
  unfold hear1 upd
  simp only [if_pos h, and_self]
theorem hear1_not {s : St} {c : Cl} {m : Nat} (h : ¬ (hb s c = true ∧ c.n = (m : Int))) : (hear1 s c).p m = s.p m ∧ (hear1 s c).q m = s.q m := by
  unfold hear1 upd
  simp only [if_neg h, and_self]
theorem hb_good {s : St} (hs : Ok s) {c : Cl} (h : hb s c = true) : good c = true := by
  rw [hb_key hs] at h
  simp only [Bool.and_eq_true] at h
  exact h.1
theorem ok_hear1 {s : St} (h : Ok s) (c : Cl) : Ok (hear1 s c) := by
  intro m
  by_cases hc : hb s c = true ∧ c.n = (m : Int)
  · rw [(hear1_at hc).1, (hear1_at hc).2]
    exact good_ok (hb_good h hc.1)
  · rw [(hear1_not hc).1, (hear1_not hc).2]
    exact h m
def one (m : Nat) (c : Cl) : Int := if good c = true ∧ c.n = (m : Int) then key c.i c.h else 0
theorem K_hear1 {s : St} (h : Ok s) (c : Cl) (m : Nat) : K (hear1 s c) m = max (K s m) (one m c) := by
  have h0 := key_nonneg (h m)
  have hk := hb_key h c
  unfold one K at *
  by_cases hc : hb s c = true ∧ c.n = (m : Int)
  · rw [(hear1_at hc).1, (hear1_at hc).2]
    rw [hc.1, hc.2, Int.toNat_natCast] at hk
    have hk' := hk.symm
    simp only [Bool.and_eq_true, decide_eq_true_eq] at hk'
    rw [if_pos ⟨hk'.1, hc.2⟩]
    omega
  · rw [(hear1_not hc).1, (hear1_not hc).2]
    by_cases hg : good c = true ∧ c.n = (m : Int)
    · rw [if_pos hg]
      have hf : hb s c = false := by
        cases hh : hb s c with
        | false => rfl
        | true => exact absurd ⟨hh, hg.2⟩ hc
      rw [hf, hg.1, hg.2, Int.toNat_natCast] at hk
      simp only [Bool.true_and] at hk
      have := of_decide_eq_false hk.symm
      omega
    · rw [if_neg hg]
      omega
def mx (m : Nat) : List Cl → Int
  | [] => 0
  | c :: l => max (one m c) (mx m l)
theorem one_nonneg (m : Nat) (c : Cl) : 0 ≤ one m c := by
  unfold one
  split
  · next h => exact key_nonneg (good_ok h.1)
  · omega
theorem mx_nonneg (m : Nat) : ∀ l, 0 ≤ mx m l
  | [] => Int.le_refl _
  | c :: l => by have := one_nonneg m c; unfold mx; omega
theorem hears_K (m : Nat) : ∀ (l : List Cl) (s : St), Ok s → K (hears s l) m = max (K s m) (mx m l) ∧ Ok (hears s l)
  | [], s, h => ⟨by have := key_nonneg (h m); unfold mx; show K s m = max (K s m) 0; unfold K at *; omega, h⟩
  | c :: l, s, h => by
    have ih := hears_K m l (hear1 s c) (ok_hear1 h c)
    refine ⟨?_, ih.2⟩
    show K (hears (hear1 s c) l) m = _
    rw [ih.1, K_hear1 h]
    show _ = max (K s m) (max (one m c) (mx m l))
    omega
theorem ok_hears {s : St} (h : Ok s) (l : List Cl) : Ok (hears s l) := (hears_K 0 l s h).2
theorem ok_s0 : Ok s0 := fun m => by show okIH 0 0; unfold okIH; omega
theorem K_s0 (m : Nat) : K s0 m = 0 := rfl
theorem K_heard (m : Nat) (l : List Cl) : K (hears s0 l) m = mx m l := by
  rw [(hears_K m l s0 ok_s0).1, K_s0]
  have := mx_nonneg m l
  omega
theorem mx_mem (m : Nat) : ∀ (l : List Cl) (c : Cl), c ∈ l → one m c ≤ mx m l
  | [], c, h => by simp at h
  | d :: l, c, h => by
    unfold mx
    rcases List.mem_cons.1 h with rfl | h
    · omega
    · have := mx_mem m l c h
      omega
theorem mx_le (m : Nat) (b : Int) (hb : 0 ≤ b) : ∀ (l : List Cl), (∀ c ∈ l, one m c ≤ b) → mx m l ≤ b
  | [], _ => hb
  | d :: l, h => by
    have := mx_le m b hb l (fun c hc => h c (List.mem_cons_of_mem _ hc))
    have := h d List.mem_cons_self
    unfold mx
    omega
theorem mx_mono (m : Nat) (l l' : List Cl) (h : ∀ c ∈ l, c ∈ l') : mx m l ≤ mx m l' := mx_le m _ (mx_nonneg m l') l fun c hc => mx_mem m l' c (h c hc)
theorem mx_same (m : Nat) (l l' : List Cl) (h : ∀ c, c ∈ l ↔ c ∈ l') : mx m l = mx m l' := by
  have := mx_mono m l l' (fun c hc => (h c).1 hc)
  have := mx_mono m l' l (fun c hc => (h c).2 hc)
  omega
theorem mx_append (m : Nat) : ∀ (l l' : List Cl), mx m (l ++ l') = max (mx m l) (mx m l')
  | [], l' => by have := mx_nonneg m l'; show mx m l' = max 0 (mx m l'); omega
  | c :: l, l' => by
    have := mx_append m l l'
    show max (one m c) (mx m (l ++ l')) = max (max (one m c) (mx m l)) (mx m l')
    omega
/-- All the claims of a view. -/
def lsC (s : St) : Nat → List Cl
  | 0 => []
  | k + 1 => if !(s.q k == 0) then lsC s k ++ [⟨k, s.p k, s.q k⟩] else lsC s k
theorem cells_append : ∀ l l' : List Cl, cellsC (l ++ l') = cellsC l ++ cellsC l'
  | [], _ => rfl
  | c :: l, l' => by simp only [List.cons_append, cellsC, cells_append l l']
theorem cells_ls (s : St) : ∀ k, cellsC (lsC s k) = listC (fun k => !(s.q k == 0)) s.p s.q k
  | 0 => rfl
  | k + 1 => by
    unfold lsC listC
    have ih := cells_ls s k
    split
    · next h => rw [cells_append, ih]; rfl
    · exact ih
theorem ls_len (s : St) : ∀ k, (lsC s k).length = cntC (fun k => !(s.q k == 0)) k
  | 0 => rfl
  | k + 1 => by
    unfold lsC cntC
    have ih := ls_len s k
    split
    · next h => rw [List.length_append, ih]; rfl
    · exact ih
theorem ls_mem (s : St) (c : Cl) : ∀ k, c ∈ lsC s k ↔ ∃ j : Nat, j < k ∧ s.q j ≠ 0 ∧ c = ⟨j, s.p j, s.q j⟩
  | 0 => by simp [lsC]
  | k + 1 => by
    unfold lsC
    have ih := ls_mem s c k
    split
    · next h =>
      rw [List.mem_append, ih]
      simp only [List.mem_singleton]
      constructor
      · rintro (⟨j, h1, h2, h3⟩ | h1)
        · exact ⟨j, by omega, h2, h3⟩
        · exact ⟨k, by omega, by simpa using h, h1⟩
      · rintro ⟨j, h1, h2, h3⟩
        by_cases hj : j = k
        · subst hj; exact .inr h3
        · exact .inl ⟨j, by omega, h2, h3⟩
    · next h =>
      rw [ih]
      have h0 : s.q k = 0 := by simpa using h
      constructor
      · rintro ⟨j, h1, h2, h3⟩
        exact ⟨j, by omega, h2, h3⟩
      · rintro ⟨j, h1, h2, h3⟩
        refine ⟨j, ?_, h2, h3⟩
        have : j ≠ k := fun e => h2 (by rw [e]; exact h0)
        omega
theorem ls_good {s : St} (h : Ok s) {c : Cl} (hc : c ∈ lsC s 8) : good c = true ∧ key c.i c.h = K s c.n.toNat := by
  obtain ⟨j, h1, h2, rfl⟩ := (ls_mem s c 8).1 hc
  have := h j
  unfold okIH at this
  refine ⟨(good_iff _).2 ⟨?_, ?_, ?_, ?_, ?_, ?_⟩, ?_⟩
  · show (0 : Int) ≤ (j : Int); omega
  · show (j : Int) < 8; omega
  · exact this.1
  · exact this.2.1
  · show 1 ≤ s.q j; omega
  · exact this.2.2.2.1
  · show _ = K s (Int.toNat (j : Int))
    rw [Int.toNat_natCast]; rfl
theorem mx_ls {s : St} (h : Ok s) (m : Nat) (hm : m < 8) : mx m (lsC s 8) = K s m := by
  have h0 : 0 ≤ K s m := key_nonneg (h m)
  have h1 : mx m (lsC s 8) ≤ K s m := mx_le m _ h0 _ fun c hc => by
    have := ls_good h hc
    unfold one
    split
    · next he => rw [this.2, he.2, Int.toNat_natCast]; exact Int.le_refl _
    · exact h0
  by_cases hq : s.q m = 0
  · have := (key_zero (h m)).2 hq
    have := mx_nonneg m (lsC s 8)
    unfold K at *
    omega
  · have hmem : (⟨m, s.p m, s.q m⟩ : Cl) ∈ lsC s 8 := (ls_mem s _ 8).2 ⟨m, hm, hq, rfl⟩
    have h2 := mx_mem m _ _ hmem
    have hg := ls_good h hmem
    unfold one at h2
    rw [if_pos ⟨hg.1, rfl⟩] at h2
    have h2' : K s m ≤ mx m (lsC s 8) := h2
    omega
theorem count_zero : ∀ (l : List Cl) (s : St), Ok s → (∀ c ∈ l, good c = true → key c.i c.h ≤ K s c.n.toNat) → count s l = 0
  | [], _, _, _ => rfl
  | c :: l, s, h, hl => by
    have hf : hb s c = false := by
      rw [hb_key h]
      cases hg : good c with
      | false => rfl
      | true =>
        have := hl c List.mem_cons_self hg
        simp only [Bool.true_and]
        exact decide_eq_false (by omega)
    have hs : hear1 s c = s := by
      unfold hear1
      rw [hf, upd_false, upd_false]
    unfold count
    rw [hf, hs, count_zero l s h (fun d hd => hl d (List.mem_cons_of_mem _ hd))]
    rfl
theorem count_le : ∀ (l : List Cl) (s : St), count s l ≤ l.length
  | [], _ => Nat.le_refl _
  | c :: l, s => by
    have := count_le l (hear1 s c)
    unfold count
    rw [List.length_cons]
    split <;> omega
theorem cnt_mono {a b : Nat → Bool} (h : ∀ k, a k = true → b k = true) : ∀ k, cntC a k ≤ cntC b k
  | 0 => Nat.le_refl _
  | k + 1 => by
    have ih := cnt_mono h k
    unfold cntC
    cases ha : a k with
    | true => rw [h k ha]; simp only [if_true]; omega
    | false =>
      simp only [Bool.false_eq_true, if_false]
      split <;> omega
theorem cnt_K {s t : St} (hs : Ok s) (ht : Ok t) (h : ∀ m, K s m ≤ K t m) : cntC (fun k => !(s.q k == 0)) 8 ≤ cntC (fun k => !(t.q k == 0)) 8 := by
  refine cnt_mono (fun k hk => ?_) 8
  have h1 := h k
  have h2 := key_zero (hs k)
  have h3 := key_zero (ht k)
  have h4 := key_nonneg (hs k)
  have hk' : s.q k ≠ 0 := by simpa using hk
  have : t.q k ≠ 0 := by
    intro e
    have := h3.2 e
    unfold K at h1
    exact hk' (h2.1 (by omega))
  simpa using this
end Go.Proofs.Ythobimdnjggkfaa.Bel
