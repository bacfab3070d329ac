/- A heap in a row, plain: what is put on, taken off, cut. No condition but an order. -/
import Derived.Test.YtoikadgfbjjfiaaRpF
namespace Go.Proofs.Ytoikadgfbjjfiaa.Rum
open Go.RowKit Kit Heap
set_option linter.unusedVariables false
theorem ordT : Ordr ltT where
  asym := by
    intro a b h
    unfold ltT at *
    split at h <;> rename_i e
    · rw [if_pos e.symm]; simp at *; omega
    · rw [if_neg (fun h => e h.symm)]; simp at *; omega
  ntrans := by
    intro a b c h k
    unfold ltT at *
    split at h <;> split at k <;> split <;> simp at * <;> omega
theorem sw_fn (l : List Tld) (i j : Nat) (hi : i < l.length) (hj : j < l.length) : ∀ k, fn (sw l i j) k = swap (fn l) i j k := by
  intro k
  unfold swap sw
  unfold fn
  rw [List.getElem?_set, List.getElem?_set]
  by_cases e2 : j = k
  · subst e2
    rw [if_pos rfl, if_pos (by simpa using hj)]
    by_cases e1 : j = i
    · rw [if_pos e1, e1]; rfl
    · rw [if_neg e1, if_pos rfl]; rfl
  · rw [if_neg e2]
    by_cases e1 : i = k
    · subst e1
      rw [if_pos rfl, if_pos hi, if_pos rfl]; rfl
    · rw [if_neg e1, if_neg (fun e => e1 e.symm), if_neg (fun e => e2 e.symm)]
theorem fn_eq {l : List Tld} {k : Nat} (h : k < l.length) : fn l k = l[k] := by
  have := fn_get h
  rw [List.getElem?_eq_getElem h] at this
  injection this with this
  exact this.symm
theorem sw_perm (l : List Tld) (i j : Nat) (hi : i < l.length) (hj : j < l.length) : (sw l i j).Perm l := by
  unfold sw
  rw [fn_eq hi, fn_eq hj]
  exact List.set_set_perm hi hj
theorem isH_congr {f g : Nat → Tld} {n : Nat} (h : IsH ltT f n) (he : ∀ k, k < n → g k = f k) : IsH ltT g n := fun k k0 kn => by
  have := par_lt k0
  rw [he k kn, he (par k) (by omega)]
  exact h k k0 kn
theorem upF_law : ∀ (fuel : Nat) (l : List Tld) (n j : Nat), j < fuel → j < n → n ≤ l.length → UpH ltT (fn l) n j →
    IsH ltT (fn (upF fuel l j)) n ∧ (upF fuel l j).Perm l ∧ ∀ k, n ≤ k → fn (upF fuel l j) k = fn l k
  | 0, l, n, j, h, _, _, _ => absurd h (Nat.not_lt_zero _)
  | fuel + 1, l, n, j, hf, hj, hn, h => by
    rw [upF]
    by_cases h0 : j = 0
    · subst h0
      rw [if_pos rfl]
      exact ⟨h.done0, .refl _, fun k _ => rfl⟩
    · rw [if_neg h0, fn_get (by omega), fn_get (l := l) (k := (j - 1) / 2) (by omega)]
      simp only
      cases hl : ltT (fn l j) (fn l ((j - 1) / 2)) with
      | false =>
        rw [if_neg (by simp)]
        exact ⟨h.done hl, .refl _, fun k _ => rfl⟩
      | true =>
        rw [if_pos rfl]
        have hp : par j < j := par_lt (by omega)
        have es : (l.set ((j - 1) / 2) (fn l j)).set j (fn l ((j - 1) / 2)) = sw l (par j) j := rfl
        rw [es]
        have e1 := sw_fn l (par j) j (by omega) (by omega)
        have hs := h.step ordT (by omega) hj hl
        have e2 : fn (sw l (par j) j) = swap (fn l) (par j) j := funext e1
        rw [← e2] at hs
        obtain ⟨r1, r2, r3⟩ := upF_law fuel (sw l (par j) j) n (par j) (by omega) (by omega) (by rw [sw_len]; exact hn) hs
        refine ⟨r1, r2.trans (sw_perm _ _ _ (by omega) (by omega)), fun k hk => (r3 k hk).trans ?_⟩
        rw [e1 k]
        unfold swap
        rw [if_neg (by omega), if_neg (by omega)]
theorem downF_law : ∀ (fuel : Nat) (l : List Tld) (n i : Nat), n < i + fuel → i ≤ n → n ≤ l.length → DnH ltT (fn l) n i →
    IsH ltT (fn (downF fuel l i n).1) n ∧ (downF fuel l i n).1.Perm l ∧ (∀ k, n ≤ k → fn (downF fuel l i n).1 k = fn l k) ∧ i ≤ (downF fuel l i n).2
  | 0, l, n, i, h, h2, _, _ => by omega
  | fuel + 1, l, n, i, hf, hi, hn, h => by
    rw [downF]
    by_cases h1 : 2 * i + 1 < n
    · rw [if_pos h1]
      have hk := kid_par (lt := ltT) (fn l) n i
      have hkn := kid_lt (lt := ltT) (f := fn l) h1
      cases hl : ltT (fn l (kid ltT (fn l) n i)) (fn l i) with
      | false =>
        rw [if_neg (by simp)]
        exact ⟨h.done ordT hl, .refl _, fun k _ => rfl, Nat.le_refl _⟩
      | true =>
        rw [if_pos rfl]
        have hs := h.step ordT h1 hl
        generalize kid ltT (fn l) n i = j at *
        have e1 := sw_fn l i j (by omega) (by omega)
        have e2 : fn (sw l i j) = swap (fn l) i j := funext e1
        rw [← e2] at hs
        obtain ⟨r1, r2, r3, r4⟩ := downF_law fuel (sw l i j) n j (by omega) (by omega) (by rw [sw_len]; exact hn) hs
        refine ⟨r1, r2.trans (sw_perm _ _ _ (by omega) (by omega)), fun k hk => (r3 k hk).trans ?_, by omega⟩
        rw [e1 k]
        unfold swap
        rw [if_neg (by omega), if_neg (by omega)]
    · rw [if_neg h1]
      exact ⟨h.none_ h1, .refl _, fun k _ => rfl, Nat.le_refl _⟩
/-- Down from where another one stands: if it did not move, its children are not ahead of it. -/
theorem downF_at (fuel : Nat) (l : List Tld) (n i : Nat) (hf : n < i + (fuel + 1)) (hi : i < n) (hn : n ≤ l.length) (h : AtH ltT (fn l) n i) :
    (downF (fuel + 1) l i n).1.Perm l ∧ (∀ k, n ≤ k → fn (downF (fuel + 1) l i n).1 k = fn l k) ∧
      ((i < (downF (fuel + 1) l i n).2 ∧ IsH ltT (fn (downF (fuel + 1) l i n).1) n) ∨ (¬ i < (downF (fuel + 1) l i n).2 ∧ UpH ltT (fn (downF (fuel + 1) l i n).1) n i)) := by
  rw [downF]
  by_cases h1 : 2 * i + 1 < n
  · rw [if_pos h1]
    have hk := kid_par (lt := ltT) (fn l) n i
    have hkn := kid_lt (lt := ltT) (f := fn l) h1
    cases hl : ltT (fn l (kid ltT (fn l) n i)) (fn l i) with
    | false =>
      rw [if_neg (by simp)]
      exact ⟨.refl _, fun k _ => rfl, .inr ⟨Nat.lt_irrefl _, h.up fun k k0 kn kp => ordT.ntrans _ _ _ (kid_le ordT (fn l) n i k k0 kn kp) hl⟩⟩
    | true =>
      rw [if_pos rfl]
      have hs := h.down ordT h1 hl
      generalize kid ltT (fn l) n i = j at *
      have e1 := sw_fn l i j (by omega) (by omega)
      have e2 : fn (sw l i j) = swap (fn l) i j := funext e1
      rw [← e2] at hs
      obtain ⟨r1, r2, r3, r4⟩ := downF_law fuel (sw l i j) n j (by omega) (by omega) (by rw [sw_len]; exact hn) hs
      refine ⟨r2.trans (sw_perm _ _ _ (by omega) (by omega)), fun k hk => (r3 k hk).trans ?_, .inl ⟨by omega, r1⟩⟩
      rw [e1 k]
      unfold swap
      rw [if_neg (by omega), if_neg (by omega)]
  · rw [if_neg h1]
    refine ⟨.refl _, fun k _ => rfl, .inr ⟨Nat.lt_irrefl _, h.up fun k k0 kn kp => ?_⟩⟩
    unfold par at kp
    omega
theorem fn_append_left {l r : List Tld} {k : Nat} (h : k < l.length) : fn (l ++ r) k = fn l k := by
  unfold fn; rw [List.getElem?_append_left h]
theorem fn_take {l : List Tld} {n k : Nat} (h : k < n) : fn (l.take n) k = fn l k := by
  unfold fn; rw [List.getElem?_take_of_lt h]
/-- A heap. -/
def Hp (l : List Tld) : Prop := IsH ltT (fn l) l.length
theorem Hp.push {l : List Tld} (h : Hp l) (m : Tld) : Hp (pushF l m) ∧ (pushF l m).Perm (m :: l) := by
  have hu : UpH ltT (fn (l ++ [m])) (l.length + 1) l.length := by
    refine ⟨fun k k0 kn kj => ?_, fun k k0 kn kp p0 => ?_⟩
    · have := par_lt k0
      rw [fn_append_left (by omega), fn_append_left (by omega)]
      exact h k k0 (by omega)
    · have := par_lt k0
      unfold par at kp; omega
  obtain ⟨r1, r2, _⟩ := upF_law (l.length + 1) (l ++ [m]) (l.length + 1) l.length (by omega) (by omega) (by simp) hu
  refine ⟨?_, r2.trans (List.perm_append_comm.trans (List.Perm.refl _))⟩
  unfold Hp pushF
  rw [upF_len]
  simpa using r1
theorem take_perm {l : List Tld} {k : Nat} (h : l.length = k + 1) : l.Perm (fn l k :: l.take k) := by
  conv => lhs; rw [split_last l k h]
  exact List.perm_append_comm
theorem Hp.pop {l : List Tld} (h : Hp l) {k : Nat} (hk : l.length = k + 1) : fn (popR l) k = fn l 0 ∧ Hp ((popR l).take k) ∧ l.Perm (fn l 0 :: (popR l).take k) := by
  have e1 : l.length - 1 = k := by omega
  have es := sw_fn l 0 k (by omega) (by omega)
  have hd : DnH ltT (fn (sw l 0 k)) k 0 := by
    refine ⟨fun j j0 jn jp => ?_, fun j j0 jn jp p0 => absurd p0 (Nat.lt_irrefl _)⟩
    have := par_lt j0
    rw [es, es]
    unfold swap
    rw [if_neg (by omega), if_neg (by omega), if_neg jp, if_neg (by omega)]
    exact h j j0 (by omega)
  obtain ⟨r1, r2, r3, _⟩ := downF_law l.length (sw l 0 k) k 0 (by omega) (by omega) (by rw [sw_len]; omega) hd
  have eP : popR l = (downF l.length (sw l 0 k) 0 k).1 := by unfold popR; rw [e1]
  rw [← eP] at r1 r2 r3
  have r2 := r2.trans (sw_perm l 0 k (by omega) (by omega))
  have ek : fn (popR l) k = fn l 0 := by
    rw [r3 k (Nat.le_refl _), es]
    unfold swap
    by_cases e : k = 0
    · subst e; rw [if_pos rfl]
    · rw [if_neg e, if_pos rfl]
  have hl := popR_len l
  refine ⟨ek, ?_, r2.symm.trans (by rw [← ek]; exact take_perm (by omega))⟩
  unfold Hp
  rw [List.length_take, Nat.min_eq_left (by omega)]
  exact isH_congr r1 fun j hj => fn_take hj
theorem Hp.rem {l : List Tld} (h : Hp l) {k i : Nat} (hk : l.length = k + 1) (hi : i ≤ k) : fn (remR l i) k = fn l i ∧ Hp ((remR l i).take k) ∧ l.Perm (fn l i :: (remR l i).take k) := by
  have e1 : l.length - 1 = k := by omega
  have hl := remR_len l i
  suffices hh : IsH ltT (fn (remR l i)) k ∧ (remR l i).Perm l ∧ fn (remR l i) k = fn l i by
    obtain ⟨r1, r2, ek⟩ := hh
    refine ⟨ek, ?_, r2.symm.trans (by rw [← ek]; exact take_perm (by omega))⟩
    unfold Hp
    rw [List.length_take, Nat.min_eq_left (by omega)]
    exact isH_congr r1 fun j hj => fn_take hj
  by_cases hik : i = k
  · have eR : remR l i = l := by unfold remR; rw [e1, if_pos hik]
    rw [eR]
    exact ⟨fun j j0 jn => h j j0 (by omega), .refl _, by rw [hik]⟩
  · have es := sw_fn l i k (by omega) (by omega)
    have ha : AtH ltT (fn (sw l i k)) k i := by
      refine ⟨fun j j0 jn ji jp => ?_, fun j j0 jn jp p0 => ?_⟩
      · have := par_lt j0
        rw [es, es]
        unfold swap
        rw [if_neg ji, if_neg (by omega), if_neg jp, if_neg (by omega)]
        exact h j j0 (by omega)
      · have := par_lt j0
        have := par_lt p0
        rw [es, es]
        unfold swap
        rw [if_neg (by omega), if_neg (by omega), if_neg (by omega), if_neg (by omega)]
        have h1 := h j j0 (by omega)
        rw [jp] at h1
        exact ordT.ntrans _ _ _ h1 (h i p0 (by omega))
    obtain ⟨r1, r2, r3⟩ := downF_at k (sw l i k) k i (by omega) (by omega) (by rw [sw_len]; omega) ha
    have r1 := r1.trans (sw_perm l i k (by omega) (by omega))
    have ek : fn (sw l i k) k = fn l i := by rw [es]; unfold swap; rw [if_neg (by omega), if_pos rfl]
    have eR : remR l i = if i < (downF (k + 1) (sw l i k) i k).2 then (downF (k + 1) (sw l i k) i k).1 else upF (i + 1) (downF (k + 1) (sw l i k) i k).1 i := by
      unfold remR; rw [e1, if_neg hik, hk]
    rw [eR]
    have dl := downF_len (k + 1) (sw l i k) i k
    rw [sw_len] at dl
    rcases r3 with ⟨h1, h2⟩ | ⟨h1, h2⟩
    · rw [if_pos h1]
      exact ⟨h2, r1, (r2 k (Nat.le_refl _)).trans ek⟩
    · rw [if_neg h1]
      obtain ⟨u1, u2, u3⟩ := upF_law (i + 1) _ k i (by omega) (by omega) (by rw [dl]; omega) h2
      exact ⟨u1, u2.trans r1, ((u3 k (Nat.le_refl _)).trans (r2 k (Nat.le_refl _))).trans ek⟩
theorem Hp.top {l : List Tld} (h : Hp l) : ∀ m ∈ l, ltT m (fn l 0) = false := by
  intro m hm
  obtain ⟨k, hk, rfl⟩ := List.getElem_of_mem hm
  rw [← fn_eq hk]
  exact IsH.top ordT h k hk
end Go.Proofs.Ytoikadgfbjjfiaa.Rum
