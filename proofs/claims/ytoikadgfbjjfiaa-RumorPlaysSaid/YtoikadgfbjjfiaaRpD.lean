/- Chapter 3: a heap in a row: its own methods Push and Pop. Conditions: the row lies in a block of its own. -/
import Derived.Test.YtoikadgfbjjfiaaRpC
import Derived.Test.YtoikadgfbjjfiaaWLast
namespace Go.Proofs.Ytoikadgfbjjfiaa.Rum
open Go.RowKit Kit Go.Proofs.YtoikadgfbjjfiaaW.PrintLast
set_option linter.unusedVariables false
/-- What a call keeps: all blocks but those of S. -/
structure Wr (w w' : World) (S : Nat → Prop) : Prop where
  os : w'.os = w.os
  tape : w'.tape = w.tape
  output : w'.output = w.output
  size : w.heap.size ≤ w'.heap.size
  block : ∀ k, k < w.heap.size → ¬ S k → w'.heap[k]? = w.heap[k]?
theorem Wr.below {w w' : World} {S : Nat → Prop} (h : Wr w w' S) {B : Nat} (hB : B ≤ w.heap.size) (hS : ∀ k, S k → B ≤ k) : Below B w w' :=
  ⟨h.os, h.tape, h.output, h.size, fun k hk => h.block k (by omega) (fun hs => by have := hS k hs; omega)⟩
theorem Wr.of_below {w w' : World} (h : Below w.heap.size w w') (S : Nat → Prop) : Wr w w' S := ⟨h.os, h.tape, h.output, h.size, fun k hk _ => h.block k hk⟩
theorem Wr.of_gb {w w' : World} {b : Nat} (h : w.grownBy w' (some b)) : Wr w w' (fun k => k = b) := ⟨h.os, h.tape, h.output, h.size, fun k hk hne => h.block k hk (fun e => hne (by injection e))⟩
theorem Wr.then_ {a b c : World} {S T : Nat → Prop} (h : Wr a b S) (k : Wr b c T) (hs : ∀ i, T i → S i ∨ a.heap.size ≤ i) : Wr a c S :=
  ⟨k.os.trans h.os, k.tape.trans h.tape, k.output.trans h.output, Nat.le_trans h.size k.size, fun i hi hn =>
    (k.block i (Nat.lt_of_lt_of_le hi h.size) (fun h2 => (hs i h2).elim hn (fun h3 => by omega))).trans (h.block i hi hn)⟩
theorem Wr.mono {a b : World} {S T : Nat → Prop} (h : Wr a b S) (hs : ∀ i, S i → T i) : Wr a b T := ⟨h.os, h.tape, h.output, h.size, fun k hk hn => h.block k hk (fun e => hn (hs k e))⟩
theorem Wr.cell {w w' : World} {S : Nat → Prop} (h : Wr w w' S) {b o : Nat} {v : Value} (hc : w.cell? ⟨b, o, none⟩ = some v) (hn : ¬ S b) : w'.cell? ⟨b, o, none⟩ = some v := by
  have := h.block b (World.block_lt_of_cell? w _ hc) hn
  rw [← hc]
  simp [World.cell?, this]
theorem Wr.frozen {w w' : World} {S : Nat → Prop} (h : Wr w w' S) {b o : Nat} (hb : b < w.heap.size) (hn : ¬ S b) : w'.frozen? ⟨b, o, none⟩ = w.frozen? ⟨b, o, none⟩ := by
  have := h.block b hb hn
  simp [World.frozen?, this]
theorem Wr.set (w : World) (g o : Nat) (v : Value) : Wr w (w.setCell ⟨g, o, none⟩ v) (fun k => k = g) :=
  ⟨rfl, rfl, rfl, by simp [World.setCell], fun k hk hne => Below.heap_setCell _ _ _ _ hne⟩
/-- A heap whose row's address lies in block g. -/
structure HpS (o : Int) (w : World) (g : Nat) (A : Option Addr) (n c : Nat) (hs : List Tld) : Prop where
  cell : w.cell? ⟨g, 1, none⟩ = some (.slice A n c)
  fr : w.frozen? ⟨g, 1, none⟩ = false
  own : OwnT w (g + 1) (.slice A n c) hs
  oft : w.cell? ⟨g, 0, none⟩ = some (.int .i64 o)
variable {o : Int}
theorem HpS.lt {w : World} {g : Nat} {A : Option Addr} {n c : Nat} {hs : List Tld} (h : HpS o w g A n c hs) : g < w.heap.size := World.block_lt_of_cell? w _ h.cell
def Its (g : Nat) (A : Option Addr) : Nat → Prop := fun k => k = g ∨ ∃ off, A = some ⟨k, off, none⟩
theorem HpS.wr {w w' : World} {S : Nat → Prop} {g : Nat} {A : Option Addr} {n c : Nat} {hs : List Tld} (h : HpS o w g A n c hs) (hw : Wr w w' S) (hg : ¬ S g) (hA : ∀ b off, A = some ⟨b, off, none⟩ → ¬ S b) : HpS o w' g A n c hs :=
  ⟨hw.cell h.cell hg, (hw.frozen h.lt hg).trans h.fr, h.own.keepB fun b e => hw.block b (h.own.block b 0 e).2 (hA b 0 e), hw.cell h.oft hg⟩
theorem HpS.below {w w' : World} {g : Nat} {A : Option Addr} {n c : Nat} {hs : List Tld} (h : HpS o w g A n c hs) (hw : Below w.heap.size w w') : HpS o w' g A n c hs :=
  h.wr (Wr.of_below hw (fun _ => False)) (fun h => h) (fun _ _ _ h => h)
/-- A new row is written. -/
theorem HpS.put {w : World} {g : Nat} {v : Value} {A : Option Addr} {n c : Nat} {hs : List Tld} (h0 : w.cell? ⟨g, 0, none⟩ = some (.int .i64 o)) (h1 : w.cell? ⟨g, 1, none⟩ = some v) (hf : w.frozen? ⟨g, 1, none⟩ = false) (ho : OwnT w (g + 1) (.slice A n c) hs) : HpS o (w.setCell ⟨g, 1, none⟩ (.slice A n c)) g A n c hs :=
  ⟨World.cell?_setCell_same _ _ _ h1, (World.frozen?_setCell _ _ _ _).trans hf, ho.keepB fun b e => Below.heap_setCell _ _ _ _ (by have := (ho.block b 0 e).1; simp only; omega), (World.cell?_setCell_other _ _ _ _ (by simp)).trans h0⟩
def boxT (m : Tld) : Value := .iface 93 (.agg #[.int .i64 m.node, .int .i64 m.inc, .int .i64 m.hl, .int .i64 m.n])
set_option maxHeartbeats 2000000 in
/-- (*row).Pop: the last one off. -/
theorem pop86 {w : World} {g n c : Nat} {A : Option Addr} {hs : List Tld} {m : Tld} (h : Hid (HpS o w g A n c (hs ++ [m]))) (hn : n ≤ 1000000) :
    Calls Try.prog 86 #[.pointer (some ⟨g, 1, none⟩)] w fun e w' => e = .returned (boxT m) ∧ ∃ k, Hid (k = n - 1) ∧ Hid (HpS o w' g A k c hs) ∧ Wr w w' (fun k => k = g) := by
  obtain ⟨b, rfl, hb1, hb2⟩ := h.out.own.some_ (by simp)
  obtain ⟨hl, hcap, hmax⟩ := h.out.own.len
  obtain ⟨k, hk⟩ : ∃ k, k = hs.length := ⟨_, rfl⟩
  have hl' : n = k + 1 := by rw [hl, hk]; simp
  obtain ⟨⟨x0, x1, x2, x3⟩, _⟩ := h.out.own.at_ k m (by rw [hk]; simp)
  have c1 := h.out.cell
  have f1 := h.out.fr
  have ht := h.out.own.take k (by omega)
  rw [List.take_left' hk.symm] at ht
  have HT := Hid.mk_ ht
  have HK := Hid.mk_ hl'
  clear hl hk ht
  have k0 : (0 : Int) ≤ (k : Int) := by omega
  have k1 : (k : Int) < (n : Int) := by omega
  have k2 : (k : Int) ≤ (c : Int) := by omega
  have k3 : (n : Int) - 1 = (k : Int) := by omega
  have hgb : g ≠ b := by omega
  clear hl'
  have hgz := h.out.lt
  go_enter Try.func86, Try.ntmps86
  go_upto_region 3 with fail
  have a1 : Below w.heap.size w (w.alloc (.cells #[.int .i64 m.node, .int .i64 m.inc, .int .i64 m.hl, .int .i64 m.n] 93)) := (Below.refl _ _).alloc (Nat.le_refl _) _
  have h2 := Hid.mk_ (h.out.below a1)
  have HT2 := Hid.mk_ (HT.out.keepB fun b' e => a1.block b' (HT.out.block b' 0 e).2)
  have cm0 : (w.alloc (.cells #[.int .i64 m.node, .int .i64 m.inc, .int .i64 m.hl, .int .i64 m.n] 93)).cell? ⟨w.heap.size, 0, none⟩ = some (.int .i64 m.node) := by rw [World.cell?_alloc_new]; rfl
  have cm1 : (w.alloc (.cells #[.int .i64 m.node, .int .i64 m.inc, .int .i64 m.hl, .int .i64 m.n] 93)).cell? ⟨w.heap.size, 1, none⟩ = some (.int .i64 m.inc) := by rw [World.cell?_alloc_new]; rfl
  have cm2 : (w.alloc (.cells #[.int .i64 m.node, .int .i64 m.inc, .int .i64 m.hl, .int .i64 m.n] 93)).cell? ⟨w.heap.size, 2, none⟩ = some (.int .i64 m.hl) := by rw [World.cell?_alloc_new]; rfl
  have cm3 : (w.alloc (.cells #[.int .i64 m.node, .int .i64 m.inc, .int .i64 m.hl, .int .i64 m.n] 93)).cell? ⟨w.heap.size, 3, none⟩ = some (.int .i64 m.n) := by rw [World.cell?_alloc_new]; rfl
  have A1 := Hid.mk_ a1
  clear a1 HT h c1 f1 x0 x1 x2 x3
  generalize (w.alloc (.cells #[.int .i64 m.node, .int .i64 m.inc, .int .i64 m.hl, .int .i64 m.n] 93)) = w2 at *
  have hgq : g ≠ w.heap.size := by omega
  have c1 := h2.out.cell
  have f1 := h2.out.fr
  go_upto_region 4 with fail
  have P3 := Hid.mk_ (HpS.put h2.out.oft c1 f1 HT2.out)
  have W3 := Hid.mk_ (Wr.set w2 g 1 (.slice (some ⟨b, 0, none⟩) k c))
  have cn0 := W3.out.cell cm0 (by omega)
  have cn1 := W3.out.cell cm1 (by omega)
  have cn2 := W3.out.cell cm2 (by omega)
  have cn3 := W3.out.cell cm3 (by omega)
  clear cm0 cm1 cm2 cm3 c1 f1
  generalize w2.setCell ⟨g, 1, none⟩ (.slice (some ⟨b, 0, none⟩) k c) = w3 at *
  go_wp2_with fail
  go_ret
  exact ⟨rfl, k, Hid.mk_ (by have := HK.out; omega), P3, (Wr.of_below A1.out _).then_ W3.out (fun i hi => .inl hi)⟩
theorem OwnT.addr {w : World} {base : Nat} {A : Option Addr} {n c : Nat} {hs : List Tld} (h : OwnT w base (.slice A n c) hs) : A = none ∨ ∃ b, A = some ⟨b, 0, none⟩ ∧ base ≤ b ∧ b < w.heap.size := by
  have h' := h
  unfold OwnT at h
  rcases h.2 with ⟨h1, h2⟩ | ⟨g, cap, cur, h1, h3, h4, _⟩
  · injection h1 with e1
    exact .inl e1
  · injection h1 with e1 e2 e3
    exact .inr ⟨g, e1, h3, (Array.getElem?_eq_some_iff.1 h4).1⟩
theorem ta (v : Value) (w : World) : (Instr.typeAssert (.iface 93 v) 20 93 true).run Try.prog w = .ok (.tuple #[v, .bool true]) w := by kernel_rfl
set_option maxRecDepth 100000 in
set_option maxHeartbeats 2000000 in
/-- (*row).Push: one more. -/
theorem push87 {w : World} {g n c : Nat} {A : Option Addr} {hs : List Tld} (m : Tld) (h : Hid (HpS o w g A n c hs)) (hn : n ≤ 1000000) :
    Calls Try.prog 87 #[.pointer (some ⟨g, 1, none⟩), boxT m] w fun e w' => e = .returned (.tuple #[]) ∧ ∃ A' n' c', Hid (HpS o w' g A' n' c' (hs ++ [m])) ∧ Hid (∀ b off, A' = some ⟨b, off, none⟩ → A = some ⟨b, off, none⟩ ∨ w.heap.size ≤ b) ∧ Hid (Wr w w' (Its g A)) := by
  have hgz := h.out.lt
  unfold boxT
  have hta := ta
  go_enter Try.func87, Try.ntmps87
  go_upto_region 2 with fail
  have a1 : Below w.heap.size w (w.alloc (.cells #[.int .i64 m.node, .int .i64 m.inc, .int .i64 m.hl, .int .i64 m.n] 93)) := (Below.refl _ _).alloc (Nat.le_refl _) _
  have h2 := Hid.mk_ (h.out.below a1)
  have cm0 : (w.alloc (.cells #[.int .i64 m.node, .int .i64 m.inc, .int .i64 m.hl, .int .i64 m.n] 93)).cell? ⟨w.heap.size, 0, none⟩ = some (.int .i64 m.node) := by rw [World.cell?_alloc_new]; rfl
  have cm1 : (w.alloc (.cells #[.int .i64 m.node, .int .i64 m.inc, .int .i64 m.hl, .int .i64 m.n] 93)).cell? ⟨w.heap.size, 1, none⟩ = some (.int .i64 m.inc) := by rw [World.cell?_alloc_new]; rfl
  have cm2 : (w.alloc (.cells #[.int .i64 m.node, .int .i64 m.inc, .int .i64 m.hl, .int .i64 m.n] 93)).cell? ⟨w.heap.size, 2, none⟩ = some (.int .i64 m.hl) := by rw [World.cell?_alloc_new]; rfl
  have cm3 : (w.alloc (.cells #[.int .i64 m.node, .int .i64 m.inc, .int .i64 m.hl, .int .i64 m.n] 93)).cell? ⟨w.heap.size, 3, none⟩ = some (.int .i64 m.n) := by rw [World.cell?_alloc_new]; rfl
  have A1 := Hid.mk_ a1
  clear a1
  generalize (w.alloc (.cells #[.int .i64 m.node, .int .i64 m.inc, .int .i64 m.hl, .int .i64 m.n] 93)) = w2 at *
  generalize hq : w.heap.size = q at *
  have HQ := Hid.mk_ hq
  clear hq
  have c1 := h2.out.cell
  refine wp_region_last_drew (S := fun w' => w'.cell? ⟨g, 1, none⟩ = some (.slice A n c) ∧ w'.cell? ⟨q, 0, none⟩ = some (.int .i64 m.node) ∧ w'.cell? ⟨q, 1, none⟩ = some (.int .i64 m.inc) ∧ w'.cell? ⟨q, 2, none⟩ = some (.int .i64 m.hl) ∧ w'.cell? ⟨q, 3, none⟩ = some (.int .i64 m.n)) (ds := [8]) (by kernel_rfl) ⟨c1, cm0, cm1, cm2, cm3⟩ (fun hHeld => ?_)
  refine' wpAnyLast_take (i := 0) (oi := _) (v := _) ?hi0 (by kernel_rfl) (by kernel_rfl) (by kernel_rfl) (by kernel_rfl) (by kernel_rfl) ?hQ0 (Or.inl ⟨?hw0, ?hy0⟩) (by assumption) ?rest0
  case hi0 => exact (by simp only [List.getElem?_toArray, List.getElem?_cons_zero]; rfl)
  case hQ0 => exact fun _ _ _ h => h
  case hw0 => rfl
  case hy0 =>
    intro w hSw
    try dsimp only at hSw
    go_simp
    all_goals with_reducible rfl
  try simp only [Act.put, List.setIfInBounds_toArray, List.set_cons_zero, List.set_cons_succ]
  refine' wpAnyLast_take (i := 1) (oi := _) (v := _) ?hi1 (by kernel_rfl) (by kernel_rfl) (by kernel_rfl) (by kernel_rfl) (by kernel_rfl) ?hQ1 (Or.inl ⟨?hw1, ?hy1⟩) (by assumption) ?rest1
  case hi1 => exact (by simp only [List.getElem?_toArray, List.getElem?_cons_zero, List.getElem?_cons_succ]; rfl)
  case hQ1 => exact fun _ _ _ h => h
  case hw1 => rfl
  case hy1 =>
    intro w hSw
    try dsimp only at hSw
    go_simp
    all_goals with_reducible rfl
  try simp only [Act.put, List.setIfInBounds_toArray, List.set_cons_zero, List.set_cons_succ]
  refine' wpAnyLast_take (i := 2) (oi := _) (v := _) ?hi2 (by kernel_rfl) (by kernel_rfl) (by kernel_rfl) (by kernel_rfl) (by kernel_rfl) ?hQ2 (Or.inl ⟨?hw2, ?hy2⟩) (by assumption) ?rest2
  case hi2 => exact (by simp only [List.getElem?_toArray, List.getElem?_cons_zero, List.getElem?_cons_succ]; rfl)
  case hQ2 => exact fun _ _ _ h => h
  case hw2 => rfl
  case hy2 =>
    intro w hSw
    try dsimp only at hSw
    go_simp
    all_goals with_reducible rfl
  try simp only [Act.put, List.setIfInBounds_toArray, List.set_cons_zero, List.set_cons_succ]
  refine' wpAnyLast_take (i := 3) (oi := _) (v := _) ?hi3 (by kernel_rfl) (by kernel_rfl) (by kernel_rfl) (by kernel_rfl) (by kernel_rfl) ?hQ3 (Or.inl ⟨?hw3, ?hy3⟩) (by assumption) ?rest3
  case hi3 => exact (by simp only [List.getElem?_toArray, List.getElem?_cons_zero, List.getElem?_cons_succ]; rfl)
  case hQ3 => exact fun _ _ _ h => h
  case hw3 => rfl
  case hy3 =>
    intro w hSw
    try dsimp only at hSw
    go_simp
    all_goals with_reducible rfl
  try simp only [Act.put, List.setIfInBounds_toArray, List.set_cons_zero, List.set_cons_succ]
  refine' wpAnyLast_take (i := 4) (oi := _) (v := _) ?hi4 (by kernel_rfl) (by kernel_rfl) (by kernel_rfl) (by kernel_rfl) (by kernel_rfl) ?hQ4 (Or.inl ⟨?hw4, ?hy4⟩) (by assumption) ?rest4
  case hi4 => exact (by simp only [List.getElem?_toArray, List.getElem?_cons_zero, List.getElem?_cons_succ]; rfl)
  case hQ4 => exact fun _ _ _ h => h
  case hw4 => rfl
  case hy4 =>
    intro w hSw
    try dsimp only at hSw
    go_simp
    all_goals with_reducible rfl
  try simp only [Act.put, List.setIfInBounds_toArray, List.set_cons_zero, List.set_cons_succ]
  refine wpAnyLast_ready (rs := [5]) (by kernel_rfl) (by simp) ?_
  refine AllReadyL.cons (by simp only [List.getElem?_toArray, List.getElem?_cons_zero, List.getElem?_cons_succ]; rfl) (by simp) (fun K hK => ?_) AllReadyL.nil
  go_simp
  have b3 : Below w2.heap.size w2 (w2.alloc (.cells #[.int .i64 m.node, .int .i64 m.inc, .int .i64 m.hl, .int .i64 m.n] 93)).drew := ((Below.refl _ _).alloc (Nat.le_refl _) _).drew
  have hn0 : (w2.alloc (.cells #[.int .i64 m.node, .int .i64 m.inc, .int .i64 m.hl, .int .i64 m.n] 93)).drew.cell? ⟨w2.heap.size, 0, none⟩ = some (.int .i64 m.node) := by
    show (w2.alloc (.cells #[.int .i64 m.node, .int .i64 m.inc, .int .i64 m.hl, .int .i64 m.n] 93)).cell? _ = _
    rw [World.cell?_alloc_new]; rfl
  have hn1 : (w2.alloc (.cells #[.int .i64 m.node, .int .i64 m.inc, .int .i64 m.hl, .int .i64 m.n] 93)).drew.cell? ⟨w2.heap.size, 1, none⟩ = some (.int .i64 m.inc) := by
    show (w2.alloc (.cells #[.int .i64 m.node, .int .i64 m.inc, .int .i64 m.hl, .int .i64 m.n] 93)).cell? _ = _
    rw [World.cell?_alloc_new]; rfl
  have hn2 : (w2.alloc (.cells #[.int .i64 m.node, .int .i64 m.inc, .int .i64 m.hl, .int .i64 m.n] 93)).drew.cell? ⟨w2.heap.size, 2, none⟩ = some (.int .i64 m.hl) := by
    show (w2.alloc (.cells #[.int .i64 m.node, .int .i64 m.inc, .int .i64 m.hl, .int .i64 m.n] 93)).cell? _ = _
    rw [World.cell?_alloc_new]; rfl
  have hn3 : (w2.alloc (.cells #[.int .i64 m.node, .int .i64 m.inc, .int .i64 m.hl, .int .i64 m.n] 93)).drew.cell? ⟨w2.heap.size, 3, none⟩ = some (.int .i64 m.n) := by
    show (w2.alloc (.cells #[.int .i64 m.node, .int .i64 m.inc, .int .i64 m.hl, .int .i64 m.n] 93)).cell? _ = _
    rw [World.cell?_alloc_new]; rfl
  have h3 := Hid.mk_ (h2.out.below b3)
  have s3 : (w2.alloc (.cells #[.int .i64 m.node, .int .i64 m.inc, .int .i64 m.hl, .int .i64 m.n] 93)).drew.cell? ⟨g, 1, none⟩ = some (.slice A n c) ∧ (w2.alloc (.cells #[.int .i64 m.node, .int .i64 m.inc, .int .i64 m.hl, .int .i64 m.n] 93)).drew.cell? ⟨q, 0, none⟩ = some (.int .i64 m.node) ∧ (w2.alloc (.cells #[.int .i64 m.node, .int .i64 m.inc, .int .i64 m.hl, .int .i64 m.n] 93)).drew.cell? ⟨q, 1, none⟩ = some (.int .i64 m.inc) ∧ (w2.alloc (.cells #[.int .i64 m.node, .int .i64 m.inc, .int .i64 m.hl, .int .i64 m.n] 93)).drew.cell? ⟨q, 2, none⟩ = some (.int .i64 m.hl) ∧ (w2.alloc (.cells #[.int .i64 m.node, .int .i64 m.inc, .int .i64 m.hl, .int .i64 m.n] 93)).drew.cell? ⟨q, 3, none⟩ = some (.int .i64 m.n) := ⟨keep1 b3 c1, keep1 b3 cm0, keep1 b3 cm1, keep1 b3 cm2, keep1 b3 cm3⟩
  refine hK.out _ _ (by exact s3) (fun hHeld => ?_)
  clear hK K
  generalize (w2.alloc (.cells #[.int .i64 m.node, .int .i64 m.inc, .int .i64 m.hl, .int .i64 m.n] 93)).drew = w3 at *
  try simp only [Act.put, List.setIfInBounds_toArray, List.set_cons_zero, List.set_cons_succ]
  refine wpAnyLast_ready (rs := [6]) (by kernel_rfl) (by simp) ?_
  refine AllReadyL.cons (by simp only [List.getElem?_toArray, List.getElem?_cons_zero, List.getElem?_cons_succ]; rfl) (by simp) (fun K hK => ?_) AllReadyL.nil
  obtain ⟨hl3, _, _⟩ := h3.out.own.len
  refine step_app _ (by rfl) _ _ (by rfl) (g + 1) _ hs (by rfl) (by exact h3.out.own) ⟨w2.heap.size, 0, none⟩ m _ (by rfl) (by rw [Addr.add_lit, Addr.add_lit, Addr.add_lit, Addr.add_lit]; exact ⟨hn0, hn1, hn2, hn3⟩) (by omega) (by have := b3.size; have := A1.out.size; have := HQ.out; omega) ?_
  intro v4 w4 own4 gb4 hor
  have gA : ∀ k, (Value.slice A n c).ownBlock = some k → k ≠ g ∧ k < q := fun k hk => by
    rcases h.out.own.addr with rfl | ⟨b, rfl, h1, h5⟩
    · cases hk
    · simp [Value.ownBlock] at hk
      have := HQ.out
      omega
  have fg : w3.frozen? ⟨g, 1, none⟩ = false := h3.out.fr
  have g4 : w4.cell? ⟨g, 1, none⟩ = some (.slice A n c) := gb4.cell s3.1 (fun e => (gA g e.symm).1 rfl)
  have q0 : w4.cell? ⟨q, 0, none⟩ = some (.int .i64 m.node) := gb4.cell s3.2.1 (fun e => by have := (gA q e.symm).2; omega)
  have q1 : w4.cell? ⟨q, 1, none⟩ = some (.int .i64 m.inc) := gb4.cell s3.2.2.1 (fun e => by have := (gA q e.symm).2; omega)
  have q2 : w4.cell? ⟨q, 2, none⟩ = some (.int .i64 m.hl) := gb4.cell s3.2.2.2.1 (fun e => by have := (gA q e.symm).2; omega)
  have q3 : w4.cell? ⟨q, 3, none⟩ = some (.int .i64 m.n) := gb4.cell s3.2.2.2.2 (fun e => by have := (gA q e.symm).2; omega)
  have f4 : w4.frozen? ⟨g, 1, none⟩ = false := by
    have := gb4.block g h3.out.lt (fun e => (gA g e.symm).1 rfl)
    rw [← fg]; simp [World.frozen?, this]
  obtain ⟨A4, n4, c4, rfl⟩ := own4.form
  refine hK.out _ _ (by exact ⟨g4, q0, q1, q2, q3⟩) (fun hHeld => ?_)
  clear hK K
  try simp only [Act.put, List.setIfInBounds_toArray, List.set_cons_zero, List.set_cons_succ]
  refine' wpAnyLast_take (i := 7) (oi := _) (v := _) ?hi7 (by kernel_rfl) (by kernel_rfl) (by kernel_rfl) (by kernel_rfl) (by kernel_rfl) ?hQ7 (Or.inl ⟨?hw7, ?hy7⟩) (by assumption) ?rest7
  case hi7 => exact (by simp only [List.getElem?_toArray, List.getElem?_cons_zero, List.getElem?_cons_succ]; rfl)
  case hQ7 => exact fun _ _ _ h => h
  case hw7 => rfl
  case hy7 =>
    intro w hSw
    try dsimp only at hSw
    go_simp
    all_goals with_reducible rfl
  try simp only [Act.put, List.setIfInBounds_toArray, List.set_cons_zero, List.set_cons_succ]
  refine wpAnyLast_ready (rs := [8]) (by kernel_rfl) (by simp) ?_
  refine AllReadyL.cons_last (by simp only [List.getElem?_toArray, List.getElem?_cons_zero, List.getElem?_cons_succ]; rfl) (by simp) (fun K hK => ?_) AllReadyL.nil
  go_simp
  refine hK.out _ _ ?_
  clear hK K
  try simp only [Act.put, List.setIfInBounds_toArray, List.set_cons_zero, List.set_cons_succ]
  refine wpAnyLast_done (by kernel_rfl) ?_ _
  go_end0
  have g40 : w4.cell? ⟨g, 0, none⟩ = some (.int .i64 o) := gb4.cell h3.out.oft (fun e => (gA g e.symm).1 rfl)
  have P := HpS.put g40 g4 f4 own4
  have W4 : Wr w3 w4 (Its g A) := ⟨gb4.os, gb4.tape, gb4.output, gb4.size, fun k hk hne => gb4.block k hk (fun e => hne (.inr (by
    rcases h.out.own.addr with rfl | ⟨b, rfl, _⟩
    · cases e
    · have e2 : some k = some b := e
      injection e2 with e2
      exact ⟨0, by rw [e2]⟩)))⟩
  have z1 := A1.out.size
  have z3 := b3.size
  have hqq := HQ.out
  refine ⟨rfl, A4, n4, c4, Hid.mk_ P, Hid.mk_ (fun b off e => ?_), Hid.mk_ ((((Wr.of_below (by rw [HQ.out]; exact A1.out) _).then_ (Wr.of_below b3 (fun _ => False)) (fun _ h => h.elim)).then_ W4 (fun i hi => .inl hi)).then_ (Wr.set w4 g 1 _) (fun i hi => .inl (.inl hi)))⟩
  rcases own4.addr with h0 | ⟨b4, h0, h1, h5⟩
  · rw [h0] at e; cases e
  · rw [h0] at e
    injection e with e
    injection e with e1 e2
    subst e1 e2
    subst h0
    rcases hor with h6 | h6
    · left
      rcases h.out.own.addr with rfl | ⟨b, rfl, _⟩
      · cases h6
      · have h7 : some b4 = some b := h6
        injection h7 with h7
        rw [h7]
    · right
      have := h6 b4 rfl
      omega
end Go.Proofs.Ytoikadgfbjjfiaa.Rum
