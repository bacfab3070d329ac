/- Chapter 4: slices.DeleteFunc at the closure of Next: what is not in a row is struck. Conditions: the rows lie in memory, in blocks apart. -/
import Derived.Shelf.SlicesE.DeleteFunc
import Derived.Test.YthndjhocmpelcaaGreatGg
namespace Go.Proofs.YthndjhocmpelcaaGreat.Prb
open Go.RowKit Kit Go.Shelf Go.Sort Go.Lib
set_option linter.unusedVariables false
def laysDf_ren : Go.Shelf.Ren := ⟨fun | 10 => 75 | 6 => 94 | n => n, fun | 22 => 36 | 23 => 3 | 25 => 68 | 3 => 3 | 4 => 4 | 0 => 0 | n => n, fun | n => n⟩
theorem laysDf : Go.Proofs.SlLaysH.n10 Tryz.prog laysDf_ren := {
  mixed := by kernel_rfl
  f6 := ⟨Tryz.f94.name, by decide, Tryz.func94.trans (congrArg some (by kernel_rfl))⟩
  f10 := ⟨Tryz.f75.name, by decide, Tryz.func75.trans (congrArg some (by kernel_rfl))⟩
  t0 := Tryz.underlying0
  a0 := Tryz.isAgg0
  z0 := Tryz.sizeOf0
  v0 := Tryz.zeroValue0
  t3 := Tryz.underlying3
  a3 := Tryz.isAgg3
  z3 := Tryz.sizeOf3
  v3 := Tryz.zeroValue3
  t4 := Tryz.underlying4
  a4 := Tryz.isAgg4
  z4 := Tryz.sizeOf4
  v4 := Tryz.zeroValue4
  t22 := Tryz.underlying36
  a22 := Tryz.isAgg36
  z22 := Tryz.sizeOf36
  v22 := Tryz.zeroValue36
  a23 := Tryz.isAgg3
  z23 := Tryz.sizeOf3
  t25 := Tryz.underlying68
  a25 := Tryz.isAgg68
  z25 := Tryz.sizeOf68
  v25 := Tryz.zeroValue68 }
/-- What a call keeps: all blocks but those of S. -/
structure Wr (w w' : World) (S : Nat → Prop) : Prop where
  os : w'.os = w.os
  tape : w'.tape = w.tape
  output : w'.output = w.output
  size : w.heap.size ≤ w'.heap.size
  block : ∀ k, k < w.heap.size → ¬ S k → w'.heap[k]? = w.heap[k]?
theorem Wr.below {w w' : World} {S : Nat → Prop} (h : Wr w w' S) {B : Nat} (hB : B ≤ w.heap.size) (hS : ∀ k, S k → B ≤ k) : Below B w w' :=
  ⟨h.os, h.tape, h.output, h.size, fun k hk => h.block k (by omega) (fun hs => by have := hS k hs; omega)⟩
theorem Wr.of_below {w w' : World} (h : Below w.heap.size w w') (S : Nat → Prop) : Wr w w' S := ⟨h.os, h.tape, h.output, h.size, fun k hk _ => h.block k hk⟩
theorem Wr.then_ {a b c : World} {S T : Nat → Prop} (h : Wr a b S) (k : Wr b c T) (hs : ∀ i, T i → S i ∨ a.heap.size ≤ i) : Wr a c S :=
  ⟨k.os.trans h.os, k.tape.trans h.tape, k.output.trans h.output, Nat.le_trans h.size k.size, fun i hi hn =>
    (k.block i (Nat.lt_of_lt_of_le hi h.size) (fun h2 => (hs i h2).elim hn (fun h3 => by omega))).trans (h.block i hi hn)⟩
theorem Wr.cell {w w' : World} {S : Nat → Prop} (h : Wr w w' S) {b o : Nat} {v : Value} (hc : w.cell? ⟨b, o, none⟩ = some v) (hn : ¬ S b) : w'.cell? ⟨b, o, none⟩ = some v := by
  have := h.block b (World.block_lt_of_cell? w _ hc) hn
  rw [← hc]
  simp [World.cell?, this]
theorem Wr.frozen {w w' : World} {S : Nat → Prop} (h : Wr w w' S) {b o : Nat} (hb : b < w.heap.size) (hn : ¬ S b) : w'.frozen? ⟨b, o, none⟩ = w.frozen? ⟨b, o, none⟩ := by
  have := h.block b hb hn
  simp [World.frozen?, this]
theorem Wr.row {w w' : World} {S : Nat → Prop} (h : Wr w w' S) {A : Option Addr} {zs : List Int} (hr : Row w A zs) (hn : ∀ b off, A = some ⟨b, off, none⟩ → ¬ S b) : Row w' A zs :=
  hr.keep fun b off e hlt => h.block b hlt (hn b off e)
/-- The closure of Next. -/
theorem clos (A : Option Addr) (n c : Nat) (ls : List Int) (x : Int) (B : Nat) (W : World) (hc : W.cell? ⟨B, 0, none⟩ = some (.slice A n c)) (hr : Hid (Row W A ls)) (hn : Hid (n = ls.length)) (hm : n ≤ 9223372036854775807) :
    FnGives Tryz.prog 76 #[.pointer (some ⟨B, 0, none⟩)] #[.int .i64 x] (.bool (!decide (x ∈ ls))) W := by
  show Calls Tryz.prog 76 #[.int .i64 x, .pointer (some ⟨B, 0, none⟩)] W _
  obtain ⟨q, hq⟩ : ∃ q, q = decide (x ∈ ls) := ⟨_, rfl⟩
  rw [← hq]
  have HQ := Hid.mk_ hq
  clear hq
  go_enter Tryz.func76, Tryz.ntmps76
  go_wp2_with fail
  refine (contains0 A n c ls x _ hr hn hm q HQ).mono ?_
  rintro e w1 ⟨rfl, rfl⟩
  go_wp2_with fail
  go_ret
  exact ⟨rfl, 0, rfl⟩
def kept (ls zs : List Int) : List Int := zs.filter fun x => decide (x ∈ ls)
theorem kept_len (ls zs : List Int) : (kept ls zs).length ≤ zs.length := List.length_filter_le _ _
/-- The cells from ⟨b, off⟩ on hold zs, and may be written. -/
def At (w : World) (b off : Nat) (zs : List Int) : Prop := ∀ (j : Nat) (x : Int), zs[j]? = some x → w.cell? ⟨b, off + j, none⟩ = some (.int .i64 x) ∧ w.frozen? ⟨b, off + j, none⟩ = false
theorem At.row {w : World} {b off : Nat} {zs : List Int} (h : At w b off zs) : Row w (some ⟨b, off, none⟩) zs := fun j x hx => ⟨b, off, rfl, (h j x hx).1⟩
theorem delete0 (b off c : Nat) (zs : List Int) (A : Option Addr) (n' c' : Nat) (ls : List Int) (B : Nat) (w : World) (hz : At w b off zs) (hc : zs.length ≤ c) (hm : zs.length ≤ 9223372036854775807)
    (hB : w.cell? ⟨B, 0, none⟩ = some (.slice A n' c')) (hBb : B ≠ b) (hr : Row w A ls) (hn : n' = ls.length) (hm' : n' ≤ 9223372036854775807) (hA : ∀ b' off', A = some ⟨b', off', none⟩ → b' ≠ b) :
    Calls Tryz.prog 75 #[.slice (some ⟨b, off, none⟩) zs.length c, .func (.func 76) #[] #[.pointer (some ⟨B, 0, none⟩)]] w fun e w' => e = .returned (.slice (some ⟨b, off, none⟩) (kept ls zs).length c) ∧ At w' b off (kept ls zs) ∧ Wr w w' (fun k => k = b) := by
  have hH : Holds (Value.int .i64) w b off zs.toArray := fun j hj => by
    have hj' : j < zs.length := by simpa using hj
    have := hz j zs[j] (List.getElem?_eq_getElem hj')
    rw [getElem!_pos zs.toArray j hj]
    simpa using this
  have hBz := World.block_lt_of_cell? w _ hB
  have eg : ∀ args w, (callFunc 76 args).run Tryz.prog w = .ok (.enter 76 args) w := enters_of Tryz.func76 (by kernel_rfl) rfl
  have h := AnyE.slices_DeleteFunc laysDf (Value.int .i64) (fun _ => rfl) (fun x => !decide (x ∈ ls)) 76 #[.pointer (some ⟨B, 0, none⟩)] eg 0 Tryz.zeroValue3 b off c zs.toArray w
    (fun W x hb => clos A n' c' ls x B W ((hb.cell (p := ⟨B, 0, none⟩) hBz).trans hB) (Hid.mk_ (hr.below hb)) (Hid.mk_ hn) hm')
    (fun n os dk x hs => clos A n' c' ls x B _ (by
      unfold sortWorld
      rw [cell?_grow _ _ _ (by show B < (putRow _ _ _ _ _).heap.size; rw [size_putRow]; exact hBz), cell?_putRow_other _ _ b off _ _ (Or.inl hBb)]
      exact hB) (Hid.mk_ (fun j y hy => by
      obtain ⟨b', off', e, hcc⟩ := hr j y hy
      refine ⟨b', off', e, ?_⟩
      unfold sortWorld
      rw [cell?_grow _ _ _ (by show b' < (putRow _ _ _ _ _).heap.size; rw [size_putRow]; exact World.block_lt_of_cell? w _ hcc), cell?_putRow_other _ _ b off _ _ (Or.inl (hA b' off' e))]
      exact hcc)) (Hid.mk_ hn) hm')
    hH (by simpa using hm) (by simpa using hc)
  change Calls Tryz.prog 75 _ _ _ at h
  have ek : (zs.toArray.toList.filter fun x => !(!decide (x ∈ ls))) = kept ls zs := by unfold kept; simp
  rw [ek] at h
  rw [show zs.toArray.size = zs.length by simp] at h
  refine h.mono ?_
  rintro e w' ⟨rfl, q, rfl⟩
  have hkl := kept_len ls zs
  have hH2 := holds_putRow (Value.int .i64) (Sort.ahead w q) b off zs.toArray (kept ls zs ++ List.replicate (zs.length - (kept ls zs).length) 0).toArray hH (by simp; omega)
  refine ⟨rfl, fun j x hx => ?_, rfl, rfl, rfl, by simp, fun k hk hne => ?_⟩
  · have hj := (List.getElem?_eq_some_iff.1 hx).1
    have := hH2 j (by simp; omega)
    rw [List.getElem!_toArray, List.getElem!_eq_getElem?_getD, List.getElem?_append_left hj, hx] at this
    exact this
  · have : b ≠ k := fun e => hne e.symm
    simp [putRow, mapBlock, Array.getElem?_modify, this, Sort.ahead]
/-- Of a row that there isn't nothing is struck. -/
theorem delete_nil (f : Value) (w : World) (B : Nat) : Calls Tryz.prog 75 #[.slice none 0 0, .func (.func 76) #[] #[.pointer (some ⟨B, 0, none⟩)]] w fun e w' => e = .returned (.slice none 0 0) ∧ w' = w := by
  have h48 : Calls Tryz.prog 94 #[.slice none 0 0, .func (.func 76) #[] #[.pointer (some ⟨B, 0, none⟩)]] w fun e w' => e = .returned (.int .i64 (-1)) ∧ w' = w := by
    go_enter Tryz.func94, Tryz.ntmps94
    go_wp2_with fail
    go_rounds 1
    go_ret
    exact ⟨rfl, rfl⟩
  go_enter Tryz.func75, Tryz.ntmps75
  go_wp2_with fail
  refine h48.mono ?_
  rintro e w1 ⟨rfl, rfl⟩
  go_wp2_with fail
  go_ret
  exact ⟨rfl, rfl⟩
end Go.Proofs.YthndjhocmpelcaaGreat.Prb
