/- How an argument of plain data (numbers, bools, strings, structs, arrays, slices of such) lies in memory, read off the form's own reading. Plain lemmas, no condition. -/
import Derived.OpenShut
import Derived.Deep.Slices
import Derived.ProofKit
namespace Go.Proofs.YthndjhocmpelcaaGreat.Kit
open Go.ChangeShapes Go.WideShapes Go.RowKit Go.Deep

/-- The shape of plain data. -/
inductive Sh where
  | int (k : IntKind)
  | bool
  | str
  | unit
  | pair (a b : Sh)
  | slice (e : Sh)

def Sh.size : Sh → Nat
  | .int _ => 1
  | .bool => 1
  | .str => 1
  | .unit => 0
  | .pair a b => a.size + b.size
  | .slice _ => 1

/-- These cells hold data of this shape, in the world w. -/
def RD (w : World) : Sh → List Value → Prop
  | .int k, cs => ∃ n, cs = [.int k n] ∧ (Lit.int k n).wf = true
  | .bool, cs => ∃ b, cs = [.bool b]
  | .str, cs => ∃ s, cs = [.string s] ∧ s.size ≤ maxLen
  | .unit, cs => cs = []
  | .pair a b, cs => ∃ xs ys, cs = xs ++ ys ∧ xs.length = a.size ∧ RD w a xs ∧ RD w b ys
  | .slice e, cs => cs = [.slice none 0 0] ∨ ∃ a len cap, cs = [.slice (some a) len cap] ∧ len ≤ cap ∧ cap ≤ maxLen ∧
      ∀ i, i < len → ∃ es, es.length = e.size ∧ (∀ j, j < e.size → w.cell? (a.add (i * e.size + j)) = es[j]?) ∧ RD w e es

def fieldsSh (P : Program) (sh : TypeId → Option Sh) : List Field → Nat → Option Sh
  | [], _ => some .unit
  | f :: fs, acc => if f.offset = acc then (sh f.type).bind fun s => if P.cellsOf f.type = s.size then (fieldsSh P sh fs (acc + s.size)).map (.pair s) else none else none

def arraySh (s : Sh) : Nat → Sh
  | 0 => .unit
  | n + 1 => .pair s (arraySh s n)

theorem arraySh_size (s : Sh) : ∀ n, (arraySh s n).size = n * s.size
  | 0 => by simp [arraySh, Sh.size]
  | n + 1 => by simp [arraySh, Sh.size, arraySh_size s n, Nat.succ_mul, Nat.add_comm]

def shp (P : Program) : Nat → TypeId → Option Sh
  | 0, _ => none
  | d + 1, t =>
    match P.underlying t with
    | some .bool => some .bool
    | some (.int k) => some (.int k)
    | some .string => some .str
    | some (.struct fs) => (fieldsSh P (shp P d) fs.toList 0).bind fun s => if P.cellsOf t = s.size then some s else none
    | some (.array n e) => (shp P d e).bind fun s => if P.cellsOf e = s.size ∧ P.cellsOf t = n * s.size then some (arraySh s n) else none
    | some (.slice e) => (shp P d e).bind fun s => if P.cellsOf e = s.size then some (.slice s) else none
    | _ => none

def isAggT (P : Program) (t : TypeId) : Bool :=
  match P.underlying t with
  | some (.struct _) => true
  | some (.array _ _) => true
  | _ => false

theorem okWide_agg {P : Program} {w : World} {r : Reach} {base : Nat} {t : TypeId} {v : Value} (ht : isAggT P t = true) (h : Value.okWide P w r base t v) : ∃ cs, v = .agg cs := by
  unfold isAggT at ht
  split at ht
  · rename_i hu; simp only [Value.okWide, hu] at h; obtain ⟨cs, h1, _⟩ := h; exact ⟨cs, h1⟩
  · rename_i hu; simp only [Value.okWide, hu] at h; obtain ⟨cs, h1, _⟩ := h; exact ⟨cs, h1⟩
  · cases ht

theorem rd_int {w : World} {k : IntKind} {cs : List Value} (h : RD w (.int k) cs) : ∃ n, cs = [.int k n] ∧ (Lit.int k n).wf = true := h
theorem rd_pair {w : World} {a b : Sh} {cs : List Value} (h : RD w (.pair a b) cs) : ∃ xs ys, cs = xs ++ ys ∧ xs.length = a.size ∧ RD w a xs ∧ RD w b ys := h
theorem rd_unit {w : World} {cs : List Value} (h : RD w .unit cs) : cs = [] := h

/-- A struct of two numbers. -/
theorem rd_two {w : World} {cs : Array Value} (h : RD w (.pair (.int .i64) (.pair (.int .i64) .unit)) cs.toList) : ∃ x y, cs = #[.int .i64 x, .int .i64 y] ∧ (Lit.int .i64 x).wf = true ∧ (Lit.int .i64 y).wf = true := by
  obtain ⟨_, _, h, _, h1, h2⟩ := rd_pair h
  obtain ⟨x, rfl, wx⟩ := rd_int h1
  obtain ⟨_, _, rfl, _, h3, h4⟩ := rd_pair h2
  obtain ⟨y, rfl, wy⟩ := rd_int h3
  obtain rfl := rd_unit h4
  exact ⟨x, y, by cases cs; simpa using h, wx, wy⟩

/-- A row of eight numbers. -/
theorem rd_eight {w : World} {cs : Array Value} (h : RD w (.pair (.int .i64) (.pair (.int .i64) (.pair (.int .i64) (.pair (.int .i64) (.pair (.int .i64) (.pair (.int .i64) (.pair (.int .i64) (.pair (.int .i64) .unit)))))))) cs.toList) :
    ∃ a : Nat → Int, cs = #[.int .i64 (a 0), .int .i64 (a 1), .int .i64 (a 2), .int .i64 (a 3), .int .i64 (a 4), .int .i64 (a 5), .int .i64 (a 6), .int .i64 (a 7)] ∧ ∀ i, i < 8 → (Lit.int .i64 (a i)).wf = true := by
  obtain ⟨l0, s0, h', _, g0, h0⟩ := rd_pair h
  obtain ⟨x0, rfl, w0⟩ := rd_int g0
  obtain ⟨l1, s1, rfl, _, g1, h1⟩ := rd_pair h0
  obtain ⟨x1, rfl, w1⟩ := rd_int g1
  obtain ⟨l2, s2, rfl, _, g2, h2⟩ := rd_pair h1
  obtain ⟨x2, rfl, w2⟩ := rd_int g2
  obtain ⟨l3, s3, rfl, _, g3, h3⟩ := rd_pair h2
  obtain ⟨x3, rfl, w3⟩ := rd_int g3
  obtain ⟨l4, s4, rfl, _, g4, h4⟩ := rd_pair h3
  obtain ⟨x4, rfl, w4⟩ := rd_int g4
  obtain ⟨l5, s5, rfl, _, g5, h5⟩ := rd_pair h4
  obtain ⟨x5, rfl, w5⟩ := rd_int g5
  obtain ⟨l6, s6, rfl, _, g6, h6⟩ := rd_pair h5
  obtain ⟨x6, rfl, w6⟩ := rd_int g6
  obtain ⟨l7, s7, rfl, _, g7, h7⟩ := rd_pair h6
  obtain ⟨x7, rfl, w7⟩ := rd_int g7
  obtain rfl := rd_unit h7
  refine ⟨fun | 0 => x0 | 1 => x1 | 2 => x2 | 3 => x3 | 4 => x4 | 5 => x5 | 6 => x6 | _ => x7, by cases cs; simpa using h', fun i hi => ?_⟩
  have : i = 0 ∨ i = 1 ∨ i = 2 ∨ i = 3 ∨ i = 4 ∨ i = 5 ∨ i = 6 ∨ i = 7 := by omega
  rcases this with rfl | rfl | rfl | rfl | rfl | rfl | rfl | rfl <;> assumption

section
variable {H : Type} {enc : TypeId × Value → H} {P : Program} {w : World} {base : Nat} {spare : Nat → Bool} {held : Bool}

theorem rd_fields (sh : TypeId → Option Sh) (hsh : ∀ t s fuel cs x, sh t = some s → DataW.trod enc P w base spare held fuel t cs = some x → RD w s cs) (fuel : Nat) (cs : List Value) :
    ∀ (fs : List Field) (acc : Nat) (s : Sh) (xs : List (DataW H × List MemPlace)), fieldsSh P sh fs acc = some s → acc + s.size = cs.length →
      fs.mapM (fun f => DataW.trod enc P w base spare held fuel f.type ((cs.drop f.offset).take (P.cellsOf f.type))) = some xs → RD w s (cs.drop acc)
  | [], acc, s, xs, hs, hl, _ => by
    simp only [fieldsSh, Option.some.injEq] at hs
    subst hs
    simp only [Sh.size] at hl
    simp only [RD]
    exact List.drop_eq_nil_of_le (by omega)
  | f :: fs, acc, s, xs, hs, hl, hm => by
    simp only [fieldsSh] at hs
    split at hs
    · rename_i ho
      rw [Option.bind_eq_some_iff] at hs
      obtain ⟨s1, h1, hs⟩ := hs
      split at hs
      · rename_i hsz
        rw [Option.map_eq_some_iff] at hs
        obtain ⟨s2, h2, rfl⟩ := hs
        simp only [Sh.size] at hl
        rw [List.mapM_cons] at hm
        simp only [Option.bind_eq_bind, Option.pure_def, Option.bind_eq_some_iff] at hm
        obtain ⟨x0, hx0, xs', hxs', _⟩ := hm
        have hr1 := hsh _ _ _ _ _ h1 hx0
        have hr2 := rd_fields sh hsh fuel cs fs (acc + s1.size) s2 xs' h2 (by omega) hxs'
        rw [ho, hsz] at hr1
        refine ⟨(cs.drop acc).take s1.size, cs.drop (acc + s1.size), ?_, ?_, hr1, hr2⟩
        · rw [← List.drop_drop, List.take_append_drop]
        · rw [List.length_take, List.length_drop]; omega
      · cases hs
    · cases hs

theorem rd_array {e : TypeId} {s : Sh} (hsh : ∀ fuel cs x, DataW.trod enc P w base spare held fuel e cs = some x → RD w s cs) (hsz : P.cellsOf e = s.size) (fuel : Nat) :
    ∀ (n : Nat) (cs : List Value) (xs : List (DataW H × List MemPlace)), cs.length = n * s.size → (∀ i, i < n → DataW.trod enc P w base spare held fuel e ((cs.drop (i * s.size)).take s.size) = xs[i]?) → xs.length = n → RD w (arraySh s n) cs
  | 0, cs, xs, hl, _, _ => by
    simp only [arraySh, RD]
    exact List.eq_nil_of_length_eq_zero (by simpa using hl)
  | n + 1, cs, xs, hl, h, hx => by
    simp only [arraySh, RD]
    rw [Nat.succ_mul] at hl
    refine ⟨cs.take s.size, cs.drop s.size, (List.take_append_drop _ _).symm, by rw [List.length_take]; omega, ?_, ?_⟩
    · have h0 := h 0 (by omega)
      simp only [Nat.zero_mul, List.drop_zero] at h0
      have : xs[0]? = some (xs[0]'(by omega)) := List.getElem?_eq_getElem (by omega)
      rw [this] at h0
      exact hsh _ _ _ h0
    · refine rd_array hsh hsz fuel n (cs.drop s.size) (xs.drop 1) (by rw [List.length_drop]; omega) (fun i hi => ?_) (by rw [List.length_drop]; omega)
      have h0 := h (i + 1) (by omega)
      rw [List.drop_drop, List.getElem?_drop, Nat.add_comm 1 i, ← h0, Nat.succ_mul, Nat.add_comm s.size]

theorem rd_of_trod : ∀ (d : Nat) (t : TypeId) (s : Sh) (fuel : Nat) (cs : List Value) (x : DataW H × List MemPlace), shp P d t = some s →
    DataW.trod enc P w base spare held fuel t cs = some x → RD w s cs
  | 0, _, _, _, _, _, h, _ => by simp [shp] at h
  | d + 1, t, s, fuel, cs, x, h, hx => by
    simp only [shp] at h
    split at h
    · rename_i ht
      obtain rfl := Option.some.inj h
      obtain ⟨b, rfl, _⟩ := DataW.trod_bool ht hx
      exact ⟨b, rfl⟩
    · rename_i k ht
      obtain rfl := Option.some.inj h
      obtain ⟨n, rfl, _, hw⟩ := DataW.trod_int ht hx
      exact ⟨n, rfl, hw⟩
    · rename_i ht
      obtain rfl := Option.some.inj h
      obtain ⟨s, rfl, _, hw⟩ := DataW.trod_string ht hx
      exact ⟨s, rfl, hw⟩
    · rename_i fs ht
      rw [Option.bind_eq_some_iff] at h
      obtain ⟨s1, h1, h⟩ := h
      split at h
      · rename_i hsz
        obtain rfl := Option.some.inj h
        cases fuel with
        | zero => simp [DataW.trod] at hx
        | succ fuel =>
          simp only [DataW.trod, ht] at hx
          split at hx
          · rename_i hl
            rw [Option.map_eq_some_iff] at hx
            obtain ⟨xs, hm, _⟩ := hx
            have := rd_fields (shp P d) (fun t s fuel cs x hs => rd_of_trod d t s fuel cs x hs) fuel cs fs.toList 0 s1 xs h1 (by omega) hm
            simpa using this
          · cases hx
      · cases h
    · rename_i n e ht
      rw [Option.bind_eq_some_iff] at h
      obtain ⟨s1, h1, h⟩ := h
      split at h
      · rename_i hsz
        obtain rfl := Option.some.inj h
        obtain ⟨xs, m, _, _, hl, hxl, hi⟩ := DataW.trod_array ht hx
        exact rd_array (fun fuel cs x => rd_of_trod d e s1 fuel cs x h1) hsz.1 m n cs xs (by rw [hl, hsz.2]) (fun i hin => by rw [← hi i hin, hsz.1]) hxl
      · cases h
    · rename_i e ht
      rw [Option.bind_eq_some_iff] at h
      obtain ⟨s1, h1, h⟩ := h
      split at h
      · rename_i hsz
        obtain rfl := Option.some.inj h
        rcases open_slice ht hx with ⟨rfl, _⟩ | ⟨a, len, cap, m, n, D, Pl, rfl, _, hl, hm, hmm, _, hi⟩
        · exact .inl rfl
        · refine .inr ⟨a, len, cap, rfl, hl, hm, fun i hil => ?_⟩
          have hlm : len ≤ m := by rw [hmm]; split <;> omega
          obtain ⟨es, hc, ht'⟩ := hi i (by omega)
          obtain ⟨_, hcl, hat⟩ := World.cells?_some hc
          refine ⟨es, by rw [hcl, hsz], fun j hj => ?_, rd_of_trod d e s1 n es _ h1 ht'⟩
          have := hat j (by omega)
          rw [hsz] at this
          rw [← this, Go.Deep.add_add]
      · cases h
    · cases h

theorem rd_of_Trod {d : Nat} {t : TypeId} {s : Sh} {v : Value} {y : DataW H} {ps : List MemPlace} (hs : shp P d t = some s) (h : DataW.Trod enc P w base spare held t v y ps) : RD w s v.cells.toList := by
  obtain ⟨fuel, hf⟩ := h
  exact rd_of_trod d t s fuel _ _ hs hf
end
end Go.Proofs.YthndjhocmpelcaaGreat.Kit
