/- A detector's tick; calls that come in; words for the laws. Conditions: as each theorem says. -/
import Derived.Test.YthndjhocmpelcaaGreatSwW
import Derived.Test.YthndjhocmpelcaaGreatGm
namespace Go.Proofs.YthndjhocmpelcaaGreat.Swi
open Go.RowKit Kit Hth Tri3
set_option linter.unusedVariables false
theorem tick1 (w : World) (S : Nat → Prop) (g : Nat) (d : Dt) (hD : Hid (Det w S g d)) (hv : Hid (Vok d)) (hn : d.now < 1000000) (Ap : Option Addr) (np cp : Nat) (ps : List Int) (dr : Int) (hr : Hid (Prb.Row w Ap ps)) (hS : Hid (∀ b off, Ap = some ⟨b, off, none⟩ → 0 < np → ¬ S b)) (hnp : Hid (np = ps.length)) (hnc : np ≤ cp) (hcc : cp ≤ 9223372036854775807) (hdr : Hid (0 ≤ dr)) (d' : Dt) (hd : Hid (d' = (dTick ps dr d).1)) (ms : List Om) (hm : Hid (ms = (dTick ps dr d).2)) :
    Calls Tryz.prog 15 #[.pointer (some ⟨g, 0, none⟩), .slice Ap np cp, .int .u64 dr] w fun e w' => ∃ v T, e = .returned v ∧ Hid (Outs w' w.heap.size v ms T) ∧ Hid (DTurnX w w' S g d' T) := by
  have ed := hd.out
  have em := hm.out
  unfold dTick at ed em
  cases hl : d.left with
  | true =>
    rw [hl, if_pos rfl] at ed em
    refine (tick_left w S g d hD hl hn _ _ d' (Hid.mk_ ed)).mono ?_
    rintro e w' ⟨rfl, t⟩
    subst em
    exact ⟨_, _, rfl, Hid.mk_ (Outs.nil _ _), Hid.mk_ (DTurnX.of t.out)⟩
  | false =>
    rw [hl, if_neg (by simp)] at ed em
    refine (tick_go w S g d hD hv hl hn Ap np cp ps dr hr hS hnp hnc hcc hdr _ (Hid.mk_ rfl)).mono ?_
    rintro e w' ⟨v, T, rfl, h1, h2⟩
    rw [← ed] at h2
    rw [← em] at h1
    exact ⟨v, T, rfl, h1, h2⟩
/-- A message of a row, cell by cell. -/
structure MAt (w : World) (b o : Nat) (m : Om) (P : Option Addr) (n c : Nat) : Prop where
  c0 : w.cell? ⟨b, o, none⟩ = some (.int .i64 m.k)
  c1 : w.cell? ⟨b, o + 1, none⟩ = some (.int .i64 m.f)
  c2 : w.cell? ⟨b, o + 2, none⟩ = some (.int .i64 m.t)
  c3 : w.cell? ⟨b, o + 3, none⟩ = some (.int .i64 m.s)
  c4 : w.cell? ⟨b, o + 4, none⟩ = some (.int .i64 m.fo)
  c5 : w.cell? ⟨b, o + 5, none⟩ = some (.int .i64 m.ab)
  c61 : w.cell? ⟨b, o + 61, none⟩ = some (.slice P n c)
  len : n = m.cs.length
  cap : n ≤ c
  max : c ≤ 9223372036854775807
theorem Outs.mat {w : World} {base : Nat} {A : Option Addr} {n c : Nat} {ms : List Om} {T : Nat → Prop} (h : Outs w base (.slice A n c) ms T) (i : Nat) (m : Om) (hm : ms[i]? = some m) :
    ∃ b P np cp, A = some ⟨b, 0, none⟩ ∧ T b ∧ b < w.heap.size ∧ MAt w b (i * 62) m P np cp ∧ ClAt w P m.cs ∧ (∀ x off, P = some ⟨x, off, none⟩ → T x) ∧ w.rangeAt b (i * 62) (msg m.k m.f m.t m.s m.fo m.ab (.slice P np cp)).toList := by
  obtain ⟨b, s, e, hT, hb, hc, ht, hr⟩ := h.at_ i m hm
  obtain ⟨A', c', e1, k1, k2, k3⟩ := Rowz.form hc.2
  have es : s.c = c' := by injection e1
  have el : s.n = m.cs.length := hc.1
  refine ⟨b, s.P, s.n, s.c, e, hT, hb, ⟨?_, ?_, ?_, ?_, ?_, ?_, ?_, el, by omega, by omega⟩, hc.row, fun x off hx => ?_, hr⟩
  · exact hr 0 _ rfl
  · exact hr 1 _ rfl
  · exact hr 2 _ rfl
  · exact hr 3 _ rfl
  · exact hr 4 _ rfl
  · exact hr 5 _ rfl
  · exact hr 61 _ rfl
  · rcases k3 with ⟨h1, _, _⟩ | ⟨b', h1, _, _⟩
    · have e2 : s.P = A' := by injection e1
      rw [e2, h1] at hx
      cases hx
    · have e2 : s.P = A' := by injection e1
      refine ht x ?_
      show (Value.slice s.P s.n s.c).ownBlock = some x
      rw [e2, h1] at hx ⊢
      injection hx with hx
      injection hx with hx _
      rw [← hx]
      rfl
set_option maxRecDepth 100000 in
theorem awake_eq : (dTick [1] 7 (dNew 0 0)).2 = [⟨1, 0, 1, 1, 0, 0, [⟨0, 0, 1⟩]⟩] := by kernel_rfl
theorem dNew_ok (s i : Int) : (dNew s i).now = 0 ∧ (dNew s i).left = false ∧ (dNew s i).inc = i ∧ (dNew s i).self = s ∧ (dNew s i).over = false ∧ (dNew s i).seq = 0 ∧ (dNew s i).asked = -1 := ⟨rfl, rfl, rfl, rfl, rfl, rfl, rfl⟩
set_option maxRecDepth 100000 in
set_option maxHeartbeats 4000000 in
theorem awake (w : World) : Calls Tryz.prog 5 #[] w fun e w' => e = .returned (.bool true) ∧ Below w.heap.size w w' := by
  have h00 : Hid ((0 : Int) ≤ 0 ∧ (0 : Int) ≤ 7) := Hid.mk_ (by decide)
  have h01 : Hid ((0 : Int) ≤ 0 ∧ (0 : Int) ≤ 1000000) := Hid.mk_ (by decide)
  go_enter Tryz.func5, Tryz.ntmps5
  go_upto_region 2 with (go_at_call 6; refine (newD w 0 0 h00 h01).mono ?_; rintro e w1 ⟨g, S, rfl, D1, HS, b1⟩)
  have al := (Below.refl w1.heap.size w1).alloc (Nat.le_refl _) (.cells #[.int .i64 1] 3)
  have D2 := Hid.mk_ (D1.out.below al)
  have B2 := Hid.mk_ (b1.trans (al.mono b1.size))
  have V2 : Hid (Vok (dNew 0 0)) := Hid.mk_ (Vok.new 0 0)
  have P2 : Hid (Prb.Row (w1.alloc (.cells #[.int .i64 1] 3)) (some ⟨w1.heap.size, 0, none⟩) [1]) := Hid.mk_ (Prb.Row.one w1 1 3)
  have N2 : Hid (∀ b off, some (⟨w1.heap.size, 0, none⟩ : Addr) = some ⟨b, off, none⟩ → 0 < 1 → ¬ S b) := Hid.mk_ (fun b off e _ hb => by
    injection e with e
    injection e with e _
    have := D1.out.blk b hb
    omega)
  have HN : (dNew 0 0).now < 1000000 := by rw [(dNew_ok 0 0).1]; decide
  have h7 : Hid ((0 : Int) ≤ 7) := Hid.mk_ (by decide)
  have hm : Hid ([⟨1, 0, 1, 1, 0, 0, [⟨0, 0, 1⟩]⟩] = (dTick [1] 7 (dNew 0 0)).2) := Hid.mk_ awake_eq.symm
  have hl1 : Hid ((1 : Nat) = [(1 : Int)].length) := Hid.mk_ rfl
  clear al
  go_upto_region 3 with (go_at_call 15; refine (tick1 (w1.alloc (.cells #[.int .i64 1] 3)) S g (dNew 0 0) D2 V2 HN (some ⟨w1.heap.size, 0, none⟩) 1 1 [1] 7 P2 N2 hl1 (by decide) (by decide) h7 _ (Hid.mk_ rfl) [⟨1, 0, 1, 1, 0, 0, [⟨0, 0, 1⟩]⟩] hm).mono ?_; rintro e w3 ⟨v, T, rfl, o3, t3⟩)
  obtain ⟨A, c, rfl, _, _⟩ := o3.out.form
  obtain ⟨b, P, np, cp, rfl, hT, hb, M, C, hP, _⟩ := o3.out.mat 0 _ rfl
  have x0 : w3.cell? ⟨b, 0, none⟩ = some (.int .i64 1) := M.c0
  have x2 : w3.cell? ⟨b, 2, none⟩ = some (.int .i64 1) := M.c2
  have x3 : w3.cell? ⟨b, 3, none⟩ = some (.int .i64 1) := M.c3
  have x61 : w3.cell? ⟨b, 61, none⟩ = some (.slice P 1 cp) := M.c61.trans (by rw [M.len]; rfl)
  have HB := Hid.mk_ (B2.out.trans ((t3.out.turn.choose_spec.2.2).below B2.out.size (fun k hk => HS.out k hk |> fun h => h)))
  clear M C hP hb
  go_wp2_with fail
  go_ret
  exact ⟨rfl, HB.out⟩
end Go.Proofs.YthndjhocmpelcaaGreat.Swi
namespace Go.Proofs.YthndjhocmpelcaaGreat.Swi
open Go.RowKit Kit Hth Tri3
set_option linter.unusedVariables false
/-- The leaves of a shape, in order. -/
def flat : Sh → List Sh
  | .pair a b => flat a ++ flat b
  | .unit => []
  | .int k => [.int k]
  | .bool => [.bool]
  | .str => [.str]
  | .slice e => [.slice e]
theorem flat_leaf {w : World} {s : Sh} {cs : List Value} (hf : flat s = [s]) (h : RD w s cs) (h1 : cs.length = 1) : cs.length = (flat s).length ∧ ∀ (j : Nat) (t : Sh), (flat s)[j]? = some t → ∃ v, cs[j]? = some v ∧ RD w t [v] := by
  obtain ⟨v, rfl⟩ := List.length_eq_one_iff.1 h1
  rw [hf]
  refine ⟨rfl, fun j t hj => ?_⟩
  cases j with
  | zero =>
    obtain rfl : s = t := by simpa using hj
    exact ⟨v, rfl, h⟩
  | succ j => simp at hj
theorem rd_flat {w : World} : ∀ (s : Sh) (cs : List Value), RD w s cs → cs.length = (flat s).length ∧ ∀ (j : Nat) (t : Sh), (flat s)[j]? = some t → ∃ v, cs[j]? = some v ∧ RD w t [v]
  | .pair a b, cs, h => by
    obtain ⟨xs, ys, rfl, hl, h1, h2⟩ := rd_pair h
    obtain ⟨k1, k2⟩ := rd_flat a xs h1
    obtain ⟨l1, l2⟩ := rd_flat b ys h2
    refine ⟨by rw [flat, List.length_append, List.length_append, k1, l1], fun j t hj => ?_⟩
    rw [flat] at hj
    by_cases hlt : j < (flat a).length
    · rw [List.getElem?_append_left hlt] at hj
      rw [List.getElem?_append_left (by omega)]
      exact k2 j t hj
    · rw [List.getElem?_append_right (by omega)] at hj
      rw [List.getElem?_append_right (by omega), k1]
      exact l2 _ t hj
  | .unit, cs, h => by
    obtain rfl := rd_unit h
    exact ⟨rfl, fun j t hj => by simp [flat] at hj⟩
  | .int k, cs, h => flat_leaf rfl h (by obtain ⟨n, rfl, _⟩ := rd_int h; rfl)
  | .bool, cs, h => flat_leaf rfl h (by obtain ⟨n, rfl⟩ := h; rfl)
  | .str, cs, h => flat_leaf rfl h (by obtain ⟨n, rfl, _⟩ := h; rfl)
  | .slice e, cs, h => flat_leaf rfl h (by rcases h with rfl | ⟨_, _, _, rfl, _⟩ <;> rfl)
theorem rd_one {w : World} : ∀ (s : Sh) (cs : List Value), RD w s cs → ∀ v ∈ cs, v.oneCell' = true
  | .pair a b, cs, h => by
    obtain ⟨xs, ys, rfl, hl, h1, h2⟩ := rd_pair h
    intro v hv
    rcases List.mem_append.1 hv with h | h
    · exact rd_one a xs h1 v h
    · exact rd_one b ys h2 v h
  | .unit, cs, h => by
    obtain rfl := rd_unit h
    intro v hv
    simp at hv
  | .int k, cs, h => by obtain ⟨n, rfl, _⟩ := rd_int h; intro v hv; obtain rfl : v = _ := by simpa using hv
                        rfl
  | .bool, cs, h => by obtain ⟨n, rfl⟩ := h; intro v hv; obtain rfl : v = _ := by simpa using hv
                       rfl
  | .str, cs, h => by obtain ⟨n, rfl, _⟩ := h; intro v hv; obtain rfl : v = _ := by simpa using hv
                      rfl
  | .slice e, cs, h => by
    intro v hv
    rcases h with rfl | ⟨_, _, _, rfl, _⟩
    · obtain rfl : v = _ := by simpa using hv
      rfl
    · obtain rfl : v = _ := by simpa using hv
      rfl
@[reducible] def shI : Sh := .int .i64
def shVec : Sh := arraySh shI 8
def shVal : Sh := .pair (.pair shI (.pair shI .unit)) (.pair .str .unit)
def shBag : Sh := .pair shVec (.pair (.slice shVal) .unit)
def shPlan : Sh := .pair shI (.pair shI (.pair (.slice shI) .unit))
def shRing : Sh := .pair shVec (.pair shPlan (.pair (arraySh (.pair shI (.pair shI .unit)) 16) .unit))
def shMsg : Sh := .pair shI (.pair shI (.pair shI (.pair shI (.pair shI (.pair shI (.pair shI (.pair shI (.pair .str (.pair shBag (.pair shRing (.pair (.slice shC) .unit)))))))))))
def shCall : Sh := .pair shI (.pair shC (.pair shMsg (.pair (.slice shI) (.pair (.int .u64) .unit))))
set_option maxRecDepth 100000 in
theorem shp58 : shp Tryz.prog 9 49 = some shCall := by kernel_rfl
theorem flat_call : (flat shCall).length = 68 := rfl
/-- A call that comes in, plain; and where its rows lie. -/
structure Qc where
  d : Int
  c : Cl
  k : Int
  f : Int
  t : Int
  s : Int
  fo : Int
  ab : Int
  P : Option Addr
  n : Nat
  cc : Nat
  ls : List Cl
  Ap : Option Addr
  np : Nat
  cp : Nat
  ps : List Int
  dr : Int
/-- The cells of a call. -/
structure CallL (w : World) (es : List Value) (q : Qc) : Prop where
  len : es.length = 68
  one : ∀ v ∈ es, v.oneCell' = true
  e0 : es[0]? = some (.int .i64 q.d)
  e1 : es[1]? = some (.int .i64 q.c.n)
  e2 : es[2]? = some (.int .i64 q.c.i)
  e3 : es[3]? = some (.int .i64 q.c.h)
  e4 : es[4]? = some (.int .i64 q.k)
  e5 : es[5]? = some (.int .i64 q.f)
  e6 : es[6]? = some (.int .i64 q.t)
  e7 : es[7]? = some (.int .i64 q.s)
  e8 : es[8]? = some (.int .i64 q.fo)
  e9 : es[9]? = some (.int .i64 q.ab)
  e65 : es[65]? = some (.slice q.P q.n q.cc)
  e66 : es[66]? = some (.slice q.Ap q.np q.cp)
  e67 : es[67]? = some (.int .u64 q.dr)
  cl : ClAt w q.P q.ls
  ln : q.n = q.ls.length
  nc : q.n ≤ q.cc
  max : q.cc ≤ 9223372036854775807
  row : Prb.Row w q.Ap q.ps
  pn : q.np = q.ps.length
  pc : q.np ≤ q.cp
  pmax : q.cp ≤ 9223372036854775807
  dr : 0 ≤ q.dr
theorem leaf_int {w : World} {s : Sh} {es : List Value} (h : RD w s es) (j : Nat) (hj : (flat s)[j]? = some (.int .i64)) : ∃ n, es[j]? = some (.int .i64 n) := by
  obtain ⟨v, h1, h2⟩ := (rd_flat s es h).2 j _ hj
  obtain ⟨n, e, _⟩ := rd_int h2
  obtain rfl : v = _ := by simpa using e
  exact ⟨n, h1⟩
theorem rd_call {w : World} {es : List Value} (h : RD w shCall es) : ∃ q, CallL w es q := by
  obtain ⟨d, e0⟩ := leaf_int h 0 rfl
  obtain ⟨x, e1⟩ := leaf_int h 1 rfl
  obtain ⟨y, e2⟩ := leaf_int h 2 rfl
  obtain ⟨z, e3⟩ := leaf_int h 3 rfl
  obtain ⟨k, e4⟩ := leaf_int h 4 rfl
  obtain ⟨f, e5⟩ := leaf_int h 5 rfl
  obtain ⟨t, e6⟩ := leaf_int h 6 rfl
  obtain ⟨s, e7⟩ := leaf_int h 7 rfl
  obtain ⟨fo, e8⟩ := leaf_int h 8 rfl
  obtain ⟨ab, e9⟩ := leaf_int h 9 rfl
  obtain ⟨v, h65, r65⟩ := (rd_flat shCall es h).2 65 (.slice shC) rfl
  obtain ⟨v2, h66, r66⟩ := (rd_flat shCall es h).2 66 (.slice shI) rfl
  obtain ⟨v3, h67, r67⟩ := (rd_flat shCall es h).2 67 (.int .u64) rfl
  obtain ⟨P, n, cc, e⟩ := Prb.rd_slice r65
  obtain rfl : v = _ := by simpa using e
  obtain ⟨Ap, np, cp, e'⟩ := Prb.rd_slice r66
  obtain rfl : v2 = _ := by simpa using e'
  obtain ⟨dr, e'', hdr⟩ := rd_int r67
  obtain rfl : v3 = _ := by simpa using e''
  obtain ⟨ls, l1, l2, l3, l4⟩ := rd_claims r65
  obtain ⟨ps, p1, p2, p3, p4, _⟩ := Prb.rd_ints r66
  refine ⟨⟨d, ⟨x, y, z⟩, k, f, t, s, fo, ab, P, n, cc, ls, Ap, np, cp, ps, dr⟩, (rd_flat shCall es h).1, rd_one _ _ h, e0, e1, e2, e3, e4, e5, e6, e7, e8, e9, h65, h66, h67, l2, l1.symm, l3, ?_, p2, p1.symm, p3, p4, ?_⟩
  · show cc ≤ 9223372036854775807
    unfold maxLen at l4; omega
  · show 0 ≤ dr
    simp [Lit.wf] at hdr
    have h0 : IntKind.u64.min = 0 := rfl
    omega
/-- The message of a call. -/
theorem CallL.msg {w : World} {es : List Value} {q : Qc} (h : CallL w es q) : MsgC ((es.drop 4).take 62).toArray q.k q.f q.t q.s q.fo q.ab (.slice q.P q.n q.cc) := by
  have hg : ∀ j, j < 62 → ((es.drop 4).take 62).toArray[j]? = es[4 + j]? := fun j hj => by
    simp only [List.getElem?_toArray, List.getElem?_take, List.getElem?_drop]
    rw [if_pos hj]
  refine ⟨by simp [h.len], ?_, ?_, ?_, ?_, ?_, ?_, ?_, ?_⟩
  · rw [Array.all_eq_true_iff_forall_mem]
    intro v hv
    exact h.one v (List.mem_of_mem_drop (List.mem_of_mem_take (by simpa using hv)))
  · rw [hg 0 (by omega)]; exact h.e4
  · rw [hg 1 (by omega)]; exact h.e5
  · rw [hg 2 (by omega)]; exact h.e6
  · rw [hg 3 (by omega)]; exact h.e7
  · rw [hg 4 (by omega)]; exact h.e8
  · rw [hg 5 (by omega)]; exact h.e9
  · rw [hg 61 (by omega)]; exact h.e65
end Go.Proofs.YthndjhocmpelcaaGreat.Swi
namespace Go.Proofs.YthndjhocmpelcaaGreat.Swi
open Go.RowKit Kit Hth Tri3 Go.Shelf
set_option linter.unusedVariables false
theorem modm (n m : Int) (hm : 0 < m) (hb : m ≤ 4611686018427387904) : ∃ y : Int, 0 ≤ y ∧ y < m ∧ wrap64 ((IntKind.u64.wrap n).tmod m) = y := by
  have h : 0 ≤ IntKind.u64.wrap n := by rw [IntKind.wrap_u64]; omega
  generalize IntKind.u64.wrap n = t at h
  rw [Int.tmod_eq_emod_of_nonneg h]
  have h1 := Int.emod_nonneg t (b := m) (by omega)
  have h2 := Int.emod_lt_of_pos t hm
  refine ⟨t % m, h1, h2, ?_⟩
  unfold wrap64
  omega
def eq3 (a b c x y z : Int) : Bool := a == x && (b == y && c == z)
theorem equalIn48 (d : Nat) (a b c x y z : Int) (w : World) : (Op.equalIn (d + 2) 30 (.agg #[.int .i64 a, .int .i64 b, .int .i64 c]) (.agg #[.int .i64 x, .int .i64 y, .int .i64 z])).run Tryz.prog w = .ok (eq3 a b c x y z) w := by
  rw [Op.equalIn]
  simp only [Sem.run_bind, run_underlying Tryz.underlying30, Result.andThen_ok]
  simp [go_sem]
  unfold eq3
  repeat' split
  all_goals simp_all
theorem eql48 (a b c x y z : Int) (w : World) : (binOp .eql 30 (.agg #[.int .i64 a, .int .i64 b, .int .i64 c]) (.agg #[.int .i64 x, .int .i64 y, .int .i64 z])).run Tryz.prog w = .ok (.bool (eq3 a b c x y z)) w := by
  rw [run_eql_struct, equalIn48 9998]; rfl
theorem neq48 (a b c x y z : Int) (w : World) : (binOp .neq 30 (.agg #[.int .i64 a, .int .i64 b, .int .i64 c]) (.agg #[.int .i64 x, .int .i64 y, .int .i64 z])).run Tryz.prog w = .ok (.bool (!eq3 a b c x y z)) w := by
  rw [run_neq_struct, equalIn48 9998]; rfl
theorem eq3_self (a b c : Int) : eq3 a b c a b c = true := by simp [eq3]
theorem neq48_self (a b c : Int) (w : World) : (binOp .neq 30 (.agg #[.int .i64 a, .int .i64 b, .int .i64 c]) (.agg #[.int .i64 a, .int .i64 b, .int .i64 c])).run Tryz.prog w = .ok (.bool false) w := by
  rw [neq48, eq3_self]; rfl
theorem eql48_self (a b c : Int) (w : World) : (binOp .eql 30 (.agg #[.int .i64 a, .int .i64 b, .int .i64 c]) (.agg #[.int .i64 a, .int .i64 b, .int .i64 c])).run Tryz.prog w = .ok (.bool true) w := by
  rw [eql48, eq3_self]
/-- A row of cells is kept. -/
theorem rowk {w w' : World} {z : Nat} {a : Array Value} {t : TypeId} (h : w.heap[z]? = some (.cells a t (0, 0))) (hb : Below w.heap.size w w') : w'.heap[z]? = some (.cells a t (0, 0)) := (hb.block z (Array.getElem?_eq_some_iff.1 h).1).trans h
theorem rowc {w : World} {z i : Nat} {a : Array Value} {t : TypeId} {v : Value} (h : w.heap[z]? = some (.cells a t (0, 0))) (hv : a.toList[i]? = some v) : w.cell? ⟨z, i, none⟩ = some v := by
  rw [cell_of_row w z i a t (0, 0) h]
  simpa using hv
/-- The message of a call lies in its row. -/
theorem row_msg {w : World} {z : Nat} {a : Array Value} {t : TypeId} (h : w.heap[z]? = some (.cells a t (0, 0))) : w.rangeAt z 4 ((a.toList.drop 4).take 62) := fun j v hv => by
  rw [cell_of_row w z (4 + j) a t (0, 0) h]
  rw [List.getElem?_take, List.getElem?_drop] at hv
  split at hv
  · simpa using hv
  · cases hv
theorem range_len {es : List Value} (h : es.length = 68) : (Tryz.prog.info? 46).map (·.size) = some ((es.drop 4).take 62).length := by
  rw [size42]
  simp [h]
/-- A load behind a guard that lets it. -/
theorem wpList_load_midG {P : Program} {ops : Array Oper} {rest : List Oper} {op : Oper} {a : Act} {w : World} {Q : Exit → Act → World → Prop} (ty : TypeId) (x : Operand) (ho : op.op = .load ty x)
    (b o : Nat) (hx : a.eval x = .pointer (some ⟨b, o, none⟩)) (hw : Region.wanted op (yielded ops a.tmps) = true) (cs : List Value) (d : TypeDesc) (hc : w.rangeAt b o cs)
    (hu : P.underlying ty = some d) (hd : d.isRow = true) (hi : (P.info? ty).map (·.size) = some cs.length)
    (h : wpList P ops Q rest (a.put op.dst (.agg cs.toArray)) w) : wpList P ops Q (op :: rest) a w :=
  wpList_step fun K hK => by
    rw [if_pos hw]
    exact wp_load_mid ty x ho b o hx cs d hc hu hd hi (hK _ _ h)
end Go.Proofs.YthndjhocmpelcaaGreat.Swi
