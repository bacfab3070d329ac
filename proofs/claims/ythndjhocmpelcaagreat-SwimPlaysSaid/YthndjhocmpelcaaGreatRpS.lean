/- Chapter 3: the document's own queue: Take. Conditions: the rows lie in memory. -/
import Derived.Test.YthndjhocmpelcaaGreatRpR
namespace Go.Proofs.YthndjhocmpelcaaGreat.Rum
open Go.RowKit Kit Go.Shelf Hth Tri3
set_option linter.unusedVariables false
theorem own_mono {w : World} {a b : Nat} {E : TypeId} {s : Nat} {v : Value} {n : Nat} {xs : List Value} (h : w.ownsRow b E s v n xs) (hab : a ≤ b) : w.ownsRow a E s v n xs := by
  refine ⟨h.1, ?_⟩
  rcases h.2 with h1 | ⟨g, cap, cur, h1, h3, h4⟩
  · exact .inl h1
  · exact .inr ⟨g, cap, cur, h1, Nat.le_trans hab h3, h4⟩
/-- What the first loop holds. -/
structure RMid (w wr : World) (q g : Nat) (o : Int) (A : Option Addr) (n c : Nat) (R L : List Tld) (j : Nat) (vo : Value) (no : Nat) : Prop where
  out : OwnC wr (q + 1) vo no (toldQ j L)
  tk : Arr8.Arr wr q 131 (tkn (L.take j))
  q_ : RQS wr g o A n c R
  b : Below w.heap.size w wr
theorem RMid.keep {w wr wr' : World} {q g : Nat} {o : Int} {A : Option Addr} {n c : Nat} {R L : List Tld} {j no : Nat} {vo : Value} (h : RMid w wr q g o A n c R L j vo no) (hb : Below wr.heap.size wr wr') : RMid w wr' q g o A n c R L j vo no :=
  ⟨h.out.below hb, h.tk.below hb, h.q_.wr (Wr.of_below hb (fun _ => False)) (fun _ _ h => h), h.b.trans (hb.mono h.b.size)⟩
theorem RMid.tkn {w wr : World} {q g : Nat} {o : Int} {A : Option Addr} {n c : Nat} {R L : List Tld} {j no : Nat} {vo : Value} (h : RMid w wr q g o A n c R L j vo no) {t : Tld} {e : Nat} (he : t.node = (e : Int)) (he8 : e < 8) : wr.cell? ⟨q, e, none⟩ = some (.bool (inN (L.take j) t)) := by
  have := h.tk.cell e he8
  unfold Rum.tkn at this
  rw [tkn_at he] at this
  exact this
theorem lt_lt {a b : Tld} (h : a.n < b.n) : ltT a b = true := by unfold ltT; rw [if_neg (by omega)]; exact decide_eq_true h
theorem lt_gt {a b : Tld} (h : b.n < a.n) : ltT a b = false := by unfold ltT; rw [if_neg (by omega)]; exact decide_eq_false (by omega)
theorem lt_eq {a b : Tld} {e f : Nat} (h : a.n = b.n) (ha : a.node = (e : Int)) (hb : b.node = (f : Int)) : ltT a b = decide ((e : Int) < (f : Int)) := by unfold ltT; rw [if_pos h, ha, hb]
set_option maxRecDepth 100000 in
set_option maxHeartbeats 8000000 in
theorem rtake (w : World) (g : Nat) (o : Int) (A : Option Addr) (R L : List Tld) (n : Int) (h : Hid (RQ w g o A R)) (hp : Hid (R.Perm L)) (hst : Hid (St L)) (hlt : Hid (Lt o L)) (ho : Hid (o ≤ 20)) (m : Nat) (hm : Hid (m = many n L.length)) :
    Calls Tryz.prog 69 #[.pointer (some ⟨g, 0, none⟩), .int .i64 n] w fun e w' => ∃ B nb cb, e = .returned (.slice B nb cb) ∧ Hid (OwnC w' w.heap.size (.slice B nb cb) nb (toldQ m L)) ∧ Hid (nb = m) ∧ ∃ S, Hid (S.Perm (tookQ o m L)) ∧ Hid (RTurn w w' g o A S) := by
  have hits := Hid.mk_ h.out.its
  obtain ⟨nR, cR, h0⟩ := h.out
  have HN : Hid (nR = L.length) := Hid.mk_ (by rw [h0.own.1, hp.out.length_eq])
  have HR : Hid (nR = R.length) := Hid.mk_ h0.own.1
  have H8 : Hid (nR ≤ 8) := Hid.mk_ (by rw [HN.out]; exact hst.out.len)
  have HCAP := Hid.mk_ h0.own.cap
  have HON : Hid (∀ t ∈ R, 0 ≤ t.node ∧ t.node ≤ 7) := Hid.mk_ (fun t ht => by have := hst.out.ok t (hp.out.mem_iff.1 ht); omega)
  have hal := (Below.refl w.heap.size w).alloc (Nat.le_refl _) (.cells #[.bool false, .bool false, .bool false, .bool false, .bool false, .bool false, .bool false, .bool false] 131)
  have M0 : RMid w (w.alloc (.cells #[.bool false, .bool false, .bool false, .bool false, .bool false, .bool false, .bool false, .bool false] 131)) w.heap.size g o A nR cR R L 0 (.slice none 0 0) 0 :=
    ⟨⟨rfl, Rowz.nil _ _ _ _⟩, (show Arr8.Arr _ _ _ (fun _ => .bool false) from heap_alloc_new w _), h0.wr (Wr.of_below hal (fun _ => False)) (fun _ _ h => h), hal⟩
  have MM := Hid.mk_ M0
  clear M0 hal h0
  go_enter Tryz.func69, Tryz.ntmps69
  go_upto_block 0 with fail
  obtain ⟨q, hq⟩ : ∃ q, q = w.heap.size := ⟨_, rfl⟩
  have HQ := Hid.mk_ hq
  rw [← hq] at MM ⊢
  clear hq
  generalize w.alloc (.cells #[.bool false, .bool false, .bool false, .bool false, .bool false, .bool false, .bool false, .bool false] 131) = w1 at *
  go_cut [5, 7, 8, 9] from 13 to 107 (fun s5 s7 s8 s9 wx => ∃ (B : Option Addr) (nb cb : Nat), s5 = .slice B nb cb ∧ Hid (RMid w wx q g o A nR cR R L m (.slice B nb cb) nb))
  case first =>
    go_wp2_with fail
    go_loopg [5] L.length (fun gg s5 wr => ∃ (j : Nat) (B : Option Addr) (nb cb : Nat), s5 = .slice B nb cb ∧ L.length - j ≤ gg ∧ Hid (j ≤ m) ∧ Hid (RMid w wr q g o A nR cR R L j (.slice B nb cb) nb))
    case atStart => exact ⟨0, none, 0, 0, rfl, by omega, Hid.mk_ (Nat.zero_le _), MM⟩
    case round =>
      clear MM
      obtain ⟨j, B, nb, cb, rfl, hg, hjm, MI⟩ := hrel
      have hml : Hid (m ≤ L.length) := Hid.mk_ (by rw [hm.out]; unfold many; omega)
      have hnb : Hid (nb = j) := Hid.mk_ (by rw [MI.out.out.1, told_len]; have := hjm.out; have := hml.out; omega)
      have hcell := MI.out.q_.c1
      by_cases hnn : (nb : Int) < n
      · by_cases hjl : (nb : Int) < (nR : Int)
        · have hjL : j < L.length := by have := hnb.out; have := HN.out; omega
          obtain ⟨t, ht⟩ : ∃ t, L[j]? = some t := ⟨_, List.getElem?_eq_getElem hjL⟩
          have HT := Hid.mk_ ht
          have hjm1 : Hid (j + 1 ≤ m) := Hid.mk_ (by have h1 := hm.out; have := hnb.out; unfold many at h1; omega)
          clear ht
          go_wp2_with fail
          go_loopw [7, 32] (fun b i wx => ∃ (k : Nat) (bi : Int), b = .int .i64 bi ∧ i = .int .i64 (k : Int) ∧ k ≤ nR ∧ Hid (Best (inN (L.take j)) R k bi) ∧ Hid (RMid w wx q g o A nR cR R L j (.slice B nb cb) nb)) (fun _ i _ => nR - (intOf i).toNat)
          case atStart => exact ⟨0, -1, rfl, rfl, by omega, Hid.mk_ (Best.start _ _), MI⟩
          case round =>
            clear MI
            obtain ⟨k, bi, rfl, rfl, hk, HB, MI⟩ := hrel
            by_cases hkn : k < nR
            · have hkR : k < R.length := by have := HR.out; omega
              have hgt : R[k]? = some (fn R k) := fn_get hkR
              obtain ⟨t', ht'⟩ : ∃ t', t' = fn R k := ⟨_, rfl⟩
              rw [← ht'] at hgt
              have HTK := Hid.mk_ ht'
              have tok := HON.out t' (List.mem_of_getElem? hgt)
              obtain ⟨b, rfl, _, _, ⟨c0, c1, c2, c3⟩, _⟩ := MI.out.q_.own.row k t' hgt
              have hcap := HCAP.out
              obtain ⟨hc1, hc2⟩ := hcap
              have hcell := MI.out.q_.c1
              have l1 : (k : Int) < (nR : Int) := by omega
              have l0 : (0 : Int) ≤ (k : Int) := by omega
              clear ht' hgt
              go_upto_region 8 with fail
              have al := (Below.refl wr.heap.size wr).alloc (Nat.le_refl _) (.cells #[.int .i64 t'.node, .int .i64 t'.inc, .int .i64 t'.hl, .int .i64 t'.n] 118)
              have x0 : (wr.alloc (.cells #[.int .i64 t'.node, .int .i64 t'.inc, .int .i64 t'.hl, .int .i64 t'.n] 118)).cell? ⟨wr.heap.size, 0, none⟩ = some (.int .i64 t'.node) := by rw [World.cell?_alloc_new]; rfl
              have x3 : (wr.alloc (.cells #[.int .i64 t'.node, .int .i64 t'.inc, .int .i64 t'.hl, .int .i64 t'.n] 118)).cell? ⟨wr.heap.size, 3, none⟩ = some (.int .i64 t'.n) := by rw [World.cell?_alloc_new]; rfl
              have MJ := Hid.mk_ (MI.out.keep al)
              have PL : Hid (wr.heap.size < (wr.alloc (.cells #[.int .i64 t'.node, .int .i64 t'.inc, .int .i64 t'.hl, .int .i64 t'.n] 118)).heap.size) := Hid.mk_ (by simp)
              clear c0 c1 c2 c3 MI al hcell
              generalize hpz : wr.heap.size = pz at *
              generalize wr.alloc (.cells #[.int .i64 t'.node, .int .i64 t'.inc, .int .i64 t'.hl, .int .i64 t'.n] 118) = wy at *
              clear hpz
              obtain ⟨e, he⟩ : ∃ e : Nat, t'.node = (e : Int) := ⟨t'.node.toNat, by omega⟩
              have he8 : e < 8 := by omega
              have ca := MJ.out.tkn he he8
              rw [he] at x0
              have HE := Hid.mk_ he
              have e0 : (0 : Int) ≤ (e : Int) := by omega
              have e1 : (e : Int) < 8 := by omega
              have hcell := MJ.out.q_.c1
              clear he tok
              have lt1 := PL.out
              have lt2 := MJ.out.q_.lt
              have lt3 := MJ.out.tk.lt
              cases hT : inN (L.take j) t' with
              | true =>
                rw [hT] at ca
                go_wp2_with fail
                go_roundw
                case rel => exact ⟨k + 1, bi, rfl, by go_num, by omega, Hid.mk_ (HB.out.skip (by rw [← HTK.out]; exact hT)), MJ⟩
                case measure => simp [intOf]; omega
              | false =>
                rw [hT] at ca
                have HT' := Hid.mk_ hT
                clear hT
                have hB := HB.out
                by_cases hbi : bi = -1
                · subst hbi
                  go_upto_region 9 with fail
                  refine wp_draws _ (Below.refl _ _) (by kernel_rfl) (by kernel_rfl) (fun hne hN => ?_)
                  repeat (go_big_quiet_step (fail))
                  refine wpQuiet_nil (after_cells ?_)
                  intro w4 b4 _
                  go_wp2_with fail
                  go_roundw
                  case rel => exact ⟨k + 1, (k : Int), rfl, by go_num, by omega, Hid.mk_ (hB.first (by rw [← HTK.out]; exact HT'.out)), Hid.mk_ (MJ.out.keep b4)⟩
                  case measure => simp [intOf]; omega
                · obtain ⟨bb, rfl⟩ : ∃ bb : Nat, bi = (bb : Int) := by
                    rcases hB with ⟨h1, _⟩ | ⟨m', h1, _⟩
                    · exact absurd h1 hbi
                    · exact ⟨m', h1⟩
                  have hbk := hB.lt
                  have hbR : bb < R.length := by have := HR.out; omega
                  have hgs : R[bb]? = some (fn R bb) := fn_get hbR
                  obtain ⟨s, hs⟩ : ∃ s, s = fn R bb := ⟨_, rfl⟩
                  rw [← hs] at hgs
                  have HS := Hid.mk_ hs
                  have sok := HON.out s (List.mem_of_getElem? hgs)
                  obtain ⟨b', eb, _, lt4, ⟨y0, y1, y2, y3⟩, _⟩ := MJ.out.q_.own.row bb s hgs
                  injection eb with eb
                  injection eb with eb _
                  subst eb
                  obtain ⟨f, hf⟩ : ∃ f : Nat, s.node = (f : Int) := ⟨s.node.toNat, by omega⟩
                  rw [hf] at y0
                  have HF := Hid.mk_ hf
                  have bi0 : (0 : Int) ≤ (bb : Int) := by omega
                  have bi1 : (bb : Int) < (nR : Int) := by omega
                  have bi2 : decide ((bb : Int) < 0) = false := decide_eq_false (by omega)
                  have bi3 : ¬ (bb : Int) < 0 := by omega
                  have hBH := Hid.mk_ hB
                  clear hs hgs sok hf hB hbi hbk hbR y1 y2
                  by_cases hlt1 : t'.n < s.n
                  · have d1 : decide (t'.n < s.n) = true := decide_eq_true hlt1
                    have hl := Hid.mk_ (lt_lt hlt1)
                    go_upto_region 9 with fail
                    refine wp_draws _ (Below.refl _ _) (by kernel_rfl) (by kernel_rfl) (fun hne hN => ?_)
                    repeat (go_big_quiet_step (fail))
                    refine wpQuiet_nil (after_cells ?_)
                    intro w4 b4 _
                    go_wp2_with fail
                    go_roundw
                    case rel => exact ⟨k + 1, (k : Int), rfl, by go_num, by omega, Hid.mk_ (hBH.out.less (by rw [← HTK.out]; exact HT'.out) (by rw [← HTK.out, ← HS.out]; exact hl.out)), Hid.mk_ (MJ.out.keep b4)⟩
                    case measure => simp [intOf]; omega
                  · have d1 : decide (t'.n < s.n) = false := decide_eq_false hlt1
                    by_cases heq : t'.n = s.n
                    · have d2 : (t'.n == s.n) = true := by simp [heq]
                      have HEQ := Hid.mk_ heq
                      clear heq
                      by_cases hef : (e : Int) < (f : Int)
                      · have d3 : decide ((e : Int) < (f : Int)) = true := decide_eq_true hef
                        have hef2 : e < f := by omega
                        have hl : Hid (ltT t' s = true) := Hid.mk_ ((lt_eq HEQ.out HE.out HF.out).trans d3)
                        go_upto_region 9 with fail
                        refine wp_draws _ (Below.refl _ _) (by kernel_rfl) (by kernel_rfl) (fun hne hN => ?_)
                        repeat (go_big_quiet_step (fail))
                        refine wpQuiet_nil (after_cells ?_)
                        intro w4 b4 _
                        go_wp2_with fail
                        go_roundw
                        case rel => exact ⟨k + 1, (k : Int), rfl, by go_num, by omega, Hid.mk_ (hBH.out.less (by rw [← HTK.out]; exact HT'.out) (by rw [← HTK.out, ← HS.out]; exact hl.out)), Hid.mk_ (MJ.out.keep b4)⟩
                        case measure => simp [intOf]; omega
                      · have d3 : decide ((e : Int) < (f : Int)) = false := decide_eq_false hef
                        have hef2 : ¬ e < f := by omega
                        have hl : Hid (ltT t' s = false) := Hid.mk_ ((lt_eq HEQ.out HE.out HF.out).trans d3)
                        go_upto_region 9 with fail
                        refine wp_draws _ (Below.refl _ _) (by kernel_rfl) (by kernel_rfl) (fun hne hN => ?_)
                        repeat (go_big_quiet_step (fail))
                        refine wpQuiet_nil (after_cells ?_)
                        intro w4 b4 _
                        go_wp2_with fail
                        go_roundw
                        case rel => exact ⟨k + 1, (bb : Int), rfl, by go_num, by omega, Hid.mk_ (hBH.out.more (by rw [← HTK.out, ← HS.out]; exact hl.out)), Hid.mk_ (MJ.out.keep b4)⟩
                        case measure => simp [intOf]; omega
                    · have d2 : (t'.n == s.n) = false := by simp [heq]
                      have hl : Hid (ltT t' s = false) := Hid.mk_ (lt_gt (by omega))
                      clear heq
                      go_upto_region 9 with fail
                      refine wp_draws _ (Below.refl _ _) (by kernel_rfl) (by kernel_rfl) (fun hne hN => ?_)
                      repeat (go_big_quiet_step (fail))
                      refine wpQuiet_nil (after_cells ?_)
                      intro w4 b4 _
                      go_wp2_with fail
                      go_roundw
                      case rel => exact ⟨k + 1, (bb : Int), rfl, by go_num, by omega, Hid.mk_ (hBH.out.more (by rw [← HTK.out, ← HS.out]; exact hl.out)), Hid.mk_ (MJ.out.keep b4)⟩
                      case measure => simp [intOf]; omega
            · obtain rfl : k = nR := by omega
              obtain ⟨bm, rfl, hbm, hfn⟩ := Best.end_ (by rw [← HR.out]; exact HB.out) hp.out hst.out HT.out
              have hgs : R[bm]? = some t := by rw [← hfn]; exact fn_get hbm
              have tok := HON.out t (List.mem_of_getElem? hgs)
              have MZ := Hid.mk_ (MI.out)
              obtain ⟨b, rfl, hbb, hbz, ⟨c0, c1, c2, c3⟩, _⟩ := MI.out.q_.own.row bm t hgs
              have hcap := HCAP.out
              obtain ⟨hc1, hc2⟩ := hcap
              have hcell := MI.out.q_.c1
              obtain ⟨e, he⟩ : ∃ e : Nat, t.node = (e : Int) := ⟨t.node.toNat, by omega⟩
              have he8 : e < 8 := by omega
              have ca := MI.out.tk.cell e he8
              have cf := MI.out.tk.frozen e
              have c0' := c0
              rw [he] at c0
              have e0 : (0 : Int) ≤ (e : Int) := by omega
              have e1 : (e : Int) < 8 := by omega
              have i0 : (0 : Int) ≤ (bm : Int) := by omega
              have i1 : (bm : Int) < (k : Int) := by have := HR.out; omega
              have HE := Hid.mk_ he
              have HBM := Hid.mk_ hgs
              have hqb : q ≠ b := fun h2 => by have := (hits.out b (.inr ⟨0, rfl⟩)).2; have := HQ.out; omega
              have hqg : q ≠ g := fun h2 => by have := (hits.out g (.inl rfl)).2; have := HQ.out; omega
              have LZ : Hid (q < wr.heap.size) := Hid.mk_ MI.out.tk.lt
              clear he tok hgs hbm hfn HB MI hbb hbz
              go_upto_region 13 with fail
              have ws := Wr.set wr q e (.bool true)
              have M1 : RMid w (wr.setCell ⟨q, e, none⟩ (.bool true)) q g o (some ⟨b, 0, none⟩) k cR R L j (.slice B nb cb) nb → True := fun _ => trivial
              have O1 : Hid (OwnC (wr.setCell ⟨q, e, none⟩ (.bool true)) (q + 1) (.slice B nb cb) nb (toldQ j L)) := Hid.mk_ (MZ.out.out.keepW ws (fun k hk => by omega))
              have T1 : Hid (Arr8.Arr (wr.setCell ⟨q, e, none⟩ (.bool true)) q 131 (tkn (L.take (j + 1)))) := Hid.mk_ ((MZ.out.tk.set e he8 (.bool true)).congr (fun a _ => tkn_up HT.out HE.out a))
              have Q1 := Hid.mk_ (MZ.out.q_.wr ws (fun k hk h2 => by have := (hits.out k hk).2; have := HQ.out; omega))
              have B1 : Hid (Below w.heap.size w (wr.setCell ⟨q, e, none⟩ (.bool true))) := Hid.mk_ (below_set MZ.out.b (by rw [HQ.out]; exact Nat.le_refl _))
              have d0 : (wr.setCell ⟨q, e, none⟩ (.bool true)).cell? ⟨b, bm * 4, none⟩ = some (.int .i64 t.node) := ws.cell c0' (fun h2 => hqb h2.symm)
              have d1 : (wr.setCell ⟨q, e, none⟩ (.bool true)).cell? ⟨b, bm * 4 + 1, none⟩ = some (.int .i64 t.inc) := ws.cell c1 (fun h2 => hqb h2.symm)
              have d2 : (wr.setCell ⟨q, e, none⟩ (.bool true)).cell? ⟨b, bm * 4 + 2, none⟩ = some (.int .i64 t.hl) := ws.cell c2 (fun h2 => hqb h2.symm)
              have hcell1 := Q1.out.c1
              have L1 : Hid (q < (wr.setCell ⟨q, e, none⟩ (.bool true)).heap.size) := Hid.mk_ (by have := LZ.out; simpa [World.setCell] using this)
              clear c0 c0' c1 c2 c3 hcell ca cf ws MZ LZ M1
              generalize wr.setCell ⟨q, e, none⟩ (.bool true) = wy at *
              have hbz := L1.out
              obtain ⟨i0', hi0, hz0, hz1, hz2⟩ := Rowz.info_parts info53
              go_wp2_with (at_builtin; refine Rowz.wpList_app1 _ rfl _ _ 44 30 rfl i0' (.agg #[.int .i64 0, .int .i64 0, .int .i64 0]) 3 24 Tryz.underlying44 hi0 hz0 hz1 hz2 rfl (by decide) (q + 1) (.slice B nb cb) nb (cellsC (toldQ j L)) rfl (Rowz.below O1.out.2 ((Below.refl _ _).alloc (Nat.le_refl _) _)) _ _ (cellsC [clm t]) rfl rfl (claimAt _ t) (cellsC_one _) (by have := hnb.out; have := H8.out; have := HN.out; omega) (by decide) (by have := L1.out; simp; omega) ?_; intro v5 w5 g5)
              have alq := (Below.refl wy.heap.size wy).alloc (Nat.le_refl _) (.cells #[.int .i64 t.node, .int .i64 t.inc, .int .i64 t.hl] 30)
              have OA := O1.out.below alq
              have hz : q + 1 ≤ (wy.alloc (.cells #[.int .i64 t.node, .int .i64 t.inc, .int .i64 t.hl] 30)).heap.size := by have := L1.out; simp; omega
              have d5 := g5.out.below OA.2 hz
              have O5 : OwnC w5 (q + 1) v5 (nb + 1) (toldQ (j + 1) L) := ⟨by rw [told_len _ _ hjL, hnb.out], by rw [told_snoc HT.out, cellsC_append]; exact g5.out.own⟩
              have T5 := (T1.out.below alq).keep (d5.block q (by omega))
              have Q5 := (Q1.out.wr (Wr.of_below alq (fun _ => False)) (fun _ _ h => h)).wr (Wr.ofB d5) (fun k hk h2 => by have := (hits.out k hk).2; have := HQ.out; omega)
              have B5 : Below w.heap.size w w5 := (B1.out.trans (alq.mono B1.out.size)).trans (d5.mono (by have := HQ.out; omega))
              obtain ⟨P5, c5, rfl, _, _, _⟩ := Rowz.form g5.out.own
              go_roundg (L.length - (j + 1))
              case measure => omega
              case rel => exact ⟨j + 1, P5, nb + 1, c5, rfl, Nat.le_refl _, hjm1, Hid.mk_ ⟨O5, T5, Q5, B5⟩⟩
        · have e0 : j = m := by have h1 := hm.out; have := hjm.out; have := hnb.out; have := HN.out; have := hml.out; unfold many at h1; omega
          subst e0
          go_wp2_with fail
          go_meet
          exact ⟨B, nb, cb, rfl, MI⟩
      · have e0 : j = m := by have h1 := hm.out; have := hjm.out; have := hnb.out; unfold many at h1; omega
        subst e0
        go_wp2_with fail
        go_meet
        exact ⟨B, nb, cb, rfl, MI⟩
  case rest =>
    clear MM
    obtain ⟨B, nb, cb, rfl, MC⟩ := hcut
    have hml : m ≤ L.length := by rw [hm.out]; unfold many; omega
    have hnb : Hid (nb = m) := Hid.mk_ (by rw [MC.out.out.1, told_len _ _ hml])
    have hcell := MC.out.q_.c1
    have hcap := HCAP.out
    obtain ⟨hc1, hc2⟩ := hcap
    obtain ⟨T, hT⟩ : ∃ T, T = inN (L.take m) := ⟨_, rfl⟩
    have HTT := Hid.mk_ hT
    have OB := ho
    clear hT hml
    obtain ⟨z2, hz2⟩ : ∃ z2, z2 = wc.heap.size := ⟨_, rfl⟩
    have HZ2 := Hid.mk_ hz2
    have QZ : Hid (q < z2) := Hid.mk_ (by rw [hz2]; exact MC.out.tk.lt)
    clear hz2
    go_wp2_with fail
    go_loopw [10, 113] (fun r i wr => ∃ (k : Nat) (P : Option Addr) (np cp : Nat), r = .slice P np cp ∧ i = .int .i64 (k : Int) ∧ k ≤ nR ∧ Hid (OwnG wr z2 (.slice P np cp) np (restF o T (R.take k))) ∧ Hid (Below z2 wc wr)) (fun _ i _ => nR - (intOf i).toNat)
    case atStart => exact ⟨0, none, 0, 0, rfl, rfl, by omega, Hid.mk_ ⟨rfl, Rowz.nil _ _ _ _⟩, Hid.mk_ (Below.refl _ _)⟩
    case round =>
      obtain ⟨k, P, np, cp, rfl, rfl, hk, OG, BW⟩ := hrel
      have MK : Hid (RMid w wr q g o A nR cR R L m (.slice B nb cb) nb) := Hid.mk_ (MC.out.keep (by have := BW.out; rw [HZ2.out] at this; exact this))
      clear hcell
      by_cases hkn : k < nR
      · have hkR : k < R.length := by have := HR.out; omega
        obtain ⟨t, ht⟩ : ∃ t, R[k]? = some t := ⟨_, List.getElem?_eq_getElem hkR⟩
        have tok := HON.out t (List.mem_of_getElem? ht)
        have tln := hlt.out t (hp.out.mem_iff.1 (List.mem_of_getElem? ht))
        have oo := OB.out
        obtain ⟨b, rfl, _, _, ⟨c0, c1, c2, c3⟩, _⟩ := MK.out.q_.own.row k t ht
        have hcell := MK.out.q_.c1
        have l1 : (k : Int) < (nR : Int) := by omega
        have l0 : (0 : Int) ≤ (k : Int) := by omega
        have HTG := Hid.mk_ ht
        have npb : np ≤ 100 := by have h1 := OG.out.1; have h2 := rest_len o T (R.take k); have h3 := H8.out; simp at h2; omega
        clear ht
        go_upto_region 18 with fail
        have al := (Below.refl wr.heap.size wr).alloc (Nat.le_refl _) (.cells #[.int .i64 t.node, .int .i64 t.inc, .int .i64 t.hl, .int .i64 t.n] 118)
        have f3 : (wr.alloc (.cells #[.int .i64 t.node, .int .i64 t.inc, .int .i64 t.hl, .int .i64 t.n] 118)).frozen? ⟨wr.heap.size, 3, none⟩ = false := World.frozen?_alloc_new _ _ _ _
        have BX : Hid (Box4 (wr.alloc (.cells #[.int .i64 t.node, .int .i64 t.inc, .int .i64 t.hl, .int .i64 t.n] 118)) wr.heap.size t) := Hid.mk_ ⟨by rw [World.cell?_alloc_new]; rfl, by rw [World.cell?_alloc_new]; rfl, by rw [World.cell?_alloc_new]; rfl, by rw [World.cell?_alloc_new]; rfl, f3⟩
        have MJ := Hid.mk_ (MK.out.keep al)
        have OJ := Hid.mk_ (OG.out.below al)
        have BJ : Hid (Below z2 wc (wr.alloc (.cells #[.int .i64 t.node, .int .i64 t.inc, .int .i64 t.hl, .int .i64 t.n] 118))) := Hid.mk_ (BW.out.trans (al.mono (by have := BW.out.size; have := HZ2.out; omega)))
        have ZP : Hid (z2 ≤ wr.heap.size) := Hid.mk_ (by have := BW.out.size; have := HZ2.out; omega)
        have NP : Hid (∀ j, (Value.slice P np cp).ownBlock = some j → j ≠ wr.heap.size) := Hid.mk_ (fun j hj e => by have := (Rowz.blk OG.out.2 j hj).2; omega)
        clear c0 c1 c2 c3 MK OG BW al hcell f3
        generalize hpz : wr.heap.size = pz at *
        generalize wr.alloc (.cells #[.int .i64 t.node, .int .i64 t.inc, .int .i64 t.hl, .int .i64 t.n] 118) = wy at *
        clear hpz
        obtain ⟨e, he⟩ : ∃ e : Nat, t.node = (e : Int) := ⟨t.node.toNat, by omega⟩
        have he8 : e < 8 := by omega
        have ca := MJ.out.tkn he he8
        rw [← HTT.out] at ca
        obtain ⟨x0, x1, x2, x3, f3⟩ := BX.out
        rw [he] at x0
        have HE := Hid.mk_ he
        have e0 : (0 : Int) ≤ (e : Int) := by omega
        have e1 : (e : Int) < 8 := by omega
        have xo := MJ.out.q_.c0
        clear he tok
        obtain ⟨i1, hi1, gz0, gz1, gz2⟩ := Rowz.info_parts info67
        cases hT : T t with
        | true =>
          rw [hT] at ca
          have HS : Hid (restF o T (R.take (k + 1)) = restF o T (R.take k) ++ (left1 o T t).toList) := Hid.mk_ (rest_snoc HTG.out)
          have hL1 : left1 o T t = if t.n + 1 < o then some (inc1 t) else none := by unfold left1; rw [hT]; rfl
          have HL1 := Hid.mk_ hL1
          clear hL1 hT
          go_upto_region 20 with fail
          have ws := Wr.set wy pz 3 (.int .i64 (t.n + 1))
          have B6 := Hid.mk_ BX.out.inc
          have O6 : Hid (OwnG (wy.setCell ⟨pz, 3, none⟩ (.int .i64 (t.n + 1))) z2 (.slice P np cp) np (restF o T (R.take k))) := Hid.mk_ ⟨OJ.out.1, Rowz.keep OJ.out.2 fun j hj hlt => ws.block j hlt (NP.out j hj)⟩
          have Bz : Hid (Below z2 wc (wy.setCell ⟨pz, 3, none⟩ (.int .i64 (t.n + 1)))) := Hid.mk_ (below_set BJ.out ZP.out)
          clear ws OJ BJ BX x0 x1 x2 x3 f3 MJ ca xo
          generalize wy.setCell ⟨pz, 3, none⟩ (.int .i64 (t.n + 1)) = w6 at *
          obtain ⟨x0, x1, x2, x3, f3⟩ := B6.out
          simp only [inc1] at x0 x1 x2 x3
          have M6 : Hid (RMid w w6 q g o (some ⟨b, 0, none⟩) nR cR R L m (.slice B nb cb) nb) := Hid.mk_ (MC.out.keep (by have := Bz.out; rw [HZ2.out] at this; exact this))
          have xo := M6.out.q_.c0
          by_cases hlo : t.n + 1 < o
          · go_region
            have B7 : Hid (Box4 w6.drew pz (inc1 t)) := Hid.mk_ ⟨B6.out.c0, B6.out.c1, B6.out.c2, B6.out.c3, B6.out.f3⟩
            have dr : Below w6.heap.size w6 w6.drew := (Below.refl _ _).drew
            have O7 := Hid.mk_ (O6.out.below dr)
            have D7 := Hid.mk_ (Bz.out.drew)
            clear O6 Bz dr x0 x1 x2 x3 f3 B6 xo M6
            generalize w6.drew = w7 at *
            obtain ⟨x0, x1, x2, x3, f3⟩ := B7.out
            simp only [inc1] at x0 x1 x2 x3
            go_wp2_with (at_builtin; refine Rowz.wpList_app1 _ rfl _ _ 111 118 rfl i1 (.agg #[.int .i64 0, .int .i64 0, .int .i64 0, .int .i64 0]) 4 32 Tryz.underlying111 hi1 gz0 gz1 gz2 rfl (by decide) z2 (.slice P np cp) np (cellsT (restF o T (R.take k))) rfl (Rowz.below O7.out.2 ((Below.refl _ _).alloc (Nat.le_refl _) _)) _ _ (cellsT [inc1 t]) rfl rfl (oneAt67 _ (inc1 t)) (cells_one _) (by omega) (by decide) (by have := ZP.out; have := B7.out.lt; simp; omega) ?_; intro v8 w8 g8)
            have alq := (Below.refl w7.heap.size w7).alloc (Nat.le_refl _) (.cells #[.int .i64 (inc1 t).node, .int .i64 (inc1 t).inc, .int .i64 (inc1 t).hl, .int .i64 (inc1 t).n] 118)
            have OA := O7.out.below alq
            have hb8 : z2 ≤ w7.heap.size := by have := ZP.out; have := B7.out.lt; omega
            have d8 := g8.out.below OA.2 (Nat.le_trans hb8 alq.size)
            obtain ⟨P5, c5, rfl, _, _, _⟩ := Rowz.form g8.out.own
            go_roundw
            case rel => exact ⟨k + 1, P5, np + 1, c5, rfl, by go_num, by omega, Hid.mk_ ⟨by rw [HS.out, HL1.out, if_pos hlo, List.length_append, ← O7.out.1]; rfl, by rw [HS.out, HL1.out, if_pos hlo, Option.toList_some, cells_append]; exact g8.out.own⟩, Hid.mk_ ((D7.out.trans (alq.mono hb8)).trans d8)⟩
            case measure => simp [intOf]; omega
          · have HSn : Hid (restF o T (R.take (k + 1)) = restF o T (R.take k)) := Hid.mk_ (by rw [HS.out, HL1.out, if_neg hlo]; simp)
            go_region
            have dr : Below w6.heap.size w6 w6.drew := (Below.refl _ _).drew
            go_wp2_with fail
            go_roundw
            case rel => exact ⟨k + 1, P, np, cp, rfl, by go_num, by omega, Hid.mk_ (by rw [HSn.out]; exact O6.out.below dr), Hid.mk_ (Bz.out.drew)⟩
            case measure => simp [intOf]; omega
        | false =>
          rw [hT] at ca
          have HS : Hid (restF o T (R.take (k + 1)) = restF o T (R.take k) ++ [t]) := Hid.mk_ (by
            rw [rest_snoc HTG.out]; unfold left1; rw [hT]; rfl)
          clear hT
          have hlo : t.n < o := tln.2
          go_upto_region 20 with fail
          go_region
          have B7 : Hid (Box4 wy.drew pz t) := Hid.mk_ ⟨BX.out.c0, BX.out.c1, BX.out.c2, BX.out.c3, BX.out.f3⟩
          have dr : Below wy.heap.size wy wy.drew := (Below.refl _ _).drew
          have O7 := Hid.mk_ (OJ.out.below dr)
          have D7 := Hid.mk_ (BJ.out.drew)
          clear OJ BJ dr x0 x1 x2 x3 f3 BX xo MJ ca
          generalize wy.drew = w7 at *
          obtain ⟨x0, x1, x2, x3, f3⟩ := B7.out
          go_wp2_with (at_builtin; refine Rowz.wpList_app1 _ rfl _ _ 111 118 rfl i1 (.agg #[.int .i64 0, .int .i64 0, .int .i64 0, .int .i64 0]) 4 32 Tryz.underlying111 hi1 gz0 gz1 gz2 rfl (by decide) z2 (.slice P np cp) np (cellsT (restF o T (R.take k))) rfl (Rowz.below O7.out.2 ((Below.refl _ _).alloc (Nat.le_refl _) _)) _ _ (cellsT [t]) rfl rfl (oneAt67 _ t) (cells_one _) (by omega) (by decide) (by have := ZP.out; have := B7.out.lt; simp; omega) ?_; intro v8 w8 g8)
          have alq := (Below.refl w7.heap.size w7).alloc (Nat.le_refl _) (.cells #[.int .i64 t.node, .int .i64 t.inc, .int .i64 t.hl, .int .i64 t.n] 118)
          have OA := O7.out.below alq
          have hb8 : z2 ≤ w7.heap.size := by have := ZP.out; have := B7.out.lt; omega
          have d8 := g8.out.below OA.2 (Nat.le_trans hb8 alq.size)
          obtain ⟨P5, c5, rfl, _, _, _⟩ := Rowz.form g8.out.own
          go_roundw
          case rel => exact ⟨k + 1, P5, np + 1, c5, rfl, by go_num, by omega, Hid.mk_ ⟨by rw [HS.out, List.length_append, ← O7.out.1]; rfl, by rw [HS.out, cells_append]; exact g8.out.own⟩, Hid.mk_ ((D7.out.trans (alq.mono hb8)).trans d8)⟩
          case measure => simp [intOf]; omega
      · obtain rfl : k = nR := by omega
        have e1 : R.take k = R := List.take_of_length_le (by have := HR.out; omega)
        rw [e1] at OG
        have s0 := MK.out.q_.c0
        have s1 := MK.out.q_.c1
        have s2 := MK.out.q_.f1
        go_wp2_with fail
        go_ret
        have hg := (hits.out g (.inl rfl)).2
        have hqw := HQ.out
        have hqz := QZ.out
        have ws := Wr.set wr g 1 (.slice P np cp)
        refine ⟨B, nb, cb, rfl, Hid.mk_ ?_, hnb, restF o T R, Hid.mk_ (by rw [HTT.out]; exact rest_perm hp.out hst.out o m), Hid.mk_ ⟨P, ⟨np, cp, ?_, ?_, ?_, ?_⟩, fun b off e => ?_, ?_⟩⟩
        · have := MK.out.out.keepW ws (fun j hj => by omega)
          exact ⟨this.1, own_mono this.2 (by omega)⟩
        · exact (World.cell?_setCell_other _ _ _ _ (by simp)).trans s0
        · exact World.cell?_setCell_same _ _ _ s1
        · exact (World.frozen?_setCell _ _ _ _).trans s2
        · exact ⟨OG.out.1, Rowz.keep (own_mono OG.out.2 (by omega)) fun j hj hlt => ws.block j hlt (fun e => by have := (Rowz.blk OG.out.2 j hj).1; omega)⟩
        · have := (Rowz.blk OG.out.2 b (by rw [e]; rfl)).1
          exact .inr (by omega)
        · exact (Wr.of_below MK.out.b _).then_ ws (fun i hi => .inl (.inl hi))
end Go.Proofs.YthndjhocmpelcaaGreat.Rum
