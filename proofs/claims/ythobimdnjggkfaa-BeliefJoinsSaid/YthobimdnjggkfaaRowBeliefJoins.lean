/- Views that hear the same claims in any order, or join, end alike. -/
import Derived.Test.YthobimdnjggkfaaRows
import Derived.Test.YthobimdnjggkfaaWalkBeliefJoins
import Derived.Test.YthobimdnjggkfaaReads
import Derived.WalkKit
import Derived.ProofKit
import Derived.OpenShut
import Derived.ShutString
import Derived.ChangeOld
import Derived.Below
import Derived.SizedLaws
import Derived.Test.YthobimdnjggkfaaSizes
namespace Go.Proofs.Ythobimdnjggkfaa.rowBeliefJoins
open Go.ChangeShapes Go.WideShapes Go.ChangeAt Go.RowKit Go.Proofs.Ythobimdnjggkfaa Go.Proofs.Ythobimdnjggkfaa.Kit
set_option linter.unusedVariables false
theorem own : ownKnob Try.prog.godebug = none := by kernel_rfl
theorem laidOut : laidOutB Try.prog = true := by kernel_rfl
set_option maxRecDepth 100000 in
theorem lifted (os : Os) (started : os.Started) (H : Type) (enc : TypeId × Value → H) :
    ReturnsInHanded {} Try.checked os 10 .any (Rows.beliefJoinsSpec.pre6 enc Try.prog Try.f10 Rows.beliefJoinsRow.domain false) (Rows.beliefJoinsSpec.post enc Try.prog Try.f10 false true false false) := by
  refine returnsInHanded_of_change_sized (C := Try.checked) own started (by kernel_rfl) Try.func10
    (ChangeSpec.witness6 (enc := enc) (C := Try.checked) false ⟨#[], #[.slice none 0 0, .slice none 0 0, .int .i64 0], []⟩ 8 (by kernel_rfl) (by kernel_rfl) (by kernel_rfl) (by kernel_rfl)) ?_
  intro W base args ds gs before hval0 hW hcnd hsz _
  have hval : ∀ (j : Nat) t v, Try.f10.params[j]? = some t → args[j]? = some v → Value.okWide Try.prog W .any base t v := hval0
  have hW' := hW
  obtain ⟨p, q, hA0, hV, rfl, hfz, hnd⟩ := hW
  have hA : DataW.TrodAll enc Try.prog W 0 (fun _ => true) true Try.f10.params.toList args.toList ds p := hA0
  rw [Try.params10] at hA hval
  obtain ⟨v0, vs0, d0, ds0, p0, q0, hargs, rfl, rfl, h0, r0⟩ := trodAll_cons hA
  obtain ⟨v1, vs1, d1, ds1, p1, q1, rfl, rfl, rfl, h1, r1⟩ := trodAll_cons r0
  obtain ⟨v2, vs2, d2, ds2, p2, q2, rfl, rfl, rfl, h2, r2⟩ := trodAll_cons r1
  obtain ⟨rfl, rfl, rfl⟩ := trodAll_nil r2
  obtain rfl : args = #[v0, v1, v2] := by cases args; simp_all
  obtain ⟨rfl, rfl⟩ := trodVars_none hV
  have k0 := h0
  have lt0 : ∀ x ∈ p0, x.block < W.heap.size := by obtain ⟨m, hm⟩ := k0; exact DataW.trod_lt m _ _ _ hm
  obtain ⟨a0, n0, c0, rfl⟩ := okWide_slice Try.underlying43 (hval 0 43 v0 rfl rfl)
  have g0 : RD W (.slice WBeliefJoins.sh0) [.slice a0 n0 c0] := rd_of_Trod (d := 9) (by kernel_rfl) h0
  have z0 : n0 * Try.prog.bytesOf 45 ≤ reachBytes := Sized.rows (j := 0) hsz (by rw [Try.params10]; rfl) (by rfl) Try.underlying43 k0
  have y0 : n0 * _ ≤ 140737488351232 := z0
  have k1 := h1
  have lt1 : ∀ x ∈ p1, x.block < W.heap.size := by obtain ⟨m, hm⟩ := k1; exact DataW.trod_lt m _ _ _ hm
  obtain ⟨a1, n1, c1, rfl⟩ := okWide_slice Try.underlying43 (hval 1 43 v1 rfl rfl)
  have g1 : RD W (.slice WBeliefJoins.sh1) [.slice a1 n1 c1] := rd_of_Trod (d := 9) (by kernel_rfl) h1
  have z1 : n1 * Try.prog.bytesOf 45 ≤ reachBytes := Sized.rows (j := 1) hsz (by rw [Try.params10]; rfl) (by rfl) Try.underlying43 k1
  have y1 : n1 * _ ≤ 140737488351232 := z1
  have k2 := h2
  have lt2 : ∀ x ∈ p2, x.block < W.heap.size := by obtain ⟨m, hm⟩ := k2; exact DataW.trod_lt m _ _ _ hm
  obtain ⟨a2, rfl⟩ := okWide_int Try.underlying3 (hval 2 3 v2 rfl rfl)
  have g2 : (Lit.int .i64 a2).wf = true := by obtain ⟨fuel, hf⟩ := h2; obtain ⟨n, hn, _, hw⟩ := DataW.trod_int Try.underlying3 hf; simp [Value.cells] at hn; subst hn; exact hw
  clear hA0 hval0
  refine (WBeliefJoins.walk W a0 n0 c0 g0 y0 a1 n1 c1 g1 y1 a2 g2).mono fun e W' ⟨he, bel⟩ => ?_
  subst he
  exact ⟨_, rfl, _, _, _, [], _, [], hW', trodAll_mk1 (shut_bool Try.underlying4 _), (trodAll_cons_mk (Below.trod laidOut (by kernel_rfl) (of_decide_eq_true (by kernel_rfl)) k0 bel lt0) (trodAll_cons_mk (Below.trod laidOut (by kernel_rfl) (of_decide_eq_true (by kernel_rfl)) k1 bel lt1) (trodAll_cons_mk (Below.trod laidOut (by kernel_rfl) (of_decide_eq_true (by kernel_rfl)) k2 bel lt2) trodAll_mk0))), rfl, bel.frame _, fun h => by cases h⟩
theorem over : Rows.beliefJoinsRow.holds Try.pinned (OpenSpec.ofChange Rows.beliefJoinsSpec) :=
  OpenClaim.holds_of_wide 10 Try.f10 rfl rfl rfl rfl rfl rfl rfl ⟨rfl, rfl, rfl, rfl, rfl⟩ rfl rfl rfl rfl rfl (by kernel_rfl) Try.func10 (by kernel_rfl)
    (of_decide_eq_true (by kernel_rfl)) (by unfold Func.isWrapper; first | (rw [if_pos (by decide +kernel)]; kernel_rfl) | (rw [if_neg (by decide +kernel)]; exact ⟨rfl, rfl⟩))
    (fun os started H enc _ => lifted os started H enc)
end Go.Proofs.Ythobimdnjggkfaa.rowBeliefJoins
namespace Go.Proofs.Ythobimdnjggkfaa
theorem beliefJoins_holds : Rows.BeliefJoinsSaid := rowBeliefJoins.over
#print axioms beliefJoins_holds
end Go.Proofs.Ythobimdnjggkfaa
