-- Written by a program of this session (wip/tools/abp/mkrow2.py) for this claim.
import Derived.Test.YtaoadbkoambjbaaRows
import Derived.Test.YtaoadbkoambjbaaR6
import Derived.WalkKit
import Derived.ProofKit
import Derived.OpenShut
import Derived.ShutString
import Derived.ChangeOld
import Derived.Below
import Derived.SizedLaws
import Derived.Carry
namespace Go.Proofs.Ytaoadbkoambjbaa.checkinEdges
open Go.ChangeShapes Go.WideShapes Go.ChangeAt Go.RowKit
set_option linter.unusedVariables false
theorem own : ownKnob Try.prog.godebug = none := by kernel_rfl
theorem laidOut : laidOutB Try.prog = true := by kernel_rfl
set_option maxRecDepth 100000 in
theorem lifted (os : Os) (started : os.Started) (H : Type) (enc : TypeId × Value → H) :
    ReturnsInHanded {} Try.checked os 6 .any (Rows.checkinEdgesSpec.pre6 enc Try.prog Try.f6 Rows.checkinEdgesRow.domain false) (Rows.checkinEdgesSpec.post enc Try.prog Try.f6 false true false false) := by
  refine returnsInHanded_of_change_sized (C := Try.checked) own started (by kernel_rfl) Try.func6
    (ChangeSpec.witness6 (enc := enc) (C := Try.checked) false ⟨#[], #[.agg #[.int .i64 0, .int .i64 0, .int .i64 0, .int .i64 0, .slice none 0 0, .slice none 0 0, .slice none 0 0, .slice none 0 0, .slice none 0 0], .int .i64 0, .int .i64 0], []⟩ 8 (by kernel_rfl) (by kernel_rfl) (by kernel_rfl) (by kernel_rfl)) ?_
  intro W base args ds gs before hval0 hW hcnd hsz0 _
  have hsz : (DataW.weightsEach Try.prog (Try.f6.params.toList ++ Rows.checkinEdgesSpec.plain.varTypes Try.prog) (ds ++ gs)).all (· ≤ reachBytes) = true := hsz0
  have hval : ∀ (j : Nat) t v, Try.f6.params[j]? = some t → args[j]? = some v → Value.okWide Try.prog W .any base t v := hval0
  have hW' := hW
  obtain ⟨p, q, hA0, hV, rfl, hfz, hnd⟩ := hW
  have hA : DataW.TrodAll enc Try.prog W 0 (fun _ => true) true Try.f6.params.toList args.toList ds p := hA0
  rw [Try.params6] at hA hval hsz
  obtain ⟨v0, vs0, d0, ds0, p0, q0, hargs, rfl, rfl, h0, r0⟩ := trodAll_cons hA
  obtain ⟨v1, vs1, d1, ds1, p1, q1, rfl, rfl, rfl, h1, r1⟩ := trodAll_cons r0
  obtain ⟨v2, vs2, d2, ds2, p2, q2, rfl, rfl, rfl, h2, r2⟩ := trodAll_cons r1
  obtain ⟨rfl, rfl, rfl⟩ := trodAll_nil r2
  obtain rfl : args = #[v0, v1, v2] := by cases args; simp_all
  obtain ⟨rfl, rfl⟩ := trodVars_none hV
  have lt0 : ∀ x ∈ p0, x.block < W.heap.size := by obtain ⟨m, hm⟩ := h0; exact DataW.trod_lt m _ _ _ hm
  obtain ⟨y0, e0, z0⟩ := Ab.open_arg (τ := (.prod (.int .i64) (.prod (.int .i64) (.prod (.int .i64) (.prod (.prod (.int .i64) (.prod (.slice (.int .i64)) .unit)) (.prod (.slice (.int .i64)) (.prod (.slice (.int .i64)) (.prod (.slice (.int .i64)) (.prod (.slice (.int .i64)) .unit))))))))) (t := 35) (by kernel_rfl) (hval 0 35 v0 rfl rfl) h0 (Ab.arg_weights hsz (j := 0) (t := 35) rfl rfl)
  have lt1 : ∀ x ∈ p1, x.block < W.heap.size := by obtain ⟨m, hm⟩ := h1; exact DataW.trod_lt m _ _ _ hm
  obtain ⟨y1, e1, z1⟩ := Ab.open_arg (τ := (.int .i64)) (t := 3) (by kernel_rfl) (hval 1 3 v1 rfl rfl) h1 (Ab.arg_weights hsz (j := 1) (t := 3) rfl rfl)
  have lt2 : ∀ x ∈ p2, x.block < W.heap.size := by obtain ⟨m, hm⟩ := h2; exact DataW.trod_lt m _ _ _ hm
  obtain ⟨y2, e2, z2⟩ := Ab.open_arg (τ := (.int .i64)) (t := 3) (by kernel_rfl) (hval 2 3 v2 rfl rfl) h2 (Ab.arg_weights hsz (j := 2) (t := 3) rfl rfl)
  clear hA0 hval0 hsz0 hsz
  refine (Ab.law_of (Ab.ammonitelaw12_CheckinEdges.ok 1000000000000000) (Ab.checkinEdges_plain (y0, y1, y2, ()) ⟨z0, z1, z2, trivial⟩) (w := W) ⟨_, _, rfl, e0, _, _, rfl, e1, _, _, rfl, e2, rfl⟩).mono fun e W' ⟨he, bel⟩ => ?_
  subst he
  exact ⟨_, rfl, _, _, _, [], _, [], hW', trodAll_mk1 (shut_bool Try.underlying4 _), (trodAll_cons_mk (Below.trod laidOut (by kernel_rfl) (of_decide_eq_true (by kernel_rfl)) h0 bel lt0) (trodAll_cons_mk (Below.trod laidOut (by kernel_rfl) (of_decide_eq_true (by kernel_rfl)) h1 bel lt1) (trodAll_cons_mk (Below.trod laidOut (by kernel_rfl) (of_decide_eq_true (by kernel_rfl)) h2 bel lt2) trodAll_mk0))), rfl, bel.frame _, fun h => by cases h⟩
theorem over : Rows.checkinEdgesRow.holds Try.pinned (OpenSpec.ofChange Rows.checkinEdgesSpec) :=
  OpenClaim.holds_of_wide 6 Try.f6 rfl rfl rfl rfl rfl rfl rfl ⟨rfl, rfl, rfl, rfl, rfl⟩ rfl rfl rfl rfl rfl (by kernel_rfl) Try.func6 (by kernel_rfl)
    (of_decide_eq_true (by kernel_rfl)) (by unfold Func.isWrapper; first | (rw [if_pos (by decide +kernel)]; kernel_rfl) | (rw [if_neg (by decide +kernel)]; exact ⟨rfl, rfl⟩))
    (fun os started H enc _ => lifted os started H enc)
theorem proved : Rows.CheckinEdgesSaid := over
#print axioms proved
end Go.Proofs.Ytaoadbkoambjbaa.checkinEdges
namespace Go.Proofs.Ytaoadbkoambjbaa
theorem checkinEdges_holds : Rows.CheckinEdgesSaid := checkinEdges.proved
end Go.Proofs.Ytaoadbkoambjbaa
