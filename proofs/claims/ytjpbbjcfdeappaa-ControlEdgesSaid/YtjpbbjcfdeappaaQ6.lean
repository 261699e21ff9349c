/- Chapter 13: ControlRuns, ControlTells, ControlEdges. -/
import Derived.Test.YtjpbbjcfdeappaaQ5
set_option linter.unusedVariables false
set_option linter.unusedSimpArgs false
set_option linter.unusedSectionVars false
set_option maxRecDepth 10000
namespace Go.Proofs.Ytjpbbjcfdeappaa.Ab
open Go Go.RowKit Go.Proofs.Ytjpbbjcfdeappaa.Given
section
variable {K : Nat} (hK : 1000000 ≤ K) (hK2 : K < 4611686018427387904)
include hK hK2
theorem ctlRuns_eq : ammonitelaw13_ControlRuns.f K (()) = some true := by
  have hs40 : (sumS [120]).length = 40 := sumS_len _
  have hisB := sum_isB [120]
  have hr : rightC ((7, [((43 : Int), ([97] : List UInt8), sumS [120], ([] : List UInt8), ())], [109, 101], ()) : DCtl) = true := by
    unfold rightC rightT okTags okTag okKind
    simp only [hisB]
    rfl
  have hz : rightC zCtl = false := rfl
  have ho := rightC_ok hr
  have hd : decS 7 = [55] := by unfold decS; rw [if_pos ⟨by decide, by decide⟩]; show decN 7 = _; rw [decN_lt (by omega)]; rfl
  rw [ammonitelaw13_ControlRuns.eq, rsum_eq K (by simp), Option.bind_some, ctlPrint_eq hK hK2 (OkCtl.fits hK ho), if_pos hr, Option.bind_some, ctlBack hK hK2 hr, Option.bind_some, ctlPrint_eq hK hK2 (c := zCtl) ⟨by show 0 < K; omega, (fun t ht => by cases ht), by show 0 < K; omega⟩, hz]
  have hbody : ctlS ((7, [((43 : Int), ([97] : List UInt8), sumS [120], ([] : List UInt8), ())], [109, 101], ()) : DCtl) = [68, 32, 55, 10, 84, 32] ++ ([43, 97, 32] ++ sumS [120] ++ [10, 85, 32, 109, 101, 10] ++ [90, 32] ++ sumS (bodyS (ctlCards ((7, [((43 : Int), ([97] : List UInt8), sumS [120], ([] : List UInt8), ())], [109, 101], ()) : DCtl))) ++ [10]) := by
    have e : bodyS (ctlCards ((7, [((43 : Int), ([97] : List UInt8), sumS [120], ([] : List UInt8), ())], [109, 101], ()) : DCtl)) = [68, 32, 55, 10, 84, 32] ++ ([43, 97, 32] ++ sumS [120] ++ [10, 85, 32, 109, 101, 10]) := by
      simp [ctlCards, hd, bodyS, cardLine, tagCard, tagArgs, Lib.join_cons, Lib.joinTail]
    unfold ctlS sealS
    rw [e]
    simp only [List.append_assoc]
  have hlen : (ctlS ((7, [((43 : Int), ([97] : List UInt8), sumS [120], ([] : List UInt8), ())], [109, 101], ()) : DCtl)).length = 98 := by
    rw [hbody]
    simp only [List.length_append, List.length_cons, List.length_nil, sumS_len]
  have hcut : cutL (ctlS ((7, [((43 : Int), ([97] : List UInt8), sumS [120], ([] : List UInt8), ())], [109, 101], ()) : DCtl)) none (some (6 : Int)) = [68, 32, 55, 10, 84, 32] := by
    rw [hbody]
    exact (cutL_to _ 6).trans (List.take_left' rfl)
  simp only [hlen, hcut]
  simp [chks]
theorem tells_end {c d : DCtl} (hc : FitsC K c) (hd : rightC d = true) : ammonitelaw13_ControlTells.j10 K (rightC c) (if rightC c = true then ctlS c else []) c.1 c.2.1 c.2.2.1 d.1 d.2.1 d.2.2.1 = some true := by
  have hr := ctlRuns_eq hK hK2
  have hod := rightC_ok hd
  rw [ammonitelaw13_ControlTells.j10_eq (by omega), hr]
  cases h : rightC c with
  | false => rfl
  | true =>
    have ho := rightC_ok h
    rw [if_pos rfl, ctlBack hK hK2 h]
    simp only [Option.bind_some]
    rw [show (c.1, c.2.1, c.2.2.1, ()) = c from rfl, show (d.1, d.2.1, d.2.2.1, ()) = d from rfl, rctl_eq hK hK2 ho, controls_eq hK hK2 hc.1, ctlPrint_eq hK hK2 (OkCtl.fits hK hod), hd, controls_eq hK hK2 hc.1]
    simp only [Option.bind_some, decide_true, cond_true, Bool.not_true, cond_false, if_true]
    have e : decide (ctlS c = ctlS d) = decide (c = d) := by
      by_cases e : c = d
      · simp [e]
      · have : ¬ ctlS c = ctlS d := fun x => e (ctlS_inj hK hK2 h hd x)
        simp [e, this]
    rw [e]
    cases decide (c = d) <;> rfl
theorem tells_mid {c : DCtl} (hc : FitsC K c) (own : Bool) (hown : own = true → rightC c = true) (o : DKCtl) : ammonitelaw13_ControlTells.j5 K own o.1 o.2.1 o.2.2.1 o.2.2.2.1 c.1 c.2.1 c.2.2.1 = some true := by
  obtain ⟨d, d1, d2, _⟩ := keepControl_eq hK o
  have hend := tells_end hK hK2 hc d2
  rw [ammonitelaw13_ControlTells.j5_eq (by omega), show (o.1, o.2.1, o.2.2.1, o.2.2.2.1, ()) = o from rfl, d1, Option.bind_some, show (c.1, c.2.1, c.2.2.1, ()) = c from rfl, show (d.1, d.2.1, d.2.2.1, ()) = d from rfl, rrightC_eq hK hK2 hc, Option.bind_some, ctlPrint_eq hK hK2 hc, Option.bind_some, rightC_eq hK hK2 hc, Option.bind_some, sameC_eq hK hK2 hc.1, controls_eq hK hK2 hc.1]
  simp only [Option.bind_some, hend]
  have hcc : (!(rightC c == rightC c)) = false := by cases rightC c <;> rfl
  have hss : (!(decide (c = d) == decide (c = d))) = false := by cases decide (c = d) <;> rfl
  have hne : ((!decide ((if rightC c = true then ctlS c else []) = ([] : List UInt8))) == rightC c) = true := by
    cases h : rightC c with
    | false => rfl
    | true =>
      have := (ctlS_len (rightC_ok h)).2
      simp [this]
  rw [hcc, hss, hne]
  cases own with
  | false => rfl
  | true => rw [hown rfl]; rfl
theorem tells_eq (raw : DCtl) (h0 : ∀ t ∈ raw.2.1, t.2.1.length < K ∧ t.2.2.1.length < K) (h1 : raw.2.2.1.length < K) (k o : DKCtl) (own : Bool) : ammonitelaw13_ControlTells.f K ((raw, k, o, own, ()) : DCtl × DKCtl × DKCtl × Bool × Unit) = some true := by
  rw [ammonitelaw13_ControlTells.eq]
  have m1 := min_lo raw.2.1.length (show (0 : Int) ≤ 5 by decide)
  have m2 := min_hi 5 raw.2.1.length
  have hcut := cut_min raw.2.1 (show (0 : Int) ≤ 5 by decide)
  simp only [m1, m2, decide_true, chks_t, chks_nil, hcut]
  cases own with
  | true =>
    obtain ⟨c, c1, c2, _⟩ := keepControl_eq hK k
    rw [cond_true, show (k.1, k.2.1, k.2.2.1, k.2.2.2.1, ()) = k from rfl, c1, Option.bind_some]
    exact tells_mid hK hK2 (OkCtl.fits hK (rightC_ok c2)) true (fun _ => c2) o
  | false =>
    rw [cond_false]
    refine tells_mid hK hK2 (c := (raw.1, raw.2.1.take (Int.toNat 5), raw.2.2.1, ())) ⟨?_, fun t ht => h0 t (List.mem_of_mem_take ht), h1⟩ false (fun h => by cases h) o
    show (raw.2.1.take 5).length < K
    rw [List.length_take]
    omega
theorem edges_end {d : DCtl} {c : DCtl} (hd : d.2.1.length < K) (hc : FitsC K c) (hr : rightC c = false) : ammonitelaw13_ControlEdges.j20 K true c.1 c.2.1 c.2.2.1 d.1 d.2.1 d.2.2.1 d.1 d.2.1 d.2.2.1 = some true := by
  rw [ammonitelaw13_ControlEdges.j20_eq (by omega), show (c.1, c.2.1, c.2.2.1, ()) = c from rfl, show (d.1, d.2.1, d.2.2.1, ()) = d from rfl, sameC_eq hK hK2 hd, rightC_eq hK hK2 hc, ctlPrint_eq hK hK2 hc, hr, ctlRuns_eq hK hK2]
  simp
theorem edges_eq (k : DKCtl) (what n : Int) (v : List UInt8) : ammonitelaw13_ControlEdges.f K ((k, what, n, v, ()) : DKCtl × Int × Int × List UInt8 × Unit) = some true := by
  obtain ⟨c, c1, c2, c3⟩ := keepControl_eq hK k
  have hoc := rightC_ok c2
  obtain ⟨m, m1, m2, m3⟩ := within_eq K (n := n) (lo := 1) (hi := 99) (by omega) (by omega) (by omega)
  obtain ⟨w, w1, w2, w3⟩ := within_eq K (n := what) (lo := 0) (hi := 5) (by omega) (by omega) (by omega)
  have q1 := min_lo v.length (show (0 : Int) ≤ 12 by decide)
  have q2 := min_hi 12 v.length
  have hcut := cut_min v (show (0 : Int) ≤ 12 by decide)
  have hisB := sum_isB [120]
  obtain ⟨x, hx⟩ : ∃ x, sumS [120] = x := ⟨_, rfl⟩
  rw [hx] at hisB
  have hxl := (isB_arg hisB).2
  have hvl : (v.take 12).length ≤ 12 := by rw [List.length_take]; omega
  have hd : rightC ((0, [((42 : Int), ([116] : List UInt8), x, v.take 12, ())], [109, 101], ()) : DCtl) = true := by
    unfold rightC rightT okTags okTag okKind
    simp only [hisB, hvl]
    rfl
  have hod := rightC_ok hd
  rw [ammonitelaw13_ControlEdges.eq, show (k.1, k.2.1, k.2.2.1, k.2.2.2.1, ()) = k from rfl, c1, Option.bind_some, show (c.1, c.2.1, c.2.2.1, ()) = c from rfl, rightC_eq hK hK2 (OkCtl.fits hK hoc), c2, Option.bind_some, rsum_eq K (by simp), hx]
  simp only [Option.bind_some, Bool.not_true, cond_false, q1, q2, hcut, decide_true, chks_t, chks_nil, show Int.toNat 12 = 12 from rfl]
  have hp := ctlPrint_eq hK hK2 (c := ((0, [((42 : Int), ([116] : List UInt8), x, v.take 12, ())], [109, 101], ()) : DCtl)) (OkCtl.fits hK hod)
  rw [if_pos hd] at hp
  rw [hp, Option.bind_some, ctlBack hK hK2 hd, Option.bind_some, m1, Option.bind_some, w1, Option.bind_some]
  have hend := fun (b : DCtl) (hb : FitsC K b) (hr : rightC b = false) => edges_end hK hK2 (d := ((0, [((42 : Int), ([116] : List UInt8), x, v.take 12, ())], [109, 101], ()) : DCtl)) (by simp; omega) hb hr
  have hu : c.2.2.1.length < K := by have := hoc.ulen; omega
  by_cases e0 : w = 0
  · simp only [e0, decide_true, cond_true]
    refine hend (c.1, [], c.2.2.1, ()) ⟨by simp; omega, (fun t ht => by cases ht), hu⟩ ?_
    unfold rightC
    simp
  · by_cases e1 : w = 1
    · simp only [e1, show ¬ ((1 : Int) = 0) by decide, decide_true, decide_false, cond_true, cond_false]
      refine hend (c.1, [((43 : Int), ([116] : List UInt8), ([42] : List UInt8), ([] : List UInt8), ())], c.2.2.1, ()) ⟨by simp; omega, fun t ht => ?_, hu⟩ ?_
      · simp only [List.mem_cons, List.not_mem_nil, or_false] at ht; subst ht; simp; omega
      · have : rightT false [((43 : Int), ([116] : List UInt8), ([42] : List UInt8), ([] : List UInt8), ())] = false := by decide
        unfold rightC
        simp [this]
    · by_cases e2 : w = 2
      · simp only [e2, show ¬ ((2 : Int) = 0) by decide, show ¬ ((2 : Int) = 1) by decide, decide_true, decide_false, cond_true, cond_false]
        refine hend (IntKind.wrap .i64 (0 - m), c.2.1, c.2.2.1, ()) ⟨(OkCtl.fits hK hoc).1, (OkCtl.fits hK hoc).2.1, hu⟩ ?_
        have hneg : IntKind.wrap .i64 (0 - m) = 0 - m := w64 (by omega) (by omega)
        have : ¬ (0 ≤ IntKind.wrap .i64 (0 - m)) := by omega
        unfold rightC
        simp only [this, decide_false, Bool.false_and]
      · by_cases e3 : w = 3
        · simp only [e3, show ¬ ((3 : Int) = 0) by decide, show ¬ ((3 : Int) = 1) by decide, show ¬ ((3 : Int) = 2) by decide, decide_true, decide_false, cond_true, cond_false]
          refine hend (c.1, c.2.1, [97, 32, 98], ()) ⟨(OkCtl.fits hK hoc).1, (OkCtl.fits hK hoc).2.1, by simp; omega⟩ ?_
          have : wordB [97, 32, 98] = false := by decide
          unfold rightC
          simp [this]
        · by_cases e4 : w = 4
          · simp only [e4, show ¬ ((4 : Int) = 0) by decide, show ¬ ((4 : Int) = 1) by decide, show ¬ ((4 : Int) = 2) by decide, show ¬ ((4 : Int) = 3) by decide, decide_true, decide_false, cond_true, cond_false]
            refine hend (c.1, [((45 : Int), ([116] : List UInt8), x, ([118] : List UInt8), ())], c.2.2.1, ()) ⟨by simp; omega, fun t ht => ?_, hu⟩ ?_
            · simp only [List.mem_cons, List.not_mem_nil, or_false] at ht; subst ht; simp; omega
            · have : rightT false [((45 : Int), ([116] : List UInt8), x, ([118] : List UInt8), ())] = false := by
                unfold rightT okTags okTag okKind
                rfl
              unfold rightC
              simp [this]
          · simp only [e0, e1, e2, e3, e4, decide_false, cond_false]
            refine hend (c.1, [((43 : Int), ([117] : List UInt8), x, ([] : List UInt8), ()), ((43 : Int), ([116] : List UInt8), x, ([] : List UInt8), ())], c.2.2.1, ()) ⟨by simp; omega, fun t ht => ?_, hu⟩ ?_
            · simp only [List.mem_cons, List.not_mem_nil, or_false] at ht; rcases ht with rfl | rfl <;> (simp; omega)
            · have hp : tagPrev (some ((43 : Int), ([117] : List UInt8), x, ([] : List UInt8), ())) ((43 : Int), ([116] : List UInt8), x, ([] : List UInt8), ()) = false := by
                unfold tagPrev
                rfl
              have : rightT false [((43 : Int), ([117] : List UInt8), x, ([] : List UInt8), ()), ((43 : Int), ([116] : List UInt8), x, ([] : List UInt8), ())] = false := by
                unfold rightT
                rw [okTags, okTags, hp]
                simp
              unfold rightC
              simp [this]
end
/-! ### The laws -/
theorem reach_lt {n : Nat} (h : n ≤ reachBytes) : n < 1000000000000000 := by have : reachBytes = 140737488351232 := rfl; omega
theorem controlRuns_plain (x : (prodT []).den) (h : Fit (prodT []) x) : ammonitelaw13_ControlRuns.f 1000000000000000 x = some true := ctlRuns_eq (by omega) (by omega)
abbrev TCtl : DTy := .prod (.int .i64) (.prod (.slice TTag) (.prod .str .unit))
abbrev TKCtl : DTy := .prod (.int .i64) (.prod (.int .i64) (.prod (.slice (.int .i64)) (.prod (.slice (.int .i64)) .unit)))
theorem controlTells_plain (x : (prodT [TCtl, TKCtl, TKCtl, .bool]).den) (h : Fit (prodT [TCtl, TKCtl, TKCtl, .bool]) x) : ammonitelaw13_ControlTells.f 1000000000000000 x = some true := by
  refine tells_eq (by omega) (by omega) x.1 (fun t ht => ?_) (reach_lt h.1.2.2.1) x.2.1 x.2.2.1 x.2.2.2.1
  have := fit_mem h.1.2.1 t ht
  exact ⟨reach_lt this.2.1, reach_lt this.2.2.1⟩
theorem controlEdges_plain (x : (prodT [TKCtl, .int .i64, .int .i64, .str]).den) (h : Fit (prodT [TKCtl, .int .i64, .int .i64, .str]) x) : ammonitelaw13_ControlEdges.f 1000000000000000 x = some true :=
  edges_eq (by omega) (by omega) x.1 x.2.1 x.2.2.1 x.2.2.2.1
end Go.Proofs.Ytjpbbjcfdeappaa.Ab
