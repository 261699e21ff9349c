/- wire.Body's contract, in the form in which the printed callers take it. -/
import Derived.Test.YtldbhkhblkgnnaaWr3
set_option linter.unusedVariables false
namespace Go.Proofs.Ytldbhkhblkgnnaa.Given
open Go.RowKit Go.Proofs.YtldbhkhblkgnnaaW.PrintWords Go.Proofs.Ytldbhkhblkgnnaa.Q
def smallP (u s : ByteArray) (ig gi : List ByteArray) (fs : List SF) : Bool :=
  decide (u.size ≤ 1000000) && (decide (s.size ≤ 1000000) && (decide (ig.length ≤ 1000000) && (ig.all (fun x => decide (x.size ≤ 1000000)) && (decide (gi.length ≤ 1000000) && (gi.all (fun x => decide (x.size ≤ 1000000)) && (decide (fs.length ≤ 1000000) &&
    fs.all (fun f => decide (f.f1.size ≤ 1000000) && (decide (f.f2.size ≤ 1000000) && decide (f.f3.size ≤ 1000000)))))))))
theorem small_of {u s : ByteArray} {ig gi : List ByteArray} {fs : List SF} (h : smallP u s ig gi fs = true) : Small u s ig gi fs := by
  unfold smallP at h
  simp only [Bool.and_eq_true, decide_eq_true_eq, List.all_eq_true] at h
  obtain ⟨h1, h2, h3, h4, h5, h6, h7, h8⟩ := h
  exact ⟨h1, h2, h3, h4, h5, h6, h7, h8⟩
theorem small_to {u s : ByteArray} {ig gi : List ByteArray} {fs : List SF} (h : Small u s ig gi fs) : smallP u s ig gi fs = true := by
  unfold smallP
  simp only [Bool.and_eq_true, decide_eq_true_eq, List.all_eq_true]
  exact ⟨h.u, h.s, h.ig0, h.ig1, h.gi0, h.gi1, h.fs0, h.fs1⟩
def wire_Body.f (u s : ByteArray) (rd : Int) (an pu pl : Bool) (ig gi : List ByteArray) (fs : List SF) (er : Int) : Option ByteArray :=
  if smallP u s ig gi fs = true then some (if B.rightB u s rd ig gi fs er = true then bodyB rd an pu pl ig gi fs er else ⟨#[]⟩) else none
theorem wire_Body.calls (a0_0 : ByteArray) (a0_1 : ByteArray) (a0_2 : Int) (a0_3 : Bool) (a0_4 : Bool) (a0_5 : Bool) (A0_6 : Option Addr) (c0_6 : Nat) (l0_6 : List ByteArray) (A0_7 : Option Addr) (c0_7 : Nat) (l0_7 : List ByteArray) (A0_8 : Option Addr) (c0_8 : Nat) (l0_8 : List SF) (a0_9 : Int) (r : ByteArray) (w : World)
    (hr0_6 : Kd.C Kd.string w A0_6 l0_6.length l0_6) (hc0_6 : l0_6.length ≤ c0_6) (hr0_7 : Kd.C Kd.string w A0_7 l0_7.length l0_7) (hc0_7 : l0_7.length ≤ c0_7) (hr0_8 : Kd.C k46 w A0_8 l0_8.length l0_8) (hc0_8 : l0_8.length ≤ c0_8) (h : wire_Body.f a0_0 a0_1 a0_2 a0_3 a0_4 a0_5 l0_6 l0_7 l0_8 a0_9 = some r) :
    Calls Try.prog 22 #[.agg #[.string a0_0, .string a0_1, .int .i64 a0_2, .bool a0_3, .bool a0_4, .bool a0_5, .slice A0_6 l0_6.length c0_6, .slice A0_7 l0_7.length c0_7, .slice A0_8 l0_8.length c0_8, .int .i64 a0_9]] w fun e w' => e = .returned (.string r) ∧ Below w.heap.size w w' := by
  unfold wire_Body.f at h
  by_cases hs : smallP a0_0 a0_1 l0_6 l0_7 l0_8 = true
  · rw [if_pos hs] at h
    injection h with h
    rw [← h]
    exact body_walk a0_0 a0_1 a0_2 a0_3 a0_4 a0_5 A0_6 c0_6 l0_6 A0_7 c0_7 l0_7 A0_8 c0_8 l0_8 a0_9 w hr0_6 hc0_6 hr0_7 hc0_7 hr0_8 hc0_8 (small_of hs)
  · rw [if_neg hs] at h
    cases h
end Go.Proofs.Ytldbhkhblkgnnaa.Given
