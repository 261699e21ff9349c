/- wire.files' contract, in the form in which the printed callers take it. -/
import Derived.Test.YtldbhkhblkgnnaaWFil
set_option linter.unusedVariables false
namespace Go.Proofs.Ytldbhkhblkgnnaa.Given
open Go.RowKit Go.Proofs.YtldbhkhblkgnnaaW.PrintWords Go.Proofs.Ytldbhkhblkgnnaa.Q
def fsmall (fs : List S46) : Bool := decide (fs.length ≤ 1000000) && fs.all (fun f => decide (f.f1.size ≤ 1000000) && (decide (f.f2.size ≤ 1000000) && decide (f.f3.size ≤ 1000000)))
theorem fsmall_to {fs : List S46} (hn : fs.length ≤ 1000000) (hs : ∀ f ∈ fs, f.f1.size ≤ 1000000 ∧ f.f2.size ≤ 1000000 ∧ f.f3.size ≤ 1000000) : fsmall fs = true := by
  unfold fsmall
  simp only [Bool.and_eq_true, decide_eq_true_eq, List.all_eq_true]
  exact ⟨hn, hs⟩
def wire_files.f (l : List S46) : Option Bool := if fsmall l = true then some (B.filesB l) else none
theorem wire_files.calls (A0 : Option Addr) (c0 : Nat) (l0 : List S46) (r : Bool) (w : World) (hr0 : Kd.C k46 w A0 l0.length l0) (hc0 : l0.length ≤ c0) (h : wire_files.f l0 = some r) :
    Calls Try.prog 42 #[.slice A0 l0.length c0] w fun e w' => e = .returned (.bool r) ∧ Below w.heap.size w w' := by
  unfold wire_files.f at h
  by_cases hs : fsmall l0 = true
  · rw [if_pos hs] at h
    injection h with h
    rw [← h]
    unfold fsmall at hs
    simp only [Bool.and_eq_true, decide_eq_true_eq, List.all_eq_true] at hs
    exact files_walk A0 c0 l0 w hr0 hc0 hs.1 hs.2
  · rw [if_neg hs] at h
    cases h
end Go.Proofs.Ytldbhkhblkgnnaa.Given
