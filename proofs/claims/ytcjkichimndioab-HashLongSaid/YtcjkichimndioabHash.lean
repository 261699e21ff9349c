/- Contracts of hash.Sum and of its reference, in the form in which the printed callers take them. -/
import Derived.Test.YtcjkichimndioabHs7
namespace Go.Proofs.Ytcjkichimndioab.Given
open Go.RowKit Go.Proofs.YtcjkichimndioabW.PrintWords
def hash_Sum.f (s : ByteArray) : Option ByteArray := if s.size ≤ 1000000 then some (sumB s) else none
theorem hash_Sum.calls (a0 : ByteArray) (r : ByteArray) (w : World) (h : hash_Sum.f a0 = some r) :
    Calls Try.prog 13 #[.string a0] w fun e w' => e = .returned (.string r) ∧ Below w.heap.size w w' := by
  unfold hash_Sum.f at h
  by_cases hs : a0.size ≤ 1000000
  · rw [if_pos hs] at h
    cases h
    exact sum_calls a0 w hs
  · rw [if_neg hs] at h
    cases h
def ammoniteref1_Sum.f (s : ByteArray) : Option ByteArray := if s.size ≤ 1000000 then some (sumB s) else none
theorem ammoniteref1_Sum.calls (a0 : ByteArray) (r : ByteArray) (w : World) (h : ammoniteref1_Sum.f a0 = some r) :
    Calls Try.prog 15 #[.string a0] w fun e w' => e = .returned (.string r) ∧ Below w.heap.size w w' := by
  unfold ammoniteref1_Sum.f at h
  by_cases hs : a0.size ≤ 1000000
  · rw [if_pos hs] at h
    cases h
    exact rsum_calls a0 w hs
  · rw [if_neg hs] at h
    cases h
end Go.Proofs.Ytcjkichimndioab.Given
