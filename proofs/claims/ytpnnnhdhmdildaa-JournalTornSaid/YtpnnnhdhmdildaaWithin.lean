/- ammonitebook.Within's contract: a number between the bounds. -/
import Derived.Test.YtpnnnhdhmdildaaQx1
set_option linter.unusedVariables false
namespace Go.Proofs.Ytpnnnhdhmdildaa.Given
open Go.RowKit Go.Proofs.YtpnnnhdhmdildaaW.PrintWords
theorem wi64 {n : Int} (h0 : -9223372036854775808 ≤ n) (h1 : n ≤ 9223372036854775807) : wrap64 n = n := by unfold wrap64; omega
theorem within_some (a : Int) {lo hi : Int} (h0 : -1099511627776 ≤ lo) (h1 : lo ≤ hi) (h2 : hi ≤ 1099511627776) : ∃ r, Q.ammonitebook_Within.f a lo hi = some r ∧ lo ≤ r ∧ r ≤ hi := by
  unfold Q.ammonitebook_Within.f
  have e1 : wrap64 (hi - lo) = hi - lo := wi64 (by omega) (by omega)
  have e2 : wrap64 (hi - lo + 1) = hi - lo + 1 := wi64 (by omega) (by omega)
  rw [e1, e2]
  clear e1 e2
  rw [if_neg (by omega)]
  have p := Int.tmod_lt_of_pos a (by omega : 0 < hi - lo + 1)
  have q : -(hi - lo + 1) < Int.tmod a (hi - lo + 1) := by
    have := Int.tmod_lt_of_pos (-a) (by omega : 0 < hi - lo + 1)
    rw [Int.neg_tmod] at this
    omega
  generalize Int.tmod a (hi - lo + 1) = t at p q
  by_cases g : t < 0
  · rw [if_pos g]
    have e3 : wrap64 (t + hi) = t + hi := wi64 (by omega) (by omega)
    have e4 : wrap64 (t + hi - lo) = t + hi - lo := wi64 (by omega) (by omega)
    have e5 : wrap64 (t + hi - lo + 1) = t + hi - lo + 1 := wi64 (by omega) (by omega)
    have e6 : wrap64 (lo + (t + hi - lo + 1)) = lo + (t + hi - lo + 1) := wi64 (by omega) (by omega)
    rw [e3, e4, e5, e6]
    clear e3 e4 e5 e6
    exact ⟨_, rfl, by omega, by omega⟩
  · rw [if_neg g]
    have e6 : wrap64 (lo + t) = lo + t := wi64 (by omega) (by omega)
    rw [e6]
    clear e6
    exact ⟨_, rfl, by omega, by omega⟩
/-- Within, called. -/
theorem within_call (a : Int) (lo hi : Int) (w : World) (h0 : -1099511627776 ≤ lo) (h1 : lo ≤ hi) (h2 : hi ≤ 1099511627776) :
    Calls Try.prog 18 #[.int .i64 a, .int .i64 lo, .int .i64 hi] w fun e w' => ∃ r : Int, e = .returned (.int .i64 r) ∧ lo ≤ r ∧ r ≤ hi ∧ Drawn0 w w' := by
  obtain ⟨r, hr, p, q⟩ := within_some a h0 h1 h2
  refine (Q.ammonitebook_Within.calls a lo hi r w hr).mono ?_
  rintro e w' ⟨rfl, hd⟩
  exact ⟨r, rfl, p, q, hd⟩
end Go.Proofs.Ytpnnnhdhmdildaa.Given
