/- For any number and byte: a text of so many bytes has the reference's sum; the same text has the same name. No condition. -/
import Derived.Test.YtcjkichimndioabPHash
import Derived.Test.YtcjkichimndioabPDigit
import Derived.Test.YtcjkichimndioabQx2
namespace Go.Proofs.Ytcjkichimndioab.Pure
open Go.RowKit Go.Proofs.Ytcjkichimndioab.B Go.Proofs.Ytcjkichimndioab.PW Go.Proofs.Ytcjkichimndioab.Given Go.Proofs.Ytcjkichimndioab.Q Go.Proofs.YtcjkichimndioabW.PrintWords Go.Proofs.YtcjkichimndioabW.PrintMore
theorem long_loop (c : Int) (n : Nat) (hn : n ≤ 200) (d : Nat) : ∀ (i : Nat) (l : List Int), i + d = n → l.length = i → Ev (fun k => ammonitelaw1_HashLong.l0 k c l n i) true := by
  induction d with
  | zero =>
    intro i l hi hl
    have hz : (strOfNums l).size = n := by rw [size_nums]; omega
    refine Ev.step (fun k => ammonitelaw1_HashLong.l0.eq_2 c l n i k) (Ev.nn (by omega) ?_)
    refine Ev.cb (sum_some _ (by omega)) (Ev.cb (rsum_some _ (by omega)) (Ev.ip rfl (Ev.cb rfl (Ev.ip ?_ ?_))))
    · simp only [List.length_nil]; omega
    rw [List.nil_append]
    exact Ev.cb (sum_some _ (by omega)) (Ev.cb (sum_some _ (by omega)) (Ev.ip rfl (Ev.bind hruns (Ev.now _))))
  | succ d ih =>
    intro i l hi hl
    refine Ev.step (fun k => ammonitelaw1_HashLong.l0.eq_2 c l n i k) (Ev.ip (by omega) (Ev.ip (by omega) ?_))
    rw [wn (i := i) (n := 200) (by omega) (by omega)]
    exact ih (i + 1) _ (by omega) (by simp [hl])
theorem HashLong : ammonitelaw1_HashLong.Pure := by
  intro a c _ _
  obtain ⟨n, en, n0, n1⟩ := within_ev a (lo := 0) (hi := 200) (by omega) (by omega) (by omega)
  obtain ⟨n, rfl⟩ : ∃ m : Nat, n = m := ⟨n.toNat, by omega⟩
  refine Ev.rounds (g := fun k => ammonitelaw1_HashLong.f k a c) ?_
  unfold ammonitelaw1_HashLong.f
  exact Ev.cb en (long_loop c n (by omega) n 0 [] (by omega) rfl)
end Go.Proofs.Ytcjkichimndioab.Pure
