/- For any source and target: what Make makes, Apply and the reference turn into the target; it isn't long; where both begin alike it is short. No condition. -/
import Derived.Test.YtcjkichimndioabPApplyRef
import Derived.Test.YtcjkichimndioabPText
import Derived.Test.YtcjkichimndioabPMake
import Derived.Test.YtcjkichimndioabQx7
import Derived.KernelRfl
namespace Go.Proofs.Ytcjkichimndioab.Pure
open Go.RowKit Go.Proofs.Ytcjkichimndioab.B Go.Proofs.Ytcjkichimndioab.PW Go.Proofs.Ytcjkichimndioab.Given Go.Proofs.Ytcjkichimndioab.Q Go.Proofs.YtcjkichimndioabW.PrintWords Go.Proofs.YtcjkichimndioabW.PrintMore Go.Proofs.YtcjkichimndioabW.PrintLast
theorem runs4 : Ev (fun k => ammonitelaw3_DeltaRuns.f k) true := Ev.of ammonitelaw3_DeltaRuns.mono (k := 20) (by kernel_rfl)
theorem makes_loop (s t d : ByteArray) (ht : t.size < 200) (hd : d.size ≤ t.size + 13) (hp : ∀ p, mt s t 0 p → 16 ≤ p → d.size + p ≤ t.size + 20) (z : Nat) : ∀ n : Nat, n + z = t.size → mt s t 0 n →
    Ev (fun k => ammonitelaw3_DeltaMakes.l0 k s t d t true t true n) true := by
  have fin : ∀ n : Nat, mt s t 0 n → Ev (fun k => if true = true then (if t.toList = t.toList then (if true = true then (if t.toList = t.toList then (if (d.size : Int) ≤ (wrap64 ((t.size : Int) + 20)) then (if (n : Int) < 16 then ((ammonitelaw3_DeltaRuns.f k).bind fun t234 => (some t234)) else (if (d.size : Int) ≤ (wrap64 ((wrap64 ((t.size : Int) - (n : Int))) + 24)) then ((ammonitelaw3_DeltaRuns.f k).bind fun t235 => (some t235)) else (some false))) else (some false)) else (some false)) else (some false)) else (some false)) else (some false)) true := by
    intro n hn
    have hn1 := hn.2.1
    rw [w64 (n := (t.size : Int) - (n : Int)) (by omega) (by omega), w64 (n := (t.size : Int) - (n : Int) + 24) (by omega) (by omega), w64 (n := (t.size : Int) + 20) (by omega) (by omega)]
    refine Ev.ip rfl (Ev.ip rfl (Ev.ip rfl (Ev.ip rfl (Ev.ip (by omega) ?_))))
    by_cases g : (n : Int) < 16
    · exact Ev.ip g (Ev.bind runs4 (Ev.now _))
    · have := hp n hn (by omega)
      exact Ev.nn g (Ev.ip (by omega) (Ev.bind runs4 (Ev.now _)))
  induction z with
  | zero =>
    intro n hn hm
    refine Ev.step (fun k => ammonitelaw3_DeltaMakes.l0.eq_2 s t d t true t true n k) ?_
    by_cases g : (n : Int) < (s.size : Int)
    · exact Ev.ip g (Ev.nn (by omega) (fin n hm))
    · exact Ev.nn g (fin n hm)
  | succ z ih =>
    intro n hn hm
    refine Ev.step (fun k => ammonitelaw3_DeltaMakes.l0.eq_2 s t d t true t true n k) ?_
    by_cases g : (n : Int) < (s.size : Int)
    · refine Ev.ip g (Ev.ip (by omega) (Ev.ip (by omega) ?_))
      by_cases g2 : bt s (n : Int) = bt t (n : Int)
      · refine Ev.ip g2 ?_
        rw [wnat (by omega)]
        refine ih (n + 1) (by omega) ⟨by omega, by omega, fun j hj => ?_⟩
        by_cases q : j = n
        · rw [q, Nat.zero_add]; exact g2
        · exact hm.2.2 j (by omega)
      · exact Ev.nn g2 (fin n hm)
    · exact Ev.nn g (fin n hm)
theorem makes0 (s t : ByteArray) (hs : s.size < 200) (ht : t.size < 200) : Ev (fun k => ammonitelaw3_DeltaMakes.j0 k s t) true := by
  obtain ⟨d, cmds, ev, hd, hsay, hlen, hpre⟩ := make_ev s t (by omega) (by omega)
  have ha : apR (applyL (bytesOf s) (bytesOf d)) = (t, true) := by
    rw [hd, hsay.apply (by rw [size_len]; omega), if_pos rfl, apR_some]
  refine Ev.step (fun k => ammonitelaw3_DeltaMakes.j0.eq_2 s t k) (Ev.bind ev (Ev.bind (Ev.eq ha (apply_ev s d (by omega) (by omega))) (Ev.bind (Ev.eq ha (rapply_ev s d (by omega) (by omega))) ?_)))
  exact makes_loop s t d ht hlen hpre t.size 0 (by omega) ⟨by omega, by omega, fun j hj => by omega⟩
theorem DeltaMakes : ammonitelaw3_DeltaMakes.Pure := by
  intro a0 l0 a1 l1 same _ hl0 _ _ hl1 _
  have hmax : maxLen = 9223372036854775807 := rfl
  obtain ⟨s, es, hs⟩ := text_ev a0 l0 (by omega)
  obtain ⟨t, et, ht⟩ := text_ev a1 l1 (by omega)
  refine Ev.rounds (g := fun k => ammonitelaw3_DeltaMakes.f k a0 l0 a1 l1 same) ?_
  unfold ammonitelaw3_DeltaMakes.f
  refine Ev.bind es (Ev.bind et ?_)
  by_cases g : same = true
  · exact Ev.ip g (makes0 s s hs hs)
  · exact Ev.nn g (makes0 s t hs ht)
end Go.Proofs.Ytcjkichimndioab.Pure
