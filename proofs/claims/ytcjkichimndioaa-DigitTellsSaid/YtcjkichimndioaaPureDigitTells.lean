/- For every number, every text and every place: what package digit puts and reads is what the reference puts and reads. No condition. -/
import Derived.Test.YtcjkichimndioaaPDigitRef
import Derived.Test.YtcjkichimndioaaQx4
import Derived.Test.YtcjkichimndioaaPRuns
namespace Go.Proofs.Ytcjkichimndioaa.Pure
open Go.RowKit Go.Proofs.Ytcjkichimndioaa.B Go.Proofs.Ytcjkichimndioaa.PW Go.Proofs.Ytcjkichimndioaa.Given Go.Proofs.Ytcjkichimndioaa.Q Go.Proofs.YtcjkichimndioaaW.PrintWords Go.Proofs.YtcjkichimndioaaW.PrintMore
theorem tells2 (n : Int) (s : ByteArray) (hs : s.size ≤ 20) : Ev (fun k => ammonitelaw2_DigitTells.j2 k n s false) true := by
  refine Ev.step (fun k => ammonitelaw2_DigitTells.j2.eq_2 n s false k) ?_
  refine Ev.nn (by decide) (Ev.bind (readDec_ev s (by omega)) (Ev.bind (rreadDec_ev s (by omega)) ?_))
  have e : ((rdDecR (bytesOf s)).2 == decide (rrdDec (bytesOf s) ≥ 0)) = true ∧ (rdDecR (bytesOf s)).1 = mx (rrdDec (bytesOf s)) 0 := by
    unfold rdDecR rrdDec
    cases rdDec (bytesOf s) with
    | none => exact ⟨rfl, rfl⟩
    | some m =>
      refine ⟨by simp, ?_⟩
      show (m : Int) = mx (m : Int) 0
      unfold mx
      rw [if_neg (by omega)]
  refine Ev.ip e.1 (Ev.ip e.2 ?_)
  by_cases h : 0 ≤ n ∧ n ≤ 1073741824
  · obtain ⟨m, rfl⟩ : ∃ m : Nat, n = m := ⟨n.toNat, by omega⟩
    refine Ev.bind (put_ev h.1 h.2) (Ev.bind (rput_ev m (by omega)) (Ev.ip (by rw [Int.toNat_natCast]) ?_))
    refine Ev.bind (dec_ev h.1 h.2) (Ev.bind (rdec_ev m (by omega)) (Ev.ip (by rw [Int.toNat_natCast]) ?_))
    exact Ev.bind druns (Ev.now _)
  · have h' : n < 0 ∨ 1073741824 < n := by omega
    refine Ev.bind (put_no h') (Ev.bind (rput_no h') (Ev.ip rfl ?_))
    refine Ev.bind (dec_no h') (Ev.bind (rdec_no h') (Ev.ip rfl ?_))
    exact Ev.bind druns (Ev.now _)
theorem tells1 (n : Int) (s : ByteArray) (hs : s.size ≤ 20) : Ev (fun k => ammonitelaw2_DigitTells.j1 k n s 0 0 false 0 (-1)) true := by
  refine Ev.step (fun k => ammonitelaw2_DigitTells.j1.eq_2 n s 0 0 false 0 (-1) k) ?_
  exact Ev.nn (by decide) (Ev.nn (by decide) (Ev.ip rfl (tells2 n s hs)))
theorem DigitTells : ammonitelaw2_DigitTells.Pure := by
  intro n a1 a2 _ h1 _
  have hm : 0 ≤ mn (a1.size : Int) 20 ∧ mn (a1.size : Int) 20 ≤ (a1.size : Int) ∧ mn (a1.size : Int) 20 ≤ 20 := by unfold mn; split <;> omega
  refine Ev.rounds (g := fun k => ammonitelaw2_DigitTells.f k n a1 a2) ?_
  unfold ammonitelaw2_DigitTells.f
  refine Ev.ip hm.1 (Ev.ip hm.2.1 ?_)
  have hs : (cutS a1 0 (mn (a1.size : Int) 20).toNat).size ≤ 20 := by rw [size_cut (by omega)]; omega
  generalize cutS a1 0 (mn (a1.size : Int) 20).toNat = s at hs
  have e0 : wrap64 ((s.size : Int) + 1) = (s.size : Int) + 1 := w64 (by omega) (by omega)
  obtain ⟨t, ht, ht0, ht1⟩ := within_ev a2 (lo := -1) (hi := (s.size : Int) + 1) (by omega) (by omega) (by omega)
  rw [e0]
  refine Ev.cb ht (Ev.bind (read_ev s t (by omega)) ?_)
  by_cases g : t ≥ 0
  · refine Ev.ip g (Ev.step (fun k => ammonitelaw2_DigitTells.j0.eq_2 n s t _ _ _ 0 (-1) _ k) ?_)
    obtain ⟨m, rfl⟩ : ∃ m : Nat, t = m := ⟨t.toNat, by omega⟩
    by_cases h : (m : Int) < (s.size : Int)
    · refine Ev.ip (decide_eq_true h) (Ev.bind (rread_ev s m (by omega) (by omega)) ?_)
      unfold rdR rrdR
      rw [if_neg (by omega), Int.toNat_natCast]
      cases rdS ((bytesOf s).drop m) with
      | none => exact tells1 n s hs
      | some p =>
        obtain ⟨v, c⟩ := p
        refine Ev.step (fun k => ammonitelaw2_DigitTells.j1.eq_2 n s v ((m : Int) + c) true v ((m + c : Nat) : Int) k) ?_
        refine Ev.nn (by simp; omega) (Ev.ip rfl (Ev.ip rfl (Ev.ip (by omega) (tells2 n s hs))))
    · refine Ev.nn (by simpa using h) ?_
      unfold rdR
      rw [if_pos (by omega)]
      exact tells1 n s hs
  · refine Ev.nn g (Ev.step (fun k => ammonitelaw2_DigitTells.j0.eq_2 n s t _ _ _ 0 (-1) _ k) ?_)
    refine Ev.nn (by decide) ?_
    unfold rdR
    rw [if_pos (by omega)]
    exact tells1 n s hs
end Go.Proofs.Ytcjkichimndioaa.Pure
