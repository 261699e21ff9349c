/- For any source, and a delta with one byte turned, cut, put in, or raw: what Apply, Size and Check answer is what the reference answers. No condition. -/
import Derived.Test.YtcjkichimndioabPApplyRef
import Derived.Test.YtcjkichimndioabPText
import Derived.Test.YtcjkichimndioabQx8
import Derived.KernelRfl
namespace Go.Proofs.Ytcjkichimndioab.Pure
open Go.RowKit Go.Proofs.Ytcjkichimndioab.B Go.Proofs.Ytcjkichimndioab.PW Go.Proofs.Ytcjkichimndioab.Given Go.Proofs.Ytcjkichimndioab.Q Go.Proofs.YtcjkichimndioabW.PrintWords Go.Proofs.YtcjkichimndioabW.PrintMore Go.Proofs.YtcjkichimndioabW.PrintLast
theorem runs3 : Ev (fun k => ammonitelaw3_DeltaRuns.f k) true := Ev.of ammonitelaw3_DeltaRuns.mono (k := 20) (by kernel_rfl)
theorem tells2 (s d : ByteArray) (hs : s.size < 200) (hd : d.size ≤ 5000) (x y : ByteArray) (p q : Bool) (hx : x = y) (hp : p = q) (n : Int) (b : Bool) (hz : sizeR (bytesOf d) = (n, b)) :
    Ev (fun k => ammonitelaw3_DeltaTells.j2 k s d x p y q n b) true := by
  refine Ev.step (fun k => ammonitelaw3_DeltaTells.j2.eq_2 s d x p y q n b k) (Ev.bind (Ev.eq hz (size_ev d (by omega))) ?_)
  subst hx hp
  exact Ev.ip rfl (Ev.ip (by simp) (Ev.bind (check_ev s (by omega)) (Ev.bind (rcheck_ev s (by omega)) (Ev.ip rfl (Ev.ip rfl (Ev.ip (by simp) (Ev.bind runs3 (Ev.now _))))))))
theorem tells1 (s d : ByteArray) (hs : s.size < 200) (hd : d.size ≤ 5000) (x y : ByteArray) (p q : Bool) (hx : x = y) (hp : p = q) (n : Int) (b : Bool) (hz : sizeR (bytesOf d) = (if b = true then n else 0, b)) :
    Ev (fun k => ammonitelaw3_DeltaTells.j1 k s d x p y q n b) true := by
  refine Ev.step (fun k => ammonitelaw3_DeltaTells.j1.eq_2 s d x p y q n b k) ?_
  by_cases g : b = true
  · rw [if_pos g] at hz
    exact Ev.ip g (tells2 s d hs hd x y p q hx hp n b hz)
  · rw [if_neg g] at hz
    exact Ev.nn g (tells2 s d hs hd x y p q hx hp 0 b hz)
theorem tells0 (s d : ByteArray) (hs : s.size < 200) (hd : d.size ≤ 5000) : Ev (fun k => ammonitelaw3_DeltaTells.j0 k s d) true := by
  refine Ev.step (fun k => ammonitelaw3_DeltaTells.j0.eq_2 s d k) (Ev.bind (apply_ev s d (by omega) (by omega)) (Ev.bind (rapply_ev s d (by omega) (by omega)) ?_))
  cases h : rdS (bytesOf d) with
  | none =>
    have hz : sizeR (bytesOf d) = (0, false) := by unfold sizeR sizeL; rw [h]
    exact Ev.bind (rread_none (i := 0) (by omega) (by omega) h) (Ev.nn (by decide) (tells1 s d hs hd _ _ _ _ rfl rfl 0 false hz))
  | some p =>
    obtain ⟨n, j⟩ := p
    have hj := rdS_some h
    rw [size_len] at hj
    refine Ev.bind (rread_some (i := 0) (by omega) (by omega) h) ?_
    dsimp only
    rw [Nat.zero_add]
    refine Ev.ip (by omega) ?_
    by_cases g : j < d.size
    · have hb := drop_cons d j g
      refine Ev.ip (by omega) (Ev.ip (by omega) (tells1 s d hs hd _ _ _ _ rfl rfl n _ ?_))
      unfold sizeR sizeL
      rw [h]
      dsimp only
      rw [hb]
      dsimp only
      by_cases e : bt d (j : Int) = 10
      · rw [if_pos e, e]; rfl
      · rw [if_neg e, show (bt d (j : Int) == 10) = false by simpa using e]; rfl
    · refine Ev.nn (by omega) (tells1 s d hs hd _ _ _ _ rfl rfl n false ?_)
      unfold sizeR sizeL
      rw [h]
      dsimp only
      rw [drop_nil d j (by omega)]
      rfl
theorem DeltaTells : ammonitelaw3_DeltaTells.Pure := by
  intro a0 l0 a1 l1 raw at_ c how _ hl0 _ _ hl1 _ hraw _ _ _
  have hmax : maxLen = 9223372036854775807 := rfl
  obtain ⟨s, es, hs⟩ := text_ev a0 l0 (by omega)
  obtain ⟨t, et, ht⟩ := text_ev a1 l1 (by omega)
  obtain ⟨d, ed, hd1, hd2⟩ := kdelta_ev s t (by omega) at_
  obtain ⟨i, ei, hi0, hi1⟩ := within_ev at_ (lo := 0) (hi := (d.size : Int) - 1) (by omega) (by omega) (by omega)
  obtain ⟨i, rfl⟩ : ∃ m : Nat, i = m := ⟨i.toNat, by omega⟩
  have e1 : wrap64 ((d.size : Int) - 1) = (d.size : Int) - 1 := w64 (by omega) (by omega)
  refine Ev.rounds (g := fun k => ammonitelaw3_DeltaTells.f k a0 l0 a1 l1 raw at_ c how) ?_
  unfold ammonitelaw3_DeltaTells.f
  refine Ev.bind es (Ev.bind et (Ev.bind ed ?_))
  rw [e1]
  refine Ev.cb ei ?_
  rw [wnat (i := i) (by omega), Int.toNat_natCast, Int.toNat_natCast]
  have s0 : (cutS d 0 i).size = i - 0 := size_cut (by omega)
  have s1 : (cutS d (i + 1) d.size).size = d.size - (i + 1) := size_cut (by omega)
  have s2 : (cutS d i d.size).size = d.size - i := size_cut (by omega)
  have m3 : 0 ≤ mn (raw.size : Int) 3 ∧ mn (raw.size : Int) 3 ≤ (raw.size : Int) ∧ mn (raw.size : Int) 3 ≤ 3 := by unfold mn; split <;> omega
  have m40 : 0 ≤ mn (raw.size : Int) 40 ∧ mn (raw.size : Int) 40 ≤ (raw.size : Int) ∧ mn (raw.size : Int) 40 ≤ 40 := by unfold mn; split <;> omega
  have s3 : (cutS raw 0 (mn (raw.size : Int) 3).toNat).size = (mn (raw.size : Int) 3).toNat - 0 := size_cut (by omega)
  have s4 : (cutS raw 0 (mn (raw.size : Int) 40).toNat).size = (mn (raw.size : Int) 40).toNat - 0 := size_cut (by omega)
  have s5 : (strOfNums [c]).size = 1 := size_nums _
  by_cases c0 : Go.bits .and .i64 how 7 = 0
  · refine Ev.ip c0 (Ev.ip (by omega) (Ev.ip (by omega) (Ev.cb rfl (Ev.ip (by omega) (Ev.ip (by omega) (Ev.ip (by omega) (Ev.ip ?_ (tells0 s _ hs ?_))))))))
    · rw [size_cat]; omega
    · rw [size_cat, size_cat]; omega
  refine Ev.nn c0 ?_
  by_cases c1 : Go.bits .and .i64 how 7 = 1
  · exact Ev.ip c1 (Ev.ip (by omega) (Ev.ip (by omega) (tells0 s _ hs (by omega))))
  refine Ev.nn c1 ?_
  by_cases c2 : Go.bits .and .i64 how 7 = 2
  · refine Ev.ip c2 (Ev.ip (by omega) (Ev.ip (by omega) (Ev.ip (by omega) (Ev.ip (by omega) (Ev.ip (by omega) (Ev.ip ?_ (tells0 s _ hs ?_)))))))
    · rw [size_cat]; omega
    · rw [size_cat, size_cat]; omega
  refine Ev.nn c2 ?_
  by_cases c3 : Go.bits .and .i64 how 7 = 3
  · exact Ev.ip c3 (Ev.ip (by omega) (Ev.ip (by omega) (tells0 s _ hs (by omega))))
  exact Ev.nn c3 (tells0 s d hs (by omega))
end Go.Proofs.Ytcjkichimndioab.Pure
