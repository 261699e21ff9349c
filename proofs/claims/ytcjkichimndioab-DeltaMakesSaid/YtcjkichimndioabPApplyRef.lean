/- The plain law of the reference of delta.Apply. -/
import Derived.Test.YtcjkichimndioabPApply
namespace Go.Proofs.Ytcjkichimndioab.B
open Go.RowKit Go.Proofs.Ytcjkichimndioab.PW Go.Proofs.Ytcjkichimndioab.Given Go.Proofs.Ytcjkichimndioab.Q Go.Proofs.YtcjkichimndioabW.PrintWords Go.Proofs.YtcjkichimndioabW.PrintMore
theorem rap_loop (s d : ByteArray) (hs : s.size ≤ 4611686018427387900) (hd : d.size ≤ 4611686018427387900) (size : Int) (hz : size ≤ 300) (f : Nat) : ∀ (i : Nat) (o : ByteArray), i ≤ d.size → d.size - i < f → (o.size : Int) ≤ size →
    Ev (fun k => ammoniteref1_Apply.l0 k s d size i o) (apR (apL (bytesOf s) size f ((bytesOf d).drop i) (bytesOf o))) := by
  induction f with
  | zero => intro i o _ h; omega
  | succ f ih =>
    intro i o hi hf ho
    refine Ev.step (fun k => ammoniteref1_Apply.l0.eq_2 s d size i o k) ?_
    have hlen : ((bytesOf d).drop i).length = d.size - i := by rw [List.length_drop, size_len]
    have stop : ∀ n (x : Int), Ev (fun k => ammoniteref1_Apply.j2 k s d size o n x true) (⟨#[]⟩, false) := fun n x => Ev.step (fun k => ammoniteref1_Apply.j2.eq_2 s d size o n x true k) (Ev.ip rfl (Ev.now _))
    cases h : rdS ((bytesOf d).drop i) with
    | none =>
      have e : apL (bytesOf s) size (f + 1) ((bytesOf d).drop i) (bytesOf o) = none := by unfold apL; rw [h]
      rw [e]
      exact Ev.bind (rread_none (by omega) hi h) (Ev.ip (by decide) (stop 0 (-1)))
    | some p =>
      obtain ⟨n, j⟩ := p
      have hj := rdS_some h
      rw [hlen] at hj
      refine Ev.bind (rread_some (by omega) hi h) (Ev.nn (by omega) ?_)
      dsimp only
      by_cases g : i + j < d.size
      · have e0 : decide (((i + j : Nat) : Int) ≥ (d.size : Int)) = false := decide_eq_false (by omega)
        rw [e0]
        refine Ev.step (fun k => ammoniteref1_Apply.j2.eq_2 s d size o n ((i + j : Nat) : Int) _ k) ?_
        have hb := bt_range d ((i + j : Nat) : Int)
        have hdr : ((bytesOf d).drop i).drop j = bt d ((i + j : Nat) : Int) :: (bytesOf d).drop (i + j + 1) := by rw [List.drop_drop, drop_cons d (i + j) g]
        have hl2 : ((bytesOf d).drop (i + j + 1)).length = d.size - (i + j + 1) := by rw [List.length_drop, size_len]
        have e5 : wrap64 (size - (o.size : Int)) = size - (o.size : Int) := w64 (by omega) (by omega)
        refine Ev.nn (by decide) (Ev.ip (by omega) (Ev.ip (by omega) ?_))
        rw [apL.eq_2, h]
        dsimp only
        rw [hdr]
        dsimp only
        by_cases c0 : bt d ((i + j : Nat) : Int) = 59
        · refine Ev.ip c0 ?_
          rw [wnat (by omega), if_pos c0, size_len]
          by_cases g1 : i + j + 1 = d.size
          · refine Ev.ip (by omega) ?_
            by_cases g2 : (o.size : Int) = size
            · refine Ev.ip g2 (Ev.bind (rcheck_ev o (by omega)) ?_)
              by_cases g3 : n = chk (bytesOf o)
              · refine Ev.ip g3 ?_
                rw [if_pos ⟨drop_nil d _ (by omega), g2, g3⟩, apR_some]
                exact Ev.now _
              · refine Ev.nn g3 ?_
                rw [if_neg (fun x => g3 x.2.2)]
                exact Ev.now _
            · refine Ev.nn g2 ?_
              rw [if_neg (fun x => g2 x.2.1)]
              exact Ev.now _
          · refine Ev.nn (by omega) ?_
            rw [if_neg]
            · exact Ev.now _
            · intro x
              have := congrArg List.length x.1
              rw [hl2, List.length_nil] at this
              omega
        · refine Ev.nn c0 ?_
          rw [if_neg c0]
          by_cases c1 : bt d ((i + j : Nat) : Int) = 58
          · refine Ev.ip c1 ?_
            rw [if_pos c1, e5, size_len, hl2]
            have e6 : wrap64 (wrap64 ((d.size : Int) - ((i + j : Nat) : Int)) - 1) = (d.size : Int) - ((i + j : Nat) : Int) - 1 := by rw [w64 (n := (d.size : Int) - ((i + j : Nat) : Int)) (by omega) (by omega), w64 (by omega) (by omega)]
            rw [e6]
            by_cases q : 1 ≤ n ∧ n ≤ size - (o.size : Int) ∧ n ≤ ((d.size - (i + j + 1) : Nat) : Int)
            · have e7 : wrap64 (((i + j + 1 : Nat) : Int) + n) = ((i + j + 1 + n.toNat : Nat) : Int) := by rw [w64 (by omega) (by omega)]; omega
              rw [wnat (by omega), e7]
              refine Ev.nn (by omega) (Ev.nn (by omega) (Ev.nn (by omega) (Ev.ip (by omega) (Ev.ip (by omega) (Ev.ip (by omega) ?_)))))
              rw [Int.toNat_natCast, Int.toNat_natCast]
              have hc : (cutS d (i + j + 1) (i + j + 1 + n.toNat)).size = n.toNat := by rw [size_cut (by omega)]; omega
              refine Ev.ip (by omega) ?_
              rw [if_pos q]
              refine Ev.eq ?_ (ih (i + j + 1 + n.toNat) (catS o (cutS d (i + j + 1) (i + j + 1 + n.toNat))) (by omega) (by omega) (by rw [size_cat]; omega))
              rw [bytesOf_cat, bytesOf_cut, List.drop_drop, Nat.add_sub_cancel_left]
            · by_cases q1 : n < 1
              · refine Ev.ip q1 ?_
                rw [if_neg q]; exact Ev.now _
              · refine Ev.nn q1 ?_
                by_cases q2 : n > size - (o.size : Int)
                · refine Ev.ip q2 ?_
                  rw [if_neg q]; exact Ev.now _
                · refine Ev.nn q2 (Ev.ip (by omega) ?_)
                  rw [if_neg q]; exact Ev.now _
          · refine Ev.nn c1 ?_
            rw [if_neg c1]
            by_cases c2 : bt d ((i + j : Nat) : Int) = 64
            · refine Ev.ip c2 ?_
              rw [if_pos c2, wnat (by omega)]
              unfold copyL
              cases h2 : rdS ((bytesOf d).drop (i + j + 1)) with
              | none => exact Ev.bind (rread_none (by omega) (by omega) h2) (Ev.ip (by decide) (Ev.now _))
              | some p =>
                obtain ⟨fr, m⟩ := p
                have hm := rdS_some h2
                rw [hl2] at hm
                refine Ev.bind (rread_some (by omega) (by omega) h2) (Ev.nn (by omega) ?_)
                dsimp only
                rw [List.drop_drop]
                by_cases g2 : i + j + 1 + m < d.size
                · refine Ev.nn (by omega) (Ev.ip (by omega) (Ev.ip (by omega) ?_))
                  rw [drop_cons d (i + j + 1 + m) g2]
                  dsimp only
                  by_cases c3 : bt d ((i + j + 1 + m : Nat) : Int) = 44
                  · refine Ev.ip c3 ?_
                    rw [if_pos c3, e5, size_len, size_len]
                    dsimp only
                    by_cases q : 1 ≤ n ∧ n ≤ size - (o.size : Int) ∧ fr ≤ (s.size : Int) ∧ n ≤ (s.size : Int) - fr
                    · have e7 : wrap64 (fr + n) = ((fr.toNat + n.toNat : Nat) : Int) := by rw [w64 (by omega) (by omega)]; omega
                      have e8 : wrap64 ((s.size : Int) - fr) = (s.size : Int) - fr := w64 (by omega) (by omega)
                      rw [e7, e8, wnat (by omega)]
                      refine Ev.nn (by omega) (Ev.nn (by omega) (Ev.nn (by omega) (Ev.nn (by omega) (Ev.ip (by omega) (Ev.ip (by omega) (Ev.ip (by omega) ?_))))))
                      rw [Int.toNat_natCast]
                      have hc : (cutS s fr.toNat (fr.toNat + n.toNat)).size = n.toNat := by rw [size_cut (by omega)]; omega
                      refine Ev.ip (by omega) ?_
                      rw [if_pos q]
                      refine Ev.eq ?_ (ih (i + j + 1 + m + 1) (catS o (cutS s fr.toNat (fr.toNat + n.toNat))) (by omega) (by omega) (by rw [size_cat]; omega))
                      rw [bytesOf_cat, bytesOf_cut, Nat.add_sub_cancel_left]
                    · by_cases q1 : n < 1
                      · refine Ev.ip q1 ?_
                        rw [if_neg q]; exact Ev.now _
                      · refine Ev.nn q1 ?_
                        by_cases q2 : n > size - (o.size : Int)
                        · refine Ev.ip q2 ?_
                          rw [if_neg q]; exact Ev.now _
                        · refine Ev.nn q2 ?_
                          by_cases q3 : fr > (s.size : Int)
                          · refine Ev.ip q3 ?_
                            rw [if_neg q]; exact Ev.now _
                          · have e8 : wrap64 ((s.size : Int) - fr) = (s.size : Int) - fr := w64 (by omega) (by omega)
                            rw [e8]
                            refine Ev.nn q3 (Ev.ip (by omega) ?_)
                            rw [if_neg q]; exact Ev.now _
                  · refine Ev.nn c3 ?_
                    rw [if_neg c3]; exact Ev.now _
                · refine Ev.ip (by omega) ?_
                  rw [drop_nil d (i + j + 1 + m) (by omega)]
                  exact Ev.now _
            · refine Ev.nn c2 ?_
              rw [if_neg c2]; exact Ev.now _
      · have e0 : decide (((i + j : Nat) : Int) ≥ (d.size : Int)) = true := decide_eq_true (by omega)
        rw [e0]
        have e : apL (bytesOf s) size (f + 1) ((bytesOf d).drop i) (bytesOf o) = none := by
          unfold apL
          rw [h]
          dsimp only
          rw [List.drop_drop, drop_nil d (i + j) (by omega)]
        rw [e]
        exact stop _ _
theorem rapply_ev (s d : ByteArray) (hs : s.size ≤ 4611686018427387900) (hd : d.size ≤ 4611686018427387900) :
    Ev (fun k => ammoniteref1_Apply.f k s d) (apR (applyL (bytesOf s) (bytesOf d))) := by
  unfold ammoniteref1_Apply.f applyL sizeL
  have none_ : ∀ n x, Ev (fun k => ammoniteref1_Apply.j0 k s d n x true) (⟨#[]⟩, false) := fun n x => Ev.step (fun k => ammoniteref1_Apply.j0.eq_2 s d n x true k) (Ev.ip rfl (Ev.now _))
  cases h : rdS (bytesOf d) with
  | none => exact Ev.bind (rread_none (i := 0) (by omega) (by omega) h) (Ev.ip (by decide) (none_ 0 (-1)))
  | some p =>
    obtain ⟨n, j⟩ := p
    have hj := rdS_some h
    rw [size_len] at hj
    refine Ev.bind (rread_some (i := 0) (by omega) (by omega) h) (Ev.nn (by omega) ?_)
    dsimp only
    rw [Nat.zero_add]
    by_cases g : j < d.size
    · refine Ev.nn (by omega) (Ev.ip (by omega) (Ev.ip (by omega) ?_))
      rw [drop_cons d j g]
      dsimp only
      by_cases e : bt d j = 10
      · refine Ev.ip e ?_
        rw [if_pos e]
        dsimp only
        by_cases q : n ≤ 300
        · have e0 : decide (n > 300) = false := decide_eq_false (by omega)
          rw [e0, if_pos q]
          refine Ev.step (fun k => ammoniteref1_Apply.j0.eq_2 s d n j false k) (Ev.nn (by decide) ?_)
          rw [wnat (by omega), size_len]
          exact rap_loop s d hs hd n q (d.size + 1) (j + 1) ⟨#[]⟩ (by omega) (by omega) (by show ((0 : Nat) : Int) ≤ n; omega)
        · have e0 : decide (n > 300) = true := decide_eq_true (by omega)
          rw [e0, if_neg q]
          exact none_ n j
      · refine Ev.nn e ?_
        rw [if_neg e]
        exact none_ n j
    · rw [drop_nil d j (by omega)]
      exact Ev.ip (by omega) (none_ n j)
end Go.Proofs.Ytcjkichimndioab.B
