/- What is put is read, wherever it stands, up to what is no digit; the greatest number and one more. For every input. No condition. -/
import Derived.Test.YtcjkichimndioaaPDigitMore
import Derived.Test.YtcjkichimndioaaQx4
import Derived.Test.YtcjkichimndioaaPRuns
namespace Go.Proofs.Ytcjkichimndioaa.Pure
open Go.RowKit Go.Proofs.Ytcjkichimndioaa.B Go.Proofs.Ytcjkichimndioaa.PW Go.Proofs.Ytcjkichimndioaa.Given Go.Proofs.Ytcjkichimndioaa.Q Go.Proofs.YtcjkichimndioaaW.PrintWords Go.Proofs.YtcjkichimndioaaW.PrintMore
theorem semi : bytesOf (⟨#[59]⟩ : ByteArray) = [59] := rfl
theorem nought : bytesOf (⟨#[48]⟩ : ByteArray) = [48] := rfl
theorem val59 : val 59 < 0 := by decide +kernel
theorem val48 : val 48 = 0 := by decide +kernel
theorem big_read : rdR (catS (putB 1073741824) ⟨#[48]⟩) 0 = (0, 0, false) := by
  have hs : 0 < (catS (putB 1073741824) ⟨#[48]⟩).size := by
    rw [size_cat, size_put]
    have := (putL_len 1073741824).1
    omega
  have e := rdR_at _ 0 hs
  have : rdS ((bytesOf (catS (putB 1073741824) ⟨#[48]⟩)).drop 0) = none := by
    rw [List.drop_zero, bytesOf_cat, bytesOf_put, nought]
    unfold rdS
    rw [digs_app_yes _ _ (put_digits _), digs_yes _ (by rw [val48]; omega), if_pos]
    refine Or.inr (Or.inl ?_)
    rw [vals_app, vals_put]
    unfold vals
    rw [val48]
    unfold digs
    simp only [List.takeWhile_nil, vals]
    omega
  rw [this] at e
  exact e
theorem DigitBack : ammonitelaw2_DigitBack.Pure := by
  intro a0 a1 a2 a3 _ _ h2 h3
  have hm : 0 ≤ mn (a2.size : Int) 9 ∧ mn (a2.size : Int) 9 ≤ (a2.size : Int) ∧ mn (a2.size : Int) 9 ≤ 9 := by unfold mn; split <;> omega
  have hm3 : 0 ≤ mn (a3.size : Int) 9 ∧ mn (a3.size : Int) 9 ≤ (a3.size : Int) ∧ mn (a3.size : Int) 9 ≤ 9 := by unfold mn; split <;> omega
  refine Ev.rounds (g := fun k => ammonitelaw2_DigitBack.f k a0 a1 a2 a3) ?_
  unfold ammonitelaw2_DigitBack.f
  have hs : (cutS a2 0 (mn (a2.size : Int) 9).toNat).size ≤ 9 := by rw [size_cut (by omega)]; omega
  have hs3 : (cutS a3 0 (mn (a3.size : Int) 9).toNat).size ≤ 9 := by rw [size_cut (by omega)]; omega
  generalize cutS a2 0 (mn (a2.size : Int) 9).toNat = s at hs
  generalize cutS a3 0 (mn (a3.size : Int) 9).toNat = u at hs3
  obtain ⟨a, ha, ha0, ha1⟩ := within_ev a0 (lo := 0) (hi := 1073741824) (by omega) (by omega) (by omega)
  obtain ⟨b, hb, hb0, hb1⟩ := within_ev a1 (lo := 0) (hi := 5000) (by omega) (by omega) (by omega)
  obtain ⟨n, rfl⟩ : ∃ n : Nat, a = n := ⟨a.toNat, by omega⟩
  obtain ⟨m, rfl⟩ : ∃ m : Nat, b = m := ⟨b.toNat, by omega⟩
  have l6 := put6 (n := n) (by omega)
  have l1 := (putL_len n).1
  have sz := size_put n
  have one : (⟨#[59]⟩ : ByteArray).size = 1 := rfl
  refine Ev.cb ha (Ev.cb hb (Ev.ip hm.1 (Ev.ip hm.2.1 (Ev.bind (put_ev ha0 ha1) ?_))))
  rw [Int.toNat_natCast]
  refine Ev.ip (by rw [sz]; omega) (Ev.ip (by rw [size_cat, sz]; omega) (Ev.ip hm3.1 (Ev.ip hm3.2.1 (Ev.ip (by rw [size_cat, size_cat, sz, one]; omega) ?_))))
  refine Ev.bind (read_ev _ _ (by rw [size_cat, size_cat, size_cat, sz, one]; omega)) ?_
  have r1 : rdR (catS (catS (catS s (putB n)) ⟨#[59]⟩) u) (s.size : Int) = ((n : Int), (s.size : Int) + ((putL n).length : Int), true) := by
    rw [rdR_at _ _ (by rw [size_cat, size_cat, size_cat, sz, one]; omega)]
    have : (bytesOf (catS (catS (catS s (putB n)) ⟨#[59]⟩) u)).drop s.size = putL n ++ (59 :: bytesOf u) := by
      simp only [bytesOf_cat, bytesOf_put, semi, List.append_assoc]
      rw [List.drop_left' (size_len s)]
      rfl
    rw [this, rdS_put (by omega) _ (digs_stop _ val59)]
  rw [r1]
  refine Ev.bind (dec_ev ha0 ha1) ?_
  rw [Int.toNat_natCast]
  have dl := decL_len n
  refine Ev.bind (readDec_ev _ (by rw [size_dec]; omega)) ?_
  have r2 : rdDecR (bytesOf (decB n)) = ((n : Int), true) := by
    unfold rdDecR
    rw [bytesOf_dec, rdDec_dec (by omega)]
  rw [r2]
  have b6 := put6 (n := 1073741824) (by omega)
  have big := big_read
  have pm : Ev (fun k => digit_Put.f k 1073741824) (putB 1073741824) := put_ev (n := 1073741824) (by omega) (by omega)
  have pz : (putB 1073741824).size ≤ 6 := by rw [size_put]; exact b6
  clear b6
  have oz : (⟨#[48]⟩ : ByteArray).size = 1 := rfl
  have cz := size_cat (putB 1073741824) ⟨#[48]⟩
  generalize putB 1073741824 = pb at pm pz cz big
  refine Ev.bind pm ?_
  refine Ev.ip (by omega) ?_
  refine Ev.bind (read_ev (catS pb ⟨#[48]⟩) 0 (by omega)) ?_
  rw [big]
  have e1 : wrap64 ((m : Int) + 1) = ((m + 1 : Nat) : Int) := by rw [w64 (by omega) (by omega)]; omega
  rw [e1]
  clear e1
  have p1 := put_ev (n := (m : Int)) (by omega) (by omega)
  have p2 := put_ev (n := ((m + 1 : Nat) : Int)) (by omega) (by omega)
  rw [Int.toNat_natCast] at p1 p2
  refine Ev.bind p1 (Ev.bind p2 ?_)
  have mono := putL_mono (a := m) (b := m + 1) (by omega)
  have e2 : (s.size : Int) + ((putL n).length : Int) = wrap64 ((s.size : Int) + ((putB n).size : Int)) := by rw [sz, w64 (by omega) (by omega)]
  refine Ev.ip rfl (Ev.ip rfl (Ev.ip e2 ?_))
  clear e2
  refine Ev.ip rfl (Ev.ip rfl (Ev.nn (by decide) (Ev.ip (by rw [sz]; omega) (Ev.ip (by rw [sz]; omega) (Ev.nn ?_ (Ev.ip ?_ ?_))))))
  · intro h
    have := toList_iff.1 h
    rw [bytesOf_put, bytesOf_put] at this
    have := putL_inj this
    omega
  · rw [size_put, size_put]; omega
  · refine Ev.bind (put_no (by omega)) (Ev.ip (toList_nil.2 rfl) (Ev.bind (dec_no (by omega)) (Ev.ip (toList_nil.2 rfl) ?_)))
    exact Ev.bind druns (Ev.now _)
end Go.Proofs.Ytcjkichimndioaa.Pure
