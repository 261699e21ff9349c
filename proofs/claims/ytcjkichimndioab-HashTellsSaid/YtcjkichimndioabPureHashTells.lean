/- For any text: its sum is the reference's sum, and a name; what is a name, the reference says, too. No condition. -/
import Derived.Test.YtcjkichimndioabPHash
import Derived.Test.YtcjkichimndioabPDigit
import Derived.Test.YtcjkichimndioabQx2
namespace Go.Proofs.Ytcjkichimndioab.Pure
open Go.RowKit Go.Proofs.Ytcjkichimndioab.B Go.Proofs.Ytcjkichimndioab.PW Go.Proofs.Ytcjkichimndioab.Given Go.Proofs.Ytcjkichimndioab.Q Go.Proofs.YtcjkichimndioabW.PrintWords Go.Proofs.YtcjkichimndioabW.PrintMore
theorem htells0 (at_ c : Int) (h : ByteArray) (hs : h.size = 40) : Ev (fun k => ammonitelaw1_HashTells.j0 k at_ c h false) true := by
  obtain ⟨i, ei, i0, i1⟩ := within_ev at_ (lo := 0) (hi := 39) (by omega) (by omega) (by omega)
  obtain ⟨i, rfl⟩ : ∃ m : Nat, i = m := ⟨i.toNat, by omega⟩
  refine Ev.step (fun k => ammonitelaw1_HashTells.j0.eq_2 at_ c h false k) (Ev.nn (by decide) (Ev.cb ei ?_))
  rw [wn (i := i) (n := 40) (by omega) (by omega), Int.toNat_natCast, Int.toNat_natCast]
  have s0 : (cutS h 0 i).size = i - 0 := size_cut (by omega)
  have s1 : (cutS h (i + 1) h.size).size = h.size - (i + 1) := size_cut (by omega)
  have s2 : (cutS h 1 h.size).size = h.size - 1 := size_cut (by omega)
  have s5 : (strOfNums [c]).size = 1 := size_nums _
  have s6 : (⟨#[48]⟩ : ByteArray).size = 1 := rfl
  refine Ev.ip (by omega) (Ev.ip (by omega) (Ev.cb rfl (Ev.ip (by omega) (Ev.ip (by omega) (Ev.ip (by omega) (Ev.ip ?_ ?_))))))
  · rw [size_cat]; omega
  have st : (catS (catS (cutS h 0 i) (strOfNums [c])) (cutS h (i + 1) h.size)).size ≤ 100 := by rw [size_cat, size_cat]; omega
  generalize catS (catS (cutS h 0 i) (strOfNums [c])) (cutS h (i + 1) h.size) = t at st
  refine Ev.bind (is_ev t (by omega)) (Ev.bind (ris_ev t (by omega)) (Ev.ip (by simp) (Ev.ip (by omega) ?_)))
  refine Ev.bind (Ev.eq (isN_size (by rw [size_len]; omega)) (is_ev (cutS h 1 h.size) (by omega))) (Ev.nn (by decide) (Ev.ip (by omega) ?_))
  refine Ev.bind (Ev.eq (isN_size (by rw [size_len, size_cat]; omega)) (is_ev (catS h ⟨#[48]⟩) (by rw [size_cat]; omega))) (Ev.nn (by decide) (Ev.bind hruns (Ev.now _)))
theorem HashTells : ammonitelaw1_HashTells.Pure := by
  intro s raw at_ c hs hr _ _
  have m2 : 0 ≤ mn (s.size : Int) 200 ∧ mn (s.size : Int) 200 ≤ (s.size : Int) ∧ mn (s.size : Int) 200 ≤ 200 := by unfold mn; split <;> omega
  have m4 : 0 ≤ mn (raw.size : Int) 45 ∧ mn (raw.size : Int) 45 ≤ (raw.size : Int) ∧ mn (raw.size : Int) 45 ≤ 45 := by unfold mn; split <;> omega
  have s1 : (cutS s 0 (mn (s.size : Int) 200).toNat).size ≤ 200 := by rw [size_cut (by omega)]; omega
  have s2 : (cutS raw 0 (mn (raw.size : Int) 45).toNat).size ≤ 45 := by rw [size_cut (by omega)]; omega
  refine Ev.rounds (g := fun k => ammonitelaw1_HashTells.f k s raw at_ c) ?_
  unfold ammonitelaw1_HashTells.f
  refine Ev.ip m2.1 (Ev.ip m2.2.1 (Ev.ip m4.1 (Ev.ip m4.2.1 ?_)))
  generalize cutS s 0 (mn (s.size : Int) 200).toNat = a at s1
  generalize cutS raw 0 (mn (raw.size : Int) 45).toNat = b at s2
  have hz := sum_size a
  refine Ev.cb (sum_some a (by omega)) (Ev.cb (rsum_some a (by omega)) (Ev.ip rfl (Ev.bind (Ev.eq (sum_isN a) (is_ev (sumB a) (by omega))) (Ev.ip rfl (Ev.bind (is_ev b (by omega)) (Ev.bind (ris_ev b (by omega)) (Ev.nn (by simp) ?_)))))))
  rw [show (((sumB a).size : Int) != 40) = false by rw [hz]; rfl]
  exact htells0 at_ c _ hz
end Go.Proofs.Ytcjkichimndioab.Pure
