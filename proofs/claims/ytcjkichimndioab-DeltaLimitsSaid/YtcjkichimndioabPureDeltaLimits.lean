/- For any source: a target of the greatest size comes back, an empty one too; a delta of a greater size makes nothing; of a greater target no delta is made. No condition. -/
import Derived.Test.YtcjkichimndioabPText
import Derived.Test.YtcjkichimndioabPMake
import Derived.Test.YtcjkichimndioabQx6
import Derived.KernelRfl
set_option linter.unusedSimpArgs false
namespace Go.Proofs.Ytcjkichimndioab.Pure
open Go.RowKit Go.Proofs.Ytcjkichimndioab.B Go.Proofs.Ytcjkichimndioab.PW Go.Proofs.Ytcjkichimndioab.Given Go.Proofs.Ytcjkichimndioab.Q Go.Proofs.YtcjkichimndioabW.PrintWords Go.Proofs.YtcjkichimndioabW.PrintMore Go.Proofs.YtcjkichimndioabW.PrintLast
theorem runs6 : Ev (fun k => ammonitelaw3_DeltaRuns.f k) true := Ev.of ammonitelaw3_DeltaRuns.mono (k := 20) (by kernel_rfl)
theorem make_apply (s t : ByteArray) (hs : s.size < 200) (ht : t.size ≤ 300) : ∃ r, Ev (fun k => delta_Make.f k s t) r ∧ Ev (fun k => delta_Apply.f k s r) (t, true) := by
  obtain ⟨d, cmds, ev, hd, hsay, hlen, _⟩ := make_ev s t (by omega) ht
  have ha : apR (applyL (bytesOf s) (bytesOf d)) = (t, true) := by
    rw [hd, hsay.apply (by rw [size_len]; exact ht), if_pos rfl, apR_some]
  exact ⟨d, ev, Ev.eq ha (apply_ev s d (by omega) (by omega))⟩
theorem DeltaLimits : ammonitelaw3_DeltaLimits.Pure := by
  intro a0 l0 n _ hl0 _ _
  have hmax : maxLen = 9223372036854775807 := rfl
  obtain ⟨s, es, hs⟩ := text_ev a0 l0 (by omega)
  obtain ⟨m, em, m0, m1⟩ := within_ev n (lo := 0) (hi := 3) (by omega) (by omega) (by omega)
  have e1 : wrap64 (300 - m) = 300 - m := w64 (by omega) (by omega)
  have e2 : wrap64 (301 + m) = 301 + m := w64 (by omega) (by omega)
  refine Ev.rounds (g := fun k => ammonitelaw3_DeltaLimits.f k a0 l0 n) ?_
  unfold ammonitelaw3_DeltaLimits.f
  refine Ev.bind es (Ev.cb em ?_)
  rw [e1, e2]
  refine Ev.ip (by omega) (Ev.ip (by omega) (Ev.cb rfl ?_))
  have st : (strOfNums (List.replicate (300 - m).toNat 0)).size = (300 - m).toNat := by rw [size_nums, List.length_replicate]
  have su : (strOfNums (List.replicate (301 + m).toNat 0)).size = (301 + m).toNat := by rw [size_nums, List.length_replicate]
  have sv : (strOfNums (List.replicate 301 0)).size = 301 := by rw [size_nums, List.length_replicate]
  obtain ⟨d, ed, ed2⟩ := make_apply s (strOfNums (List.replicate (300 - m).toNat 0)) hs (by omega)
  obtain ⟨c, ec, ec2⟩ := make_apply s ⟨#[]⟩ hs (by decide)
  have lp := put6 (n := 301) (by omega)
  have s1 : (⟨#[10]⟩ : ByteArray).size = 1 := rfl
  have s2 : (⟨#[58]⟩ : ByteArray).size = 1 := rfl
  have s3 : (⟨#[48, 59]⟩ : ByteArray).size = 2 := rfl
  refine Ev.bind ed (Ev.bind ed2 (Ev.bind ec (Ev.bind ec2 (Ev.bind (putB_ev 301 (by omega)) (Ev.ip ?_ (Ev.bind (putB_ev 301 (by omega)) (Ev.ip ?_ (Ev.ip ?_ (Ev.ip (by omega) (Ev.cb rfl (Ev.ip ?_ (Ev.ip ?_ ?_))))))))))))
  · simp only [size_put]; generalize (putL 301).length = q at lp ⊢; omega
  · simp only [size_cat, size_put, s1]; generalize (putL 301).length = q at lp ⊢; omega
  · simp only [size_cat, size_put, s1]; generalize (putL 301).length = q at lp ⊢; omega
  · simp only [size_cat, size_put, s1, s2, sv]; generalize (putL 301).length = q at lp ⊢; omega
  · simp only [size_cat, size_put, s1, s2, sv]; generalize (putL 301).length = q at lp ⊢; omega
  have ho : apR (applyL (bytesOf s) (bytesOf (catS (catS (catS (catS (catS (putB 301) ⟨#[10]⟩) (putB 301)) ⟨#[58]⟩) (strOfNums (List.replicate 301 0))) ⟨#[48, 59]⟩))) = (⟨#[]⟩, false) := by
    have e : ∀ x, applyL (bytesOf s) (putL 301 ++ 10 :: x) = none := by
      intro x
      unfold applyL
      rw [sizeL_put (by omega)]
      exact if_neg (by omega)
    simp only [bytesOf_cat, bytesOf_put, b10, List.append_assoc, List.cons_append, List.nil_append]
    rw [e]
    rfl
  refine Ev.bind (Ev.eq ho (apply_ev s _ (by omega) (by simp only [size_cat, size_put, s1, s2, s3, sv]; generalize (putL 301).length = q at lp ⊢; omega))) ?_
  refine Ev.ip rfl (Ev.ip rfl (Ev.ip rfl (Ev.ip (toList_nil.2 rfl) (Ev.nn (by decide) (Ev.ip (by omega) (Ev.ip (by omega) ?_))))))
  have em2 : Ev (fun k => delta_Make.f k s (strOfNums (List.replicate (301 + m).toNat 0))) ⟨#[]⟩ := by
    unfold delta_Make.f
    exact Ev.ip (by omega) (Ev.now _)
  exact Ev.bind em2 (Ev.ip (toList_nil.2 rfl) (Ev.bind runs6 (Ev.now _)))
end Go.Proofs.Ytcjkichimndioab.Pure
