/- What is pressed comes back, whatever it is; it isn't much longer; of one byte it is short. For every input. No condition. -/
import Derived.Test.YtjiafbckfnglmaaPPress
import Derived.Test.YtjiafbckfnglmaaPExpandRef
import Derived.Test.YtjiafbckfnglmaaPText
import Derived.Test.YtjiafbckfnglmaaPSruns
import Derived.OpenShut
import Derived.Test.YtjiafbckfnglmaaQx6
set_option linter.unusedVariables false
set_option linter.unusedSimpArgs false
namespace Go.Proofs.Ytjiafbckfnglmaa.Pure
open Go.RowKit Go.Proofs.Ytjiafbckfnglmaa.B Go.Proofs.Ytjiafbckfnglmaa.PW Go.Proofs.Ytjiafbckfnglmaa.Given Go.Proofs.Ytjiafbckfnglmaa.Q Go.Proofs.YtjiafbckfnglmaaW.PrintWords Go.Proofs.YtjiafbckfnglmaaW.PrintMore
/-- Both expand what was pressed; neither below its size. -/
theorem back_exp (s : ByteArray) (hs : s.size ≤ 60000) : ∃ r, squeeze_Press.f s = some r ∧ r.size ≤ s.size + s.size / 128 + 7 ∧ Ev (fun k => squeeze_Expand.f k r (s.size : Int)) (s, true) ∧
    Ev (fun k => ammoniteref1_Expand.f k r (s.size : Int)) (s, true) ∧ (0 < s.size → Ev (fun k => squeeze_Expand.f k r ((s.size : Int) - 1)) (⟨#[]⟩, false)) := by
  obtain ⟨r, P, h1, h2, h3, h4⟩ := press_ev s hs
  have hr : r.size ≤ 4611686018427387904 := by omega
  have e1 : exS (bytesOf r) (s.size : Int) = some (bytesOf s) := by rw [h2, exS_decG (by omega), if_neg (by omega)]; exact h3
  have e2 : 0 < s.size → exS (bytesOf r) ((s.size : Int) - 1) = none := fun h => by rw [h2, exS_decG (by omega), if_pos (by omega)]
  refine ⟨r, h1, h4, ?_, ?_, fun h => ?_⟩
  · have := expand_ev r hr (s.size : Int)
    rw [e1] at this
    unfold exR at this
    dsimp only at this
    rw [strOfNums_bytesOf] at this
    exact this
  · obtain ⟨⟨x, b⟩, hq, hb, hx⟩ := rexpand_ev r hr (s.size : Int)
    rw [e1] at hb hx
    have hb : b = true := hb
    have hx : x = strOfNums (bytesOf s) := hx _ rfl
    rw [strOfNums_bytesOf] at hx
    rw [hb, hx] at hq
    exact hq
  · have := expand_ev r hr ((s.size : Int) - 1)
    rw [e2 h] at this
    exact this
/-- The end: of one byte it is short. -/
theorem back_end (b : List Int) (c : Int) (hc0 : 0 ≤ c) (hc : c < 256) (hb : b = List.replicate b.length c) (h4 : b.length ≤ 400) (l : List ByteArray) (n i : Nat) (hi : n ≤ i) : Ev (fun k => ammonitelaw4_SqueezeBack.l1 k b l n i) true := by
  refine Ev.step (fun k => ammonitelaw4_SqueezeBack.l1.eq_2 b l n i k) (Ev.nn (by omega) ?_)
  by_cases g : (b.length : Int) < 100
  · exact Ev.ip g (Ev.bind sruns (Ev.now _))
  · have sz : (strOfNums b).size = b.length := size_nums b
    have hbs : bytesOf (strOfNums b) = b := bytesOf_nums fun x hx => by
      rw [hb] at hx
      rw [List.eq_of_mem_replicate hx]
      exact ⟨hc0, hc⟩
    obtain ⟨r, h1, _⟩ := back_exp (strOfNums b) (by omega)
    have hl := press_const (strOfNums b) (by omega) (by omega) plainsV (by rw [sz]; exact decV _ (by omega)) c (by rw [hbs, sz]; exact hb) r h1
    rw [sz] at hl
    have w : wrap64 (12 + (wrap64 ((wrap64 ((b.length : Int) / 130)) * 3))) = 12 + 3 * ((b.length / 130 : Nat) : Int) := by
      rw [w64 (n := (b.length : Int) / 130) (by omega) (by omega), w64 (n := (b.length : Int) / 130 * 3) (by omega) (by omega), w64 (by omega) (by omega)]; omega
    exact Ev.nn g (Ev.cb h1 (Ev.ip (by rw [w]; omega) (Ev.bind sruns (Ev.now _))))
theorem back_loop (b : List Int) (c : Int) (hc0 : 0 ≤ c) (hc : c < 256) (hb : b = List.replicate b.length c) (h4 : b.length ≤ 400) (l : List ByteArray) (hl : ∀ i, i < l.length → (rdOf ByteArray.empty l ((i : Nat) : Int)).size ≤ 60000) (hl2 : l.length ≤ 100) (d : Nat) :
    ∀ i : Nat, i + d = l.length → Ev (fun k => ammonitelaw4_SqueezeBack.l1 k b l l.length i) true := by
  induction d with
  | zero => intro i hi; exact back_end b c hc0 hc hb h4 l _ i (by omega)
  | succ d ih =>
    intro i hi
    have key := ih (i + 1) (by omega)
    have hs := hl i (by omega)
    have wi : wrap64 ((i : Int) + 1) = ((i + 1 : Nat) : Int) := by rw [w64 (by omega) (by omega)]; omega
    refine Ev.step (fun k => ammonitelaw4_SqueezeBack.l1.eq_2 b l l.length i k) (Ev.ip (by omega) (Ev.ip (by omega) (Ev.ip (by omega) ?_)))
    generalize hs' : rdOf ByteArray.empty l (i : Int) = s at hs
    obtain ⟨r, h1, h2, h3, h5, h6⟩ := back_exp s hs
    have w : wrap64 ((wrap64 ((s.size : Int) + (wrap64 ((s.size : Int) / 128)))) + 7) = ((s.size + s.size / 128 + 7 : Nat) : Int) := by
      rw [w64 (n := (s.size : Int) / 128) (by omega) (by omega), w64 (n := (s.size : Int) + (s.size : Int) / 128) (by omega) (by omega), w64 (by omega) (by omega)]; omega
    refine Ev.cb h1 (Ev.bind h3 (Ev.bind h5 (Ev.ip rfl (Ev.ip rfl (Ev.ip rfl (Ev.ip rfl ?_))))))
    rw [w, decide_eq_false (by omega)]
    refine Ev.step (fun k => ammonitelaw4_SqueezeBack.j2.eq_2 b s r l _ _ false k) (Ev.nn (by decide) ?_)
    rw [wi]
    by_cases z : (s.size : Int) > 0
    · refine Ev.ip z ?_
      rw [w64 (n := (s.size : Int) - 1) (by omega) (by omega)]
      exact Ev.bind (h6 (by omega)) (Ev.nn (by decide) key)
    · exact Ev.nn z key
theorem set_mid (c : Int) (i d : Nat) : (List.replicate i c ++ List.replicate (d + 1) (0 : Int)).set i c = List.replicate (i + 1) c ++ List.replicate d 0 := by
  rw [List.set_append_right _ _ (by simp)]
  simp only [List.length_replicate, Nat.sub_self, List.replicate_succ, List.set_cons_zero]
  rw [← List.replicate_succ, List.replicate_succ', List.append_assoc]
  rfl
theorem back_fill (raw : ByteArray) (hraw : raw.size ≤ 140737488351232) (c : Int) (hc0 : 0 ≤ c) (hc : c < 256) (seed : Int) (ops : List Int) (ho : ops.length ≤ 9223372036854775807) (d : Nat) : ∀ i : Nat, i + d ≤ 400 →
    Ev (fun k => ammonitelaw4_SqueezeBack.l0 k raw c (List.replicate i c ++ List.replicate d 0) ((i + d : Nat) : Int) i seed ops) true := by
  induction d with
  | zero =>
    intro i hi
    refine Ev.step (fun k => ammonitelaw4_SqueezeBack.l0.eq_2 raw c _ _ i seed ops k) (Ev.nn (by omega) ?_)
    obtain ⟨t, ht, hts⟩ := text_ev seed ops ho
    have hm : mn (raw.size : Int) 300 = ((min raw.size 300 : Nat) : Int) := by unfold mn; omega
    have cs : (cutS raw 0 (min raw.size 300)).size = min raw.size 300 := by rw [size_cut (by omega)]; omega
    have ct : (catS t t).size = t.size + t.size := size_cat t t
    rw [hm, Int.toNat_natCast]
    refine Ev.bind ht (Ev.ip (by omega) (Ev.ip (by omega) (Ev.bind ht (Ev.bind ht (Ev.ip (by omega) (Ev.cb rfl ?_))))))
    have e : List.replicate i c ++ List.replicate 0 (0 : Int) = List.replicate i c := List.append_nil _
    rw [e]
    refine back_loop (List.replicate i c) c hc0 hc (by rw [List.length_replicate]) (by rw [List.length_replicate]; omega) _ ?_ (by simp) 5 0 (by simp)
    intro j hj
    have s0 : (strOfNums (List.replicate i c)).size = i := by rw [size_nums, List.length_replicate]
    simp only [List.length_cons, List.length_nil] at hj
    have hj5 : j = 0 ∨ j = 1 ∨ j = 2 ∨ j = 3 ∨ j = 4 := by omega
    rcases hj5 with rfl | rfl | rfl | rfl | rfl
    · show t.size ≤ _; omega
    · show (cutS raw 0 (min raw.size 300)).size ≤ _; omega
    · show (strOfNums (List.replicate i c)).size ≤ _; omega
    · show (catS t t).size ≤ _; omega
    · show (⟨#[]⟩ : ByteArray).size ≤ _; decide
  | succ d ih =>
    intro i hi
    have key := ih (i + 1) (by omega)
    have wi : wrap64 ((i : Int) + 1) = ((i + 1 : Nat) : Int) := by rw [w64 (by omega) (by omega)]; omega
    refine Ev.step (fun k => ammonitelaw4_SqueezeBack.l0.eq_2 raw c _ _ i seed ops k) (Ev.ip (by omega) (Ev.ip (by omega) (Ev.ip (by rw [List.length_append, List.length_replicate, List.length_replicate]; omega) ?_)))
    rw [wi, Int.toNat_natCast, set_mid, show ((i + (d + 1) : Nat) : Int) = ((i + 1 + d : Nat) : Int) by omega]
    exact key
theorem SqueezeBack : ammonitelaw4_SqueezeBack.Pure := by
  intro seed ops raw n c hseed hops hops2 hraw hn hc
  obtain ⟨hc0, hc1⟩ : 0 ≤ c ∧ c < 256 := by
    have := bounds_u8 hc
    omega
  refine Ev.rounds (g := fun k => ammonitelaw4_SqueezeBack.f k seed ops raw n c) ?_
  unfold ammonitelaw4_SqueezeBack.f
  obtain ⟨t, ht, h0, h1⟩ := within_ev n (lo := 0) (hi := 400) (by omega) (by omega) (by omega)
  refine Ev.cb ht (Ev.ip h0 (Ev.ip (by omega) (Ev.cb rfl ?_)))
  have := back_fill raw hraw c hc0 hc1 seed ops (by unfold maxLen at hops; omega) t.toNat 0 (by omega)
  rw [List.length_replicate]
  rw [Nat.zero_add] at this
  exact this
end Go.Proofs.Ytjiafbckfnglmaa.Pure
