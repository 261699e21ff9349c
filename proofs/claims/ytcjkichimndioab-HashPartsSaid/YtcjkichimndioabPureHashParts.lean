/- For any text and place: its sum is a name of 40 digits; with another sign in it, or shorter, it is none; a beginning of four digits finds it, one of three doesn't. No condition. -/
import Derived.Test.YtcjkichimndioabPPrefix
import Derived.Test.YtcjkichimndioabPDigit
import Derived.Test.YtcjkichimndioabQx5
namespace Go.Proofs.Ytcjkichimndioab.Pure
open Go.RowKit Go.Proofs.Ytcjkichimndioab.B Go.Proofs.Ytcjkichimndioab.PW Go.Proofs.Ytcjkichimndioab.Given Go.Proofs.Ytcjkichimndioab.Q Go.Proofs.YtcjkichimndioabW.PrintWords Go.Proofs.YtcjkichimndioabW.PrintMore
theorem beg_self (h : ByteArray) (c : Nat) (hc : c ≤ h.size) : (cutS h 0 c).size = c ∧ beg h (cutS h 0 c) = true := by
  have s0 : (cutS h 0 c).size = c := by rw [size_cut hc]; omega
  exact ⟨s0, decide_eq_true ⟨by omega, by rw [s0]⟩⟩
theorem parts_end (h : ByteArray) (hs : h.size = 40) (hh : ∀ c ∈ bytesOf h, hexc c) (i : Nat) (hi : i ≤ 39) (L : List Int) (n : Int) (j : Int) (hj : ¬ j < n) : Ev (fun k => ammonitelaw1_HashParts.l0 k h i L n j) true := by
  have p4 := beg_self h 4 (by omega)
  have p3 := beg_self h 3 (by omega)
  have e4 : prf (cutS h 0 4) [h] ⟨#[]⟩ false = (h, true) := by
    rw [prf_one (cutS h 0 4) h [h] (List.mem_cons_self ..) p4.2 (fun s hs _ => by simpa using hs), if_neg (by omega)]
  have e3 : prf (cutS h 0 3) [h] ⟨#[]⟩ false = (⟨#[]⟩, false) := by
    rw [prf_one (cutS h 0 3) h [h] (List.mem_cons_self ..) p3.2 (fun s hs _ => by simpa using hs), if_pos (by omega)]
  have s0 : (cutS h 0 i).size = i - 0 := size_cut (by omega)
  have s1 : (cutS h (i + 1) h.size).size = h.size - (i + 1) := size_cut (by omega)
  have s6 : (⟨#[102]⟩ : ByteArray).size = 1 := rfl
  have b6 : bytesOf ⟨#[102]⟩ = [102] := rfl
  refine Ev.step (fun k => ammonitelaw1_HashParts.l0.eq_2 h i L n j k) (Ev.nn hj (Ev.ip (by decide) (Ev.ip (by omega) ?_)))
  refine Ev.bind (Ev.eq e4 (prefix_ev [h] (by simp) (cutS h 0 4))) (Ev.ip (by decide) (Ev.ip (by omega) ?_))
  refine Ev.bind (Ev.eq e3 (prefix_ev [h] (by simp) (cutS h 0 3))) ?_
  rw [wn (i := i) (n := 40) (by omega) (by omega), Int.toNat_natCast, Int.toNat_natCast]
  refine Ev.ip (by omega) (Ev.ip (by omega) (Ev.ip (by omega) (Ev.ip (by omega) (Ev.ip (by omega) (Ev.ip ?_ ?_)))))
  · rw [size_cat]; omega
  have ht : isN (bytesOf (catS (catS (cutS h 0 i) ⟨#[102]⟩) (cutS h (i + 1) h.size))) = true := by
    refine decide_eq_true ⟨?_, ?_⟩
    · intro c hc
      rw [bytesOf_cat, bytesOf_cat, b6, bytesOf_cut, bytesOf_cut] at hc
      simp only [List.mem_append, List.mem_singleton] at hc
      rcases hc with (hc | rfl) | hc
      · exact hh c (List.mem_of_mem_drop (List.mem_of_mem_take hc))
      · exact Or.inr (by omega)
      · exact hh c (List.mem_of_mem_drop (List.mem_of_mem_take hc))
    · rw [size_len, size_cat, size_cat]; omega
  have st : (catS (catS (cutS h 0 i) ⟨#[102]⟩) (cutS h (i + 1) h.size)).size ≤ 100 := by rw [size_cat, size_cat]; omega
  refine Ev.bind (Ev.eq ht (is_ev _ (by omega))) (Ev.ip rfl (Ev.ip rfl (Ev.ip rfl (Ev.nn (by decide) ?_))))
  exact Ev.bind (Ev.eq (isN_size (by rw [size_len]; omega)) (is_ev (cutS h 0 i) (by omega))) (Ev.nn (by decide) (Ev.bind hruns (Ev.now _)))
theorem bad_chars : ∀ j : Fin 7, ¬ hexc (rd [103, 65, 70, 32, 47, 58, 96] (j.val : Int)) ∧ 0 ≤ rd [103, 65, 70, 32, 47, 58, 96] (j.val : Int) ∧ rd [103, 65, 70, 32, 47, 58, 96] (j.val : Int) < 256 := by decide
theorem parts_loop1 (h : ByteArray) (hs : h.size = 40) (hh : ∀ c ∈ bytesOf h, hexc c) (i : Nat) (hi : i ≤ 39) (d : Nat) : ∀ j : Nat, j + d = 7 → Ev (fun k => ammonitelaw1_HashParts.l0 k h i [103, 65, 70, 32, 47, 58, 96] 7 j) true := by
  induction d with
  | zero =>
    intro j hj
    exact parts_end h hs hh i hi _ 7 j (by omega)
  | succ d ih =>
    intro j hj
    have hb := bad_chars ⟨j, by omega⟩
    refine Ev.step (fun k => ammonitelaw1_HashParts.l0.eq_2 h i _ 7 j k) (Ev.ip (by omega) (Ev.ip (by omega) (Ev.ip (by show (j : Int) < 7; omega) (Ev.ip (by omega) (Ev.ip (by omega) (Ev.cb rfl ?_))))))
    simp only at hb
    generalize rd [103, 65, 70, 32, 47, 58, 96] (j : Int) = c at hb
    have s0 : (cutS h 0 i).size = i - 0 := size_cut (by omega)
    have s1 : (cutS h (i + 1) h.size).size = h.size - (i + 1) := size_cut (by omega)
    have s5 : (strOfNums [c]).size = 1 := size_nums _
    rw [wn (i := i) (n := 40) (by omega) (by omega), wn (i := j) (n := 7) (by omega) (by omega), Int.toNat_natCast, Int.toNat_natCast]
    refine Ev.ip (by omega) (Ev.ip (by omega) (Ev.ip (by omega) (Ev.ip ?_ ?_)))
    · rw [size_cat]; omega
    have hf : isN (bytesOf (catS (catS (cutS h 0 i) (strOfNums [c])) (cutS h (i + 1) h.size))) = false := by
      refine decide_eq_false ?_
      rintro ⟨x, _⟩
      refine hb.1 (x c ?_)
      rw [bytesOf_cat, bytesOf_cat, bytesOf_nums (l := [c]) (by intro z hz; rw [List.mem_singleton] at hz; omega)]
      simp
    have st : (catS (catS (cutS h 0 i) (strOfNums [c])) (cutS h (i + 1) h.size)).size ≤ 100 := by rw [size_cat, size_cat]; omega
    exact Ev.bind (Ev.eq hf (is_ev _ (by omega))) (Ev.nn (by decide) (ih (j + 1) (by omega)))
theorem HashParts : ammonitelaw1_HashParts.Pure := by
  intro s at_ hs _
  have m2 : 0 ≤ mn (s.size : Int) 100 ∧ mn (s.size : Int) 100 ≤ (s.size : Int) ∧ mn (s.size : Int) 100 ≤ 100 := by unfold mn; split <;> omega
  have s1 : (cutS s 0 (mn (s.size : Int) 100).toNat).size ≤ 100 := by rw [size_cut (by omega)]; omega
  refine Ev.rounds (g := fun k => ammonitelaw1_HashParts.f k s at_) ?_
  unfold ammonitelaw1_HashParts.f
  refine Ev.ip m2.1 (Ev.ip m2.2.1 ?_)
  generalize cutS s 0 (mn (s.size : Int) 100).toNat = a at s1
  have hz := sum_size a
  refine Ev.cb (sum_some a (by omega)) (Ev.ip (by omega) (Ev.bind (Ev.eq (sum_isN a) (is_ev (sumB a) (by omega))) ?_))
  obtain ⟨i, ei, i0, i1⟩ := within_ev at_ (lo := 0) (hi := 39) (by omega) (by omega) (by omega)
  obtain ⟨i, rfl⟩ : ∃ m : Nat, i = m := ⟨i.toNat, by omega⟩
  refine Ev.step (fun k => ammonitelaw1_HashParts.j0.eq_2 at_ (sumB a) (!true) k) (Ev.nn (by decide) (Ev.cb ei (Ev.cb rfl ?_)))
  exact parts_loop1 (sumB a) hz (sum_hexc a) i (by omega) 7 0 rfl
end Go.Proofs.Ytcjkichimndioab.Pure
