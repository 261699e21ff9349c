/- Digits are read as far as they go and no further; one nought stands for itself alone; nothing is no number. For every input. No condition. -/
import Derived.Test.YtcjkichimndioaaPDigitMore
import Derived.OpenShut
import Derived.Test.YtcjkichimndioaaQx6
import Derived.Test.YtcjkichimndioaaPRuns
namespace Go.Proofs.Ytcjkichimndioaa.Pure
open Go.RowKit Go.Proofs.Ytcjkichimndioaa.B Go.Proofs.Ytcjkichimndioaa.PW Go.Proofs.Ytcjkichimndioaa.Given Go.Proofs.Ytcjkichimndioaa.Q Go.Proofs.YtcjkichimndioaaW.PrintWords Go.Proofs.YtcjkichimndioaaW.PrintMore
theorem is_all : ∀ c : Fin 256, (decide (0 ≤ val (c.val : Int))) = decide (∃ j : Fin 64, bt DG (j.val : Int) = c.val) := by decide +kernel
theorem dot_no : val 46 < 0 := by decide +kernel
theorem semi_no : val 59 < 0 := by decide +kernel
theorem nought_yes : val 48 = 0 := by decide +kernel
theorem two_no : rdR (⟨#[48, 48]⟩ : ByteArray) 0 = (0, 0, false) := by
  have e := rdR_at (⟨#[48, 48]⟩ : ByteArray) 0 (by decide)
  have b : (bytesOf (⟨#[48, 48]⟩ : ByteArray)).drop 0 = [48, 48] := rfl
  have d : digs [48, 48] = [48, 48] := by rw [digs_yes _ (by rw [nought_yes]; omega), digs_yes _ (by rw [nought_yes]; omega)]; rfl
  have : rdS [48, 48] = none := by
    unfold rdS
    rw [d, if_pos (Or.inr (Or.inr ⟨rfl, by decide⟩))]
  rw [b, this] at e
  exact e
theorem one_yes : rdR (⟨#[48, 59]⟩ : ByteArray) 0 = (0, 1, true) := by
  have e := rdR_at (⟨#[48, 59]⟩ : ByteArray) 0 (by decide)
  have b : (bytesOf (⟨#[48, 59]⟩ : ByteArray)).drop 0 = putL 0 ++ [59] := by
    rw [putL_lt (by omega)]
    have : dig 0 = 48 := by decide +kernel
    rw [this]
    rfl
  rw [b, rdS_put (by omega) _ (digs_stop _ semi_no)] at e
  have : (putL 0).length = 1 := (putL_len 0).2.1 (by omega)
  rw [this] at e
  exact e
theorem dig_zero : putL 0 = [48] := by
  rw [putL_lt (by omega)]
  have : dig 0 = 48 := by decide +kernel
  rw [this]
theorem stops2t (n : Nat) (s : ByteArray) (hs : s.size ≤ 5) (v : Int) (h0 : 0 ≤ v) (h1 : v ≤ 1073741824) (hv : v / 64 = n) : Ev (fun k => ammonitelaw2_DigitStops.j2 k n s true v (s.size + 1 : Nat) true true) true := by
  refine Ev.step (fun k => ammonitelaw2_DigitStops.j2.eq_2 n s true v _ true true k) ?_
  have e1 : ((s.size + 1 : Nat) : Int) = wrap64 ((s.size : Int) + 1) := by rw [w64 (by omega) (by omega)]; omega
  have e2 : wrap64 (Int.tdiv v 64) = (n : Int) := by rw [Int.tdiv_eq_ediv_of_nonneg h0, hv, w64 (by omega) (by omega)]
  exact Ev.ip rfl (Ev.ip rfl (Ev.ip e1 (Ev.ip e2 (Ev.bind druns (Ev.now _)))))
theorem stops_tail (n : Nat) (hn : n ≤ 16777215) (c : Int) (hc0 : 0 ≤ c) (hc1 : c < 256) (x2 : Int) : Ev (fun k => ammonitelaw2_DigitStops.l0 k c x2 n (putB n) (decide (0 ≤ val c)) 64) true := by
  have l5 : (putL n).length ≤ 5 := (putL_long n 5 (by omega)).2 (by omega)
  have l1 := (putL_len n).1
  have sz := size_put n
  have o1 : (strOfNums [c]).size = 1 := size_nums _
  have o2 : (⟨#[46]⟩ : ByteArray).size = 1 := rfl
  have bc : bytesOf (strOfNums [c]) = [c] := bytesOf_nums fun x hx => by rw [List.mem_singleton] at hx; omega
  refine Ev.step (fun k => ammonitelaw2_DigitStops.l0.eq_2 c x2 n (putB n) _ 64 k) ?_
  refine Ev.nn (by omega) (Ev.cb rfl (Ev.ip (by omega) (Ev.ip (by rw [size_cat]; omega) ?_)))
  refine Ev.bind (read_ev _ _ (by rw [size_cat, size_cat]; omega)) ?_
  obtain ⟨t, ht, ht0, ht1⟩ := within_ev x2 (lo := 0) (hi := 5) (by omega) (by omega) (by omega)
  have e1 : wrap64 (((putB n).size : Int) + t) = ((putB n).size : Int) + t := w64 (by omega) (by omega)
  have e2 : wrap64 (-1 - t) = -1 - t := w64 (by omega) (by omega)
  have hsz : (putB n).size ≤ 5 := by omega
  have hr : rdR (catS (catS (putB n) (strOfNums [c])) ⟨#[46]⟩) 0 = match rdS (putL n ++ [c, 46]) with
    | none => (0, 0, false)
    | some (v, m) => (v, (m : Int), true) := by
    have e := rdR_at (catS (catS (putB n) (strOfNums [c])) ⟨#[46]⟩) 0 (by rw [size_cat, size_cat]; omega)
    have b : (bytesOf (catS (catS (putB n) (strOfNums [c])) ⟨#[46]⟩)).drop 0 = putL n ++ [c, 46] := by
      rw [List.drop_zero, bytesOf_cat, bytesOf_cat, bytesOf_put, bc, List.append_assoc]
      rfl
    rw [b] at e
    refine Eq.trans e ?_
    cases rdS (putL n ++ [c, 46]) with
    | none => rfl
    | some p => simp
  rw [hr]
  clear hr
  refine Ev.cb ht ?_
  rw [e1]
  refine Ev.bind (read_ev (putB n) _ (by omega)) ?_
  rw [rdR_no _ _ (Or.inr (by omega))]
  refine Ev.cb ht ?_
  rw [e2]
  refine Ev.bind (read_ev (putB n) _ (by omega)) ?_
  rw [rdR_no _ _ (Or.inl (by omega))]
  clear e1 e2
  have w2 := read_ev (⟨#[48, 48]⟩ : ByteArray) 0 (by decide)
  have w1 := read_ev (⟨#[48, 59]⟩ : ByteArray) 0 (by decide)
  rw [two_no] at w2
  rw [one_yes] at w1
  refine Ev.bind w2 (Ev.bind w1 ?_)
  refine Ev.nn (by decide) (Ev.nn (by decide) (Ev.nn (by decide) (Ev.ip rfl (Ev.ip rfl ?_))))
  refine Ev.step (fun k => ammonitelaw2_DigitStops.j1.eq_2 n (putB n) _ _ _ _ _ k) ?_
  refine Ev.nn (by decide) ?_
  by_cases h : 0 ≤ val c
  · rw [decide_eq_true h]
    refine Ev.ip rfl ?_
    have dg : digs (putL n ++ [c, 46]) = putL n ++ [c] := by
      rw [digs_app_yes _ _ (put_digits n), digs_yes _ h, digs_stop _ dot_no]
    have vr := val_range hc0 hc1
    by_cases z : n = 0
    · subst z
      have : rdS (putL 0 ++ [c, 46]) = none := by
        unfold rdS
        rw [dg, if_pos]
        refine Or.inr (Or.inr ⟨?_, ?_⟩)
        · rw [dig_zero]; rfl
        · rw [dig_zero]; simp
      rw [this]
      refine Ev.step (fun k => ammonitelaw2_DigitStops.j2.eq_2 _ (putB 0) _ _ _ _ _ k) ?_
      refine Ev.nn (by decide) (Ev.ip rfl (Ev.ip rfl (Ev.bind druns (Ev.now _))))
    · have vv : vals (putL n ++ [c]) 0 = (n : Int) * 64 + val c := by rw [vals_app, vals_put]; rfl
      have : rdS (putL n ++ [c, 46]) = some ((n : Int) * 64 + val c, (putL n).length + 1) := by
        unfold rdS
        rw [dg, vv, if_neg]
        · simp
        · rintro (g | g | g)
          · simp at g
          · omega
          · apply putL_head n (by omega)
            have := g.1
            cases hp : putL n with
            | nil => exact absurd hp (putL_ne n)
            | cons a m => rw [hp] at this; simpa using this
      rw [this]
      have e3 : decide ((n : Int) > 0) = true := decide_eq_true (by omega)
      rw [e3]
      have := stops2t n (putB n) hsz ((n : Int) * 64 + val c) (by omega) (by omega) (by omega)
      rw [sz] at this
      exact this
  · rw [decide_eq_false h]
    refine Ev.nn (by decide) ?_
    have : rdS (putL n ++ [c, 46]) = some ((n : Int), (putL n).length) := rdS_put (by omega) _ (digs_stop _ (by omega))
    rw [this]
    refine Ev.step (fun k => ammonitelaw2_DigitStops.j2.eq_2 _ (putB n) _ _ _ _ _ k) ?_
    refine Ev.nn (by decide) (Ev.nn (by decide) (Ev.ip rfl (Ev.ip rfl (Ev.ip (by rw [sz]) (Ev.ip rfl (Ev.bind druns (Ev.now _)))))))
theorem stops_loop (n : Nat) (hn : n ≤ 16777215) (c : Int) (hc0 : 0 ≤ c) (hc1 : c < 256) (x2 : Int) (d : Nat) : ∀ i : Nat, i + d = 64 →
    Ev (fun k => ammonitelaw2_DigitStops.l0 k c x2 n (putB n) (decide (∃ j : Fin 64, j.val < i ∧ bt DG (j.val : Int) = c)) i) true := by
  induction d with
  | zero =>
    intro i hi
    obtain rfl : i = 64 := by omega
    have e : decide (∃ j : Fin 64, j.val < 64 ∧ bt DG (j.val : Int) = c) = decide (0 ≤ val c) := by
      have := is_all ⟨c.toNat, by omega⟩
      simp only [Int.toNat_of_nonneg hc0] at this
      rw [this]
      apply decide_eq_decide.2
      constructor
      · rintro ⟨j, _, h⟩; exact ⟨j, h⟩
      · rintro ⟨j, h⟩; exact ⟨j, j.isLt, h⟩
    rw [e]
    exact stops_tail n hn c hc0 hc1 x2
  | succ d ih =>
    intro i hi
    refine Ev.step (fun k => ammonitelaw2_DigitStops.l0.eq_2 c x2 n (putB n) _ i k) ?_
    refine Ev.ip (by omega) ?_
    have key := ih (i + 1) (by omega)
    have e1 : wrap64 ((i : Int) + 1) = ((i + 1 : Nat) : Int) := by rw [w64 (by omega) (by omega)]; omega
    rw [e1]
    clear e1
    by_cases h : ∃ j : Fin 64, j.val < i ∧ bt DG (j.val : Int) = c
    · rw [decide_eq_true h]
      have h' : ∃ j : Fin 64, j.val < i + 1 ∧ bt DG (j.val : Int) = c := by obtain ⟨j, a, b⟩ := h; exact ⟨j, by omega, b⟩
      rw [decide_eq_true h'] at key
      exact Ev.ip rfl key
    · rw [decide_eq_false h]
      refine Ev.nn (by decide) (Ev.ip (by omega) ?_)
      have e2 : (bt DG (i : Int) == c) = decide (∃ j : Fin 64, j.val < i + 1 ∧ bt DG (j.val : Int) = c) := by
        rw [Bool.eq_iff_iff]
        simp only [beq_iff_eq, decide_eq_true_eq]
        constructor
        · intro x; exact ⟨⟨i, by omega⟩, by simp, x⟩
        · rintro ⟨j, a, b⟩
          by_cases g : j.val < i
          · exact absurd ⟨j, g, b⟩ h
          · have : j.val = i := by omega
            rw [this] at b; exact b
      rw [← e2] at key
      exact key
theorem DigitStops : ammonitelaw2_DigitStops.Pure := by
  intro a0 a1 a2 _ hw _
  refine Ev.rounds (g := fun k => ammonitelaw2_DigitStops.f k a0 a1 a2) ?_
  unfold ammonitelaw2_DigitStops.f
  obtain ⟨a, ha, ha0, ha1⟩ := within_ev a0 (lo := 0) (hi := 16777215) (by omega) (by omega) (by omega)
  obtain ⟨n, rfl⟩ : ∃ n : Nat, a = n := ⟨a.toNat, by omega⟩
  have hc : 0 ≤ a1 ∧ a1 < 256 := by
    have := bounds_u8 hw
    omega
  have p := put_ev (n := (n : Int)) (by omega) (by omega)
  rw [Int.toNat_natCast] at p
  refine Ev.cb ha (Ev.bind p ?_)
  have key := stops_loop n (by omega) a1 hc.1 hc.2 a2 64 0 rfl
  have e : decide (∃ j : Fin 64, j.val < 0 ∧ bt DG (j.val : Int) = a1) = false := decide_eq_false (by rintro ⟨j, h, _⟩; omega)
  rw [e] at key
  exact key
end Go.Proofs.Ytcjkichimndioaa.Pure
