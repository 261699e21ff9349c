-- Written by a program of this session (wip/tools/ap.py) for this claim.
import Derived.Test.YtcjkichimndioaaQx0
import Derived.Test.YtcjkichimndioaaQx1
import Derived.Test.YtcjkichimndioaaQx2
import Derived.Test.YtcjkichimndioaaQx3
namespace Go.Proofs.Ytcjkichimndioaa.Q
open Go.Proofs.Ytcjkichimndioaa.Given
open Go.RowKit Go.Proofs.Ytcjkichimndioaa.PW Go.Proofs.YtcjkichimndioaaW.PrintWords Go.Proofs.YtcjkichimndioaaW.PrintLast Go.Proofs.YtcjkichimndioaaW.PrintMore
attribute [local go_sem] max2_int min2_int max_two min_two max_three min_three max_four min_four   -- for this text's walks alone
set_option linter.unnecessarySimpa false
attribute [local go_sem high] run_cut_if run_cut_from run_cut_to run_cat_if
set_option linter.unusedVariables false
set_option linter.unusedSimpArgs false

/-! ### ammonitelaw2_DigitTells: function 4 -/
mutual
def ammonitelaw2_DigitTells.j0 : Nat → Int → ByteArray → Int → Int → Int → Bool → Int → Int → Bool → Option (Bool)
  | 0, _, _, _, _, _, _, _, _, _ => none
  | k + 1, x0, x1, x7, x8, x9, x10, x11, x12, x40 => if x40 = true then ((ammoniteref1_Read.f k x1 x7).bind fun bt132 => (ammonitelaw2_DigitTells.j1 k x0 x1 x8 x9 x10 bt132.1 bt132.2)) else (ammonitelaw2_DigitTells.j1 k x0 x1 x8 x9 x10 x11 x12)
def ammonitelaw2_DigitTells.j1 : Nat → Int → ByteArray → Int → Int → Bool → Int → Int → Option (Bool)
  | 0, _, _, _, _, _, _, _ => none
  | k + 1, x0, x1, x8, x9, x10, x11, x12 => if (x10 != (decide (x12 ≥ 0))) = true then (ammonitelaw2_DigitTells.j2 k x0 x1 true) else (if x10 = true then (if x8 = x11 then (if x9 = x12 then (ammonitelaw2_DigitTells.j2 k x0 x1 false) else (ammonitelaw2_DigitTells.j2 k x0 x1 true)) else (ammonitelaw2_DigitTells.j2 k x0 x1 true)) else (if x8 = 0 then (ammonitelaw2_DigitTells.j2 k x0 x1 (x9 != 0)) else (ammonitelaw2_DigitTells.j2 k x0 x1 true)))
def ammonitelaw2_DigitTells.j2 : Nat → Int → ByteArray → Bool → Option (Bool)
  | 0, _, _, _ => none
  | k + 1, x0, x1, x75 => if x75 = true then (some false) else ((digit_ReadDec.f k x1).bind fun bt134 => ((ammoniteref1_ReadDec.f k x1).bind fun t136 => (if (bt134.2 == (decide (t136 ≥ 0))) = true then (if bt134.1 = (mx t136 0) then ((digit_Put.f k x0).bind fun t137 => ((ammoniteref1_Put.f k x0).bind fun t138 => (if t137.toList = t138.toList then ((digit_Dec.f k x0).bind fun t139 => ((ammoniteref1_Dec.f k x0).bind fun t140 => (if t139.toList = t140.toList then ((ammonitelaw2_DigitRuns.f k).bind fun t141 => (some t141)) else (some false)))) else (some false)))) else (some false)) else (some false))))
end
def ammonitelaw2_DigitTells.f (k : Nat) (a0 : Int) (a1 : ByteArray) (a2 : Int) : Option (Bool) := if 0 ≤ (mn (a1.size : Int) 20) then (if (mn (a1.size : Int) 20) ≤ (a1.size : Int) then ((ammonitebook_Within.f a2 (-1) (wrap64 (((cutS a1 0 ((mn (a1.size : Int) 20) : Int).toNat).size : Int) + 1))).bind fun t128 => ((digit_Read.f k (cutS a1 0 ((mn (a1.size : Int) 20) : Int).toNat) t128).bind fun bt129 => (if t128 ≥ 0 then (ammonitelaw2_DigitTells.j0 k a0 (cutS a1 0 ((mn (a1.size : Int) 20) : Int).toNat) t128 bt129.1 bt129.2.1 bt129.2.2 0 (-1) (decide (t128 < ((cutS a1 0 ((mn (a1.size : Int) 20) : Int).toNat).size : Int)))) else (ammonitelaw2_DigitTells.j0 k a0 (cutS a1 0 ((mn (a1.size : Int) 20) : Int).toNat) t128 bt129.1 bt129.2.1 bt129.2.2 0 (-1) false)))) else (none)) else (none)
theorem ammonitelaw2_DigitTells.mono_l : ∀ k, (∀ y0 y1 y2 y3 y4 y5 y6 y7 y8, LeO (ammonitelaw2_DigitTells.j0 k y0 y1 y2 y3 y4 y5 y6 y7 y8) (ammonitelaw2_DigitTells.j0 (k + 1) y0 y1 y2 y3 y4 y5 y6 y7 y8)) ∧ (∀ y0 y1 y2 y3 y4 y5 y6, LeO (ammonitelaw2_DigitTells.j1 k y0 y1 y2 y3 y4 y5 y6) (ammonitelaw2_DigitTells.j1 (k + 1) y0 y1 y2 y3 y4 y5 y6)) ∧ (∀ y0 y1 y2, LeO (ammonitelaw2_DigitTells.j2 k y0 y1 y2) (ammonitelaw2_DigitTells.j2 (k + 1) y0 y1 y2))
  | 0 => ⟨fun _ _ _ _ _ _ _ _ _ r h => by simp [ammonitelaw2_DigitTells.j0] at h, fun _ _ _ _ _ _ _ r h => by simp [ammonitelaw2_DigitTells.j1] at h, fun _ _ _ r h => by simp [ammonitelaw2_DigitTells.j2] at h⟩
  | k + 1 => by
    obtain ⟨ih0, ih1, ih2⟩ := ammonitelaw2_DigitTells.mono_l k
    refine ⟨?_, ?_, ?_⟩
    · intro y0 y1 y2 y3 y4 y5 y6 y7 y8
      unfold ammonitelaw2_DigitTells.j0
      repeat' first
      | (with_reducible exact ih0 _ _ _ _ _ _ _ _ _)
      | (with_reducible exact ih1 _ _ _ _ _ _ _)
      | (with_reducible exact ih2 _ _ _)
      | (with_reducible exact ammonitelaw2_DigitRuns.mono _)
      | (with_reducible exact ammoniteref1_Dec.mono _ _)
      | (with_reducible exact ammoniteref1_Put.mono _ _)
      | (with_reducible exact ammoniteref1_Read.mono _ _ _)
      | (with_reducible exact ammoniteref1_ReadDec.mono _ _)
      | (with_reducible exact digit_Dec.mono _ _)
      | (with_reducible exact digit_Put.mono _ _)
      | (with_reducible exact digit_Read.mono _ _ _)
      | (with_reducible exact digit_ReadDec.mono _ _)
      | (with_reducible exact LeO.refl _)
      | (with_reducible exact LeO.none _)
      | (with_reducible refine LeO.ite ?_ ?_)
      | (with_reducible refine LeO.bind ?_ (fun _ => ?_))
      | exact ih0 _ _ _ _ _ _ _ _ _
      | exact ih1 _ _ _ _ _ _ _
      | exact ih2 _ _ _
      | exact ammonitelaw2_DigitRuns.mono _
      | exact ammoniteref1_Dec.mono _ _
      | exact ammoniteref1_Put.mono _ _
      | exact ammoniteref1_Read.mono _ _ _
      | exact ammoniteref1_ReadDec.mono _ _
      | exact digit_Dec.mono _ _
      | exact digit_Put.mono _ _
      | exact digit_Read.mono _ _ _
      | exact digit_ReadDec.mono _ _
      | exact LeO.none _
      | refine LeO.ite ?_ ?_
      | refine LeO.bind ?_ (fun _ => ?_)
    · intro y0 y1 y2 y3 y4 y5 y6
      unfold ammonitelaw2_DigitTells.j1
      repeat' first
      | (with_reducible exact ih0 _ _ _ _ _ _ _ _ _)
      | (with_reducible exact ih1 _ _ _ _ _ _ _)
      | (with_reducible exact ih2 _ _ _)
      | (with_reducible exact ammonitelaw2_DigitRuns.mono _)
      | (with_reducible exact ammoniteref1_Dec.mono _ _)
      | (with_reducible exact ammoniteref1_Put.mono _ _)
      | (with_reducible exact ammoniteref1_Read.mono _ _ _)
      | (with_reducible exact ammoniteref1_ReadDec.mono _ _)
      | (with_reducible exact digit_Dec.mono _ _)
      | (with_reducible exact digit_Put.mono _ _)
      | (with_reducible exact digit_Read.mono _ _ _)
      | (with_reducible exact digit_ReadDec.mono _ _)
      | (with_reducible exact LeO.refl _)
      | (with_reducible exact LeO.none _)
      | (with_reducible refine LeO.ite ?_ ?_)
      | (with_reducible refine LeO.bind ?_ (fun _ => ?_))
      | exact ih0 _ _ _ _ _ _ _ _ _
      | exact ih1 _ _ _ _ _ _ _
      | exact ih2 _ _ _
      | exact ammonitelaw2_DigitRuns.mono _
      | exact ammoniteref1_Dec.mono _ _
      | exact ammoniteref1_Put.mono _ _
      | exact ammoniteref1_Read.mono _ _ _
      | exact ammoniteref1_ReadDec.mono _ _
      | exact digit_Dec.mono _ _
      | exact digit_Put.mono _ _
      | exact digit_Read.mono _ _ _
      | exact digit_ReadDec.mono _ _
      | exact LeO.none _
      | refine LeO.ite ?_ ?_
      | refine LeO.bind ?_ (fun _ => ?_)
    · intro y0 y1 y2
      unfold ammonitelaw2_DigitTells.j2
      repeat' first
      | (with_reducible exact ih0 _ _ _ _ _ _ _ _ _)
      | (with_reducible exact ih1 _ _ _ _ _ _ _)
      | (with_reducible exact ih2 _ _ _)
      | (with_reducible exact ammonitelaw2_DigitRuns.mono _)
      | (with_reducible exact ammoniteref1_Dec.mono _ _)
      | (with_reducible exact ammoniteref1_Put.mono _ _)
      | (with_reducible exact ammoniteref1_Read.mono _ _ _)
      | (with_reducible exact ammoniteref1_ReadDec.mono _ _)
      | (with_reducible exact digit_Dec.mono _ _)
      | (with_reducible exact digit_Put.mono _ _)
      | (with_reducible exact digit_Read.mono _ _ _)
      | (with_reducible exact digit_ReadDec.mono _ _)
      | (with_reducible exact LeO.refl _)
      | (with_reducible exact LeO.none _)
      | (with_reducible refine LeO.ite ?_ ?_)
      | (with_reducible refine LeO.bind ?_ (fun _ => ?_))
      | exact ih0 _ _ _ _ _ _ _ _ _
      | exact ih1 _ _ _ _ _ _ _
      | exact ih2 _ _ _
      | exact ammonitelaw2_DigitRuns.mono _
      | exact ammoniteref1_Dec.mono _ _
      | exact ammoniteref1_Put.mono _ _
      | exact ammoniteref1_Read.mono _ _ _
      | exact ammoniteref1_ReadDec.mono _ _
      | exact digit_Dec.mono _ _
      | exact digit_Put.mono _ _
      | exact digit_Read.mono _ _ _
      | exact digit_ReadDec.mono _ _
      | exact LeO.none _
      | refine LeO.ite ?_ ?_
      | refine LeO.bind ?_ (fun _ => ?_)
theorem ammonitelaw2_DigitTells.mono : ∀ a0 a1 a2 k, LeO (ammonitelaw2_DigitTells.f k a0 a1 a2) (ammonitelaw2_DigitTells.f (k + 1) a0 a1 a2) := by
  intro a0 a1 a2 k
  obtain ⟨ih0, ih1, ih2⟩ := ammonitelaw2_DigitTells.mono_l k
  unfold ammonitelaw2_DigitTells.f
  repeat' first
      | (with_reducible exact ih0 _ _ _ _ _ _ _ _ _)
      | (with_reducible exact ih1 _ _ _ _ _ _ _)
      | (with_reducible exact ih2 _ _ _)
      | (with_reducible exact ammonitelaw2_DigitRuns.mono _)
      | (with_reducible exact ammoniteref1_Dec.mono _ _)
      | (with_reducible exact ammoniteref1_Put.mono _ _)
      | (with_reducible exact ammoniteref1_Read.mono _ _ _)
      | (with_reducible exact ammoniteref1_ReadDec.mono _ _)
      | (with_reducible exact digit_Dec.mono _ _)
      | (with_reducible exact digit_Put.mono _ _)
      | (with_reducible exact digit_Read.mono _ _ _)
      | (with_reducible exact digit_ReadDec.mono _ _)
      | (with_reducible exact LeO.refl _)
      | (with_reducible exact LeO.none _)
      | (with_reducible refine LeO.ite ?_ ?_)
      | (with_reducible refine LeO.bind ?_ (fun _ => ?_))
      | exact ih0 _ _ _ _ _ _ _ _ _
      | exact ih1 _ _ _ _ _ _ _
      | exact ih2 _ _ _
      | exact ammonitelaw2_DigitRuns.mono _
      | exact ammoniteref1_Dec.mono _ _
      | exact ammoniteref1_Put.mono _ _
      | exact ammoniteref1_Read.mono _ _ _
      | exact ammoniteref1_ReadDec.mono _ _
      | exact digit_Dec.mono _ _
      | exact digit_Put.mono _ _
      | exact digit_Read.mono _ _ _
      | exact digit_ReadDec.mono _ _
      | exact LeO.none _
      | refine LeO.ite ?_ ?_
      | refine LeO.bind ?_ (fun _ => ?_)
set_option maxHeartbeats 8000000 in
set_option maxRecDepth 100000 in
theorem ammonitelaw2_DigitTells.calls (k : Nat) (a0 : Int) (a1 : ByteArray) (a2 : Int) (r : Bool) (w : World) (h : ammonitelaw2_DigitTells.f k a0 a1 a2 = some r) (hrt : r = true) :
    Calls Try.prog 4 #[.int .i64 a0, .string a1, .int .i64 a2] w fun e w' => e = .returned (.bool r) ∧ Below w.heap.size w w' := by
  have HRT := Aside0.mk hrt
  clear hrt
  have HB := Aside0.mk (Below.refl w.heap.size w)
  have H : (if 0 ≤ (mn (a1.size : Int) 20) then (if (mn (a1.size : Int) 20) ≤ (a1.size : Int) then ((ammonitebook_Within.f a2 (-1) (wrap64 (((cutS a1 0 ((mn (a1.size : Int) 20) : Int).toNat).size : Int) + 1))).bind fun t128 => ((digit_Read.f k (cutS a1 0 ((mn (a1.size : Int) 20) : Int).toNat) t128).bind fun bt129 => (if t128 ≥ 0 then (ammonitelaw2_DigitTells.j0 k a0 (cutS a1 0 ((mn (a1.size : Int) 20) : Int).toNat) t128 bt129.1 bt129.2.1 bt129.2.2 0 (-1) (decide (t128 < ((cutS a1 0 ((mn (a1.size : Int) 20) : Int).toNat).size : Int)))) else (ammonitelaw2_DigitTells.j0 k a0 (cutS a1 0 ((mn (a1.size : Int) 20) : Int).toNat) t128 bt129.1 bt129.2.1 bt129.2.2 0 (-1) false)))) else (none)) else (none)) = some r := h
  clear h
  obtain ⟨ji4, hji4⟩ : ∃ j_ : Int, (mn (a1.size : Int) 20) = j_ := ⟨_, rfl⟩
  replace H : (if 0 ≤ (ji4) then (if (ji4) ≤ (a1.size : Int) then ((ammonitebook_Within.f a2 (-1) (wrap64 (((cutS a1 0 ((ji4) : Int).toNat).size : Int) + 1))).bind fun t128 => ((digit_Read.f k (cutS a1 0 ((ji4) : Int).toNat) t128).bind fun bt129 => (if t128 ≥ 0 then (ammonitelaw2_DigitTells.j0 k a0 (cutS a1 0 ((ji4) : Int).toNat) t128 bt129.1 bt129.2.1 bt129.2.2 0 (-1) (decide (t128 < ((cutS a1 0 ((ji4) : Int).toNat).size : Int)))) else (ammonitelaw2_DigitTells.j0 k a0 (cutS a1 0 ((ji4) : Int).toNat) t128 bt129.1 bt129.2.1 bt129.2.2 0 (-1) false)))) else (none)) else (none)) = some r := by first | (rw [hji4] at H; exact H) | (simp only [hji4] at H ⊢; exact H)
  (try (have hji4h : ji4 ≤ 20 := by (rw [← hji4]; unfold mn; (repeat' split) <;> omega)))
  (try (have hji4g : ji4 ≤ 64 := by omega))
  (try (have hji4l : 0 ≤ ji4 := by (rw [← hji4]; unfold mn; (repeat' split) <;> omega)))
  (try (have hji4m : 0 ≤ ji4 := by omega))
  have hji4_ : (if 20 < (a1.size : Int) then 20 else (a1.size : Int)) = ji4 := hji4
  by_cases c5 : 0 ≤ (ji4)
  · rw [if_pos c5] at H
    have c5b0 := eq_true c5
    have c5b1 : decide (0 ≤ (ji4)) = true := decide_eq_true c5
    clear c5
    by_cases c6 : (ji4) ≤ (a1.size : Int)
    · rw [if_pos c6] at H
      have c6b0 := eq_true c6
      have c6b1 : decide ((ji4) ≤ (a1.size : Int)) = true := decide_eq_true c6
      clear c6
      replace H := Option.bind_eq_some_iff.mp H
      obtain ⟨t128, A70, H⟩ := H
      replace H : ((digit_Read.f k (cutS a1 0 ((ji4) : Int).toNat) t128).bind fun bt129 => (if t128 ≥ 0 then (ammonitelaw2_DigitTells.j0 k a0 (cutS a1 0 ((ji4) : Int).toNat) t128 bt129.1 bt129.2.1 bt129.2.2 0 (-1) (decide (t128 < ((cutS a1 0 ((ji4) : Int).toNat).size : Int)))) else (ammonitelaw2_DigitTells.j0 k a0 (cutS a1 0 ((ji4) : Int).toNat) t128 bt129.1 bt129.2.1 bt129.2.2 0 (-1) false))) = some r := H
      have A7 := Aside0.mk A70
      clear A70
      replace H := Option.bind_eq_some_iff.mp H
      obtain ⟨⟨t129, t130, t131⟩, A80, H⟩ := H
      replace H : (if t128 ≥ 0 then (ammonitelaw2_DigitTells.j0 k a0 (cutS a1 0 ((ji4) : Int).toNat) t128 t129 t130 t131 0 (-1) (decide (t128 < ((cutS a1 0 ((ji4) : Int).toNat).size : Int)))) else (ammonitelaw2_DigitTells.j0 k a0 (cutS a1 0 ((ji4) : Int).toNat) t128 t129 t130 t131 0 (-1) false)) = some r := H
      have A8 := Aside0.mk A80
      clear A80
      have HC9 := Aside0.mk H
      clear H
      go_enter Try.func4, Try.ntmps4
      go_upto_region 5 with (first | ((with_reducible refine gate_callee (f := 17) rfl ?_); refine goesL_ (some 25) rfl rfl Try.func17 (by kernel_rfl) rfl #[.int .i64 a2, .int .i64 (-1), .int .i64 (wrap64 (((cutS a1 0 ((ji4) : Int).toNat).size : Int) + 1))] rfl (by (try simp only [List.map_toArray, List.map_cons, List.map_nil]); first | done | (simp only [hji4]; rfl) | rfl | (simp only [List.length_drop, List.length_take]; rfl)) ?_; (with_reducible refine (ammonitebook_Within.calls a2 (-1) (wrap64 (((cutS a1 0 ((ji4) : Int).toNat).size : Int) + 1)) t128 _ A7.out).mono ?_); rintro e w' ⟨rfl, ⟨nd, rfl⟩⟩; refine ⟨_, rfl, ?_⟩) | ((with_reducible refine gate_callee (f := 13) rfl ?_); refine goesL_ (some 29) rfl rfl Try.func13 (by kernel_rfl) rfl #[.string (cutS a1 0 ((ji4) : Int).toNat), .int .i64 t128] rfl (by (try simp only [List.map_toArray, List.map_cons, List.map_nil]); first | done | (simp only [hji4]; rfl) | rfl | (simp only [List.length_drop, List.length_take]; rfl)) ?_; (with_reducible refine (digit_Read.calls k (cutS a1 0 ((ji4) : Int).toNat) t128 t129 t130 t131 _ A8.out).mono ?_); rintro e w' ⟨rfl, ⟨nd, rfl⟩⟩; refine ⟨_, rfl, ?_⟩))
      (try simp only [Act.put, List.setIfInBounds_toArray, List.set_cons_zero, List.set_cons_succ])
      go_cut [40] (fun v40 wc => ∃ (kq : Nat) (x40_8 : Bool), v40 = .bool x40_8 ∧ Aside0 (ammonitelaw2_DigitTells.j0 kq a0 (cutS a1 0 ((ji4) : Int).toNat) t128 t129 t130 t131 0 (-1) x40_8 = some r) ∧ Aside0 (kq ≤ k) ∧ Aside0 (Below w.heap.size w wc))
      case first =>
        have H := HC9.out
        clear HC9
        by_cases c10 : t128 ≥ 0
        · rw [if_pos c10] at H
          have c10b0 : decide (0 ≤ t128) = true := decide_eq_true c10
          clear c10
          (first | rw [c10b0] | (simp only [i64_w, i32_w]; rw [c10b0]) | skip)
          have H' := Aside0.mk H
          clear H
          go_wp2
          go_meet
          case rel => exact ⟨_, (decide (t128 < ((cutS a1 0 ((ji4) : Int).toNat).size : Int))), (by first | rfl | (simp; done) | (simp only [← hji4] <;> (first | rfl | simp)) | (simp [*]; done)), H', ⟨by first | omega | exact Nat.le_refl _⟩, ⟨by repeat (first | (with_reducible first | exact HB.out | apply below_alloc | apply pw_below_drewN | apply below_drew1) | exact HB.out)⟩⟩
          all_goals (exfalso; (try simp only [beq_iff_eq, bne_iff_ne, ne_eq, decide_eq_true_eq, decide_eq_false_iff_not, decide_eq_decide, bne_eq_false_iff_eq, beq_eq_false_iff_ne, Bool.not_eq_true, Bool.not_eq_false, Bool.not_eq_true', Bool.not_eq_false', Bool.true_beq, Bool.false_beq, Bool.true_bne, Bool.false_bne, Bool.bne_true, Bool.bne_false] at c5b0); (try simp only [beq_iff_eq, bne_iff_ne, ne_eq, decide_eq_true_eq, decide_eq_false_iff_not, decide_eq_decide, bne_eq_false_iff_eq, beq_eq_false_iff_ne, Bool.not_eq_true, Bool.not_eq_false, Bool.not_eq_true', Bool.not_eq_false', Bool.true_beq, Bool.false_beq, Bool.true_bne, Bool.false_bne, Bool.bne_true, Bool.bne_false] at c5b1); (try simp only [beq_iff_eq, bne_iff_ne, ne_eq, decide_eq_true_eq, decide_eq_false_iff_not, decide_eq_decide, bne_eq_false_iff_eq, beq_eq_false_iff_ne, Bool.not_eq_true, Bool.not_eq_false, Bool.not_eq_true', Bool.not_eq_false', Bool.true_beq, Bool.false_beq, Bool.true_bne, Bool.false_bne, Bool.bne_true, Bool.bne_false] at c6b0); (try simp only [beq_iff_eq, bne_iff_ne, ne_eq, decide_eq_true_eq, decide_eq_false_iff_not, decide_eq_decide, bne_eq_false_iff_eq, beq_eq_false_iff_ne, Bool.not_eq_true, Bool.not_eq_false, Bool.not_eq_true', Bool.not_eq_false', Bool.true_beq, Bool.false_beq, Bool.true_bne, Bool.false_bne, Bool.bne_true, Bool.bne_false] at c6b1); (try simp only [beq_iff_eq, bne_iff_ne, ne_eq, decide_eq_true_eq, decide_eq_false_iff_not, decide_eq_decide, bne_eq_false_iff_eq, beq_eq_false_iff_ne, Bool.not_eq_true, Bool.not_eq_false, Bool.not_eq_true', Bool.not_eq_false', Bool.true_beq, Bool.false_beq, Bool.true_bne, Bool.false_bne, Bool.bne_true, Bool.bne_false] at c10b0); (try unfold wrap64 at *); omega)
        · rw [if_neg c10] at H
          have c10b0 : decide (0 ≤ t128) = false := decide_eq_false c10
          clear c10
          (first | rw [c10b0] | (simp only [i64_w, i32_w]; rw [c10b0]) | skip)
          have H' := Aside0.mk H
          clear H
          go_wp2
          go_meet
          case rel => exact ⟨_, (false), (by first | rfl | (simp; done) | (simp [*]; done)), H', ⟨by first | omega | exact Nat.le_refl _⟩, ⟨by repeat (first | (with_reducible first | exact HB.out | apply below_alloc | apply pw_below_drewN | apply below_drew1) | exact HB.out)⟩⟩
          all_goals (exfalso; (try simp only [beq_iff_eq, bne_iff_ne, ne_eq, decide_eq_true_eq, decide_eq_false_iff_not, decide_eq_decide, bne_eq_false_iff_eq, beq_eq_false_iff_ne, Bool.not_eq_true, Bool.not_eq_false, Bool.not_eq_true', Bool.not_eq_false', Bool.true_beq, Bool.false_beq, Bool.true_bne, Bool.false_bne, Bool.bne_true, Bool.bne_false] at c5b0); (try simp only [beq_iff_eq, bne_iff_ne, ne_eq, decide_eq_true_eq, decide_eq_false_iff_not, decide_eq_decide, bne_eq_false_iff_eq, beq_eq_false_iff_ne, Bool.not_eq_true, Bool.not_eq_false, Bool.not_eq_true', Bool.not_eq_false', Bool.true_beq, Bool.false_beq, Bool.true_bne, Bool.false_bne, Bool.bne_true, Bool.bne_false] at c5b1); (try simp only [beq_iff_eq, bne_iff_ne, ne_eq, decide_eq_true_eq, decide_eq_false_iff_not, decide_eq_decide, bne_eq_false_iff_eq, beq_eq_false_iff_ne, Bool.not_eq_true, Bool.not_eq_false, Bool.not_eq_true', Bool.not_eq_false', Bool.true_beq, Bool.false_beq, Bool.true_bne, Bool.false_bne, Bool.bne_true, Bool.bne_false] at c6b0); (try simp only [beq_iff_eq, bne_iff_ne, ne_eq, decide_eq_true_eq, decide_eq_false_iff_not, decide_eq_decide, bne_eq_false_iff_eq, beq_eq_false_iff_ne, Bool.not_eq_true, Bool.not_eq_false, Bool.not_eq_true', Bool.not_eq_false', Bool.true_beq, Bool.false_beq, Bool.true_bne, Bool.false_bne, Bool.bne_true, Bool.bne_false] at c6b1); (try simp only [beq_iff_eq, bne_iff_ne, ne_eq, decide_eq_true_eq, decide_eq_false_iff_not, decide_eq_decide, bne_eq_false_iff_eq, beq_eq_false_iff_ne, Bool.not_eq_true, Bool.not_eq_false, Bool.not_eq_true', Bool.not_eq_false', Bool.true_beq, Bool.false_beq, Bool.true_bne, Bool.false_bne, Bool.bne_true, Bool.bne_false] at c10b0); (try unfold wrap64 at *); omega)
      case rest =>
        clear HC9
        try clear c1
        try clear p2
        try clear c4
        try clear c5
        try clear c5b0
        try clear c5b1
        try clear c6
        try clear c6b0
        try clear c6b1
        try clear p6
        try clear c10
        try clear c10b0
        obtain ⟨kq, x40_8, rfl, HA, HJ8, HB⟩ := hcut
        cases kq with
        | zero => exact absurd HA.out (by simp [ammonitelaw2_DigitTells.j0])
        | succ kj8 =>
          have H := HA.out
          clear HA
          simp only [ammonitelaw2_DigitTells.j0] at H
          have HC11 := Aside0.mk H
          clear H
          go_upto_if 40 with (fail)
          go_cut [11, 12] (fun v11 v12 wc => ∃ (kq : Nat) (x11_10 : Int) (x12_10 : Int), v11 = .int .i64 x11_10 ∧ v12 = .int .i64 x12_10 ∧ Aside0 (ammonitelaw2_DigitTells.j1 kq a0 (cutS a1 0 ((ji4) : Int).toNat) t129 t130 t131 x11_10 x12_10 = some r) ∧ Aside0 (kq ≤ kj8) ∧ Aside0 (Below w.heap.size w wc))
          case first =>
            have H := HC11.out
            clear HC11
            by_cases c12 : x40_8 = true
            · subst c12
              have H1 : ((ammoniteref1_Read.f kj8 (cutS a1 0 ((ji4) : Int).toNat) t128).bind fun bt132 => (ammonitelaw2_DigitTells.j1 kj8 a0 (cutS a1 0 ((ji4) : Int).toNat) t129 t130 t131 bt132.1 bt132.2)) = some r := by rw [if_pos rfl] at H; exact H
              clear H
              have H := H1
              clear H1
              replace H := Option.bind_eq_some_iff.mp H
              obtain ⟨⟨t132, t133⟩, A130, H⟩ := H
              replace H : (ammonitelaw2_DigitTells.j1 kj8 a0 (cutS a1 0 ((ji4) : Int).toNat) t129 t130 t131 t132 t133) = some r := H
              have A13 := Aside0.mk A130
              clear A130
              have H' := Aside0.mk H
              clear H
              go_wp2_with (first | ((with_reducible refine gate_callee (f := 18) rfl ?_); refine goesL_ (some 44) rfl rfl Try.func18 (by kernel_rfl) rfl #[.string (cutS a1 0 ((ji4) : Int).toNat), .int .i64 t128] rfl (by (try simp only [List.map_toArray, List.map_cons, List.map_nil]); first | done | (simp only [hji4]; rfl) | rfl | (simp only [List.length_drop, List.length_take]; rfl)) ?_; (with_reducible refine (ammoniteref1_Read.calls kj8 (cutS a1 0 ((ji4) : Int).toNat) t128 t132 t133 _ A13.out).mono ?_); rintro e w' ⟨rfl, ⟨nd, rfl⟩⟩; refine ⟨_, rfl, ?_⟩))
              go_meet
              case rel => exact ⟨_, (t132), (t133), (by first | rfl | (simp; done) | (simp [*]; done)), (by first | rfl | (simp; done) | (simp [*]; done)), H', ⟨by have := HJ8.out; first | omega | exact Nat.le_refl _⟩, ⟨by repeat (first | (with_reducible first | exact HB.out | apply below_alloc | apply pw_below_drewN | apply below_drew1) | exact HB.out)⟩⟩
              all_goals (exfalso; (try simp only [beq_iff_eq, bne_iff_ne, ne_eq, decide_eq_true_eq, decide_eq_false_iff_not, decide_eq_decide, bne_eq_false_iff_eq, beq_eq_false_iff_ne, Bool.not_eq_true, Bool.not_eq_false, Bool.not_eq_true', Bool.not_eq_false', Bool.true_beq, Bool.false_beq, Bool.true_bne, Bool.false_bne, Bool.bne_true, Bool.bne_false] at c5b0); (try simp only [beq_iff_eq, bne_iff_ne, ne_eq, decide_eq_true_eq, decide_eq_false_iff_not, decide_eq_decide, bne_eq_false_iff_eq, beq_eq_false_iff_ne, Bool.not_eq_true, Bool.not_eq_false, Bool.not_eq_true', Bool.not_eq_false', Bool.true_beq, Bool.false_beq, Bool.true_bne, Bool.false_bne, Bool.bne_true, Bool.bne_false] at c5b1); (try simp only [beq_iff_eq, bne_iff_ne, ne_eq, decide_eq_true_eq, decide_eq_false_iff_not, decide_eq_decide, bne_eq_false_iff_eq, beq_eq_false_iff_ne, Bool.not_eq_true, Bool.not_eq_false, Bool.not_eq_true', Bool.not_eq_false', Bool.true_beq, Bool.false_beq, Bool.true_bne, Bool.false_bne, Bool.bne_true, Bool.bne_false] at c6b0); (try simp only [beq_iff_eq, bne_iff_ne, ne_eq, decide_eq_true_eq, decide_eq_false_iff_not, decide_eq_decide, bne_eq_false_iff_eq, beq_eq_false_iff_ne, Bool.not_eq_true, Bool.not_eq_false, Bool.not_eq_true', Bool.not_eq_false', Bool.true_beq, Bool.false_beq, Bool.true_bne, Bool.false_bne, Bool.bne_true, Bool.bne_false] at c6b1); (try unfold wrap64 at *); omega)
            · replace c12 := Bool.eq_false_iff.mpr c12
              subst c12
              have H1 : (ammonitelaw2_DigitTells.j1 kj8 a0 (cutS a1 0 ((ji4) : Int).toNat) t129 t130 t131 0 (-1)) = some r := by rw [if_neg (show ¬ (false = true) by decide)] at H; exact H
              clear H
              have H := H1
              clear H1
              have H' := Aside0.mk H
              clear H
              go_wp2
              go_meet
              case rel => exact ⟨_, (0), ((-1)), (by first | rfl | (simp; done) | (simp [*]; done)), (by first | rfl | (simp; done) | (simp [*]; done)), H', ⟨by have := HJ8.out; first | omega | exact Nat.le_refl _⟩, ⟨by repeat (first | (with_reducible first | exact HB.out | apply below_alloc | apply pw_below_drewN | apply below_drew1) | exact HB.out)⟩⟩
              all_goals (exfalso; (try simp only [beq_iff_eq, bne_iff_ne, ne_eq, decide_eq_true_eq, decide_eq_false_iff_not, decide_eq_decide, bne_eq_false_iff_eq, beq_eq_false_iff_ne, Bool.not_eq_true, Bool.not_eq_false, Bool.not_eq_true', Bool.not_eq_false', Bool.true_beq, Bool.false_beq, Bool.true_bne, Bool.false_bne, Bool.bne_true, Bool.bne_false] at c5b0); (try simp only [beq_iff_eq, bne_iff_ne, ne_eq, decide_eq_true_eq, decide_eq_false_iff_not, decide_eq_decide, bne_eq_false_iff_eq, beq_eq_false_iff_ne, Bool.not_eq_true, Bool.not_eq_false, Bool.not_eq_true', Bool.not_eq_false', Bool.true_beq, Bool.false_beq, Bool.true_bne, Bool.false_bne, Bool.bne_true, Bool.bne_false] at c5b1); (try simp only [beq_iff_eq, bne_iff_ne, ne_eq, decide_eq_true_eq, decide_eq_false_iff_not, decide_eq_decide, bne_eq_false_iff_eq, beq_eq_false_iff_ne, Bool.not_eq_true, Bool.not_eq_false, Bool.not_eq_true', Bool.not_eq_false', Bool.true_beq, Bool.false_beq, Bool.true_bne, Bool.false_bne, Bool.bne_true, Bool.bne_false] at c6b0); (try simp only [beq_iff_eq, bne_iff_ne, ne_eq, decide_eq_true_eq, decide_eq_false_iff_not, decide_eq_decide, bne_eq_false_iff_eq, beq_eq_false_iff_ne, Bool.not_eq_true, Bool.not_eq_false, Bool.not_eq_true', Bool.not_eq_false', Bool.true_beq, Bool.false_beq, Bool.true_bne, Bool.false_bne, Bool.bne_true, Bool.bne_false] at c6b1); (try unfold wrap64 at *); omega)
          case rest =>
            clear HC11
            try clear c1
            try clear p2
            try clear c4
            try clear c5
            try clear c5b0
            try clear c5b1
            try clear c6
            try clear c6b0
            try clear c6b1
            try clear p6
            try clear c10
            try clear c10b0
            try clear c12
            try clear c13
            try clear p2
            try clear p6
            obtain ⟨kq, x11_10, x12_10, rfl, rfl, HA, HJ10, HB⟩ := hcut
            cases kq with
            | zero => exact absurd HA.out (by simp [ammonitelaw2_DigitTells.j1])
            | succ kj10 =>
              have H := HA.out
              clear HA
              simp only [ammonitelaw2_DigitTells.j1] at H
              have HC14 := Aside0.mk H
              clear H
              go_upto_region 7 with (fail)
              go_cut [75] (fun v75 wc => ∃ (kq : Nat) (x75_13 : Bool), v75 = .bool x75_13 ∧ Aside0 (ammonitelaw2_DigitTells.j2 kq a0 (cutS a1 0 ((ji4) : Int).toNat) x75_13 = some r) ∧ Aside0 (kq ≤ kj10) ∧ Aside0 (Below w.heap.size w wc))
              case first =>
                have H := HC14.out
                clear HC14
                by_cases c15 : (t131 != (decide (x12_10 ≥ 0))) = true
                · rw [if_pos c15] at H
                  have c15b0 : (t131 != (decide (x12_10 ≥ 0))) = true := c15
                  (try (have c15b1 : decide (t131 = (decide (x12_10 ≥ 0))) = false := by simpa using c15))
                  (try (have c15b2 : (t131 == (decide (x12_10 ≥ 0))) = false := by simpa using c15))
                  (try (have c15b3 : ¬ (t131 = (decide (x12_10 ≥ 0))) := by simpa using c15))
                  clear c15
                  (first | rw [c15b0] | (simp only [i64_w, i32_w]; rw [c15b0]) | skip)
                  have H' := Aside0.mk H
                  clear H
                  go_wp2
                  go_meet
                  case rel => exact ⟨_, (true), (by first | rfl | (simp; done) | (simp [*]; done)), H', ⟨by have := HJ8.out; have := HJ10.out; first | omega | exact Nat.le_refl _⟩, ⟨by repeat (first | (with_reducible first | exact HB.out | apply below_alloc | apply pw_below_drewN | apply below_drew1) | exact HB.out)⟩⟩
                  all_goals (exfalso; (try simp only [beq_iff_eq, bne_iff_ne, ne_eq, decide_eq_true_eq, decide_eq_false_iff_not, decide_eq_decide, bne_eq_false_iff_eq, beq_eq_false_iff_ne, Bool.not_eq_true, Bool.not_eq_false, Bool.not_eq_true', Bool.not_eq_false', Bool.true_beq, Bool.false_beq, Bool.true_bne, Bool.false_bne, Bool.bne_true, Bool.bne_false] at c5b0); (try simp only [beq_iff_eq, bne_iff_ne, ne_eq, decide_eq_true_eq, decide_eq_false_iff_not, decide_eq_decide, bne_eq_false_iff_eq, beq_eq_false_iff_ne, Bool.not_eq_true, Bool.not_eq_false, Bool.not_eq_true', Bool.not_eq_false', Bool.true_beq, Bool.false_beq, Bool.true_bne, Bool.false_bne, Bool.bne_true, Bool.bne_false] at c5b1); (try simp only [beq_iff_eq, bne_iff_ne, ne_eq, decide_eq_true_eq, decide_eq_false_iff_not, decide_eq_decide, bne_eq_false_iff_eq, beq_eq_false_iff_ne, Bool.not_eq_true, Bool.not_eq_false, Bool.not_eq_true', Bool.not_eq_false', Bool.true_beq, Bool.false_beq, Bool.true_bne, Bool.false_bne, Bool.bne_true, Bool.bne_false] at c6b0); (try simp only [beq_iff_eq, bne_iff_ne, ne_eq, decide_eq_true_eq, decide_eq_false_iff_not, decide_eq_decide, bne_eq_false_iff_eq, beq_eq_false_iff_ne, Bool.not_eq_true, Bool.not_eq_false, Bool.not_eq_true', Bool.not_eq_false', Bool.true_beq, Bool.false_beq, Bool.true_bne, Bool.false_bne, Bool.bne_true, Bool.bne_false] at c6b1); (try simp only [beq_iff_eq, bne_iff_ne, ne_eq, decide_eq_true_eq, decide_eq_false_iff_not, decide_eq_decide, bne_eq_false_iff_eq, beq_eq_false_iff_ne, Bool.not_eq_true, Bool.not_eq_false, Bool.not_eq_true', Bool.not_eq_false', Bool.true_beq, Bool.false_beq, Bool.true_bne, Bool.false_bne, Bool.bne_true, Bool.bne_false] at c15b0); (try simp only [beq_iff_eq, bne_iff_ne, ne_eq, decide_eq_true_eq, decide_eq_false_iff_not, decide_eq_decide, bne_eq_false_iff_eq, beq_eq_false_iff_ne, Bool.not_eq_true, Bool.not_eq_false, Bool.not_eq_true', Bool.not_eq_false', Bool.true_beq, Bool.false_beq, Bool.true_bne, Bool.false_bne, Bool.bne_true, Bool.bne_false] at c15b1); (try simp only [beq_iff_eq, bne_iff_ne, ne_eq, decide_eq_true_eq, decide_eq_false_iff_not, decide_eq_decide, bne_eq_false_iff_eq, beq_eq_false_iff_ne, Bool.not_eq_true, Bool.not_eq_false, Bool.not_eq_true', Bool.not_eq_false', Bool.true_beq, Bool.false_beq, Bool.true_bne, Bool.false_bne, Bool.bne_true, Bool.bne_false] at c15b2); (try simp only [beq_iff_eq, bne_iff_ne, ne_eq, decide_eq_true_eq, decide_eq_false_iff_not, decide_eq_decide, bne_eq_false_iff_eq, beq_eq_false_iff_ne, Bool.not_eq_true, Bool.not_eq_false, Bool.not_eq_true', Bool.not_eq_false', Bool.true_beq, Bool.false_beq, Bool.true_bne, Bool.false_bne, Bool.bne_true, Bool.bne_false] at c15b3); (try unfold wrap64 at *); omega)
                · rw [if_neg c15] at H
                  have c15b0 : (t131 != (decide (x12_10 ≥ 0))) = false := by simpa using c15
                  (try (have c15b1 : decide (t131 = (decide (x12_10 ≥ 0))) = true := by simpa using c15))
                  (try (have c15b2 : (t131 == (decide (x12_10 ≥ 0))) = true := by simpa using c15))
                  clear c15
                  (first | rw [c15b0] | (simp only [i64_w, i32_w]; rw [c15b0]) | skip)
                  by_cases c16 : t131 = true
                  · subst c16
                    have H1 : (if t129 = x11_10 then (if t130 = x12_10 then (ammonitelaw2_DigitTells.j2 kj10 a0 (cutS a1 0 ((ji4) : Int).toNat) false) else (ammonitelaw2_DigitTells.j2 kj10 a0 (cutS a1 0 ((ji4) : Int).toNat) true)) else (ammonitelaw2_DigitTells.j2 kj10 a0 (cutS a1 0 ((ji4) : Int).toNat) true)) = some r := by rw [if_pos rfl] at H; exact H
                    clear H
                    have H := H1
                    clear H1
                    by_cases c17 : t129 = x11_10
                    · rw [if_pos c17] at H
                      have c17b0 : (t129 == x11_10) = true := beq_iff_eq.mpr c17
                      have c17b1 : (t129 != x11_10) = false := bne_eq_false_iff_eq.mpr c17
                      clear c17
                      by_cases c18 : t130 = x12_10
                      · rw [if_pos c18] at H
                        have c18b0 : (t130 == x12_10) = true := beq_iff_eq.mpr c18
                        have c18b1 : (t130 != x12_10) = false := bne_eq_false_iff_eq.mpr c18
                        clear c18
                        have H' := Aside0.mk H
                        clear H
                        go_wp2
                        go_meet
                        case rel => exact ⟨_, (false), (by first | rfl | (simp; done) | (simp [*]; done)), H', ⟨by have := HJ8.out; have := HJ10.out; first | omega | exact Nat.le_refl _⟩, ⟨by repeat (first | (with_reducible first | exact HB.out | apply below_alloc | apply pw_below_drewN | apply below_drew1) | exact HB.out)⟩⟩
                        all_goals (exfalso; (try simp only [beq_iff_eq, bne_iff_ne, ne_eq, decide_eq_true_eq, decide_eq_false_iff_not, decide_eq_decide, bne_eq_false_iff_eq, beq_eq_false_iff_ne, Bool.not_eq_true, Bool.not_eq_false, Bool.not_eq_true', Bool.not_eq_false', Bool.true_beq, Bool.false_beq, Bool.true_bne, Bool.false_bne, Bool.bne_true, Bool.bne_false] at c5b0); (try simp only [beq_iff_eq, bne_iff_ne, ne_eq, decide_eq_true_eq, decide_eq_false_iff_not, decide_eq_decide, bne_eq_false_iff_eq, beq_eq_false_iff_ne, Bool.not_eq_true, Bool.not_eq_false, Bool.not_eq_true', Bool.not_eq_false', Bool.true_beq, Bool.false_beq, Bool.true_bne, Bool.false_bne, Bool.bne_true, Bool.bne_false] at c5b1); (try simp only [beq_iff_eq, bne_iff_ne, ne_eq, decide_eq_true_eq, decide_eq_false_iff_not, decide_eq_decide, bne_eq_false_iff_eq, beq_eq_false_iff_ne, Bool.not_eq_true, Bool.not_eq_false, Bool.not_eq_true', Bool.not_eq_false', Bool.true_beq, Bool.false_beq, Bool.true_bne, Bool.false_bne, Bool.bne_true, Bool.bne_false] at c6b0); (try simp only [beq_iff_eq, bne_iff_ne, ne_eq, decide_eq_true_eq, decide_eq_false_iff_not, decide_eq_decide, bne_eq_false_iff_eq, beq_eq_false_iff_ne, Bool.not_eq_true, Bool.not_eq_false, Bool.not_eq_true', Bool.not_eq_false', Bool.true_beq, Bool.false_beq, Bool.true_bne, Bool.false_bne, Bool.bne_true, Bool.bne_false] at c6b1); (try simp only [beq_iff_eq, bne_iff_ne, ne_eq, decide_eq_true_eq, decide_eq_false_iff_not, decide_eq_decide, bne_eq_false_iff_eq, beq_eq_false_iff_ne, Bool.not_eq_true, Bool.not_eq_false, Bool.not_eq_true', Bool.not_eq_false', Bool.true_beq, Bool.false_beq, Bool.true_bne, Bool.false_bne, Bool.bne_true, Bool.bne_false] at c15b0); (try simp only [beq_iff_eq, bne_iff_ne, ne_eq, decide_eq_true_eq, decide_eq_false_iff_not, decide_eq_decide, bne_eq_false_iff_eq, beq_eq_false_iff_ne, Bool.not_eq_true, Bool.not_eq_false, Bool.not_eq_true', Bool.not_eq_false', Bool.true_beq, Bool.false_beq, Bool.true_bne, Bool.false_bne, Bool.bne_true, Bool.bne_false] at c15b1); (try simp only [beq_iff_eq, bne_iff_ne, ne_eq, decide_eq_true_eq, decide_eq_false_iff_not, decide_eq_decide, bne_eq_false_iff_eq, beq_eq_false_iff_ne, Bool.not_eq_true, Bool.not_eq_false, Bool.not_eq_true', Bool.not_eq_false', Bool.true_beq, Bool.false_beq, Bool.true_bne, Bool.false_bne, Bool.bne_true, Bool.bne_false] at c15b2); (try simp only [beq_iff_eq, bne_iff_ne, ne_eq, decide_eq_true_eq, decide_eq_false_iff_not, decide_eq_decide, bne_eq_false_iff_eq, beq_eq_false_iff_ne, Bool.not_eq_true, Bool.not_eq_false, Bool.not_eq_true', Bool.not_eq_false', Bool.true_beq, Bool.false_beq, Bool.true_bne, Bool.false_bne, Bool.bne_true, Bool.bne_false] at c17b0); (try simp only [beq_iff_eq, bne_iff_ne, ne_eq, decide_eq_true_eq, decide_eq_false_iff_not, decide_eq_decide, bne_eq_false_iff_eq, beq_eq_false_iff_ne, Bool.not_eq_true, Bool.not_eq_false, Bool.not_eq_true', Bool.not_eq_false', Bool.true_beq, Bool.false_beq, Bool.true_bne, Bool.false_bne, Bool.bne_true, Bool.bne_false] at c17b1); (try simp only [beq_iff_eq, bne_iff_ne, ne_eq, decide_eq_true_eq, decide_eq_false_iff_not, decide_eq_decide, bne_eq_false_iff_eq, beq_eq_false_iff_ne, Bool.not_eq_true, Bool.not_eq_false, Bool.not_eq_true', Bool.not_eq_false', Bool.true_beq, Bool.false_beq, Bool.true_bne, Bool.false_bne, Bool.bne_true, Bool.bne_false] at c18b0); (try simp only [beq_iff_eq, bne_iff_ne, ne_eq, decide_eq_true_eq, decide_eq_false_iff_not, decide_eq_decide, bne_eq_false_iff_eq, beq_eq_false_iff_ne, Bool.not_eq_true, Bool.not_eq_false, Bool.not_eq_true', Bool.not_eq_false', Bool.true_beq, Bool.false_beq, Bool.true_bne, Bool.false_bne, Bool.bne_true, Bool.bne_false] at c18b1); (try unfold wrap64 at *); omega)
                      · rw [if_neg c18] at H
                        have c18b0 : (t130 == x12_10) = false := beq_eq_false_iff_ne.mpr c18
                        have c18b1 : (t130 != x12_10) = true := bne_iff_ne.mpr c18
                        have H' := Aside0.mk H
                        clear H
                        go_wp2
                        go_meet
                        case rel => exact ⟨_, (true), (by first | rfl | (simp; done) | (simp [*]; done)), H', ⟨by have := HJ8.out; have := HJ10.out; first | omega | exact Nat.le_refl _⟩, ⟨by repeat (first | (with_reducible first | exact HB.out | apply below_alloc | apply pw_below_drewN | apply below_drew1) | exact HB.out)⟩⟩
                        all_goals (exfalso; (try simp only [beq_iff_eq, bne_iff_ne, ne_eq, decide_eq_true_eq, decide_eq_false_iff_not, decide_eq_decide, bne_eq_false_iff_eq, beq_eq_false_iff_ne, Bool.not_eq_true, Bool.not_eq_false, Bool.not_eq_true', Bool.not_eq_false', Bool.true_beq, Bool.false_beq, Bool.true_bne, Bool.false_bne, Bool.bne_true, Bool.bne_false] at c5b0); (try simp only [beq_iff_eq, bne_iff_ne, ne_eq, decide_eq_true_eq, decide_eq_false_iff_not, decide_eq_decide, bne_eq_false_iff_eq, beq_eq_false_iff_ne, Bool.not_eq_true, Bool.not_eq_false, Bool.not_eq_true', Bool.not_eq_false', Bool.true_beq, Bool.false_beq, Bool.true_bne, Bool.false_bne, Bool.bne_true, Bool.bne_false] at c5b1); (try simp only [beq_iff_eq, bne_iff_ne, ne_eq, decide_eq_true_eq, decide_eq_false_iff_not, decide_eq_decide, bne_eq_false_iff_eq, beq_eq_false_iff_ne, Bool.not_eq_true, Bool.not_eq_false, Bool.not_eq_true', Bool.not_eq_false', Bool.true_beq, Bool.false_beq, Bool.true_bne, Bool.false_bne, Bool.bne_true, Bool.bne_false] at c6b0); (try simp only [beq_iff_eq, bne_iff_ne, ne_eq, decide_eq_true_eq, decide_eq_false_iff_not, decide_eq_decide, bne_eq_false_iff_eq, beq_eq_false_iff_ne, Bool.not_eq_true, Bool.not_eq_false, Bool.not_eq_true', Bool.not_eq_false', Bool.true_beq, Bool.false_beq, Bool.true_bne, Bool.false_bne, Bool.bne_true, Bool.bne_false] at c6b1); (try simp only [beq_iff_eq, bne_iff_ne, ne_eq, decide_eq_true_eq, decide_eq_false_iff_not, decide_eq_decide, bne_eq_false_iff_eq, beq_eq_false_iff_ne, Bool.not_eq_true, Bool.not_eq_false, Bool.not_eq_true', Bool.not_eq_false', Bool.true_beq, Bool.false_beq, Bool.true_bne, Bool.false_bne, Bool.bne_true, Bool.bne_false] at c15b0); (try simp only [beq_iff_eq, bne_iff_ne, ne_eq, decide_eq_true_eq, decide_eq_false_iff_not, decide_eq_decide, bne_eq_false_iff_eq, beq_eq_false_iff_ne, Bool.not_eq_true, Bool.not_eq_false, Bool.not_eq_true', Bool.not_eq_false', Bool.true_beq, Bool.false_beq, Bool.true_bne, Bool.false_bne, Bool.bne_true, Bool.bne_false] at c15b1); (try simp only [beq_iff_eq, bne_iff_ne, ne_eq, decide_eq_true_eq, decide_eq_false_iff_not, decide_eq_decide, bne_eq_false_iff_eq, beq_eq_false_iff_ne, Bool.not_eq_true, Bool.not_eq_false, Bool.not_eq_true', Bool.not_eq_false', Bool.true_beq, Bool.false_beq, Bool.true_bne, Bool.false_bne, Bool.bne_true, Bool.bne_false] at c15b2); (try simp only [beq_iff_eq, bne_iff_ne, ne_eq, decide_eq_true_eq, decide_eq_false_iff_not, decide_eq_decide, bne_eq_false_iff_eq, beq_eq_false_iff_ne, Bool.not_eq_true, Bool.not_eq_false, Bool.not_eq_true', Bool.not_eq_false', Bool.true_beq, Bool.false_beq, Bool.true_bne, Bool.false_bne, Bool.bne_true, Bool.bne_false] at c17b0); (try simp only [beq_iff_eq, bne_iff_ne, ne_eq, decide_eq_true_eq, decide_eq_false_iff_not, decide_eq_decide, bne_eq_false_iff_eq, beq_eq_false_iff_ne, Bool.not_eq_true, Bool.not_eq_false, Bool.not_eq_true', Bool.not_eq_false', Bool.true_beq, Bool.false_beq, Bool.true_bne, Bool.false_bne, Bool.bne_true, Bool.bne_false] at c17b1); (try simp only [beq_iff_eq, bne_iff_ne, ne_eq, decide_eq_true_eq, decide_eq_false_iff_not, decide_eq_decide, bne_eq_false_iff_eq, beq_eq_false_iff_ne, Bool.not_eq_true, Bool.not_eq_false, Bool.not_eq_true', Bool.not_eq_false', Bool.true_beq, Bool.false_beq, Bool.true_bne, Bool.false_bne, Bool.bne_true, Bool.bne_false] at c18b0); (try simp only [beq_iff_eq, bne_iff_ne, ne_eq, decide_eq_true_eq, decide_eq_false_iff_not, decide_eq_decide, bne_eq_false_iff_eq, beq_eq_false_iff_ne, Bool.not_eq_true, Bool.not_eq_false, Bool.not_eq_true', Bool.not_eq_false', Bool.true_beq, Bool.false_beq, Bool.true_bne, Bool.false_bne, Bool.bne_true, Bool.bne_false] at c18b1); (try unfold wrap64 at *); omega)
                    · rw [if_neg c17] at H
                      have c17b0 : (t129 == x11_10) = false := beq_eq_false_iff_ne.mpr c17
                      have c17b1 : (t129 != x11_10) = true := bne_iff_ne.mpr c17
                      have H' := Aside0.mk H
                      clear H
                      go_wp2
                      go_meet
                      case rel => exact ⟨_, (true), (by first | rfl | (simp; done) | (simp [*]; done)), H', ⟨by have := HJ8.out; have := HJ10.out; first | omega | exact Nat.le_refl _⟩, ⟨by repeat (first | (with_reducible first | exact HB.out | apply below_alloc | apply pw_below_drewN | apply below_drew1) | exact HB.out)⟩⟩
                      all_goals (exfalso; (try simp only [beq_iff_eq, bne_iff_ne, ne_eq, decide_eq_true_eq, decide_eq_false_iff_not, decide_eq_decide, bne_eq_false_iff_eq, beq_eq_false_iff_ne, Bool.not_eq_true, Bool.not_eq_false, Bool.not_eq_true', Bool.not_eq_false', Bool.true_beq, Bool.false_beq, Bool.true_bne, Bool.false_bne, Bool.bne_true, Bool.bne_false] at c5b0); (try simp only [beq_iff_eq, bne_iff_ne, ne_eq, decide_eq_true_eq, decide_eq_false_iff_not, decide_eq_decide, bne_eq_false_iff_eq, beq_eq_false_iff_ne, Bool.not_eq_true, Bool.not_eq_false, Bool.not_eq_true', Bool.not_eq_false', Bool.true_beq, Bool.false_beq, Bool.true_bne, Bool.false_bne, Bool.bne_true, Bool.bne_false] at c5b1); (try simp only [beq_iff_eq, bne_iff_ne, ne_eq, decide_eq_true_eq, decide_eq_false_iff_not, decide_eq_decide, bne_eq_false_iff_eq, beq_eq_false_iff_ne, Bool.not_eq_true, Bool.not_eq_false, Bool.not_eq_true', Bool.not_eq_false', Bool.true_beq, Bool.false_beq, Bool.true_bne, Bool.false_bne, Bool.bne_true, Bool.bne_false] at c6b0); (try simp only [beq_iff_eq, bne_iff_ne, ne_eq, decide_eq_true_eq, decide_eq_false_iff_not, decide_eq_decide, bne_eq_false_iff_eq, beq_eq_false_iff_ne, Bool.not_eq_true, Bool.not_eq_false, Bool.not_eq_true', Bool.not_eq_false', Bool.true_beq, Bool.false_beq, Bool.true_bne, Bool.false_bne, Bool.bne_true, Bool.bne_false] at c6b1); (try simp only [beq_iff_eq, bne_iff_ne, ne_eq, decide_eq_true_eq, decide_eq_false_iff_not, decide_eq_decide, bne_eq_false_iff_eq, beq_eq_false_iff_ne, Bool.not_eq_true, Bool.not_eq_false, Bool.not_eq_true', Bool.not_eq_false', Bool.true_beq, Bool.false_beq, Bool.true_bne, Bool.false_bne, Bool.bne_true, Bool.bne_false] at c15b0); (try simp only [beq_iff_eq, bne_iff_ne, ne_eq, decide_eq_true_eq, decide_eq_false_iff_not, decide_eq_decide, bne_eq_false_iff_eq, beq_eq_false_iff_ne, Bool.not_eq_true, Bool.not_eq_false, Bool.not_eq_true', Bool.not_eq_false', Bool.true_beq, Bool.false_beq, Bool.true_bne, Bool.false_bne, Bool.bne_true, Bool.bne_false] at c15b1); (try simp only [beq_iff_eq, bne_iff_ne, ne_eq, decide_eq_true_eq, decide_eq_false_iff_not, decide_eq_decide, bne_eq_false_iff_eq, beq_eq_false_iff_ne, Bool.not_eq_true, Bool.not_eq_false, Bool.not_eq_true', Bool.not_eq_false', Bool.true_beq, Bool.false_beq, Bool.true_bne, Bool.false_bne, Bool.bne_true, Bool.bne_false] at c15b2); (try simp only [beq_iff_eq, bne_iff_ne, ne_eq, decide_eq_true_eq, decide_eq_false_iff_not, decide_eq_decide, bne_eq_false_iff_eq, beq_eq_false_iff_ne, Bool.not_eq_true, Bool.not_eq_false, Bool.not_eq_true', Bool.not_eq_false', Bool.true_beq, Bool.false_beq, Bool.true_bne, Bool.false_bne, Bool.bne_true, Bool.bne_false] at c17b0); (try simp only [beq_iff_eq, bne_iff_ne, ne_eq, decide_eq_true_eq, decide_eq_false_iff_not, decide_eq_decide, bne_eq_false_iff_eq, beq_eq_false_iff_ne, Bool.not_eq_true, Bool.not_eq_false, Bool.not_eq_true', Bool.not_eq_false', Bool.true_beq, Bool.false_beq, Bool.true_bne, Bool.false_bne, Bool.bne_true, Bool.bne_false] at c17b1); (try unfold wrap64 at *); omega)
                  · replace c16 := Bool.eq_false_iff.mpr c16
                    subst c16
                    have H1 : (if t129 = 0 then (ammonitelaw2_DigitTells.j2 kj10 a0 (cutS a1 0 ((ji4) : Int).toNat) (t130 != 0)) else (ammonitelaw2_DigitTells.j2 kj10 a0 (cutS a1 0 ((ji4) : Int).toNat) true)) = some r := by rw [if_neg (show ¬ (false = true) by decide)] at H; exact H
                    clear H
                    have H := H1
                    clear H1
                    by_cases c19 : t129 = 0
                    · rw [if_pos c19] at H
                      have c19b0 : (t129 == 0) = true := beq_iff_eq.mpr c19
                      have c19b1 : (t129 != 0) = false := bne_eq_false_iff_eq.mpr c19
                      clear c19
                      have H' := Aside0.mk H
                      clear H
                      go_wp2
                      go_meet
                      case rel => exact ⟨_, ((t130 != 0)), (by first | rfl | (simp; done) | (simp [*]; done)), H', ⟨by have := HJ8.out; have := HJ10.out; first | omega | exact Nat.le_refl _⟩, ⟨by repeat (first | (with_reducible first | exact HB.out | apply below_alloc | apply pw_below_drewN | apply below_drew1) | exact HB.out)⟩⟩
                      all_goals (exfalso; (try simp only [beq_iff_eq, bne_iff_ne, ne_eq, decide_eq_true_eq, decide_eq_false_iff_not, decide_eq_decide, bne_eq_false_iff_eq, beq_eq_false_iff_ne, Bool.not_eq_true, Bool.not_eq_false, Bool.not_eq_true', Bool.not_eq_false', Bool.true_beq, Bool.false_beq, Bool.true_bne, Bool.false_bne, Bool.bne_true, Bool.bne_false] at c5b0); (try simp only [beq_iff_eq, bne_iff_ne, ne_eq, decide_eq_true_eq, decide_eq_false_iff_not, decide_eq_decide, bne_eq_false_iff_eq, beq_eq_false_iff_ne, Bool.not_eq_true, Bool.not_eq_false, Bool.not_eq_true', Bool.not_eq_false', Bool.true_beq, Bool.false_beq, Bool.true_bne, Bool.false_bne, Bool.bne_true, Bool.bne_false] at c5b1); (try simp only [beq_iff_eq, bne_iff_ne, ne_eq, decide_eq_true_eq, decide_eq_false_iff_not, decide_eq_decide, bne_eq_false_iff_eq, beq_eq_false_iff_ne, Bool.not_eq_true, Bool.not_eq_false, Bool.not_eq_true', Bool.not_eq_false', Bool.true_beq, Bool.false_beq, Bool.true_bne, Bool.false_bne, Bool.bne_true, Bool.bne_false] at c6b0); (try simp only [beq_iff_eq, bne_iff_ne, ne_eq, decide_eq_true_eq, decide_eq_false_iff_not, decide_eq_decide, bne_eq_false_iff_eq, beq_eq_false_iff_ne, Bool.not_eq_true, Bool.not_eq_false, Bool.not_eq_true', Bool.not_eq_false', Bool.true_beq, Bool.false_beq, Bool.true_bne, Bool.false_bne, Bool.bne_true, Bool.bne_false] at c6b1); (try simp only [beq_iff_eq, bne_iff_ne, ne_eq, decide_eq_true_eq, decide_eq_false_iff_not, decide_eq_decide, bne_eq_false_iff_eq, beq_eq_false_iff_ne, Bool.not_eq_true, Bool.not_eq_false, Bool.not_eq_true', Bool.not_eq_false', Bool.true_beq, Bool.false_beq, Bool.true_bne, Bool.false_bne, Bool.bne_true, Bool.bne_false] at c15b0); (try simp only [beq_iff_eq, bne_iff_ne, ne_eq, decide_eq_true_eq, decide_eq_false_iff_not, decide_eq_decide, bne_eq_false_iff_eq, beq_eq_false_iff_ne, Bool.not_eq_true, Bool.not_eq_false, Bool.not_eq_true', Bool.not_eq_false', Bool.true_beq, Bool.false_beq, Bool.true_bne, Bool.false_bne, Bool.bne_true, Bool.bne_false] at c15b1); (try simp only [beq_iff_eq, bne_iff_ne, ne_eq, decide_eq_true_eq, decide_eq_false_iff_not, decide_eq_decide, bne_eq_false_iff_eq, beq_eq_false_iff_ne, Bool.not_eq_true, Bool.not_eq_false, Bool.not_eq_true', Bool.not_eq_false', Bool.true_beq, Bool.false_beq, Bool.true_bne, Bool.false_bne, Bool.bne_true, Bool.bne_false] at c15b2); (try simp only [beq_iff_eq, bne_iff_ne, ne_eq, decide_eq_true_eq, decide_eq_false_iff_not, decide_eq_decide, bne_eq_false_iff_eq, beq_eq_false_iff_ne, Bool.not_eq_true, Bool.not_eq_false, Bool.not_eq_true', Bool.not_eq_false', Bool.true_beq, Bool.false_beq, Bool.true_bne, Bool.false_bne, Bool.bne_true, Bool.bne_false] at c19b0); (try simp only [beq_iff_eq, bne_iff_ne, ne_eq, decide_eq_true_eq, decide_eq_false_iff_not, decide_eq_decide, bne_eq_false_iff_eq, beq_eq_false_iff_ne, Bool.not_eq_true, Bool.not_eq_false, Bool.not_eq_true', Bool.not_eq_false', Bool.true_beq, Bool.false_beq, Bool.true_bne, Bool.false_bne, Bool.bne_true, Bool.bne_false] at c19b1); (try unfold wrap64 at *); omega)
                    · rw [if_neg c19] at H
                      have c19b0 : (t129 == 0) = false := beq_eq_false_iff_ne.mpr c19
                      have c19b1 : (t129 != 0) = true := bne_iff_ne.mpr c19
                      have H' := Aside0.mk H
                      clear H
                      go_wp2
                      go_meet
                      case rel => exact ⟨_, (true), (by first | rfl | (simp; done) | (simp [*]; done)), H', ⟨by have := HJ8.out; have := HJ10.out; first | omega | exact Nat.le_refl _⟩, ⟨by repeat (first | (with_reducible first | exact HB.out | apply below_alloc | apply pw_below_drewN | apply below_drew1) | exact HB.out)⟩⟩
                      all_goals (exfalso; (try simp only [beq_iff_eq, bne_iff_ne, ne_eq, decide_eq_true_eq, decide_eq_false_iff_not, decide_eq_decide, bne_eq_false_iff_eq, beq_eq_false_iff_ne, Bool.not_eq_true, Bool.not_eq_false, Bool.not_eq_true', Bool.not_eq_false', Bool.true_beq, Bool.false_beq, Bool.true_bne, Bool.false_bne, Bool.bne_true, Bool.bne_false] at c5b0); (try simp only [beq_iff_eq, bne_iff_ne, ne_eq, decide_eq_true_eq, decide_eq_false_iff_not, decide_eq_decide, bne_eq_false_iff_eq, beq_eq_false_iff_ne, Bool.not_eq_true, Bool.not_eq_false, Bool.not_eq_true', Bool.not_eq_false', Bool.true_beq, Bool.false_beq, Bool.true_bne, Bool.false_bne, Bool.bne_true, Bool.bne_false] at c5b1); (try simp only [beq_iff_eq, bne_iff_ne, ne_eq, decide_eq_true_eq, decide_eq_false_iff_not, decide_eq_decide, bne_eq_false_iff_eq, beq_eq_false_iff_ne, Bool.not_eq_true, Bool.not_eq_false, Bool.not_eq_true', Bool.not_eq_false', Bool.true_beq, Bool.false_beq, Bool.true_bne, Bool.false_bne, Bool.bne_true, Bool.bne_false] at c6b0); (try simp only [beq_iff_eq, bne_iff_ne, ne_eq, decide_eq_true_eq, decide_eq_false_iff_not, decide_eq_decide, bne_eq_false_iff_eq, beq_eq_false_iff_ne, Bool.not_eq_true, Bool.not_eq_false, Bool.not_eq_true', Bool.not_eq_false', Bool.true_beq, Bool.false_beq, Bool.true_bne, Bool.false_bne, Bool.bne_true, Bool.bne_false] at c6b1); (try simp only [beq_iff_eq, bne_iff_ne, ne_eq, decide_eq_true_eq, decide_eq_false_iff_not, decide_eq_decide, bne_eq_false_iff_eq, beq_eq_false_iff_ne, Bool.not_eq_true, Bool.not_eq_false, Bool.not_eq_true', Bool.not_eq_false', Bool.true_beq, Bool.false_beq, Bool.true_bne, Bool.false_bne, Bool.bne_true, Bool.bne_false] at c15b0); (try simp only [beq_iff_eq, bne_iff_ne, ne_eq, decide_eq_true_eq, decide_eq_false_iff_not, decide_eq_decide, bne_eq_false_iff_eq, beq_eq_false_iff_ne, Bool.not_eq_true, Bool.not_eq_false, Bool.not_eq_true', Bool.not_eq_false', Bool.true_beq, Bool.false_beq, Bool.true_bne, Bool.false_bne, Bool.bne_true, Bool.bne_false] at c15b1); (try simp only [beq_iff_eq, bne_iff_ne, ne_eq, decide_eq_true_eq, decide_eq_false_iff_not, decide_eq_decide, bne_eq_false_iff_eq, beq_eq_false_iff_ne, Bool.not_eq_true, Bool.not_eq_false, Bool.not_eq_true', Bool.not_eq_false', Bool.true_beq, Bool.false_beq, Bool.true_bne, Bool.false_bne, Bool.bne_true, Bool.bne_false] at c15b2); (try simp only [beq_iff_eq, bne_iff_ne, ne_eq, decide_eq_true_eq, decide_eq_false_iff_not, decide_eq_decide, bne_eq_false_iff_eq, beq_eq_false_iff_ne, Bool.not_eq_true, Bool.not_eq_false, Bool.not_eq_true', Bool.not_eq_false', Bool.true_beq, Bool.false_beq, Bool.true_bne, Bool.false_bne, Bool.bne_true, Bool.bne_false] at c19b0); (try simp only [beq_iff_eq, bne_iff_ne, ne_eq, decide_eq_true_eq, decide_eq_false_iff_not, decide_eq_decide, bne_eq_false_iff_eq, beq_eq_false_iff_ne, Bool.not_eq_true, Bool.not_eq_false, Bool.not_eq_true', Bool.not_eq_false', Bool.true_beq, Bool.false_beq, Bool.true_bne, Bool.false_bne, Bool.bne_true, Bool.bne_false] at c19b1); (try unfold wrap64 at *); omega)
              case rest =>
                clear HC14
                try clear c1
                try clear p2
                try clear c4
                try clear c5
                try clear c5b0
                try clear c5b1
                try clear c6
                try clear c6b0
                try clear c6b1
                try clear p6
                try clear c10
                try clear c10b0
                try clear c12
                try clear c13
                try clear c15
                try clear c15b0
                try clear c15b1
                try clear c15b2
                try clear c16
                try clear c17
                try clear c17b0
                try clear c17b1
                try clear c18
                try clear c18b0
                try clear c18b1
                try clear c19
                try clear c19b0
                try clear c19b1
                try clear p2
                try clear p6
                obtain ⟨kq, x75_13, rfl, HA, HJ13, HB⟩ := hcut
                cases kq with
                | zero => exact absurd HA.out (by simp [ammonitelaw2_DigitTells.j2])
                | succ kj13 =>
                  have H := HA.out
                  clear HA
                  simp only [ammonitelaw2_DigitTells.j2] at H
                  by_cases c20 : x75_13 = true
                  · subst c20
                    have H1 : (some false) = some r := by rw [if_pos rfl] at H; exact H
                    clear H
                    have H := H1
                    clear H1
                    exact absurd ((Option.some.inj H).trans HRT.out) Bool.false_ne_true
                  · replace c20 := Bool.eq_false_iff.mpr c20
                    subst c20
                    have H1 : ((digit_ReadDec.f kj13 (cutS a1 0 ((ji4) : Int).toNat)).bind fun bt134 => ((ammoniteref1_ReadDec.f kj13 (cutS a1 0 ((ji4) : Int).toNat)).bind fun t136 => (if (bt134.2 == (decide (t136 ≥ 0))) = true then (if bt134.1 = (mx t136 0) then ((digit_Put.f kj13 a0).bind fun t137 => ((ammoniteref1_Put.f kj13 a0).bind fun t138 => (if t137.toList = t138.toList then ((digit_Dec.f kj13 a0).bind fun t139 => ((ammoniteref1_Dec.f kj13 a0).bind fun t140 => (if t139.toList = t140.toList then ((ammonitelaw2_DigitRuns.f kj13).bind fun t141 => (some t141)) else (some false)))) else (some false)))) else (some false)) else (some false)))) = some r := by rw [if_neg (show ¬ (false = true) by decide)] at H; exact H
                    clear H
                    have H := H1
                    clear H1
                    replace H := Option.bind_eq_some_iff.mp H
                    obtain ⟨⟨t134, t135⟩, A210, H⟩ := H
                    replace H : ((ammoniteref1_ReadDec.f kj13 (cutS a1 0 ((ji4) : Int).toNat)).bind fun t136 => (if (t135 == (decide (t136 ≥ 0))) = true then (if t134 = (mx t136 0) then ((digit_Put.f kj13 a0).bind fun t137 => ((ammoniteref1_Put.f kj13 a0).bind fun t138 => (if t137.toList = t138.toList then ((digit_Dec.f kj13 a0).bind fun t139 => ((ammoniteref1_Dec.f kj13 a0).bind fun t140 => (if t139.toList = t140.toList then ((ammonitelaw2_DigitRuns.f kj13).bind fun t141 => (some t141)) else (some false)))) else (some false)))) else (some false)) else (some false))) = some r := H
                    have A21 := Aside0.mk A210
                    clear A210
                    replace H := Option.bind_eq_some_iff.mp H
                    obtain ⟨t136, A220, H⟩ := H
                    replace H : (if (t135 == (decide (t136 ≥ 0))) = true then (if t134 = (mx t136 0) then ((digit_Put.f kj13 a0).bind fun t137 => ((ammoniteref1_Put.f kj13 a0).bind fun t138 => (if t137.toList = t138.toList then ((digit_Dec.f kj13 a0).bind fun t139 => ((ammoniteref1_Dec.f kj13 a0).bind fun t140 => (if t139.toList = t140.toList then ((ammonitelaw2_DigitRuns.f kj13).bind fun t141 => (some t141)) else (some false)))) else (some false)))) else (some false)) else (some false)) = some r := H
                    have A22 := Aside0.mk A220
                    clear A220
                    by_cases c23 : (t135 == (decide (t136 ≥ 0))) = true
                    · rw [if_pos c23] at H
                      have c23b0 : (t135 == (decide (t136 ≥ 0))) = true := c23
                      (try (have c23b1 : decide (t135 = (decide (t136 ≥ 0))) = true := by simpa using c23))
                      (try (have c23b2 : (t135 == (decide (t136 ≥ 0))) = true := by simpa using c23))
                      clear c23
                      obtain ⟨ji24, hji24⟩ : ∃ j_ : Int, (mx t136 0) = j_ := ⟨_, rfl⟩
                      replace H : (if t134 = (ji24) then ((digit_Put.f kj13 a0).bind fun t137 => ((ammoniteref1_Put.f kj13 a0).bind fun t138 => (if t137.toList = t138.toList then ((digit_Dec.f kj13 a0).bind fun t139 => ((ammoniteref1_Dec.f kj13 a0).bind fun t140 => (if t139.toList = t140.toList then ((ammonitelaw2_DigitRuns.f kj13).bind fun t141 => (some t141)) else (some false)))) else (some false)))) else (some false)) = some r := by first | (rw [hji24] at H; exact H) | (simp only [hji24] at H ⊢; exact H)
                      (try rw [hji24] at A21)
                      (try rw [hji24] at A22)
                      (try (have hji24l : 0 ≤ ji24 := by (rw [← hji24]; unfold mx; (repeat' split) <;> omega)))
                      (try (have hji24m : 0 ≤ ji24 := by omega))
                      have hji24_ : (if t136 < 0 then 0 else t136) = ji24 := hji24
                      by_cases c25 : t134 = (ji24)
                      · rw [if_pos c25] at H
                        have c25b0 : (t134 == (ji24)) = true := beq_iff_eq.mpr c25
                        have c25b1 : (t134 != (ji24)) = false := bne_eq_false_iff_eq.mpr c25
                        clear c25
                        replace H := Option.bind_eq_some_iff.mp H
                        obtain ⟨t137, A260, H⟩ := H
                        replace H : ((ammoniteref1_Put.f kj13 a0).bind fun t138 => (if t137.toList = t138.toList then ((digit_Dec.f kj13 a0).bind fun t139 => ((ammoniteref1_Dec.f kj13 a0).bind fun t140 => (if t139.toList = t140.toList then ((ammonitelaw2_DigitRuns.f kj13).bind fun t141 => (some t141)) else (some false)))) else (some false))) = some r := H
                        have A26 := Aside0.mk A260
                        clear A260
                        replace H := Option.bind_eq_some_iff.mp H
                        obtain ⟨t138, A270, H⟩ := H
                        replace H : (if t137.toList = t138.toList then ((digit_Dec.f kj13 a0).bind fun t139 => ((ammoniteref1_Dec.f kj13 a0).bind fun t140 => (if t139.toList = t140.toList then ((ammonitelaw2_DigitRuns.f kj13).bind fun t141 => (some t141)) else (some false)))) else (some false)) = some r := H
                        have A27 := Aside0.mk A270
                        clear A270
                        by_cases c28 : t137.toList = t138.toList
                        · rw [if_pos c28] at H
                          have c28b0 : (t137.toList == t138.toList) = true := beq_iff_eq.mpr c28
                          have c28b1 : (t137.toList != t138.toList) = false := bne_eq_false_iff_eq.mpr c28
                          clear c28
                          replace H := Option.bind_eq_some_iff.mp H
                          obtain ⟨t139, A290, H⟩ := H
                          replace H : ((ammoniteref1_Dec.f kj13 a0).bind fun t140 => (if t139.toList = t140.toList then ((ammonitelaw2_DigitRuns.f kj13).bind fun t141 => (some t141)) else (some false))) = some r := H
                          have A29 := Aside0.mk A290
                          clear A290
                          replace H := Option.bind_eq_some_iff.mp H
                          obtain ⟨t140, A300, H⟩ := H
                          replace H : (if t139.toList = t140.toList then ((ammonitelaw2_DigitRuns.f kj13).bind fun t141 => (some t141)) else (some false)) = some r := H
                          have A30 := Aside0.mk A300
                          clear A300
                          by_cases c31 : t139.toList = t140.toList
                          · rw [if_pos c31] at H
                            have c31b0 : (t139.toList == t140.toList) = true := beq_iff_eq.mpr c31
                            have c31b1 : (t139.toList != t140.toList) = false := bne_eq_false_iff_eq.mpr c31
                            clear c31
                            replace H := Option.bind_eq_some_iff.mp H
                            obtain ⟨t141, A320, H⟩ := H
                            replace H : (some t141) = some r := H
                            have A32 := Aside0.mk A320
                            clear A320
                            obtain rfl := Option.some.inj H
                            go_wp2_with (first | ((with_reducible refine gate_callee (f := 14) rfl ?_); refine goesL_ (some 78) rfl rfl Try.func14 (by kernel_rfl) rfl #[.string (cutS a1 0 ((ji4) : Int).toNat)] rfl (by (try simp only [List.map_toArray, List.map_cons, List.map_nil]); first | done | (simp only [hji4]; rfl) | rfl | (simp only [List.length_drop, List.length_take]; rfl)) ?_; (with_reducible refine (digit_ReadDec.calls kj13 (cutS a1 0 ((ji4) : Int).toNat) t134 t135 _ A21.out).mono ?_); rintro e w33 ⟨rfl, hb⟩; refine ⟨_, rfl, ?_⟩; have n0_ := Aside0.mk (below_step (by repeat (first | (with_reducible first | exact HB.out | apply below_alloc | apply pw_below_drewN | apply below_drew1) | exact HB.out)) hb); clear HB; have HB := n0_; clear n0_; (try clear hb); (try clear hb2); (try clear hk); (try clear hi)) | ((with_reducible refine gate_callee (f := 19) rfl ?_); refine goesL_ (some 82) rfl rfl Try.func19 (by kernel_rfl) rfl #[.string (cutS a1 0 ((ji4) : Int).toNat)] rfl (by (try simp only [List.map_toArray, List.map_cons, List.map_nil]); first | done | (simp only [hji4]; rfl) | rfl | (simp only [List.length_drop, List.length_take]; rfl)) ?_; (with_reducible refine (ammoniteref1_ReadDec.calls kj13 (cutS a1 0 ((ji4) : Int).toNat) t136 _ A22.out).mono ?_); rintro e w' ⟨rfl, ⟨nd, rfl⟩⟩; refine ⟨_, rfl, ?_⟩) | (go_at_call 15; (with_reducible refine (digit_Put.calls kj13 a0 t137 _ A26.out).mono ?_); rintro e w' ⟨rfl, ⟨nd, rfl⟩⟩) | (go_at_call 20; (with_reducible refine (ammoniteref1_Put.calls kj13 a0 t138 _ A27.out).mono ?_); rintro e w' ⟨rfl, ⟨nd, rfl⟩⟩) | (go_at_call 16; (with_reducible refine (digit_Dec.calls kj13 a0 t139 _ A29.out).mono ?_); rintro e w34 ⟨rfl, hb⟩; have n0_ := Aside0.mk (below_step (by repeat (first | (with_reducible first | exact HB.out | apply below_alloc | apply pw_below_drewN | apply below_drew1) | exact HB.out)) hb); clear HB; have HB := n0_; clear n0_; (try clear hb); (try clear hb2); (try clear hk); (try clear hi)) | (go_at_call 21; (with_reducible refine (ammoniteref1_Dec.calls kj13 a0 t140 _ A30.out).mono ?_); rintro e w35 ⟨rfl, hb⟩; have n0_ := Aside0.mk (below_step (by repeat (first | (with_reducible first | exact HB.out | apply below_alloc | apply pw_below_drewN | apply below_drew1) | exact HB.out)) hb); clear HB; have HB := n0_; clear n0_; (try clear hb); (try clear hb2); (try clear hk); (try clear hi)) | (go_at_call 3; (with_reducible refine (ammonitelaw2_DigitRuns.calls kj13  t141 _ A32.out).mono ?_); rintro e w36 ⟨rfl, hb⟩; have n0_ := Aside0.mk (below_step (by repeat (first | (with_reducible first | exact HB.out | apply below_alloc | apply pw_below_drewN | apply below_drew1) | exact HB.out)) hb); clear HB; have HB := n0_; clear n0_; (try clear hb); (try clear hb2); (try clear hk); (try clear hi)))
                            go_ret
                            exact ⟨by first | rfl | (simp [errW_none, errW_some] <;> rfl) | (simp only [← hji4, ← hji24]; first | rfl | (simp [errW_none, errW_some] <;> rfl)) | (simp [*, errW_none, errW_some] <;> rfl), by repeat (first | (with_reducible first | exact HB.out | apply below_alloc | apply pw_below_drewN | apply below_drew1) | exact HB.out)⟩
                            all_goals (exfalso; (try simp only [beq_iff_eq, bne_iff_ne, ne_eq, decide_eq_true_eq, decide_eq_false_iff_not, decide_eq_decide, bne_eq_false_iff_eq, beq_eq_false_iff_ne, Bool.not_eq_true, Bool.not_eq_false, Bool.not_eq_true', Bool.not_eq_false', Bool.true_beq, Bool.false_beq, Bool.true_bne, Bool.false_bne, Bool.bne_true, Bool.bne_false] at c5b0); (try simp only [beq_iff_eq, bne_iff_ne, ne_eq, decide_eq_true_eq, decide_eq_false_iff_not, decide_eq_decide, bne_eq_false_iff_eq, beq_eq_false_iff_ne, Bool.not_eq_true, Bool.not_eq_false, Bool.not_eq_true', Bool.not_eq_false', Bool.true_beq, Bool.false_beq, Bool.true_bne, Bool.false_bne, Bool.bne_true, Bool.bne_false] at c5b1); (try simp only [beq_iff_eq, bne_iff_ne, ne_eq, decide_eq_true_eq, decide_eq_false_iff_not, decide_eq_decide, bne_eq_false_iff_eq, beq_eq_false_iff_ne, Bool.not_eq_true, Bool.not_eq_false, Bool.not_eq_true', Bool.not_eq_false', Bool.true_beq, Bool.false_beq, Bool.true_bne, Bool.false_bne, Bool.bne_true, Bool.bne_false] at c6b0); (try simp only [beq_iff_eq, bne_iff_ne, ne_eq, decide_eq_true_eq, decide_eq_false_iff_not, decide_eq_decide, bne_eq_false_iff_eq, beq_eq_false_iff_ne, Bool.not_eq_true, Bool.not_eq_false, Bool.not_eq_true', Bool.not_eq_false', Bool.true_beq, Bool.false_beq, Bool.true_bne, Bool.false_bne, Bool.bne_true, Bool.bne_false] at c6b1); (try simp only [beq_iff_eq, bne_iff_ne, ne_eq, decide_eq_true_eq, decide_eq_false_iff_not, decide_eq_decide, bne_eq_false_iff_eq, beq_eq_false_iff_ne, Bool.not_eq_true, Bool.not_eq_false, Bool.not_eq_true', Bool.not_eq_false', Bool.true_beq, Bool.false_beq, Bool.true_bne, Bool.false_bne, Bool.bne_true, Bool.bne_false] at c23b0); (try simp only [beq_iff_eq, bne_iff_ne, ne_eq, decide_eq_true_eq, decide_eq_false_iff_not, decide_eq_decide, bne_eq_false_iff_eq, beq_eq_false_iff_ne, Bool.not_eq_true, Bool.not_eq_false, Bool.not_eq_true', Bool.not_eq_false', Bool.true_beq, Bool.false_beq, Bool.true_bne, Bool.false_bne, Bool.bne_true, Bool.bne_false] at c23b1); (try simp only [beq_iff_eq, bne_iff_ne, ne_eq, decide_eq_true_eq, decide_eq_false_iff_not, decide_eq_decide, bne_eq_false_iff_eq, beq_eq_false_iff_ne, Bool.not_eq_true, Bool.not_eq_false, Bool.not_eq_true', Bool.not_eq_false', Bool.true_beq, Bool.false_beq, Bool.true_bne, Bool.false_bne, Bool.bne_true, Bool.bne_false] at c23b2); (try simp only [beq_iff_eq, bne_iff_ne, ne_eq, decide_eq_true_eq, decide_eq_false_iff_not, decide_eq_decide, bne_eq_false_iff_eq, beq_eq_false_iff_ne, Bool.not_eq_true, Bool.not_eq_false, Bool.not_eq_true', Bool.not_eq_false', Bool.true_beq, Bool.false_beq, Bool.true_bne, Bool.false_bne, Bool.bne_true, Bool.bne_false] at c25b0); (try simp only [beq_iff_eq, bne_iff_ne, ne_eq, decide_eq_true_eq, decide_eq_false_iff_not, decide_eq_decide, bne_eq_false_iff_eq, beq_eq_false_iff_ne, Bool.not_eq_true, Bool.not_eq_false, Bool.not_eq_true', Bool.not_eq_false', Bool.true_beq, Bool.false_beq, Bool.true_bne, Bool.false_bne, Bool.bne_true, Bool.bne_false] at c25b1); (try simp only [beq_iff_eq, bne_iff_ne, ne_eq, decide_eq_true_eq, decide_eq_false_iff_not, decide_eq_decide, bne_eq_false_iff_eq, beq_eq_false_iff_ne, Bool.not_eq_true, Bool.not_eq_false, Bool.not_eq_true', Bool.not_eq_false', Bool.true_beq, Bool.false_beq, Bool.true_bne, Bool.false_bne, Bool.bne_true, Bool.bne_false] at c28b0); (try simp only [beq_iff_eq, bne_iff_ne, ne_eq, decide_eq_true_eq, decide_eq_false_iff_not, decide_eq_decide, bne_eq_false_iff_eq, beq_eq_false_iff_ne, Bool.not_eq_true, Bool.not_eq_false, Bool.not_eq_true', Bool.not_eq_false', Bool.true_beq, Bool.false_beq, Bool.true_bne, Bool.false_bne, Bool.bne_true, Bool.bne_false] at c28b1); (try simp only [beq_iff_eq, bne_iff_ne, ne_eq, decide_eq_true_eq, decide_eq_false_iff_not, decide_eq_decide, bne_eq_false_iff_eq, beq_eq_false_iff_ne, Bool.not_eq_true, Bool.not_eq_false, Bool.not_eq_true', Bool.not_eq_false', Bool.true_beq, Bool.false_beq, Bool.true_bne, Bool.false_bne, Bool.bne_true, Bool.bne_false] at c31b0); (try simp only [beq_iff_eq, bne_iff_ne, ne_eq, decide_eq_true_eq, decide_eq_false_iff_not, decide_eq_decide, bne_eq_false_iff_eq, beq_eq_false_iff_ne, Bool.not_eq_true, Bool.not_eq_false, Bool.not_eq_true', Bool.not_eq_false', Bool.true_beq, Bool.false_beq, Bool.true_bne, Bool.false_bne, Bool.bne_true, Bool.bne_false] at c31b1); (try unfold wrap64 at *); omega)
                          · rw [if_neg c31] at H
                            have c31b0 : (t139.toList == t140.toList) = false := beq_eq_false_iff_ne.mpr c31
                            have c31b1 : (t139.toList != t140.toList) = true := bne_iff_ne.mpr c31
                            exact absurd ((Option.some.inj H).trans HRT.out) Bool.false_ne_true
                        · rw [if_neg c28] at H
                          have c28b0 : (t137.toList == t138.toList) = false := beq_eq_false_iff_ne.mpr c28
                          have c28b1 : (t137.toList != t138.toList) = true := bne_iff_ne.mpr c28
                          exact absurd ((Option.some.inj H).trans HRT.out) Bool.false_ne_true
                      · rw [if_neg c25] at H
                        have c25b0 : (t134 == (ji24)) = false := beq_eq_false_iff_ne.mpr c25
                        have c25b1 : (t134 != (ji24)) = true := bne_iff_ne.mpr c25
                        exact absurd ((Option.some.inj H).trans HRT.out) Bool.false_ne_true
                    · rw [if_neg c23] at H
                      have c23b0 : (t135 == (decide (t136 ≥ 0))) = false := by simpa using c23
                      (try (have c23b1 : decide (t135 = (decide (t136 ≥ 0))) = false := by simpa using c23))
                      (try (have c23b2 : (t135 == (decide (t136 ≥ 0))) = false := by simpa using c23))
                      (try (have c23b3 : ¬ (t135 = (decide (t136 ≥ 0))) := by simpa using c23))
                      clear c23
                      exact absurd ((Option.some.inj H).trans HRT.out) Bool.false_ne_true
    · rw [if_neg c6] at H
      exact absurd H (by simp)
  · rw [if_neg c5] at H
    exact absurd H (by simp)

/-- THE ONE PURE STATEMENT of ammonitelaw2_DigitTells: yours. -/
def ammonitelaw2_DigitTells.Pure : Prop := ∀ (a0 : Int) (a1 : ByteArray) (a2 : Int), (Lit.int .i64 a0).wf = true → a1.size ≤ 140737488351232 → (Lit.int .i64 a2).wf = true → ∃ k, ammonitelaw2_DigitTells.f k a0 a1 a2 = some true
theorem ammonitelaw2_DigitTells.walk (P : ammonitelaw2_DigitTells.Pure) (a0 : Int) (a1 : ByteArray) (a2 : Int) (w : World) (w0 : (Lit.int .i64 a0).wf = true) (w1 : a1.size ≤ 140737488351232) (w2 : (Lit.int .i64 a2).wf = true) :
    Calls Try.prog 4 #[.int .i64 a0, .string a1, .int .i64 a2] w fun e w' => e = .returned (.bool true) ∧ Below w.heap.size w w' := by
  obtain ⟨k, h⟩ := P a0 a1 a2 w0 w1 w2
  refine (ammonitelaw2_DigitTells.calls k a0 a1 a2 true w h rfl).mono ?_
  rintro e w' ⟨rfl, hd⟩
  exact ⟨rfl, hd⟩

/-! ### ammonitelaw2_DigitBack: function 5 -/
def ammonitelaw2_DigitBack.f (k : Nat) (a0 : Int) (a1 : Int) (a2 : ByteArray) (a3 : ByteArray) : Option (Bool) := (ammonitebook_Within.f a0 0 1073741824).bind fun t142 => ((ammonitebook_Within.f a1 0 5000).bind fun t143 => (if 0 ≤ (mn (a2.size : Int) 9) then (if (mn (a2.size : Int) 9) ≤ (a2.size : Int) then ((digit_Put.f k t142).bind fun t144 => (if (cutS a2 0 ((mn (a2.size : Int) 9) : Int).toNat).size + t144.size ≤ 9223372036854775807 then (if (catS (cutS a2 0 ((mn (a2.size : Int) 9) : Int).toNat) t144).size + 1 ≤ 9223372036854775807 then (if 0 ≤ (mn (a3.size : Int) 9) then (if (mn (a3.size : Int) 9) ≤ (a3.size : Int) then (if (catS (catS (cutS a2 0 ((mn (a2.size : Int) 9) : Int).toNat) t144) (⟨#[59]⟩ : ByteArray)).size + (cutS a3 0 ((mn (a3.size : Int) 9) : Int).toNat).size ≤ 9223372036854775807 then ((digit_Read.f k (catS (catS (catS (cutS a2 0 ((mn (a2.size : Int) 9) : Int).toNat) t144) (⟨#[59]⟩ : ByteArray)) (cutS a3 0 ((mn (a3.size : Int) 9) : Int).toNat)) ((cutS a2 0 ((mn (a2.size : Int) 9) : Int).toNat).size : Int)).bind fun bt145 => ((digit_Dec.f k t142).bind fun t148 => ((digit_ReadDec.f k t148).bind fun bt149 => ((digit_Put.f k 1073741824).bind fun t151 => (if t151.size + 1 ≤ 9223372036854775807 then ((digit_Read.f k (catS t151 (⟨#[48]⟩ : ByteArray)) 0).bind fun bt152 => ((digit_Put.f k t143).bind fun t155 => ((digit_Put.f k (wrap64 (t143 + 1))).bind fun t156 => (if bt145.2.2 = true then (if bt145.1 = t142 then (if bt145.2.1 = (wrap64 (((cutS a2 0 ((mn (a2.size : Int) 9) : Int).toNat).size : Int) + (t144.size : Int))) then (if bt149.2 = true then (if bt149.1 = t142 then (if bt152.2.2 = true then (some false) else (if (t144.size : Int) ≥ 1 then (if (t144.size : Int) ≤ 6 then (if t155.toList = t156.toList then (some false) else (if (t155.size : Int) ≤ (t156.size : Int) then ((digit_Put.f k (-1)).bind fun t157 => (if t157.toList = ([] : List UInt8) then ((digit_Dec.f k 1073741825).bind fun t158 => (if t158.toList = ([] : List UInt8) then ((ammonitelaw2_DigitRuns.f k).bind fun t159 => (some t159)) else (some false))) else (some false))) else (some false))) else (some false)) else (some false))) else (some false)) else (some false)) else (some false)) else (some false)) else (some false))))) else (none)))))) else (none)) else (none)) else (none)) else (none)) else (none))) else (none)) else (none)))
theorem ammonitelaw2_DigitBack.mono : ∀ a0 a1 a2 a3 k, LeO (ammonitelaw2_DigitBack.f k a0 a1 a2 a3) (ammonitelaw2_DigitBack.f (k + 1) a0 a1 a2 a3) := by
  intro a0 a1 a2 a3 k
  unfold ammonitelaw2_DigitBack.f
  repeat' first
      | (with_reducible exact ammonitelaw2_DigitRuns.mono _)
      | (with_reducible exact digit_Dec.mono _ _)
      | (with_reducible exact digit_Put.mono _ _)
      | (with_reducible exact digit_Read.mono _ _ _)
      | (with_reducible exact digit_ReadDec.mono _ _)
      | (with_reducible exact LeO.refl _)
      | (with_reducible exact LeO.none _)
      | (with_reducible refine LeO.ite ?_ ?_)
      | (with_reducible refine LeO.bind ?_ (fun _ => ?_))
      | exact ammonitelaw2_DigitRuns.mono _
      | exact digit_Dec.mono _ _
      | exact digit_Put.mono _ _
      | exact digit_Read.mono _ _ _
      | exact digit_ReadDec.mono _ _
      | exact LeO.none _
      | refine LeO.ite ?_ ?_
      | refine LeO.bind ?_ (fun _ => ?_)
set_option maxHeartbeats 8000000 in
set_option maxRecDepth 100000 in
theorem ammonitelaw2_DigitBack.calls (k : Nat) (a0 : Int) (a1 : Int) (a2 : ByteArray) (a3 : ByteArray) (r : Bool) (w : World) (h : ammonitelaw2_DigitBack.f k a0 a1 a2 a3 = some r) (hrt : r = true) :
    Calls Try.prog 5 #[.int .i64 a0, .int .i64 a1, .string a2, .string a3] w fun e w' => e = .returned (.bool r) ∧ Below w.heap.size w w' := by
  have HRT := Aside0.mk hrt
  clear hrt
  have HB := Aside0.mk (Below.refl w.heap.size w)
  have H : ((ammonitebook_Within.f a0 0 1073741824).bind fun t142 => ((ammonitebook_Within.f a1 0 5000).bind fun t143 => (if 0 ≤ (mn (a2.size : Int) 9) then (if (mn (a2.size : Int) 9) ≤ (a2.size : Int) then ((digit_Put.f k t142).bind fun t144 => (if (cutS a2 0 ((mn (a2.size : Int) 9) : Int).toNat).size + t144.size ≤ 9223372036854775807 then (if (catS (cutS a2 0 ((mn (a2.size : Int) 9) : Int).toNat) t144).size + 1 ≤ 9223372036854775807 then (if 0 ≤ (mn (a3.size : Int) 9) then (if (mn (a3.size : Int) 9) ≤ (a3.size : Int) then (if (catS (catS (cutS a2 0 ((mn (a2.size : Int) 9) : Int).toNat) t144) (⟨#[59]⟩ : ByteArray)).size + (cutS a3 0 ((mn (a3.size : Int) 9) : Int).toNat).size ≤ 9223372036854775807 then ((digit_Read.f k (catS (catS (catS (cutS a2 0 ((mn (a2.size : Int) 9) : Int).toNat) t144) (⟨#[59]⟩ : ByteArray)) (cutS a3 0 ((mn (a3.size : Int) 9) : Int).toNat)) ((cutS a2 0 ((mn (a2.size : Int) 9) : Int).toNat).size : Int)).bind fun bt145 => ((digit_Dec.f k t142).bind fun t148 => ((digit_ReadDec.f k t148).bind fun bt149 => ((digit_Put.f k 1073741824).bind fun t151 => (if t151.size + 1 ≤ 9223372036854775807 then ((digit_Read.f k (catS t151 (⟨#[48]⟩ : ByteArray)) 0).bind fun bt152 => ((digit_Put.f k t143).bind fun t155 => ((digit_Put.f k (wrap64 (t143 + 1))).bind fun t156 => (if bt145.2.2 = true then (if bt145.1 = t142 then (if bt145.2.1 = (wrap64 (((cutS a2 0 ((mn (a2.size : Int) 9) : Int).toNat).size : Int) + (t144.size : Int))) then (if bt149.2 = true then (if bt149.1 = t142 then (if bt152.2.2 = true then (some false) else (if (t144.size : Int) ≥ 1 then (if (t144.size : Int) ≤ 6 then (if t155.toList = t156.toList then (some false) else (if (t155.size : Int) ≤ (t156.size : Int) then ((digit_Put.f k (-1)).bind fun t157 => (if t157.toList = ([] : List UInt8) then ((digit_Dec.f k 1073741825).bind fun t158 => (if t158.toList = ([] : List UInt8) then ((ammonitelaw2_DigitRuns.f k).bind fun t159 => (some t159)) else (some false))) else (some false))) else (some false))) else (some false)) else (some false))) else (some false)) else (some false)) else (some false)) else (some false)) else (some false))))) else (none)))))) else (none)) else (none)) else (none)) else (none)) else (none))) else (none)) else (none)))) = some r := h
  clear h
  replace H := Option.bind_eq_some_iff.mp H
  obtain ⟨t142, A50, H⟩ := H
  replace H : ((ammonitebook_Within.f a1 0 5000).bind fun t143 => (if 0 ≤ (mn (a2.size : Int) 9) then (if (mn (a2.size : Int) 9) ≤ (a2.size : Int) then ((digit_Put.f k t142).bind fun t144 => (if (cutS a2 0 ((mn (a2.size : Int) 9) : Int).toNat).size + t144.size ≤ 9223372036854775807 then (if (catS (cutS a2 0 ((mn (a2.size : Int) 9) : Int).toNat) t144).size + 1 ≤ 9223372036854775807 then (if 0 ≤ (mn (a3.size : Int) 9) then (if (mn (a3.size : Int) 9) ≤ (a3.size : Int) then (if (catS (catS (cutS a2 0 ((mn (a2.size : Int) 9) : Int).toNat) t144) (⟨#[59]⟩ : ByteArray)).size + (cutS a3 0 ((mn (a3.size : Int) 9) : Int).toNat).size ≤ 9223372036854775807 then ((digit_Read.f k (catS (catS (catS (cutS a2 0 ((mn (a2.size : Int) 9) : Int).toNat) t144) (⟨#[59]⟩ : ByteArray)) (cutS a3 0 ((mn (a3.size : Int) 9) : Int).toNat)) ((cutS a2 0 ((mn (a2.size : Int) 9) : Int).toNat).size : Int)).bind fun bt145 => ((digit_Dec.f k t142).bind fun t148 => ((digit_ReadDec.f k t148).bind fun bt149 => ((digit_Put.f k 1073741824).bind fun t151 => (if t151.size + 1 ≤ 9223372036854775807 then ((digit_Read.f k (catS t151 (⟨#[48]⟩ : ByteArray)) 0).bind fun bt152 => ((digit_Put.f k t143).bind fun t155 => ((digit_Put.f k (wrap64 (t143 + 1))).bind fun t156 => (if bt145.2.2 = true then (if bt145.1 = t142 then (if bt145.2.1 = (wrap64 (((cutS a2 0 ((mn (a2.size : Int) 9) : Int).toNat).size : Int) + (t144.size : Int))) then (if bt149.2 = true then (if bt149.1 = t142 then (if bt152.2.2 = true then (some false) else (if (t144.size : Int) ≥ 1 then (if (t144.size : Int) ≤ 6 then (if t155.toList = t156.toList then (some false) else (if (t155.size : Int) ≤ (t156.size : Int) then ((digit_Put.f k (-1)).bind fun t157 => (if t157.toList = ([] : List UInt8) then ((digit_Dec.f k 1073741825).bind fun t158 => (if t158.toList = ([] : List UInt8) then ((ammonitelaw2_DigitRuns.f k).bind fun t159 => (some t159)) else (some false))) else (some false))) else (some false))) else (some false)) else (some false))) else (some false)) else (some false)) else (some false)) else (some false)) else (some false))))) else (none)))))) else (none)) else (none)) else (none)) else (none)) else (none))) else (none)) else (none))) = some r := H
  have A5 := Aside0.mk A50
  clear A50
  replace H := Option.bind_eq_some_iff.mp H
  obtain ⟨t143, A60, H⟩ := H
  replace H : (if 0 ≤ (mn (a2.size : Int) 9) then (if (mn (a2.size : Int) 9) ≤ (a2.size : Int) then ((digit_Put.f k t142).bind fun t144 => (if (cutS a2 0 ((mn (a2.size : Int) 9) : Int).toNat).size + t144.size ≤ 9223372036854775807 then (if (catS (cutS a2 0 ((mn (a2.size : Int) 9) : Int).toNat) t144).size + 1 ≤ 9223372036854775807 then (if 0 ≤ (mn (a3.size : Int) 9) then (if (mn (a3.size : Int) 9) ≤ (a3.size : Int) then (if (catS (catS (cutS a2 0 ((mn (a2.size : Int) 9) : Int).toNat) t144) (⟨#[59]⟩ : ByteArray)).size + (cutS a3 0 ((mn (a3.size : Int) 9) : Int).toNat).size ≤ 9223372036854775807 then ((digit_Read.f k (catS (catS (catS (cutS a2 0 ((mn (a2.size : Int) 9) : Int).toNat) t144) (⟨#[59]⟩ : ByteArray)) (cutS a3 0 ((mn (a3.size : Int) 9) : Int).toNat)) ((cutS a2 0 ((mn (a2.size : Int) 9) : Int).toNat).size : Int)).bind fun bt145 => ((digit_Dec.f k t142).bind fun t148 => ((digit_ReadDec.f k t148).bind fun bt149 => ((digit_Put.f k 1073741824).bind fun t151 => (if t151.size + 1 ≤ 9223372036854775807 then ((digit_Read.f k (catS t151 (⟨#[48]⟩ : ByteArray)) 0).bind fun bt152 => ((digit_Put.f k t143).bind fun t155 => ((digit_Put.f k (wrap64 (t143 + 1))).bind fun t156 => (if bt145.2.2 = true then (if bt145.1 = t142 then (if bt145.2.1 = (wrap64 (((cutS a2 0 ((mn (a2.size : Int) 9) : Int).toNat).size : Int) + (t144.size : Int))) then (if bt149.2 = true then (if bt149.1 = t142 then (if bt152.2.2 = true then (some false) else (if (t144.size : Int) ≥ 1 then (if (t144.size : Int) ≤ 6 then (if t155.toList = t156.toList then (some false) else (if (t155.size : Int) ≤ (t156.size : Int) then ((digit_Put.f k (-1)).bind fun t157 => (if t157.toList = ([] : List UInt8) then ((digit_Dec.f k 1073741825).bind fun t158 => (if t158.toList = ([] : List UInt8) then ((ammonitelaw2_DigitRuns.f k).bind fun t159 => (some t159)) else (some false))) else (some false))) else (some false))) else (some false)) else (some false))) else (some false)) else (some false)) else (some false)) else (some false)) else (some false))))) else (none)))))) else (none)) else (none)) else (none)) else (none)) else (none))) else (none)) else (none)) = some r := H
  have A6 := Aside0.mk A60
  clear A60
  obtain ⟨ji7, hji7⟩ : ∃ j_ : Int, (mn (a2.size : Int) 9) = j_ := ⟨_, rfl⟩
  replace H : (if 0 ≤ (ji7) then (if (ji7) ≤ (a2.size : Int) then ((digit_Put.f k t142).bind fun t144 => (if (cutS a2 0 ((ji7) : Int).toNat).size + t144.size ≤ 9223372036854775807 then (if (catS (cutS a2 0 ((ji7) : Int).toNat) t144).size + 1 ≤ 9223372036854775807 then (if 0 ≤ (mn (a3.size : Int) 9) then (if (mn (a3.size : Int) 9) ≤ (a3.size : Int) then (if (catS (catS (cutS a2 0 ((ji7) : Int).toNat) t144) (⟨#[59]⟩ : ByteArray)).size + (cutS a3 0 ((mn (a3.size : Int) 9) : Int).toNat).size ≤ 9223372036854775807 then ((digit_Read.f k (catS (catS (catS (cutS a2 0 ((ji7) : Int).toNat) t144) (⟨#[59]⟩ : ByteArray)) (cutS a3 0 ((mn (a3.size : Int) 9) : Int).toNat)) ((cutS a2 0 ((ji7) : Int).toNat).size : Int)).bind fun bt145 => ((digit_Dec.f k t142).bind fun t148 => ((digit_ReadDec.f k t148).bind fun bt149 => ((digit_Put.f k 1073741824).bind fun t151 => (if t151.size + 1 ≤ 9223372036854775807 then ((digit_Read.f k (catS t151 (⟨#[48]⟩ : ByteArray)) 0).bind fun bt152 => ((digit_Put.f k t143).bind fun t155 => ((digit_Put.f k (wrap64 (t143 + 1))).bind fun t156 => (if bt145.2.2 = true then (if bt145.1 = t142 then (if bt145.2.1 = (wrap64 (((cutS a2 0 ((ji7) : Int).toNat).size : Int) + (t144.size : Int))) then (if bt149.2 = true then (if bt149.1 = t142 then (if bt152.2.2 = true then (some false) else (if (t144.size : Int) ≥ 1 then (if (t144.size : Int) ≤ 6 then (if t155.toList = t156.toList then (some false) else (if (t155.size : Int) ≤ (t156.size : Int) then ((digit_Put.f k (-1)).bind fun t157 => (if t157.toList = ([] : List UInt8) then ((digit_Dec.f k 1073741825).bind fun t158 => (if t158.toList = ([] : List UInt8) then ((ammonitelaw2_DigitRuns.f k).bind fun t159 => (some t159)) else (some false))) else (some false))) else (some false))) else (some false)) else (some false))) else (some false)) else (some false)) else (some false)) else (some false)) else (some false))))) else (none)))))) else (none)) else (none)) else (none)) else (none)) else (none))) else (none)) else (none)) = some r := by first | (rw [hji7] at H; exact H) | (simp only [hji7] at H ⊢; exact H)
  (try rw [hji7] at A5)
  (try rw [hji7] at A6)
  (try (have hji7h : ji7 ≤ 9 := by (rw [← hji7]; unfold mn; (repeat' split) <;> omega)))
  (try (have hji7g : ji7 ≤ 64 := by omega))
  (try (have hji7l : 0 ≤ ji7 := by (rw [← hji7]; unfold mn; (repeat' split) <;> omega)))
  (try (have hji7m : 0 ≤ ji7 := by omega))
  have hji7_ : (if 9 < (a2.size : Int) then 9 else (a2.size : Int)) = ji7 := hji7
  by_cases c8 : 0 ≤ (ji7)
  · rw [if_pos c8] at H
    have c8b0 := eq_true c8
    have c8b1 : decide (0 ≤ (ji7)) = true := decide_eq_true c8
    clear c8
    by_cases c9 : (ji7) ≤ (a2.size : Int)
    · rw [if_pos c9] at H
      have c9b0 := eq_true c9
      have c9b1 : decide ((ji7) ≤ (a2.size : Int)) = true := decide_eq_true c9
      clear c9
      replace H := Option.bind_eq_some_iff.mp H
      obtain ⟨t144, A100, H⟩ := H
      replace H : (if (cutS a2 0 ((ji7) : Int).toNat).size + t144.size ≤ 9223372036854775807 then (if (catS (cutS a2 0 ((ji7) : Int).toNat) t144).size + 1 ≤ 9223372036854775807 then (if 0 ≤ (mn (a3.size : Int) 9) then (if (mn (a3.size : Int) 9) ≤ (a3.size : Int) then (if (catS (catS (cutS a2 0 ((ji7) : Int).toNat) t144) (⟨#[59]⟩ : ByteArray)).size + (cutS a3 0 ((mn (a3.size : Int) 9) : Int).toNat).size ≤ 9223372036854775807 then ((digit_Read.f k (catS (catS (catS (cutS a2 0 ((ji7) : Int).toNat) t144) (⟨#[59]⟩ : ByteArray)) (cutS a3 0 ((mn (a3.size : Int) 9) : Int).toNat)) ((cutS a2 0 ((ji7) : Int).toNat).size : Int)).bind fun bt145 => ((digit_Dec.f k t142).bind fun t148 => ((digit_ReadDec.f k t148).bind fun bt149 => ((digit_Put.f k 1073741824).bind fun t151 => (if t151.size + 1 ≤ 9223372036854775807 then ((digit_Read.f k (catS t151 (⟨#[48]⟩ : ByteArray)) 0).bind fun bt152 => ((digit_Put.f k t143).bind fun t155 => ((digit_Put.f k (wrap64 (t143 + 1))).bind fun t156 => (if bt145.2.2 = true then (if bt145.1 = t142 then (if bt145.2.1 = (wrap64 (((cutS a2 0 ((ji7) : Int).toNat).size : Int) + (t144.size : Int))) then (if bt149.2 = true then (if bt149.1 = t142 then (if bt152.2.2 = true then (some false) else (if (t144.size : Int) ≥ 1 then (if (t144.size : Int) ≤ 6 then (if t155.toList = t156.toList then (some false) else (if (t155.size : Int) ≤ (t156.size : Int) then ((digit_Put.f k (-1)).bind fun t157 => (if t157.toList = ([] : List UInt8) then ((digit_Dec.f k 1073741825).bind fun t158 => (if t158.toList = ([] : List UInt8) then ((ammonitelaw2_DigitRuns.f k).bind fun t159 => (some t159)) else (some false))) else (some false))) else (some false))) else (some false)) else (some false))) else (some false)) else (some false)) else (some false)) else (some false)) else (some false))))) else (none)))))) else (none)) else (none)) else (none)) else (none)) else (none)) = some r := H
      have A10 := Aside0.mk A100
      clear A100
      by_cases c11 : (cutS a2 0 ((ji7) : Int).toNat).size + t144.size ≤ 9223372036854775807
      · rw [if_pos c11] at H
        have c11b0 := eq_true c11
        have c11b1 : decide ((cutS a2 0 ((ji7) : Int).toNat).size + t144.size ≤ 9223372036854775807) = true := decide_eq_true c11
        try have c11b2 : (9223372036854775807 < (cutS a2 0 ((ji7) : Int).toNat).size + t144.size) = False := eq_false (Nat.not_lt.2 c11)
        clear c11
        by_cases c12 : (catS (cutS a2 0 ((ji7) : Int).toNat) t144).size + 1 ≤ 9223372036854775807
        · rw [if_pos c12] at H
          have c12b0 := eq_true c12
          have c12b1 : decide ((catS (cutS a2 0 ((ji7) : Int).toNat) t144).size + 1 ≤ 9223372036854775807) = true := decide_eq_true c12
          try have c12b2 : (9223372036854775807 < (catS (cutS a2 0 ((ji7) : Int).toNat) t144).size + 1) = False := eq_false (Nat.not_lt.2 c12)
          clear c12
          obtain ⟨ji13, hji13⟩ : ∃ j_ : Int, (mn (a3.size : Int) 9) = j_ := ⟨_, rfl⟩
          replace H : (if 0 ≤ (ji13) then (if (ji13) ≤ (a3.size : Int) then (if (catS (catS (cutS a2 0 ((ji7) : Int).toNat) t144) (⟨#[59]⟩ : ByteArray)).size + (cutS a3 0 ((ji13) : Int).toNat).size ≤ 9223372036854775807 then ((digit_Read.f k (catS (catS (catS (cutS a2 0 ((ji7) : Int).toNat) t144) (⟨#[59]⟩ : ByteArray)) (cutS a3 0 ((ji13) : Int).toNat)) ((cutS a2 0 ((ji7) : Int).toNat).size : Int)).bind fun bt145 => ((digit_Dec.f k t142).bind fun t148 => ((digit_ReadDec.f k t148).bind fun bt149 => ((digit_Put.f k 1073741824).bind fun t151 => (if t151.size + 1 ≤ 9223372036854775807 then ((digit_Read.f k (catS t151 (⟨#[48]⟩ : ByteArray)) 0).bind fun bt152 => ((digit_Put.f k t143).bind fun t155 => ((digit_Put.f k (wrap64 (t143 + 1))).bind fun t156 => (if bt145.2.2 = true then (if bt145.1 = t142 then (if bt145.2.1 = (wrap64 (((cutS a2 0 ((ji7) : Int).toNat).size : Int) + (t144.size : Int))) then (if bt149.2 = true then (if bt149.1 = t142 then (if bt152.2.2 = true then (some false) else (if (t144.size : Int) ≥ 1 then (if (t144.size : Int) ≤ 6 then (if t155.toList = t156.toList then (some false) else (if (t155.size : Int) ≤ (t156.size : Int) then ((digit_Put.f k (-1)).bind fun t157 => (if t157.toList = ([] : List UInt8) then ((digit_Dec.f k 1073741825).bind fun t158 => (if t158.toList = ([] : List UInt8) then ((ammonitelaw2_DigitRuns.f k).bind fun t159 => (some t159)) else (some false))) else (some false))) else (some false))) else (some false)) else (some false))) else (some false)) else (some false)) else (some false)) else (some false)) else (some false))))) else (none)))))) else (none)) else (none)) else (none)) = some r := by first | (rw [hji13] at H; exact H) | (simp only [hji13] at H ⊢; exact H)
          (try rw [hji13] at A5)
          (try rw [hji13] at A6)
          (try rw [hji13] at A10)
          (try (have hji13h : ji13 ≤ 9 := by (rw [← hji13]; unfold mn; (repeat' split) <;> omega)))
          (try (have hji13g : ji13 ≤ 64 := by omega))
          (try (have hji13l : 0 ≤ ji13 := by (rw [← hji13]; unfold mn; (repeat' split) <;> omega)))
          (try (have hji13m : 0 ≤ ji13 := by omega))
          have hji13_ : (if 9 < (a3.size : Int) then 9 else (a3.size : Int)) = ji13 := hji13
          by_cases c14 : 0 ≤ (ji13)
          · rw [if_pos c14] at H
            have c14b0 := eq_true c14
            have c14b1 : decide (0 ≤ (ji13)) = true := decide_eq_true c14
            clear c14
            by_cases c15 : (ji13) ≤ (a3.size : Int)
            · rw [if_pos c15] at H
              have c15b0 := eq_true c15
              have c15b1 : decide ((ji13) ≤ (a3.size : Int)) = true := decide_eq_true c15
              clear c15
              by_cases c16 : (catS (catS (cutS a2 0 ((ji7) : Int).toNat) t144) (⟨#[59]⟩ : ByteArray)).size + (cutS a3 0 ((ji13) : Int).toNat).size ≤ 9223372036854775807
              · rw [if_pos c16] at H
                have c16b0 := eq_true c16
                have c16b1 : decide ((catS (catS (cutS a2 0 ((ji7) : Int).toNat) t144) (⟨#[59]⟩ : ByteArray)).size + (cutS a3 0 ((ji13) : Int).toNat).size ≤ 9223372036854775807) = true := decide_eq_true c16
                try have c16b2 : (9223372036854775807 < (catS (catS (cutS a2 0 ((ji7) : Int).toNat) t144) (⟨#[59]⟩ : ByteArray)).size + (cutS a3 0 ((ji13) : Int).toNat).size) = False := eq_false (Nat.not_lt.2 c16)
                clear c16
                replace H := Option.bind_eq_some_iff.mp H
                obtain ⟨⟨t145, t146, t147⟩, A170, H⟩ := H
                replace H : ((digit_Dec.f k t142).bind fun t148 => ((digit_ReadDec.f k t148).bind fun bt149 => ((digit_Put.f k 1073741824).bind fun t151 => (if t151.size + 1 ≤ 9223372036854775807 then ((digit_Read.f k (catS t151 (⟨#[48]⟩ : ByteArray)) 0).bind fun bt152 => ((digit_Put.f k t143).bind fun t155 => ((digit_Put.f k (wrap64 (t143 + 1))).bind fun t156 => (if t147 = true then (if t145 = t142 then (if t146 = (wrap64 (((cutS a2 0 ((ji7) : Int).toNat).size : Int) + (t144.size : Int))) then (if bt149.2 = true then (if bt149.1 = t142 then (if bt152.2.2 = true then (some false) else (if (t144.size : Int) ≥ 1 then (if (t144.size : Int) ≤ 6 then (if t155.toList = t156.toList then (some false) else (if (t155.size : Int) ≤ (t156.size : Int) then ((digit_Put.f k (-1)).bind fun t157 => (if t157.toList = ([] : List UInt8) then ((digit_Dec.f k 1073741825).bind fun t158 => (if t158.toList = ([] : List UInt8) then ((ammonitelaw2_DigitRuns.f k).bind fun t159 => (some t159)) else (some false))) else (some false))) else (some false))) else (some false)) else (some false))) else (some false)) else (some false)) else (some false)) else (some false)) else (some false))))) else (none))))) = some r := H
                have A17 := Aside0.mk A170
                clear A170
                replace H := Option.bind_eq_some_iff.mp H
                obtain ⟨t148, A180, H⟩ := H
                replace H : ((digit_ReadDec.f k t148).bind fun bt149 => ((digit_Put.f k 1073741824).bind fun t151 => (if t151.size + 1 ≤ 9223372036854775807 then ((digit_Read.f k (catS t151 (⟨#[48]⟩ : ByteArray)) 0).bind fun bt152 => ((digit_Put.f k t143).bind fun t155 => ((digit_Put.f k (wrap64 (t143 + 1))).bind fun t156 => (if t147 = true then (if t145 = t142 then (if t146 = (wrap64 (((cutS a2 0 ((ji7) : Int).toNat).size : Int) + (t144.size : Int))) then (if bt149.2 = true then (if bt149.1 = t142 then (if bt152.2.2 = true then (some false) else (if (t144.size : Int) ≥ 1 then (if (t144.size : Int) ≤ 6 then (if t155.toList = t156.toList then (some false) else (if (t155.size : Int) ≤ (t156.size : Int) then ((digit_Put.f k (-1)).bind fun t157 => (if t157.toList = ([] : List UInt8) then ((digit_Dec.f k 1073741825).bind fun t158 => (if t158.toList = ([] : List UInt8) then ((ammonitelaw2_DigitRuns.f k).bind fun t159 => (some t159)) else (some false))) else (some false))) else (some false))) else (some false)) else (some false))) else (some false)) else (some false)) else (some false)) else (some false)) else (some false))))) else (none)))) = some r := H
                have A18 := Aside0.mk A180
                clear A180
                replace H := Option.bind_eq_some_iff.mp H
                obtain ⟨⟨t149, t150⟩, A190, H⟩ := H
                replace H : ((digit_Put.f k 1073741824).bind fun t151 => (if t151.size + 1 ≤ 9223372036854775807 then ((digit_Read.f k (catS t151 (⟨#[48]⟩ : ByteArray)) 0).bind fun bt152 => ((digit_Put.f k t143).bind fun t155 => ((digit_Put.f k (wrap64 (t143 + 1))).bind fun t156 => (if t147 = true then (if t145 = t142 then (if t146 = (wrap64 (((cutS a2 0 ((ji7) : Int).toNat).size : Int) + (t144.size : Int))) then (if t150 = true then (if t149 = t142 then (if bt152.2.2 = true then (some false) else (if (t144.size : Int) ≥ 1 then (if (t144.size : Int) ≤ 6 then (if t155.toList = t156.toList then (some false) else (if (t155.size : Int) ≤ (t156.size : Int) then ((digit_Put.f k (-1)).bind fun t157 => (if t157.toList = ([] : List UInt8) then ((digit_Dec.f k 1073741825).bind fun t158 => (if t158.toList = ([] : List UInt8) then ((ammonitelaw2_DigitRuns.f k).bind fun t159 => (some t159)) else (some false))) else (some false))) else (some false))) else (some false)) else (some false))) else (some false)) else (some false)) else (some false)) else (some false)) else (some false))))) else (none))) = some r := H
                have A19 := Aside0.mk A190
                clear A190
                replace H := Option.bind_eq_some_iff.mp H
                obtain ⟨t151, A200, H⟩ := H
                replace H : (if t151.size + 1 ≤ 9223372036854775807 then ((digit_Read.f k (catS t151 (⟨#[48]⟩ : ByteArray)) 0).bind fun bt152 => ((digit_Put.f k t143).bind fun t155 => ((digit_Put.f k (wrap64 (t143 + 1))).bind fun t156 => (if t147 = true then (if t145 = t142 then (if t146 = (wrap64 (((cutS a2 0 ((ji7) : Int).toNat).size : Int) + (t144.size : Int))) then (if t150 = true then (if t149 = t142 then (if bt152.2.2 = true then (some false) else (if (t144.size : Int) ≥ 1 then (if (t144.size : Int) ≤ 6 then (if t155.toList = t156.toList then (some false) else (if (t155.size : Int) ≤ (t156.size : Int) then ((digit_Put.f k (-1)).bind fun t157 => (if t157.toList = ([] : List UInt8) then ((digit_Dec.f k 1073741825).bind fun t158 => (if t158.toList = ([] : List UInt8) then ((ammonitelaw2_DigitRuns.f k).bind fun t159 => (some t159)) else (some false))) else (some false))) else (some false))) else (some false)) else (some false))) else (some false)) else (some false)) else (some false)) else (some false)) else (some false))))) else (none)) = some r := H
                have A20 := Aside0.mk A200
                clear A200
                by_cases c21 : t151.size + 1 ≤ 9223372036854775807
                · rw [if_pos c21] at H
                  have c21b0 := eq_true c21
                  have c21b1 : decide (t151.size + 1 ≤ 9223372036854775807) = true := decide_eq_true c21
                  try have c21b2 : (9223372036854775807 < t151.size + 1) = False := eq_false (Nat.not_lt.2 c21)
                  clear c21
                  replace H := Option.bind_eq_some_iff.mp H
                  obtain ⟨⟨t152, t153, t154⟩, A220, H⟩ := H
                  replace H : ((digit_Put.f k t143).bind fun t155 => ((digit_Put.f k (wrap64 (t143 + 1))).bind fun t156 => (if t147 = true then (if t145 = t142 then (if t146 = (wrap64 (((cutS a2 0 ((ji7) : Int).toNat).size : Int) + (t144.size : Int))) then (if t150 = true then (if t149 = t142 then (if t154 = true then (some false) else (if (t144.size : Int) ≥ 1 then (if (t144.size : Int) ≤ 6 then (if t155.toList = t156.toList then (some false) else (if (t155.size : Int) ≤ (t156.size : Int) then ((digit_Put.f k (-1)).bind fun t157 => (if t157.toList = ([] : List UInt8) then ((digit_Dec.f k 1073741825).bind fun t158 => (if t158.toList = ([] : List UInt8) then ((ammonitelaw2_DigitRuns.f k).bind fun t159 => (some t159)) else (some false))) else (some false))) else (some false))) else (some false)) else (some false))) else (some false)) else (some false)) else (some false)) else (some false)) else (some false)))) = some r := H
                  have A22 := Aside0.mk A220
                  clear A220
                  replace H := Option.bind_eq_some_iff.mp H
                  obtain ⟨t155, A230, H⟩ := H
                  replace H : ((digit_Put.f k (wrap64 (t143 + 1))).bind fun t156 => (if t147 = true then (if t145 = t142 then (if t146 = (wrap64 (((cutS a2 0 ((ji7) : Int).toNat).size : Int) + (t144.size : Int))) then (if t150 = true then (if t149 = t142 then (if t154 = true then (some false) else (if (t144.size : Int) ≥ 1 then (if (t144.size : Int) ≤ 6 then (if t155.toList = t156.toList then (some false) else (if (t155.size : Int) ≤ (t156.size : Int) then ((digit_Put.f k (-1)).bind fun t157 => (if t157.toList = ([] : List UInt8) then ((digit_Dec.f k 1073741825).bind fun t158 => (if t158.toList = ([] : List UInt8) then ((ammonitelaw2_DigitRuns.f k).bind fun t159 => (some t159)) else (some false))) else (some false))) else (some false))) else (some false)) else (some false))) else (some false)) else (some false)) else (some false)) else (some false)) else (some false))) = some r := H
                  have A23 := Aside0.mk A230
                  clear A230
                  replace H := Option.bind_eq_some_iff.mp H
                  obtain ⟨t156, A240, H⟩ := H
                  replace H : (if t147 = true then (if t145 = t142 then (if t146 = (wrap64 (((cutS a2 0 ((ji7) : Int).toNat).size : Int) + (t144.size : Int))) then (if t150 = true then (if t149 = t142 then (if t154 = true then (some false) else (if (t144.size : Int) ≥ 1 then (if (t144.size : Int) ≤ 6 then (if t155.toList = t156.toList then (some false) else (if (t155.size : Int) ≤ (t156.size : Int) then ((digit_Put.f k (-1)).bind fun t157 => (if t157.toList = ([] : List UInt8) then ((digit_Dec.f k 1073741825).bind fun t158 => (if t158.toList = ([] : List UInt8) then ((ammonitelaw2_DigitRuns.f k).bind fun t159 => (some t159)) else (some false))) else (some false))) else (some false))) else (some false)) else (some false))) else (some false)) else (some false)) else (some false)) else (some false)) else (some false)) = some r := H
                  have A24 := Aside0.mk A240
                  clear A240
                  by_cases c25 : t147 = true
                  · subst c25
                    have H1 : (if t145 = t142 then (if t146 = (wrap64 (((cutS a2 0 ((ji7) : Int).toNat).size : Int) + (t144.size : Int))) then (if t150 = true then (if t149 = t142 then (if t154 = true then (some false) else (if (t144.size : Int) ≥ 1 then (if (t144.size : Int) ≤ 6 then (if t155.toList = t156.toList then (some false) else (if (t155.size : Int) ≤ (t156.size : Int) then ((digit_Put.f k (-1)).bind fun t157 => (if t157.toList = ([] : List UInt8) then ((digit_Dec.f k 1073741825).bind fun t158 => (if t158.toList = ([] : List UInt8) then ((ammonitelaw2_DigitRuns.f k).bind fun t159 => (some t159)) else (some false))) else (some false))) else (some false))) else (some false)) else (some false))) else (some false)) else (some false)) else (some false)) else (some false)) = some r := by rw [if_pos rfl] at H; exact H
                    clear H
                    have H := H1
                    clear H1
                    by_cases c26 : t145 = t142
                    · rw [if_pos c26] at H
                      have c26b0 : (t145 == t142) = true := beq_iff_eq.mpr c26
                      have c26b1 : (t145 != t142) = false := bne_eq_false_iff_eq.mpr c26
                      clear c26
                      by_cases c27 : t146 = (wrap64 (((cutS a2 0 ((ji7) : Int).toNat).size : Int) + (t144.size : Int)))
                      · rw [if_pos c27] at H
                        have c27b0 : (t146 == (wrap64 (((cutS a2 0 ((ji7) : Int).toNat).size : Int) + (t144.size : Int)))) = true := beq_iff_eq.mpr c27
                        have c27b1 : (t146 != (wrap64 (((cutS a2 0 ((ji7) : Int).toNat).size : Int) + (t144.size : Int)))) = false := bne_eq_false_iff_eq.mpr c27
                        clear c27
                        by_cases c28 : t150 = true
                        · subst c28
                          have H1 : (if t149 = t142 then (if t154 = true then (some false) else (if (t144.size : Int) ≥ 1 then (if (t144.size : Int) ≤ 6 then (if t155.toList = t156.toList then (some false) else (if (t155.size : Int) ≤ (t156.size : Int) then ((digit_Put.f k (-1)).bind fun t157 => (if t157.toList = ([] : List UInt8) then ((digit_Dec.f k 1073741825).bind fun t158 => (if t158.toList = ([] : List UInt8) then ((ammonitelaw2_DigitRuns.f k).bind fun t159 => (some t159)) else (some false))) else (some false))) else (some false))) else (some false)) else (some false))) else (some false)) = some r := by rw [if_pos rfl] at H; exact H
                          clear H
                          have H := H1
                          clear H1
                          by_cases c29 : t149 = t142
                          · rw [if_pos c29] at H
                            have c29b0 : (t149 == t142) = true := beq_iff_eq.mpr c29
                            have c29b1 : (t149 != t142) = false := bne_eq_false_iff_eq.mpr c29
                            clear c29
                            by_cases c30 : t154 = true
                            · subst c30
                              have H1 : (some false) = some r := by rw [if_pos rfl] at H; exact H
                              clear H
                              have H := H1
                              clear H1
                              exact absurd ((Option.some.inj H).trans HRT.out) Bool.false_ne_true
                            · replace c30 := Bool.eq_false_iff.mpr c30
                              subst c30
                              have H1 : (if (t144.size : Int) ≥ 1 then (if (t144.size : Int) ≤ 6 then (if t155.toList = t156.toList then (some false) else (if (t155.size : Int) ≤ (t156.size : Int) then ((digit_Put.f k (-1)).bind fun t157 => (if t157.toList = ([] : List UInt8) then ((digit_Dec.f k 1073741825).bind fun t158 => (if t158.toList = ([] : List UInt8) then ((ammonitelaw2_DigitRuns.f k).bind fun t159 => (some t159)) else (some false))) else (some false))) else (some false))) else (some false)) else (some false)) = some r := by rw [if_neg (show ¬ (false = true) by decide)] at H; exact H
                              clear H
                              have H := H1
                              clear H1
                              by_cases c31 : (t144.size : Int) ≥ 1
                              · rw [if_pos c31] at H
                                have c31b0 : decide (1 ≤ (t144.size : Int)) = true := decide_eq_true c31
                                have c31b1 : decide (1 ≤ t144.size) = true := decide_eq_true (by omega)
                                clear c31
                                by_cases c32 : (t144.size : Int) ≤ 6
                                · rw [if_pos c32] at H
                                  have c32b0 : decide ((t144.size : Int) ≤ 6) = true := decide_eq_true c32
                                  have c32b1 : decide (t144.size ≤ 6) = true := decide_eq_true (by omega)
                                  clear c32
                                  by_cases c33 : t155.toList = t156.toList
                                  · rw [if_pos c33] at H
                                    have c33b0 : (t155.toList == t156.toList) = true := beq_iff_eq.mpr c33
                                    have c33b1 : (t155.toList != t156.toList) = false := bne_eq_false_iff_eq.mpr c33
                                    clear c33
                                    exact absurd ((Option.some.inj H).trans HRT.out) Bool.false_ne_true
                                  · rw [if_neg c33] at H
                                    have c33b0 : (t155.toList == t156.toList) = false := beq_eq_false_iff_ne.mpr c33
                                    have c33b1 : (t155.toList != t156.toList) = true := bne_iff_ne.mpr c33
                                    by_cases c34 : (t155.size : Int) ≤ (t156.size : Int)
                                    · rw [if_pos c34] at H
                                      have c34b0 : decide ((t155.size : Int) ≤ (t156.size : Int)) = true := decide_eq_true c34
                                      have c34b1 : decide (t155.size ≤ t156.size) = true := decide_eq_true (Int.ofNat_le.mp c34)
                                      clear c34
                                      replace H := Option.bind_eq_some_iff.mp H
                                      obtain ⟨t157, A350, H⟩ := H
                                      replace H : (if t157.toList = ([] : List UInt8) then ((digit_Dec.f k 1073741825).bind fun t158 => (if t158.toList = ([] : List UInt8) then ((ammonitelaw2_DigitRuns.f k).bind fun t159 => (some t159)) else (some false))) else (some false)) = some r := H
                                      have A35 := Aside0.mk A350
                                      clear A350
                                      by_cases c36 : t157.toList = ([] : List UInt8)
                                      · rw [if_pos c36] at H
                                        have c36b0 : (t157.toList == ([] : List UInt8)) = true := beq_iff_eq.mpr c36
                                        have c36b1 : (t157.toList != ([] : List UInt8)) = false := bne_eq_false_iff_eq.mpr c36
                                        clear c36
                                        replace H := Option.bind_eq_some_iff.mp H
                                        obtain ⟨t158, A370, H⟩ := H
                                        replace H : (if t158.toList = ([] : List UInt8) then ((ammonitelaw2_DigitRuns.f k).bind fun t159 => (some t159)) else (some false)) = some r := H
                                        have A37 := Aside0.mk A370
                                        clear A370
                                        by_cases c38 : t158.toList = ([] : List UInt8)
                                        · rw [if_pos c38] at H
                                          have c38b0 : (t158.toList == ([] : List UInt8)) = true := beq_iff_eq.mpr c38
                                          have c38b1 : (t158.toList != ([] : List UInt8)) = false := bne_eq_false_iff_eq.mpr c38
                                          clear c38
                                          replace H := Option.bind_eq_some_iff.mp H
                                          obtain ⟨t159, A390, H⟩ := H
                                          replace H : (some t159) = some r := H
                                          have A39 := Aside0.mk A390
                                          clear A390
                                          obtain rfl := Option.some.inj H
                                          go_enter Try.func5, Try.ntmps5
                                          go_wp2_with (first | ((with_reducible refine gate_callee (f := 17) rfl ?_); refine goesL_ (some 24) rfl rfl Try.func17 (by kernel_rfl) rfl #[.int .i64 a0, .int .i64 0, .int .i64 1073741824] rfl (by (try simp only [List.map_toArray, List.map_cons, List.map_nil]); first | done | rfl | (simp only [List.length_drop, List.length_take]; rfl)) ?_; (with_reducible refine (ammonitebook_Within.calls a0 0 1073741824 t142 _ A5.out).mono ?_); rintro e w' ⟨rfl, ⟨nd, rfl⟩⟩; refine ⟨_, rfl, ?_⟩) | ((with_reducible refine gate_callee (f := 17) rfl ?_); refine goesL_ (some 26) rfl rfl Try.func17 (by kernel_rfl) rfl #[.int .i64 a1, .int .i64 0, .int .i64 5000] rfl (by (try simp only [List.map_toArray, List.map_cons, List.map_nil]); first | done | rfl | (simp only [List.length_drop, List.length_take]; rfl)) ?_; (with_reducible refine (ammonitebook_Within.calls a1 0 5000 t143 _ A6.out).mono ?_); rintro e w' ⟨rfl, ⟨nd, rfl⟩⟩; refine ⟨_, rfl, ?_⟩) | ((with_reducible refine gate_callee (f := 15) rfl ?_); refine goesL_ (some 33) rfl rfl Try.func15 (by kernel_rfl) rfl #[.int .i64 t142] rfl (by (try simp only [List.map_toArray, List.map_cons, List.map_nil]); first | done | rfl | (simp only [List.length_drop, List.length_take]; rfl)) ?_; (with_reducible refine (digit_Put.calls k t142 t144 _ A10.out).mono ?_); rintro e w' ⟨rfl, ⟨nd, rfl⟩⟩; refine ⟨_, rfl, ?_⟩) | ((with_reducible refine gate_callee (f := 13) rfl ?_); refine goesL_ (some 48) rfl rfl Try.func13 (by kernel_rfl) rfl #[.string (catS (catS (catS (cutS a2 0 ((ji7) : Int).toNat) t144) (⟨#[59]⟩ : ByteArray)) (cutS a3 0 ((ji13) : Int).toNat)), .int .i64 ((cutS a2 0 ((ji7) : Int).toNat).size : Int)] rfl (by (try simp only [List.map_toArray, List.map_cons, List.map_nil]); first | done | (simp only [hji13, hji7]; rfl) | rfl | (simp only [List.length_drop, List.length_take]; rfl)) ?_; (with_reducible refine (digit_Read.calls k (catS (catS (catS (cutS a2 0 ((ji7) : Int).toNat) t144) (⟨#[59]⟩ : ByteArray)) (cutS a3 0 ((ji13) : Int).toNat)) ((cutS a2 0 ((ji7) : Int).toNat).size : Int) t145 t146 true _ A17.out).mono ?_); rintro e w' ⟨rfl, ⟨nd, rfl⟩⟩; refine ⟨_, rfl, ?_⟩) | ((with_reducible refine gate_callee (f := 16) rfl ?_); refine goesL_ (some 54) rfl rfl Try.func16 (by kernel_rfl) rfl #[.int .i64 t142] rfl (by (try simp only [List.map_toArray, List.map_cons, List.map_nil]); first | done | rfl | (simp only [List.length_drop, List.length_take]; rfl)) ?_; (with_reducible refine (digit_Dec.calls k t142 t148 _ A18.out).mono ?_); rintro e w40 ⟨rfl, hb⟩; refine ⟨_, rfl, ?_⟩; have n0_ := Aside0.mk (below_step (by repeat (first | (with_reducible first | exact HB.out | apply below_alloc | apply pw_below_drewN | apply below_drew1) | exact HB.out)) hb); clear HB; have HB := n0_; clear n0_; (try clear hb); (try clear hb2); (try clear hk); (try clear hi)) | ((with_reducible refine gate_callee (f := 14) rfl ?_); refine goesL_ (some 55) rfl rfl Try.func14 (by kernel_rfl) rfl #[.string t148] rfl (by (try simp only [List.map_toArray, List.map_cons, List.map_nil]); first | done | rfl | (simp only [List.length_drop, List.length_take]; rfl)) ?_; (with_reducible refine (digit_ReadDec.calls k t148 t149 true _ A19.out).mono ?_); rintro e w41 ⟨rfl, hb⟩; refine ⟨_, rfl, ?_⟩; have n0_ := Aside0.mk (below_step (by repeat (first | (with_reducible first | exact HB.out | apply below_alloc | apply pw_below_drewN | apply below_drew1) | exact HB.out)) hb); clear HB; have HB := n0_; clear n0_; (try clear hb); (try clear hb2); (try clear hk); (try clear hi)) | ((with_reducible refine gate_callee (f := 15) rfl ?_); refine goesL_ (some 59) rfl rfl Try.func15 (by kernel_rfl) rfl #[.int .i64 1073741824] rfl (by (try simp only [List.map_toArray, List.map_cons, List.map_nil]); first | done | rfl | (simp only [List.length_drop, List.length_take]; rfl)) ?_; (with_reducible refine (digit_Put.calls k 1073741824 t151 _ A20.out).mono ?_); rintro e w' ⟨rfl, ⟨nd, rfl⟩⟩; refine ⟨_, rfl, ?_⟩) | ((with_reducible refine gate_callee (f := 13) rfl ?_); refine goesL_ (some 61) rfl rfl Try.func13 (by kernel_rfl) rfl #[.string (catS t151 (⟨#[48]⟩ : ByteArray)), .int .i64 0] rfl (by (try simp only [List.map_toArray, List.map_cons, List.map_nil]); first | done | rfl | (simp only [List.length_drop, List.length_take]; rfl)) ?_; (with_reducible refine (digit_Read.calls k (catS t151 (⟨#[48]⟩ : ByteArray)) 0 t152 t153 false _ A22.out).mono ?_); rintro e w' ⟨rfl, ⟨nd, rfl⟩⟩; refine ⟨_, rfl, ?_⟩) | ((with_reducible refine gate_callee (f := 15) rfl ?_); refine goesL_ (some 66) rfl rfl Try.func15 (by kernel_rfl) rfl #[.int .i64 t143] rfl (by (try simp only [List.map_toArray, List.map_cons, List.map_nil]); first | done | rfl | (simp only [List.length_drop, List.length_take]; rfl)) ?_; (with_reducible refine (digit_Put.calls k t143 t155 _ A23.out).mono ?_); rintro e w' ⟨rfl, ⟨nd, rfl⟩⟩; refine ⟨_, rfl, ?_⟩) | ((with_reducible refine gate_callee (f := 15) rfl ?_); refine goesL_ (some 69) rfl rfl Try.func15 (by kernel_rfl) rfl #[.int .i64 (wrap64 (t143 + 1))] rfl (by (try simp only [List.map_toArray, List.map_cons, List.map_nil]); first | done | rfl | (simp only [List.length_drop, List.length_take]; rfl)) ?_; (with_reducible refine (digit_Put.calls k (wrap64 (t143 + 1)) t156 _ A24.out).mono ?_); rintro e w' ⟨rfl, ⟨nd, rfl⟩⟩; refine ⟨_, rfl, ?_⟩) | (go_at_call 15; (with_reducible refine (digit_Put.calls k (-1) t157 _ A35.out).mono ?_); rintro e w' ⟨rfl, ⟨nd, rfl⟩⟩) | (go_at_call 16; (with_reducible refine (digit_Dec.calls k 1073741825 t158 _ A37.out).mono ?_); rintro e w42 ⟨rfl, hb⟩; have n0_ := Aside0.mk (below_step (by repeat (first | (with_reducible first | exact HB.out | apply below_alloc | apply pw_below_drewN | apply below_drew1) | exact HB.out)) hb); clear HB; have HB := n0_; clear n0_; (try clear hb); (try clear hb2); (try clear hk); (try clear hi)) | (go_at_call 3; (with_reducible refine (ammonitelaw2_DigitRuns.calls k  t159 _ A39.out).mono ?_); rintro e w43 ⟨rfl, hb⟩; have n0_ := Aside0.mk (below_step (by repeat (first | (with_reducible first | exact HB.out | apply below_alloc | apply pw_below_drewN | apply below_drew1) | exact HB.out)) hb); clear HB; have HB := n0_; clear n0_; (try clear hb); (try clear hb2); (try clear hk); (try clear hi)))
                                          go_ret
                                          exact ⟨by first | rfl | (simp [errW_none, errW_some] <;> rfl) | (simp only [← hji7, ← hji13]; first | rfl | (simp [errW_none, errW_some] <;> rfl)) | (simp [*, errW_none, errW_some] <;> rfl), by repeat (first | (with_reducible first | exact HB.out | apply below_alloc | apply pw_below_drewN | apply below_drew1) | exact HB.out)⟩
                                          all_goals (exfalso; (try simp only [beq_iff_eq, bne_iff_ne, ne_eq, decide_eq_true_eq, decide_eq_false_iff_not, decide_eq_decide, bne_eq_false_iff_eq, beq_eq_false_iff_ne, Bool.not_eq_true, Bool.not_eq_false, Bool.not_eq_true', Bool.not_eq_false', Bool.true_beq, Bool.false_beq, Bool.true_bne, Bool.false_bne, Bool.bne_true, Bool.bne_false] at c8b0); (try simp only [beq_iff_eq, bne_iff_ne, ne_eq, decide_eq_true_eq, decide_eq_false_iff_not, decide_eq_decide, bne_eq_false_iff_eq, beq_eq_false_iff_ne, Bool.not_eq_true, Bool.not_eq_false, Bool.not_eq_true', Bool.not_eq_false', Bool.true_beq, Bool.false_beq, Bool.true_bne, Bool.false_bne, Bool.bne_true, Bool.bne_false] at c8b1); (try simp only [beq_iff_eq, bne_iff_ne, ne_eq, decide_eq_true_eq, decide_eq_false_iff_not, decide_eq_decide, bne_eq_false_iff_eq, beq_eq_false_iff_ne, Bool.not_eq_true, Bool.not_eq_false, Bool.not_eq_true', Bool.not_eq_false', Bool.true_beq, Bool.false_beq, Bool.true_bne, Bool.false_bne, Bool.bne_true, Bool.bne_false] at c9b0); (try simp only [beq_iff_eq, bne_iff_ne, ne_eq, decide_eq_true_eq, decide_eq_false_iff_not, decide_eq_decide, bne_eq_false_iff_eq, beq_eq_false_iff_ne, Bool.not_eq_true, Bool.not_eq_false, Bool.not_eq_true', Bool.not_eq_false', Bool.true_beq, Bool.false_beq, Bool.true_bne, Bool.false_bne, Bool.bne_true, Bool.bne_false] at c9b1); (try simp only [beq_iff_eq, bne_iff_ne, ne_eq, decide_eq_true_eq, decide_eq_false_iff_not, decide_eq_decide, bne_eq_false_iff_eq, beq_eq_false_iff_ne, Bool.not_eq_true, Bool.not_eq_false, Bool.not_eq_true', Bool.not_eq_false', Bool.true_beq, Bool.false_beq, Bool.true_bne, Bool.false_bne, Bool.bne_true, Bool.bne_false] at c11b0); (try simp only [beq_iff_eq, bne_iff_ne, ne_eq, decide_eq_true_eq, decide_eq_false_iff_not, decide_eq_decide, bne_eq_false_iff_eq, beq_eq_false_iff_ne, Bool.not_eq_true, Bool.not_eq_false, Bool.not_eq_true', Bool.not_eq_false', Bool.true_beq, Bool.false_beq, Bool.true_bne, Bool.false_bne, Bool.bne_true, Bool.bne_false] at c11b1); (try simp only [beq_iff_eq, bne_iff_ne, ne_eq, decide_eq_true_eq, decide_eq_false_iff_not, decide_eq_decide, bne_eq_false_iff_eq, beq_eq_false_iff_ne, Bool.not_eq_true, Bool.not_eq_false, Bool.not_eq_true', Bool.not_eq_false', Bool.true_beq, Bool.false_beq, Bool.true_bne, Bool.false_bne, Bool.bne_true, Bool.bne_false] at c12b0); (try simp only [beq_iff_eq, bne_iff_ne, ne_eq, decide_eq_true_eq, decide_eq_false_iff_not, decide_eq_decide, bne_eq_false_iff_eq, beq_eq_false_iff_ne, Bool.not_eq_true, Bool.not_eq_false, Bool.not_eq_true', Bool.not_eq_false', Bool.true_beq, Bool.false_beq, Bool.true_bne, Bool.false_bne, Bool.bne_true, Bool.bne_false] at c12b1); (try simp only [beq_iff_eq, bne_iff_ne, ne_eq, decide_eq_true_eq, decide_eq_false_iff_not, decide_eq_decide, bne_eq_false_iff_eq, beq_eq_false_iff_ne, Bool.not_eq_true, Bool.not_eq_false, Bool.not_eq_true', Bool.not_eq_false', Bool.true_beq, Bool.false_beq, Bool.true_bne, Bool.false_bne, Bool.bne_true, Bool.bne_false] at c14b0); (try simp only [beq_iff_eq, bne_iff_ne, ne_eq, decide_eq_true_eq, decide_eq_false_iff_not, decide_eq_decide, bne_eq_false_iff_eq, beq_eq_false_iff_ne, Bool.not_eq_true, Bool.not_eq_false, Bool.not_eq_true', Bool.not_eq_false', Bool.true_beq, Bool.false_beq, Bool.true_bne, Bool.false_bne, Bool.bne_true, Bool.bne_false] at c14b1); (try simp only [beq_iff_eq, bne_iff_ne, ne_eq, decide_eq_true_eq, decide_eq_false_iff_not, decide_eq_decide, bne_eq_false_iff_eq, beq_eq_false_iff_ne, Bool.not_eq_true, Bool.not_eq_false, Bool.not_eq_true', Bool.not_eq_false', Bool.true_beq, Bool.false_beq, Bool.true_bne, Bool.false_bne, Bool.bne_true, Bool.bne_false] at c15b0); (try simp only [beq_iff_eq, bne_iff_ne, ne_eq, decide_eq_true_eq, decide_eq_false_iff_not, decide_eq_decide, bne_eq_false_iff_eq, beq_eq_false_iff_ne, Bool.not_eq_true, Bool.not_eq_false, Bool.not_eq_true', Bool.not_eq_false', Bool.true_beq, Bool.false_beq, Bool.true_bne, Bool.false_bne, Bool.bne_true, Bool.bne_false] at c15b1); (try simp only [beq_iff_eq, bne_iff_ne, ne_eq, decide_eq_true_eq, decide_eq_false_iff_not, decide_eq_decide, bne_eq_false_iff_eq, beq_eq_false_iff_ne, Bool.not_eq_true, Bool.not_eq_false, Bool.not_eq_true', Bool.not_eq_false', Bool.true_beq, Bool.false_beq, Bool.true_bne, Bool.false_bne, Bool.bne_true, Bool.bne_false] at c16b0); (try simp only [beq_iff_eq, bne_iff_ne, ne_eq, decide_eq_true_eq, decide_eq_false_iff_not, decide_eq_decide, bne_eq_false_iff_eq, beq_eq_false_iff_ne, Bool.not_eq_true, Bool.not_eq_false, Bool.not_eq_true', Bool.not_eq_false', Bool.true_beq, Bool.false_beq, Bool.true_bne, Bool.false_bne, Bool.bne_true, Bool.bne_false] at c16b1); (try simp only [beq_iff_eq, bne_iff_ne, ne_eq, decide_eq_true_eq, decide_eq_false_iff_not, decide_eq_decide, bne_eq_false_iff_eq, beq_eq_false_iff_ne, Bool.not_eq_true, Bool.not_eq_false, Bool.not_eq_true', Bool.not_eq_false', Bool.true_beq, Bool.false_beq, Bool.true_bne, Bool.false_bne, Bool.bne_true, Bool.bne_false] at c21b0); (try simp only [beq_iff_eq, bne_iff_ne, ne_eq, decide_eq_true_eq, decide_eq_false_iff_not, decide_eq_decide, bne_eq_false_iff_eq, beq_eq_false_iff_ne, Bool.not_eq_true, Bool.not_eq_false, Bool.not_eq_true', Bool.not_eq_false', Bool.true_beq, Bool.false_beq, Bool.true_bne, Bool.false_bne, Bool.bne_true, Bool.bne_false] at c21b1); (try simp only [beq_iff_eq, bne_iff_ne, ne_eq, decide_eq_true_eq, decide_eq_false_iff_not, decide_eq_decide, bne_eq_false_iff_eq, beq_eq_false_iff_ne, Bool.not_eq_true, Bool.not_eq_false, Bool.not_eq_true', Bool.not_eq_false', Bool.true_beq, Bool.false_beq, Bool.true_bne, Bool.false_bne, Bool.bne_true, Bool.bne_false] at c26b0); (try simp only [beq_iff_eq, bne_iff_ne, ne_eq, decide_eq_true_eq, decide_eq_false_iff_not, decide_eq_decide, bne_eq_false_iff_eq, beq_eq_false_iff_ne, Bool.not_eq_true, Bool.not_eq_false, Bool.not_eq_true', Bool.not_eq_false', Bool.true_beq, Bool.false_beq, Bool.true_bne, Bool.false_bne, Bool.bne_true, Bool.bne_false] at c26b1); (try simp only [beq_iff_eq, bne_iff_ne, ne_eq, decide_eq_true_eq, decide_eq_false_iff_not, decide_eq_decide, bne_eq_false_iff_eq, beq_eq_false_iff_ne, Bool.not_eq_true, Bool.not_eq_false, Bool.not_eq_true', Bool.not_eq_false', Bool.true_beq, Bool.false_beq, Bool.true_bne, Bool.false_bne, Bool.bne_true, Bool.bne_false] at c27b0); (try simp only [beq_iff_eq, bne_iff_ne, ne_eq, decide_eq_true_eq, decide_eq_false_iff_not, decide_eq_decide, bne_eq_false_iff_eq, beq_eq_false_iff_ne, Bool.not_eq_true, Bool.not_eq_false, Bool.not_eq_true', Bool.not_eq_false', Bool.true_beq, Bool.false_beq, Bool.true_bne, Bool.false_bne, Bool.bne_true, Bool.bne_false] at c27b1); (try simp only [beq_iff_eq, bne_iff_ne, ne_eq, decide_eq_true_eq, decide_eq_false_iff_not, decide_eq_decide, bne_eq_false_iff_eq, beq_eq_false_iff_ne, Bool.not_eq_true, Bool.not_eq_false, Bool.not_eq_true', Bool.not_eq_false', Bool.true_beq, Bool.false_beq, Bool.true_bne, Bool.false_bne, Bool.bne_true, Bool.bne_false] at c29b0); (try simp only [beq_iff_eq, bne_iff_ne, ne_eq, decide_eq_true_eq, decide_eq_false_iff_not, decide_eq_decide, bne_eq_false_iff_eq, beq_eq_false_iff_ne, Bool.not_eq_true, Bool.not_eq_false, Bool.not_eq_true', Bool.not_eq_false', Bool.true_beq, Bool.false_beq, Bool.true_bne, Bool.false_bne, Bool.bne_true, Bool.bne_false] at c29b1); (try simp only [beq_iff_eq, bne_iff_ne, ne_eq, decide_eq_true_eq, decide_eq_false_iff_not, decide_eq_decide, bne_eq_false_iff_eq, beq_eq_false_iff_ne, Bool.not_eq_true, Bool.not_eq_false, Bool.not_eq_true', Bool.not_eq_false', Bool.true_beq, Bool.false_beq, Bool.true_bne, Bool.false_bne, Bool.bne_true, Bool.bne_false] at c31b0); (try simp only [beq_iff_eq, bne_iff_ne, ne_eq, decide_eq_true_eq, decide_eq_false_iff_not, decide_eq_decide, bne_eq_false_iff_eq, beq_eq_false_iff_ne, Bool.not_eq_true, Bool.not_eq_false, Bool.not_eq_true', Bool.not_eq_false', Bool.true_beq, Bool.false_beq, Bool.true_bne, Bool.false_bne, Bool.bne_true, Bool.bne_false] at c31b1); (try simp only [beq_iff_eq, bne_iff_ne, ne_eq, decide_eq_true_eq, decide_eq_false_iff_not, decide_eq_decide, bne_eq_false_iff_eq, beq_eq_false_iff_ne, Bool.not_eq_true, Bool.not_eq_false, Bool.not_eq_true', Bool.not_eq_false', Bool.true_beq, Bool.false_beq, Bool.true_bne, Bool.false_bne, Bool.bne_true, Bool.bne_false] at c32b0); (try simp only [beq_iff_eq, bne_iff_ne, ne_eq, decide_eq_true_eq, decide_eq_false_iff_not, decide_eq_decide, bne_eq_false_iff_eq, beq_eq_false_iff_ne, Bool.not_eq_true, Bool.not_eq_false, Bool.not_eq_true', Bool.not_eq_false', Bool.true_beq, Bool.false_beq, Bool.true_bne, Bool.false_bne, Bool.bne_true, Bool.bne_false] at c32b1); (try simp only [beq_iff_eq, bne_iff_ne, ne_eq, decide_eq_true_eq, decide_eq_false_iff_not, decide_eq_decide, bne_eq_false_iff_eq, beq_eq_false_iff_ne, Bool.not_eq_true, Bool.not_eq_false, Bool.not_eq_true', Bool.not_eq_false', Bool.true_beq, Bool.false_beq, Bool.true_bne, Bool.false_bne, Bool.bne_true, Bool.bne_false] at c33b0); (try simp only [beq_iff_eq, bne_iff_ne, ne_eq, decide_eq_true_eq, decide_eq_false_iff_not, decide_eq_decide, bne_eq_false_iff_eq, beq_eq_false_iff_ne, Bool.not_eq_true, Bool.not_eq_false, Bool.not_eq_true', Bool.not_eq_false', Bool.true_beq, Bool.false_beq, Bool.true_bne, Bool.false_bne, Bool.bne_true, Bool.bne_false] at c33b1); (try simp only [beq_iff_eq, bne_iff_ne, ne_eq, decide_eq_true_eq, decide_eq_false_iff_not, decide_eq_decide, bne_eq_false_iff_eq, beq_eq_false_iff_ne, Bool.not_eq_true, Bool.not_eq_false, Bool.not_eq_true', Bool.not_eq_false', Bool.true_beq, Bool.false_beq, Bool.true_bne, Bool.false_bne, Bool.bne_true, Bool.bne_false] at c34b0); (try simp only [beq_iff_eq, bne_iff_ne, ne_eq, decide_eq_true_eq, decide_eq_false_iff_not, decide_eq_decide, bne_eq_false_iff_eq, beq_eq_false_iff_ne, Bool.not_eq_true, Bool.not_eq_false, Bool.not_eq_true', Bool.not_eq_false', Bool.true_beq, Bool.false_beq, Bool.true_bne, Bool.false_bne, Bool.bne_true, Bool.bne_false] at c34b1); (try simp only [beq_iff_eq, bne_iff_ne, ne_eq, decide_eq_true_eq, decide_eq_false_iff_not, decide_eq_decide, bne_eq_false_iff_eq, beq_eq_false_iff_ne, Bool.not_eq_true, Bool.not_eq_false, Bool.not_eq_true', Bool.not_eq_false', Bool.true_beq, Bool.false_beq, Bool.true_bne, Bool.false_bne, Bool.bne_true, Bool.bne_false] at c36b0); (try simp only [beq_iff_eq, bne_iff_ne, ne_eq, decide_eq_true_eq, decide_eq_false_iff_not, decide_eq_decide, bne_eq_false_iff_eq, beq_eq_false_iff_ne, Bool.not_eq_true, Bool.not_eq_false, Bool.not_eq_true', Bool.not_eq_false', Bool.true_beq, Bool.false_beq, Bool.true_bne, Bool.false_bne, Bool.bne_true, Bool.bne_false] at c36b1); (try simp only [beq_iff_eq, bne_iff_ne, ne_eq, decide_eq_true_eq, decide_eq_false_iff_not, decide_eq_decide, bne_eq_false_iff_eq, beq_eq_false_iff_ne, Bool.not_eq_true, Bool.not_eq_false, Bool.not_eq_true', Bool.not_eq_false', Bool.true_beq, Bool.false_beq, Bool.true_bne, Bool.false_bne, Bool.bne_true, Bool.bne_false] at c38b0); (try simp only [beq_iff_eq, bne_iff_ne, ne_eq, decide_eq_true_eq, decide_eq_false_iff_not, decide_eq_decide, bne_eq_false_iff_eq, beq_eq_false_iff_ne, Bool.not_eq_true, Bool.not_eq_false, Bool.not_eq_true', Bool.not_eq_false', Bool.true_beq, Bool.false_beq, Bool.true_bne, Bool.false_bne, Bool.bne_true, Bool.bne_false] at c38b1); (try unfold wrap64 at *); omega)
                                        · rw [if_neg c38] at H
                                          have c38b0 : (t158.toList == ([] : List UInt8)) = false := beq_eq_false_iff_ne.mpr c38
                                          have c38b1 : (t158.toList != ([] : List UInt8)) = true := bne_iff_ne.mpr c38
                                          exact absurd ((Option.some.inj H).trans HRT.out) Bool.false_ne_true
                                      · rw [if_neg c36] at H
                                        have c36b0 : (t157.toList == ([] : List UInt8)) = false := beq_eq_false_iff_ne.mpr c36
                                        have c36b1 : (t157.toList != ([] : List UInt8)) = true := bne_iff_ne.mpr c36
                                        exact absurd ((Option.some.inj H).trans HRT.out) Bool.false_ne_true
                                    · rw [if_neg c34] at H
                                      have c34b0 : decide ((t155.size : Int) ≤ (t156.size : Int)) = false := decide_eq_false c34
                                      have c34b1 : decide (t155.size ≤ t156.size) = false := decide_eq_false (fun h => c34 (Int.ofNat_le.mpr h))
                                      clear c34
                                      exact absurd ((Option.some.inj H).trans HRT.out) Bool.false_ne_true
                                · rw [if_neg c32] at H
                                  have c32b0 : decide ((t144.size : Int) ≤ 6) = false := decide_eq_false c32
                                  have c32b1 : decide (t144.size ≤ 6) = false := decide_eq_false (by omega)
                                  clear c32
                                  exact absurd ((Option.some.inj H).trans HRT.out) Bool.false_ne_true
                              · rw [if_neg c31] at H
                                have c31b0 : decide (1 ≤ (t144.size : Int)) = false := decide_eq_false c31
                                have c31b1 : decide (1 ≤ t144.size) = false := decide_eq_false (by omega)
                                clear c31
                                exact absurd ((Option.some.inj H).trans HRT.out) Bool.false_ne_true
                          · rw [if_neg c29] at H
                            have c29b0 : (t149 == t142) = false := beq_eq_false_iff_ne.mpr c29
                            have c29b1 : (t149 != t142) = true := bne_iff_ne.mpr c29
                            exact absurd ((Option.some.inj H).trans HRT.out) Bool.false_ne_true
                        · replace c28 := Bool.eq_false_iff.mpr c28
                          subst c28
                          have H1 : (some false) = some r := by rw [if_neg (show ¬ (false = true) by decide)] at H; exact H
                          clear H
                          have H := H1
                          clear H1
                          exact absurd ((Option.some.inj H).trans HRT.out) Bool.false_ne_true
                      · rw [if_neg c27] at H
                        have c27b0 : (t146 == (wrap64 (((cutS a2 0 ((ji7) : Int).toNat).size : Int) + (t144.size : Int)))) = false := beq_eq_false_iff_ne.mpr c27
                        have c27b1 : (t146 != (wrap64 (((cutS a2 0 ((ji7) : Int).toNat).size : Int) + (t144.size : Int)))) = true := bne_iff_ne.mpr c27
                        exact absurd ((Option.some.inj H).trans HRT.out) Bool.false_ne_true
                    · rw [if_neg c26] at H
                      have c26b0 : (t145 == t142) = false := beq_eq_false_iff_ne.mpr c26
                      have c26b1 : (t145 != t142) = true := bne_iff_ne.mpr c26
                      exact absurd ((Option.some.inj H).trans HRT.out) Bool.false_ne_true
                  · replace c25 := Bool.eq_false_iff.mpr c25
                    subst c25
                    have H1 : (some false) = some r := by rw [if_neg (show ¬ (false = true) by decide)] at H; exact H
                    clear H
                    have H := H1
                    clear H1
                    exact absurd ((Option.some.inj H).trans HRT.out) Bool.false_ne_true
                · rw [if_neg c21] at H
                  exact absurd H (by simp)
              · rw [if_neg c16] at H
                exact absurd H (by simp)
            · rw [if_neg c15] at H
              exact absurd H (by simp)
          · rw [if_neg c14] at H
            exact absurd H (by simp)
        · rw [if_neg c12] at H
          exact absurd H (by simp)
      · rw [if_neg c11] at H
        exact absurd H (by simp)
    · rw [if_neg c9] at H
      exact absurd H (by simp)
  · rw [if_neg c8] at H
    exact absurd H (by simp)

/-- THE ONE PURE STATEMENT of ammonitelaw2_DigitBack: yours. -/
def ammonitelaw2_DigitBack.Pure : Prop := ∀ (a0 : Int) (a1 : Int) (a2 : ByteArray) (a3 : ByteArray), (Lit.int .i64 a0).wf = true → (Lit.int .i64 a1).wf = true → a2.size ≤ 140737488351232 → a3.size ≤ 140737488351232 → ∃ k, ammonitelaw2_DigitBack.f k a0 a1 a2 a3 = some true
theorem ammonitelaw2_DigitBack.walk (P : ammonitelaw2_DigitBack.Pure) (a0 : Int) (a1 : Int) (a2 : ByteArray) (a3 : ByteArray) (w : World) (w0 : (Lit.int .i64 a0).wf = true) (w1 : (Lit.int .i64 a1).wf = true) (w2 : a2.size ≤ 140737488351232) (w3 : a3.size ≤ 140737488351232) :
    Calls Try.prog 5 #[.int .i64 a0, .int .i64 a1, .string a2, .string a3] w fun e w' => e = .returned (.bool true) ∧ Below w.heap.size w w' := by
  obtain ⟨k, h⟩ := P a0 a1 a2 a3 w0 w1 w2 w3
  refine (ammonitelaw2_DigitBack.calls k a0 a1 a2 a3 true w h rfl).mono ?_
  rintro e w' ⟨rfl, hd⟩
  exact ⟨rfl, hd⟩

end Go.Proofs.Ytcjkichimndioaa.Q
