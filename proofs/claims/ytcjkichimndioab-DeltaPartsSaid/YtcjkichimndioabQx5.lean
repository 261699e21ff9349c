-- Written by a program of this session (wip/tools/ap.py) for this claim.
import Derived.Test.YtcjkichimndioabQx0
import Derived.Test.YtcjkichimndioabQx1
import Derived.Test.YtcjkichimndioabQx4
namespace Go.Proofs.Ytcjkichimndioab.Q
open Go.Proofs.Ytcjkichimndioab.Given
open Go.RowKit Go.Proofs.Ytcjkichimndioab.PW Go.Proofs.YtcjkichimndioabW.PrintWords Go.Proofs.YtcjkichimndioabW.PrintLast Go.Proofs.YtcjkichimndioabW.PrintMore
attribute [local go_sem] max2_int min2_int max_two min_two max_three min_three max_four min_four   -- for this text's walks alone
set_option linter.unnecessarySimpa false
attribute [local go_sem high] run_cut_if run_cut_from run_cut_to run_cat_if
set_option linter.unusedVariables false
set_option linter.unusedSimpArgs false

/-! ### ammonitekeep_Delta: function 23 -/
mutual
def ammonitekeep_Delta.j1 : Nat → ByteArray → Int → Int → Option (ByteArray)
  | 0, _, _, _ => none
  | k + 1, x1, x2, x7 => (ammoniteref1_Put.f k (x1.size : Int)).bind fun t144 => (if t144.size + 1 ≤ 9223372036854775807 then (if x7 > 0 then ((ammonitebook_Within.f x2 0 (wrap64 (x7 - 1))).bind fun t145 => (if t145 > 0 then ((ammoniteref1_Put.f k t145).bind fun t146 => (if (catS t144 (⟨#[10]⟩ : ByteArray)).size + t146.size ≤ 9223372036854775807 then (if (catS (catS t144 (⟨#[10]⟩ : ByteArray)) t146).size + 3 ≤ 9223372036854775807 then ((ammoniteref1_Put.f k (wrap64 (x7 - t145))).bind fun t147 => (if (catS (catS (catS t144 (⟨#[10]⟩ : ByteArray)) t146) (⟨#[64, 48, 44]⟩ : ByteArray)).size + t147.size ≤ 9223372036854775807 then (if (catS (catS (catS (catS t144 (⟨#[10]⟩ : ByteArray)) t146) (⟨#[64, 48, 44]⟩ : ByteArray)) t147).size + 1 ≤ 9223372036854775807 then (if (catS (catS (catS (catS (catS t144 (⟨#[10]⟩ : ByteArray)) t146) (⟨#[64, 48, 44]⟩ : ByteArray)) t147) (⟨#[64]⟩ : ByteArray)).size + t146.size ≤ 9223372036854775807 then (if (catS (catS (catS (catS (catS (catS t144 (⟨#[10]⟩ : ByteArray)) t146) (⟨#[64, 48, 44]⟩ : ByteArray)) t147) (⟨#[64]⟩ : ByteArray)) t146).size + 1 ≤ 9223372036854775807 then (ammonitekeep_Delta.j2 k x1 x7 (catS (catS (catS (catS (catS (catS (catS t144 (⟨#[10]⟩ : ByteArray)) t146) (⟨#[64, 48, 44]⟩ : ByteArray)) t147) (⟨#[64]⟩ : ByteArray)) t146) (⟨#[44]⟩ : ByteArray))) else (none)) else (none)) else (none)) else (none))) else (none)) else (none))) else ((ammoniteref1_Put.f k (wrap64 (x7 - t145))).bind fun t148 => (if (catS t144 (⟨#[10]⟩ : ByteArray)).size + t148.size ≤ 9223372036854775807 then (if (catS (catS t144 (⟨#[10]⟩ : ByteArray)) t148).size + 1 ≤ 9223372036854775807 then ((ammoniteref1_Put.f k t145).bind fun t149 => (if (catS (catS (catS t144 (⟨#[10]⟩ : ByteArray)) t148) (⟨#[64]⟩ : ByteArray)).size + t149.size ≤ 9223372036854775807 then (if (catS (catS (catS (catS t144 (⟨#[10]⟩ : ByteArray)) t148) (⟨#[64]⟩ : ByteArray)) t149).size + 1 ≤ 9223372036854775807 then (ammonitekeep_Delta.j2 k x1 x7 (catS (catS (catS (catS (catS t144 (⟨#[10]⟩ : ByteArray)) t148) (⟨#[64]⟩ : ByteArray)) t149) (⟨#[44]⟩ : ByteArray))) else (none)) else (none))) else (none)) else (none))))) else (ammonitekeep_Delta.j2 k x1 x7 (catS t144 (⟨#[10]⟩ : ByteArray)))) else (none))
def ammonitekeep_Delta.j2 : Nat → ByteArray → Int → ByteArray → Option (ByteArray)
  | 0, _, _, _ => none
  | k + 1, x1, x7, x8 => if (x1.size : Int) > x7 then ((ammoniteref1_Put.f k (wrap64 ((x1.size : Int) - x7))).bind fun t150 => (if x8.size + t150.size ≤ 9223372036854775807 then (if (catS x8 t150).size + 1 ≤ 9223372036854775807 then (if 0 ≤ x7 then (if x7 ≤ (x1.size : Int) then (if (catS (catS x8 t150) (⟨#[58]⟩ : ByteArray)).size + (cutS x1 (x7 : Int).toNat x1.size).size ≤ 9223372036854775807 then ((ammoniteref1_Check.f k x1).bind fun t151 => ((ammoniteref1_Put.f k t151).bind fun t152 => (if (catS (catS (catS x8 t150) (⟨#[58]⟩ : ByteArray)) (cutS x1 (x7 : Int).toNat x1.size)).size + t152.size ≤ 9223372036854775807 then (if (catS (catS (catS (catS x8 t150) (⟨#[58]⟩ : ByteArray)) (cutS x1 (x7 : Int).toNat x1.size)) t152).size + 1 ≤ 9223372036854775807 then (some (catS (catS (catS (catS (catS x8 t150) (⟨#[58]⟩ : ByteArray)) (cutS x1 (x7 : Int).toNat x1.size)) t152) (⟨#[59]⟩ : ByteArray))) else (none)) else (none)))) else (none)) else (none)) else (none)) else (none)) else (none))) else ((ammoniteref1_Check.f k x1).bind fun t153 => ((ammoniteref1_Put.f k t153).bind fun t154 => (if x8.size + t154.size ≤ 9223372036854775807 then (if (catS x8 t154).size + 1 ≤ 9223372036854775807 then (some (catS (catS x8 t154) (⟨#[59]⟩ : ByteArray))) else (none)) else (none))))
def ammonitekeep_Delta.l0 : Nat → ByteArray → ByteArray → Int → Int → Option (ByteArray)
  | 0, _, _, _, _ => none
  | k + 1, x0, x1, x2, x7 => if x7 < (x0.size : Int) then (if x7 < (x1.size : Int) then (if 0 ≤ x7 then (if (bt x0 x7) = (bt x1 x7) then (ammonitekeep_Delta.l0 k x0 x1 x2 (wrap64 (x7 + 1))) else (ammonitekeep_Delta.j1 k x1 x2 x7)) else (none)) else (ammonitekeep_Delta.j1 k x1 x2 x7)) else (ammonitekeep_Delta.j1 k x1 x2 x7)
end
def ammonitekeep_Delta.f (k : Nat) (a0 : ByteArray) (a1 : ByteArray) (a2 : Int) : Option (ByteArray) := ammonitekeep_Delta.l0 k a0 a1 a2 0
theorem ammonitekeep_Delta.mono_l : ∀ k, (∀ y0 y1 y2, LeO (ammonitekeep_Delta.j1 k y0 y1 y2) (ammonitekeep_Delta.j1 (k + 1) y0 y1 y2)) ∧ (∀ y0 y1 y2, LeO (ammonitekeep_Delta.j2 k y0 y1 y2) (ammonitekeep_Delta.j2 (k + 1) y0 y1 y2)) ∧ (∀ y0 y1 y2 y3, LeO (ammonitekeep_Delta.l0 k y0 y1 y2 y3) (ammonitekeep_Delta.l0 (k + 1) y0 y1 y2 y3))
  | 0 => ⟨fun _ _ _ r h => by simp [ammonitekeep_Delta.j1] at h, fun _ _ _ r h => by simp [ammonitekeep_Delta.j2] at h, fun _ _ _ _ r h => by simp [ammonitekeep_Delta.l0] at h⟩
  | k + 1 => by
    obtain ⟨ih0, ih1, ih2⟩ := ammonitekeep_Delta.mono_l k
    refine ⟨?_, ?_, ?_⟩
    · intro y0 y1 y2
      unfold ammonitekeep_Delta.j1
      repeat' first
      | (with_reducible exact ih0 _ _ _)
      | (with_reducible exact ih1 _ _ _)
      | (with_reducible exact ih2 _ _ _ _)
      | (with_reducible exact ammoniteref1_Check.mono _ _)
      | (with_reducible exact ammoniteref1_Put.mono _ _)
      | (with_reducible exact LeO.refl _)
      | (with_reducible exact LeO.none _)
      | (with_reducible refine LeO.ite ?_ ?_)
      | (with_reducible refine LeO.bind ?_ (fun _ => ?_))
      | exact ih0 _ _ _
      | exact ih1 _ _ _
      | exact ih2 _ _ _ _
      | exact ammoniteref1_Check.mono _ _
      | exact ammoniteref1_Put.mono _ _
      | exact LeO.none _
      | refine LeO.ite ?_ ?_
      | refine LeO.bind ?_ (fun _ => ?_)
    · intro y0 y1 y2
      unfold ammonitekeep_Delta.j2
      repeat' first
      | (with_reducible exact ih0 _ _ _)
      | (with_reducible exact ih1 _ _ _)
      | (with_reducible exact ih2 _ _ _ _)
      | (with_reducible exact ammoniteref1_Check.mono _ _)
      | (with_reducible exact ammoniteref1_Put.mono _ _)
      | (with_reducible exact LeO.refl _)
      | (with_reducible exact LeO.none _)
      | (with_reducible refine LeO.ite ?_ ?_)
      | (with_reducible refine LeO.bind ?_ (fun _ => ?_))
      | exact ih0 _ _ _
      | exact ih1 _ _ _
      | exact ih2 _ _ _ _
      | exact ammoniteref1_Check.mono _ _
      | exact ammoniteref1_Put.mono _ _
      | exact LeO.none _
      | refine LeO.ite ?_ ?_
      | refine LeO.bind ?_ (fun _ => ?_)
    · intro y0 y1 y2 y3
      unfold ammonitekeep_Delta.l0
      repeat' first
      | (with_reducible exact ih0 _ _ _)
      | (with_reducible exact ih1 _ _ _)
      | (with_reducible exact ih2 _ _ _ _)
      | (with_reducible exact ammoniteref1_Check.mono _ _)
      | (with_reducible exact ammoniteref1_Put.mono _ _)
      | (with_reducible exact LeO.refl _)
      | (with_reducible exact LeO.none _)
      | (with_reducible refine LeO.ite ?_ ?_)
      | (with_reducible refine LeO.bind ?_ (fun _ => ?_))
      | exact ih0 _ _ _
      | exact ih1 _ _ _
      | exact ih2 _ _ _ _
      | exact ammoniteref1_Check.mono _ _
      | exact ammoniteref1_Put.mono _ _
      | exact LeO.none _
      | refine LeO.ite ?_ ?_
      | refine LeO.bind ?_ (fun _ => ?_)
theorem ammonitekeep_Delta.mono : ∀ a0 a1 a2 k, LeO (ammonitekeep_Delta.f k a0 a1 a2) (ammonitekeep_Delta.f (k + 1) a0 a1 a2) := by
  intro a0 a1 a2 k
  obtain ⟨ih0, ih1, ih2⟩ := ammonitekeep_Delta.mono_l k
  unfold ammonitekeep_Delta.f
  repeat' first
      | (with_reducible exact ih0 _ _ _)
      | (with_reducible exact ih1 _ _ _)
      | (with_reducible exact ih2 _ _ _ _)
      | (with_reducible exact ammoniteref1_Check.mono _ _)
      | (with_reducible exact ammoniteref1_Put.mono _ _)
      | (with_reducible exact LeO.refl _)
      | (with_reducible exact LeO.none _)
      | (with_reducible refine LeO.ite ?_ ?_)
      | (with_reducible refine LeO.bind ?_ (fun _ => ?_))
      | exact ih0 _ _ _
      | exact ih1 _ _ _
      | exact ih2 _ _ _ _
      | exact ammoniteref1_Check.mono _ _
      | exact ammoniteref1_Put.mono _ _
      | exact LeO.none _
      | refine LeO.ite ?_ ?_
      | refine LeO.bind ?_ (fun _ => ?_)
set_option maxHeartbeats 8000000 in
set_option maxRecDepth 100000 in
theorem ammonitekeep_Delta.calls (k : Nat) (a0 : ByteArray) (a1 : ByteArray) (a2 : Int) (r : ByteArray) (w : World) (h : ammonitekeep_Delta.f k a0 a1 a2 = some r) :
    Calls Try.prog 23 #[.string a0, .string a1, .int .i64 a2] w fun e w' => e = .returned (.string r) ∧ Drawn0 w w' := by
  have H : (ammonitekeep_Delta.l0 k a0 a1 a2 0) = some r := h
  clear h
  have HC4 := Aside0.mk H
  clear H
  go_enter Try.func23, Try.ntmps23
  go_upto_block 0 with (fail)
  repeat (go_quiet (fail); go_upto_block 0 with (fail))
  go_cut [7] (fun v7 wc => ∃ (kq : Nat) (x7_3 : Int), v7 = .int .i64 x7_3 ∧ Aside0 (ammonitekeep_Delta.j1 kq a1 a2 x7_3 = some r) ∧ Aside0 (kq ≤ k) ∧ Drawn0 w wc)
  case first =>
    have H := HC4.out
    clear HC4
    have H' := Aside0.mk H
    clear H
    go_wp2
    repeat (go_quiet (fail); try go_wp2)
    go_loopg [7] k (fun kq v7 w' => ∃ (x7_1 : Int), v7 = .int .i64 x7_1 ∧ Aside0 (ammonitekeep_Delta.l0 kq a0 a1 a2 x7_1 = some r) ∧ Aside0 (kq ≤ k) ∧ Drawn0 w w')
    case atStart => exact ⟨(0), (by first | rfl | (simp; done) | (simp [*]; done)), H', ⟨Nat.le_refl _⟩, by repeat (first | exact Drawn0.refl _ | apply Drawn0.step)⟩
    case round =>
      clear H'
      try clear c2
      try clear p2
      obtain ⟨x7_1, rfl, HA, HK1, ⟨m1, rfl⟩⟩ := hrel
      cases gk with
      | zero => exact absurd HA.out (by simp [ammonitekeep_Delta.l0])
      | succ k1 =>
        have H := HA.out
        clear HA
        simp only [ammonitekeep_Delta.l0] at H
        by_cases c5 : x7_1 < (a0.size : Int)
        · rw [if_pos c5] at H
          have c5b0 : decide (x7_1 < (a0.size : Int)) = true := decide_eq_true c5
          clear c5
          (first | rw [c5b0] | (simp only [i64_w, i32_w]; rw [c5b0]) | skip)
          by_cases c6 : x7_1 < (a1.size : Int)
          · rw [if_pos c6] at H
            have c6b0 : decide (x7_1 < (a1.size : Int)) = true := decide_eq_true c6
            clear c6
            by_cases c7 : 0 ≤ x7_1
            · rw [if_pos c7] at H
              have c7b0 : decide (0 ≤ x7_1) = true := decide_eq_true c7
              clear c7
              by_cases c10 : (bt a0 x7_1) = (bt a1 x7_1)
              · rw [if_pos c10] at H
                have c10b0 : ((bt a0 x7_1) == (bt a1 x7_1)) = true := beq_iff_eq.mpr c10
                have c10b1 : ((bt a0 x7_1) != (bt a1 x7_1)) = false := bne_eq_false_iff_eq.mpr c10
                clear c10
                have H' := Aside0.mk H
                clear H
                have p8 : 0 ≤ (x7_1 : Int) := of_decide_eq_true (by first | (with_reducible assumption) | assumption)
                have q8 : x7_1 < (a0.size : Int) := of_decide_eq_true (by first | (with_reducible assumption) | assumption)
                have hx8 := bt_at a0 x7_1
                replace p8 := eq_true p8
                replace q8 := eq_true q8
                have p9 : 0 ≤ (x7_1 : Int) := of_decide_eq_true (by first | (with_reducible assumption) | assumption)
                have q9 : x7_1 < (a1.size : Int) := of_decide_eq_true (by first | (with_reducible assumption) | assumption)
                have hx9 := bt_at a1 x7_1
                replace p9 := eq_true p9
                replace q9 := eq_true q9
                go_wp2
                repeat (go_quiet (fail); try go_wp2)
                go_roundg k1
                case measure => have := HK1.out; omega
                case rel => exact ⟨(wrap64 (x7_1 + 1)), (by first | rfl | (simp; done) | (simp [*]; done)), H', ⟨by have := HK1.out; omega⟩, by repeat (first | exact Drawn0.refl _ | apply Drawn0.step)⟩
                all_goals (exfalso; (try simp only [beq_iff_eq, bne_iff_ne, ne_eq, decide_eq_true_eq, decide_eq_false_iff_not, decide_eq_decide, bne_eq_false_iff_eq, beq_eq_false_iff_ne, Bool.not_eq_true, Bool.not_eq_false, Bool.not_eq_true', Bool.not_eq_false', Bool.true_beq, Bool.false_beq, Bool.true_bne, Bool.false_bne, Bool.bne_true, Bool.bne_false] at c5b0); (try simp only [beq_iff_eq, bne_iff_ne, ne_eq, decide_eq_true_eq, decide_eq_false_iff_not, decide_eq_decide, bne_eq_false_iff_eq, beq_eq_false_iff_ne, Bool.not_eq_true, Bool.not_eq_false, Bool.not_eq_true', Bool.not_eq_false', Bool.true_beq, Bool.false_beq, Bool.true_bne, Bool.false_bne, Bool.bne_true, Bool.bne_false] at c6b0); (try simp only [beq_iff_eq, bne_iff_ne, ne_eq, decide_eq_true_eq, decide_eq_false_iff_not, decide_eq_decide, bne_eq_false_iff_eq, beq_eq_false_iff_ne, Bool.not_eq_true, Bool.not_eq_false, Bool.not_eq_true', Bool.not_eq_false', Bool.true_beq, Bool.false_beq, Bool.true_bne, Bool.false_bne, Bool.bne_true, Bool.bne_false] at c7b0); (try simp only [beq_iff_eq, bne_iff_ne, ne_eq, decide_eq_true_eq, decide_eq_false_iff_not, decide_eq_decide, bne_eq_false_iff_eq, beq_eq_false_iff_ne, Bool.not_eq_true, Bool.not_eq_false, Bool.not_eq_true', Bool.not_eq_false', Bool.true_beq, Bool.false_beq, Bool.true_bne, Bool.false_bne, Bool.bne_true, Bool.bne_false] at c10b0); (try simp only [beq_iff_eq, bne_iff_ne, ne_eq, decide_eq_true_eq, decide_eq_false_iff_not, decide_eq_decide, bne_eq_false_iff_eq, beq_eq_false_iff_ne, Bool.not_eq_true, Bool.not_eq_false, Bool.not_eq_true', Bool.not_eq_false', Bool.true_beq, Bool.false_beq, Bool.true_bne, Bool.false_bne, Bool.bne_true, Bool.bne_false] at c10b1); (try unfold wrap64 at *); omega)
              · rw [if_neg c10] at H
                have c10b0 : ((bt a0 x7_1) == (bt a1 x7_1)) = false := beq_eq_false_iff_ne.mpr c10
                have c10b1 : ((bt a0 x7_1) != (bt a1 x7_1)) = true := bne_iff_ne.mpr c10
                have H' := Aside0.mk H
                clear H
                have p8 : 0 ≤ (x7_1 : Int) := of_decide_eq_true (by first | (with_reducible assumption) | assumption)
                have q8 : x7_1 < (a0.size : Int) := of_decide_eq_true (by first | (with_reducible assumption) | assumption)
                have hx8 := bt_at a0 x7_1
                replace p8 := eq_true p8
                replace q8 := eq_true q8
                have p9 : 0 ≤ (x7_1 : Int) := of_decide_eq_true (by first | (with_reducible assumption) | assumption)
                have q9 : x7_1 < (a1.size : Int) := of_decide_eq_true (by first | (with_reducible assumption) | assumption)
                have hx9 := bt_at a1 x7_1
                replace p9 := eq_true p9
                replace q9 := eq_true q9
                go_wp2
                repeat (go_quiet (fail); try go_wp2)
                go_meet
                case rel => exact ⟨_, (x7_1), (by first | rfl | (simp; done) | (simp [*]; done)), H', ⟨by have := HK1.out; first | omega | exact Nat.le_refl _⟩, by repeat (first | exact Drawn0.refl _ | apply Drawn0.step)⟩
                all_goals (exfalso; (try simp only [beq_iff_eq, bne_iff_ne, ne_eq, decide_eq_true_eq, decide_eq_false_iff_not, decide_eq_decide, bne_eq_false_iff_eq, beq_eq_false_iff_ne, Bool.not_eq_true, Bool.not_eq_false, Bool.not_eq_true', Bool.not_eq_false', Bool.true_beq, Bool.false_beq, Bool.true_bne, Bool.false_bne, Bool.bne_true, Bool.bne_false] at c5b0); (try simp only [beq_iff_eq, bne_iff_ne, ne_eq, decide_eq_true_eq, decide_eq_false_iff_not, decide_eq_decide, bne_eq_false_iff_eq, beq_eq_false_iff_ne, Bool.not_eq_true, Bool.not_eq_false, Bool.not_eq_true', Bool.not_eq_false', Bool.true_beq, Bool.false_beq, Bool.true_bne, Bool.false_bne, Bool.bne_true, Bool.bne_false] at c6b0); (try simp only [beq_iff_eq, bne_iff_ne, ne_eq, decide_eq_true_eq, decide_eq_false_iff_not, decide_eq_decide, bne_eq_false_iff_eq, beq_eq_false_iff_ne, Bool.not_eq_true, Bool.not_eq_false, Bool.not_eq_true', Bool.not_eq_false', Bool.true_beq, Bool.false_beq, Bool.true_bne, Bool.false_bne, Bool.bne_true, Bool.bne_false] at c7b0); (try simp only [beq_iff_eq, bne_iff_ne, ne_eq, decide_eq_true_eq, decide_eq_false_iff_not, decide_eq_decide, bne_eq_false_iff_eq, beq_eq_false_iff_ne, Bool.not_eq_true, Bool.not_eq_false, Bool.not_eq_true', Bool.not_eq_false', Bool.true_beq, Bool.false_beq, Bool.true_bne, Bool.false_bne, Bool.bne_true, Bool.bne_false] at c10b0); (try simp only [beq_iff_eq, bne_iff_ne, ne_eq, decide_eq_true_eq, decide_eq_false_iff_not, decide_eq_decide, bne_eq_false_iff_eq, beq_eq_false_iff_ne, Bool.not_eq_true, Bool.not_eq_false, Bool.not_eq_true', Bool.not_eq_false', Bool.true_beq, Bool.false_beq, Bool.true_bne, Bool.false_bne, Bool.bne_true, Bool.bne_false] at c10b1); (try unfold wrap64 at *); omega)
            · rw [if_neg c7] at H
              exact absurd H (by simp)
          · rw [if_neg c6] at H
            have c6b0 : decide (x7_1 < (a1.size : Int)) = false := decide_eq_false c6
            clear c6
            have H' := Aside0.mk H
            clear H
            go_wp2
            repeat (go_quiet (fail); try go_wp2)
            go_meet
            case rel => exact ⟨_, (x7_1), (by first | rfl | (simp; done) | (simp [*]; done)), H', ⟨by have := HK1.out; first | omega | exact Nat.le_refl _⟩, by repeat (first | exact Drawn0.refl _ | apply Drawn0.step)⟩
            all_goals (exfalso; (try simp only [beq_iff_eq, bne_iff_ne, ne_eq, decide_eq_true_eq, decide_eq_false_iff_not, decide_eq_decide, bne_eq_false_iff_eq, beq_eq_false_iff_ne, Bool.not_eq_true, Bool.not_eq_false, Bool.not_eq_true', Bool.not_eq_false', Bool.true_beq, Bool.false_beq, Bool.true_bne, Bool.false_bne, Bool.bne_true, Bool.bne_false] at c5b0); (try simp only [beq_iff_eq, bne_iff_ne, ne_eq, decide_eq_true_eq, decide_eq_false_iff_not, decide_eq_decide, bne_eq_false_iff_eq, beq_eq_false_iff_ne, Bool.not_eq_true, Bool.not_eq_false, Bool.not_eq_true', Bool.not_eq_false', Bool.true_beq, Bool.false_beq, Bool.true_bne, Bool.false_bne, Bool.bne_true, Bool.bne_false] at c6b0); (try unfold wrap64 at *); omega)
        · rw [if_neg c5] at H
          have c5b0 : decide (x7_1 < (a0.size : Int)) = false := decide_eq_false c5
          clear c5
          (first | rw [c5b0] | (simp only [i64_w, i32_w]; rw [c5b0]) | skip)
          have H' := Aside0.mk H
          clear H
          go_wp2
          repeat (go_quiet (fail); try go_wp2)
          go_meet
          case rel => exact ⟨_, (x7_1), (by first | rfl | (simp; done) | (simp [*]; done)), H', ⟨by have := HK1.out; first | omega | exact Nat.le_refl _⟩, by repeat (first | exact Drawn0.refl _ | apply Drawn0.step)⟩
          all_goals (exfalso; (try simp only [beq_iff_eq, bne_iff_ne, ne_eq, decide_eq_true_eq, decide_eq_false_iff_not, decide_eq_decide, bne_eq_false_iff_eq, beq_eq_false_iff_ne, Bool.not_eq_true, Bool.not_eq_false, Bool.not_eq_true', Bool.not_eq_false', Bool.true_beq, Bool.false_beq, Bool.true_bne, Bool.false_bne, Bool.bne_true, Bool.bne_false] at c5b0); (try unfold wrap64 at *); omega)
  case rest =>
    clear HC4
    try clear c1
    try clear c2
    try clear p2
    try clear c5
    try clear c5b0
    try clear c6
    try clear c6b0
    try clear p6
    try clear c7
    try clear c7b0
    try clear p8
    try clear q8
    try clear hx8
    try clear p9
    try clear q9
    try clear hx9
    try clear c10
    try clear c10b0
    try clear c10b1
    try clear p2
    try clear p8
    try clear p9
    try clear q8
    try clear q9
    obtain ⟨kq, x7_3, rfl, HA, HJ3, ⟨mc3, rfl⟩⟩ := hcut
    cases kq with
    | zero => exact absurd HA.out (by simp [ammonitekeep_Delta.j1])
    | succ kj3 =>
      have H := HA.out
      clear HA
      simp only [ammonitekeep_Delta.j1] at H
      replace H := Option.bind_eq_some_iff.mp H
      obtain ⟨t144, A110, H⟩ := H
      replace H : (if t144.size + 1 ≤ 9223372036854775807 then (if x7_3 > 0 then ((ammonitebook_Within.f a2 0 (wrap64 (x7_3 - 1))).bind fun t145 => (if t145 > 0 then ((ammoniteref1_Put.f kj3 t145).bind fun t146 => (if (catS t144 (⟨#[10]⟩ : ByteArray)).size + t146.size ≤ 9223372036854775807 then (if (catS (catS t144 (⟨#[10]⟩ : ByteArray)) t146).size + 3 ≤ 9223372036854775807 then ((ammoniteref1_Put.f kj3 (wrap64 (x7_3 - t145))).bind fun t147 => (if (catS (catS (catS t144 (⟨#[10]⟩ : ByteArray)) t146) (⟨#[64, 48, 44]⟩ : ByteArray)).size + t147.size ≤ 9223372036854775807 then (if (catS (catS (catS (catS t144 (⟨#[10]⟩ : ByteArray)) t146) (⟨#[64, 48, 44]⟩ : ByteArray)) t147).size + 1 ≤ 9223372036854775807 then (if (catS (catS (catS (catS (catS t144 (⟨#[10]⟩ : ByteArray)) t146) (⟨#[64, 48, 44]⟩ : ByteArray)) t147) (⟨#[64]⟩ : ByteArray)).size + t146.size ≤ 9223372036854775807 then (if (catS (catS (catS (catS (catS (catS t144 (⟨#[10]⟩ : ByteArray)) t146) (⟨#[64, 48, 44]⟩ : ByteArray)) t147) (⟨#[64]⟩ : ByteArray)) t146).size + 1 ≤ 9223372036854775807 then (ammonitekeep_Delta.j2 kj3 a1 x7_3 (catS (catS (catS (catS (catS (catS (catS t144 (⟨#[10]⟩ : ByteArray)) t146) (⟨#[64, 48, 44]⟩ : ByteArray)) t147) (⟨#[64]⟩ : ByteArray)) t146) (⟨#[44]⟩ : ByteArray))) else (none)) else (none)) else (none)) else (none))) else (none)) else (none))) else ((ammoniteref1_Put.f kj3 (wrap64 (x7_3 - t145))).bind fun t148 => (if (catS t144 (⟨#[10]⟩ : ByteArray)).size + t148.size ≤ 9223372036854775807 then (if (catS (catS t144 (⟨#[10]⟩ : ByteArray)) t148).size + 1 ≤ 9223372036854775807 then ((ammoniteref1_Put.f kj3 t145).bind fun t149 => (if (catS (catS (catS t144 (⟨#[10]⟩ : ByteArray)) t148) (⟨#[64]⟩ : ByteArray)).size + t149.size ≤ 9223372036854775807 then (if (catS (catS (catS (catS t144 (⟨#[10]⟩ : ByteArray)) t148) (⟨#[64]⟩ : ByteArray)) t149).size + 1 ≤ 9223372036854775807 then (ammonitekeep_Delta.j2 kj3 a1 x7_3 (catS (catS (catS (catS (catS t144 (⟨#[10]⟩ : ByteArray)) t148) (⟨#[64]⟩ : ByteArray)) t149) (⟨#[44]⟩ : ByteArray))) else (none)) else (none))) else (none)) else (none))))) else (ammonitekeep_Delta.j2 kj3 a1 x7_3 (catS t144 (⟨#[10]⟩ : ByteArray)))) else (none)) = some r := H
      have A11 := Aside0.mk A110
      clear A110
      by_cases c12 : t144.size + 1 ≤ 9223372036854775807
      · rw [if_pos c12] at H
        have c12b0 := eq_true c12
        have c12b1 : decide (t144.size + 1 ≤ 9223372036854775807) = true := decide_eq_true c12
        try have c12b2 : (9223372036854775807 < t144.size + 1) = False := eq_false (Nat.not_lt.2 c12)
        clear c12
        have HC13 := Aside0.mk H
        clear H
        go_upto_if 36 with (first | (go_at_call 36; (try simp only [i64_w, i32_w]); (with_reducible refine (ammoniteref1_Put.calls kj3 (a1.size : Int) t144 _ A11.out).mono ?_); rintro e w' ⟨rfl, ⟨nd, rfl⟩⟩; (try first | exact ⟨rfl, _, World.drewN_drewN _ _ _⟩ | exact ⟨rfl, _, Eq.trans (World.drewN_drewN _ _ _) (congrArg (World.drewN _) (Nat.add_assoc _ _ _))⟩)))
        repeat (go_quiet (first | (go_at_call 36; (try simp only [i64_w, i32_w]); (with_reducible refine (ammoniteref1_Put.calls kj3 (a1.size : Int) t144 _ A11.out).mono ?_); rintro e w' ⟨rfl, ⟨nd, rfl⟩⟩; (try first | exact ⟨rfl, _, World.drewN_drewN _ _ _⟩ | exact ⟨rfl, _, Eq.trans (World.drewN_drewN _ _ _) (congrArg (World.drewN _) (Nat.add_assoc _ _ _))⟩))); go_upto_if 36 with (first | (go_at_call 36; (try simp only [i64_w, i32_w]); (with_reducible refine (ammoniteref1_Put.calls kj3 (a1.size : Int) t144 _ A11.out).mono ?_); rintro e w' ⟨rfl, ⟨nd, rfl⟩⟩; (try first | exact ⟨rfl, _, World.drewN_drewN _ _ _⟩ | exact ⟨rfl, _, Eq.trans (World.drewN_drewN _ _ _) (congrArg (World.drewN _) (Nat.add_assoc _ _ _))⟩))))
        (try simp only [Act.put, List.setIfInBounds_toArray, List.set_cons_zero, List.set_cons_succ])
        go_cut [8] (fun v8 wc => ∃ (kq : Nat) (x8_12 : ByteArray), v8 = .string x8_12 ∧ Aside0 (ammonitekeep_Delta.j2 kq a1 x7_3 x8_12 = some r) ∧ Aside0 (kq ≤ kj3) ∧ Drawn0 w wc)
        case first =>
          have H := HC13.out
          clear HC13
          by_cases c14 : x7_3 > 0
          · rw [if_pos c14] at H
            have c14b0 : decide (0 < x7_3) = true := decide_eq_true c14
            clear c14
            (first | rw [c14b0] | (simp only [i64_w, i32_w]; rw [c14b0]) | skip)
            replace H := Option.bind_eq_some_iff.mp H
            obtain ⟨t145, A150, H⟩ := H
            replace H : (if t145 > 0 then ((ammoniteref1_Put.f kj3 t145).bind fun t146 => (if (catS t144 (⟨#[10]⟩ : ByteArray)).size + t146.size ≤ 9223372036854775807 then (if (catS (catS t144 (⟨#[10]⟩ : ByteArray)) t146).size + 3 ≤ 9223372036854775807 then ((ammoniteref1_Put.f kj3 (wrap64 (x7_3 - t145))).bind fun t147 => (if (catS (catS (catS t144 (⟨#[10]⟩ : ByteArray)) t146) (⟨#[64, 48, 44]⟩ : ByteArray)).size + t147.size ≤ 9223372036854775807 then (if (catS (catS (catS (catS t144 (⟨#[10]⟩ : ByteArray)) t146) (⟨#[64, 48, 44]⟩ : ByteArray)) t147).size + 1 ≤ 9223372036854775807 then (if (catS (catS (catS (catS (catS t144 (⟨#[10]⟩ : ByteArray)) t146) (⟨#[64, 48, 44]⟩ : ByteArray)) t147) (⟨#[64]⟩ : ByteArray)).size + t146.size ≤ 9223372036854775807 then (if (catS (catS (catS (catS (catS (catS t144 (⟨#[10]⟩ : ByteArray)) t146) (⟨#[64, 48, 44]⟩ : ByteArray)) t147) (⟨#[64]⟩ : ByteArray)) t146).size + 1 ≤ 9223372036854775807 then (ammonitekeep_Delta.j2 kj3 a1 x7_3 (catS (catS (catS (catS (catS (catS (catS t144 (⟨#[10]⟩ : ByteArray)) t146) (⟨#[64, 48, 44]⟩ : ByteArray)) t147) (⟨#[64]⟩ : ByteArray)) t146) (⟨#[44]⟩ : ByteArray))) else (none)) else (none)) else (none)) else (none))) else (none)) else (none))) else ((ammoniteref1_Put.f kj3 (wrap64 (x7_3 - t145))).bind fun t148 => (if (catS t144 (⟨#[10]⟩ : ByteArray)).size + t148.size ≤ 9223372036854775807 then (if (catS (catS t144 (⟨#[10]⟩ : ByteArray)) t148).size + 1 ≤ 9223372036854775807 then ((ammoniteref1_Put.f kj3 t145).bind fun t149 => (if (catS (catS (catS t144 (⟨#[10]⟩ : ByteArray)) t148) (⟨#[64]⟩ : ByteArray)).size + t149.size ≤ 9223372036854775807 then (if (catS (catS (catS (catS t144 (⟨#[10]⟩ : ByteArray)) t148) (⟨#[64]⟩ : ByteArray)) t149).size + 1 ≤ 9223372036854775807 then (ammonitekeep_Delta.j2 kj3 a1 x7_3 (catS (catS (catS (catS (catS t144 (⟨#[10]⟩ : ByteArray)) t148) (⟨#[64]⟩ : ByteArray)) t149) (⟨#[44]⟩ : ByteArray))) else (none)) else (none))) else (none)) else (none)))) = some r := H
            have A15 := Aside0.mk A150
            clear A150
            by_cases c16 : t145 > 0
            · rw [if_pos c16] at H
              have c16b0 : decide (0 < t145) = true := decide_eq_true c16
              clear c16
              replace H := Option.bind_eq_some_iff.mp H
              obtain ⟨t146, A170, H⟩ := H
              replace H : (if (catS t144 (⟨#[10]⟩ : ByteArray)).size + t146.size ≤ 9223372036854775807 then (if (catS (catS t144 (⟨#[10]⟩ : ByteArray)) t146).size + 3 ≤ 9223372036854775807 then ((ammoniteref1_Put.f kj3 (wrap64 (x7_3 - t145))).bind fun t147 => (if (catS (catS (catS t144 (⟨#[10]⟩ : ByteArray)) t146) (⟨#[64, 48, 44]⟩ : ByteArray)).size + t147.size ≤ 9223372036854775807 then (if (catS (catS (catS (catS t144 (⟨#[10]⟩ : ByteArray)) t146) (⟨#[64, 48, 44]⟩ : ByteArray)) t147).size + 1 ≤ 9223372036854775807 then (if (catS (catS (catS (catS (catS t144 (⟨#[10]⟩ : ByteArray)) t146) (⟨#[64, 48, 44]⟩ : ByteArray)) t147) (⟨#[64]⟩ : ByteArray)).size + t146.size ≤ 9223372036854775807 then (if (catS (catS (catS (catS (catS (catS t144 (⟨#[10]⟩ : ByteArray)) t146) (⟨#[64, 48, 44]⟩ : ByteArray)) t147) (⟨#[64]⟩ : ByteArray)) t146).size + 1 ≤ 9223372036854775807 then (ammonitekeep_Delta.j2 kj3 a1 x7_3 (catS (catS (catS (catS (catS (catS (catS t144 (⟨#[10]⟩ : ByteArray)) t146) (⟨#[64, 48, 44]⟩ : ByteArray)) t147) (⟨#[64]⟩ : ByteArray)) t146) (⟨#[44]⟩ : ByteArray))) else (none)) else (none)) else (none)) else (none))) else (none)) else (none)) = some r := H
              have A17 := Aside0.mk A170
              clear A170
              by_cases c18 : (catS t144 (⟨#[10]⟩ : ByteArray)).size + t146.size ≤ 9223372036854775807
              · rw [if_pos c18] at H
                have c18b0 := eq_true c18
                have c18b1 : decide ((catS t144 (⟨#[10]⟩ : ByteArray)).size + t146.size ≤ 9223372036854775807) = true := decide_eq_true c18
                try have c18b2 : (9223372036854775807 < (catS t144 (⟨#[10]⟩ : ByteArray)).size + t146.size) = False := eq_false (Nat.not_lt.2 c18)
                clear c18
                by_cases c19 : (catS (catS t144 (⟨#[10]⟩ : ByteArray)) t146).size + 3 ≤ 9223372036854775807
                · rw [if_pos c19] at H
                  have c19b0 := eq_true c19
                  have c19b1 : decide ((catS (catS t144 (⟨#[10]⟩ : ByteArray)) t146).size + 3 ≤ 9223372036854775807) = true := decide_eq_true c19
                  try have c19b2 : (9223372036854775807 < (catS (catS t144 (⟨#[10]⟩ : ByteArray)) t146).size + 3) = False := eq_false (Nat.not_lt.2 c19)
                  clear c19
                  replace H := Option.bind_eq_some_iff.mp H
                  obtain ⟨t147, A200, H⟩ := H
                  replace H : (if (catS (catS (catS t144 (⟨#[10]⟩ : ByteArray)) t146) (⟨#[64, 48, 44]⟩ : ByteArray)).size + t147.size ≤ 9223372036854775807 then (if (catS (catS (catS (catS t144 (⟨#[10]⟩ : ByteArray)) t146) (⟨#[64, 48, 44]⟩ : ByteArray)) t147).size + 1 ≤ 9223372036854775807 then (if (catS (catS (catS (catS (catS t144 (⟨#[10]⟩ : ByteArray)) t146) (⟨#[64, 48, 44]⟩ : ByteArray)) t147) (⟨#[64]⟩ : ByteArray)).size + t146.size ≤ 9223372036854775807 then (if (catS (catS (catS (catS (catS (catS t144 (⟨#[10]⟩ : ByteArray)) t146) (⟨#[64, 48, 44]⟩ : ByteArray)) t147) (⟨#[64]⟩ : ByteArray)) t146).size + 1 ≤ 9223372036854775807 then (ammonitekeep_Delta.j2 kj3 a1 x7_3 (catS (catS (catS (catS (catS (catS (catS t144 (⟨#[10]⟩ : ByteArray)) t146) (⟨#[64, 48, 44]⟩ : ByteArray)) t147) (⟨#[64]⟩ : ByteArray)) t146) (⟨#[44]⟩ : ByteArray))) else (none)) else (none)) else (none)) else (none)) = some r := H
                  have A20 := Aside0.mk A200
                  clear A200
                  by_cases c21 : (catS (catS (catS t144 (⟨#[10]⟩ : ByteArray)) t146) (⟨#[64, 48, 44]⟩ : ByteArray)).size + t147.size ≤ 9223372036854775807
                  · rw [if_pos c21] at H
                    have c21b0 := eq_true c21
                    have c21b1 : decide ((catS (catS (catS t144 (⟨#[10]⟩ : ByteArray)) t146) (⟨#[64, 48, 44]⟩ : ByteArray)).size + t147.size ≤ 9223372036854775807) = true := decide_eq_true c21
                    try have c21b2 : (9223372036854775807 < (catS (catS (catS t144 (⟨#[10]⟩ : ByteArray)) t146) (⟨#[64, 48, 44]⟩ : ByteArray)).size + t147.size) = False := eq_false (Nat.not_lt.2 c21)
                    clear c21
                    by_cases c22 : (catS (catS (catS (catS t144 (⟨#[10]⟩ : ByteArray)) t146) (⟨#[64, 48, 44]⟩ : ByteArray)) t147).size + 1 ≤ 9223372036854775807
                    · rw [if_pos c22] at H
                      have c22b0 := eq_true c22
                      have c22b1 : decide ((catS (catS (catS (catS t144 (⟨#[10]⟩ : ByteArray)) t146) (⟨#[64, 48, 44]⟩ : ByteArray)) t147).size + 1 ≤ 9223372036854775807) = true := decide_eq_true c22
                      try have c22b2 : (9223372036854775807 < (catS (catS (catS (catS t144 (⟨#[10]⟩ : ByteArray)) t146) (⟨#[64, 48, 44]⟩ : ByteArray)) t147).size + 1) = False := eq_false (Nat.not_lt.2 c22)
                      clear c22
                      by_cases c23 : (catS (catS (catS (catS (catS t144 (⟨#[10]⟩ : ByteArray)) t146) (⟨#[64, 48, 44]⟩ : ByteArray)) t147) (⟨#[64]⟩ : ByteArray)).size + t146.size ≤ 9223372036854775807
                      · rw [if_pos c23] at H
                        have c23b0 := eq_true c23
                        have c23b1 : decide ((catS (catS (catS (catS (catS t144 (⟨#[10]⟩ : ByteArray)) t146) (⟨#[64, 48, 44]⟩ : ByteArray)) t147) (⟨#[64]⟩ : ByteArray)).size + t146.size ≤ 9223372036854775807) = true := decide_eq_true c23
                        try have c23b2 : (9223372036854775807 < (catS (catS (catS (catS (catS t144 (⟨#[10]⟩ : ByteArray)) t146) (⟨#[64, 48, 44]⟩ : ByteArray)) t147) (⟨#[64]⟩ : ByteArray)).size + t146.size) = False := eq_false (Nat.not_lt.2 c23)
                        clear c23
                        by_cases c24 : (catS (catS (catS (catS (catS (catS t144 (⟨#[10]⟩ : ByteArray)) t146) (⟨#[64, 48, 44]⟩ : ByteArray)) t147) (⟨#[64]⟩ : ByteArray)) t146).size + 1 ≤ 9223372036854775807
                        · rw [if_pos c24] at H
                          have c24b0 := eq_true c24
                          have c24b1 : decide ((catS (catS (catS (catS (catS (catS t144 (⟨#[10]⟩ : ByteArray)) t146) (⟨#[64, 48, 44]⟩ : ByteArray)) t147) (⟨#[64]⟩ : ByteArray)) t146).size + 1 ≤ 9223372036854775807) = true := decide_eq_true c24
                          try have c24b2 : (9223372036854775807 < (catS (catS (catS (catS (catS (catS t144 (⟨#[10]⟩ : ByteArray)) t146) (⟨#[64, 48, 44]⟩ : ByteArray)) t147) (⟨#[64]⟩ : ByteArray)) t146).size + 1) = False := eq_false (Nat.not_lt.2 c24)
                          clear c24
                          have H' := Aside0.mk H
                          clear H
                          go_wp2_with (first | (go_at_call 17; (try simp only [i64_w, i32_w]); (with_reducible refine (ammonitebook_Within.calls a2 0 (wrap64 (x7_3 - 1)) t145 _ A15.out).mono ?_); rintro e w' ⟨rfl, ⟨nd, rfl⟩⟩; (try first | exact ⟨rfl, _, World.drewN_drewN _ _ _⟩ | exact ⟨rfl, _, Eq.trans (World.drewN_drewN _ _ _) (congrArg (World.drewN _) (Nat.add_assoc _ _ _))⟩)) | (go_at_call 36; (try simp only [i64_w, i32_w]); (with_reducible refine (ammoniteref1_Put.calls kj3 t145 t146 _ A17.out).mono ?_); rintro e w' ⟨rfl, ⟨nd, rfl⟩⟩; (try first | exact ⟨rfl, _, World.drewN_drewN _ _ _⟩ | exact ⟨rfl, _, Eq.trans (World.drewN_drewN _ _ _) (congrArg (World.drewN _) (Nat.add_assoc _ _ _))⟩)) | (go_at_call 36; (try simp only [i64_w, i32_w]); (with_reducible refine (ammoniteref1_Put.calls kj3 (wrap64 (x7_3 - t145)) t147 _ A20.out).mono ?_); rintro e w' ⟨rfl, ⟨nd, rfl⟩⟩; (try first | exact ⟨rfl, _, World.drewN_drewN _ _ _⟩ | exact ⟨rfl, _, Eq.trans (World.drewN_drewN _ _ _) (congrArg (World.drewN _) (Nat.add_assoc _ _ _))⟩)))
                          repeat (go_quiet (first | (go_at_call 17; (try simp only [i64_w, i32_w]); (with_reducible refine (ammonitebook_Within.calls a2 0 (wrap64 (x7_3 - 1)) t145 _ A15.out).mono ?_); rintro e w' ⟨rfl, ⟨nd, rfl⟩⟩; (try first | exact ⟨rfl, _, World.drewN_drewN _ _ _⟩ | exact ⟨rfl, _, Eq.trans (World.drewN_drewN _ _ _) (congrArg (World.drewN _) (Nat.add_assoc _ _ _))⟩)) | (go_at_call 36; (try simp only [i64_w, i32_w]); (with_reducible refine (ammoniteref1_Put.calls kj3 t145 t146 _ A17.out).mono ?_); rintro e w' ⟨rfl, ⟨nd, rfl⟩⟩; (try first | exact ⟨rfl, _, World.drewN_drewN _ _ _⟩ | exact ⟨rfl, _, Eq.trans (World.drewN_drewN _ _ _) (congrArg (World.drewN _) (Nat.add_assoc _ _ _))⟩)) | (go_at_call 36; (try simp only [i64_w, i32_w]); (with_reducible refine (ammoniteref1_Put.calls kj3 (wrap64 (x7_3 - t145)) t147 _ A20.out).mono ?_); rintro e w' ⟨rfl, ⟨nd, rfl⟩⟩; (try first | exact ⟨rfl, _, World.drewN_drewN _ _ _⟩ | exact ⟨rfl, _, Eq.trans (World.drewN_drewN _ _ _) (congrArg (World.drewN _) (Nat.add_assoc _ _ _))⟩))); try go_wp2_with (first | (go_at_call 17; (try simp only [i64_w, i32_w]); (with_reducible refine (ammonitebook_Within.calls a2 0 (wrap64 (x7_3 - 1)) t145 _ A15.out).mono ?_); rintro e w' ⟨rfl, ⟨nd, rfl⟩⟩; (try first | exact ⟨rfl, _, World.drewN_drewN _ _ _⟩ | exact ⟨rfl, _, Eq.trans (World.drewN_drewN _ _ _) (congrArg (World.drewN _) (Nat.add_assoc _ _ _))⟩)) | (go_at_call 36; (try simp only [i64_w, i32_w]); (with_reducible refine (ammoniteref1_Put.calls kj3 t145 t146 _ A17.out).mono ?_); rintro e w' ⟨rfl, ⟨nd, rfl⟩⟩; (try first | exact ⟨rfl, _, World.drewN_drewN _ _ _⟩ | exact ⟨rfl, _, Eq.trans (World.drewN_drewN _ _ _) (congrArg (World.drewN _) (Nat.add_assoc _ _ _))⟩)) | (go_at_call 36; (try simp only [i64_w, i32_w]); (with_reducible refine (ammoniteref1_Put.calls kj3 (wrap64 (x7_3 - t145)) t147 _ A20.out).mono ?_); rintro e w' ⟨rfl, ⟨nd, rfl⟩⟩; (try first | exact ⟨rfl, _, World.drewN_drewN _ _ _⟩ | exact ⟨rfl, _, Eq.trans (World.drewN_drewN _ _ _) (congrArg (World.drewN _) (Nat.add_assoc _ _ _))⟩))))
                          go_meet
                          case rel => exact ⟨_, (catS (catS (catS (catS (catS (catS (catS t144 (⟨#[10]⟩ : ByteArray)) t146) (⟨#[64, 48, 44]⟩ : ByteArray)) t147) (⟨#[64]⟩ : ByteArray)) t146) (⟨#[44]⟩ : ByteArray)), (by first | rfl | (simp; done) | (simp [*]; done)), H', ⟨by have := HJ3.out; first | omega | exact Nat.le_refl _⟩, by repeat (first | exact Drawn0.refl _ | apply Drawn0.step)⟩
                          all_goals (exfalso; (try simp only [beq_iff_eq, bne_iff_ne, ne_eq, decide_eq_true_eq, decide_eq_false_iff_not, decide_eq_decide, bne_eq_false_iff_eq, beq_eq_false_iff_ne, Bool.not_eq_true, Bool.not_eq_false, Bool.not_eq_true', Bool.not_eq_false', Bool.true_beq, Bool.false_beq, Bool.true_bne, Bool.false_bne, Bool.bne_true, Bool.bne_false] at c12b0); (try simp only [beq_iff_eq, bne_iff_ne, ne_eq, decide_eq_true_eq, decide_eq_false_iff_not, decide_eq_decide, bne_eq_false_iff_eq, beq_eq_false_iff_ne, Bool.not_eq_true, Bool.not_eq_false, Bool.not_eq_true', Bool.not_eq_false', Bool.true_beq, Bool.false_beq, Bool.true_bne, Bool.false_bne, Bool.bne_true, Bool.bne_false] at c12b1); (try simp only [beq_iff_eq, bne_iff_ne, ne_eq, decide_eq_true_eq, decide_eq_false_iff_not, decide_eq_decide, bne_eq_false_iff_eq, beq_eq_false_iff_ne, Bool.not_eq_true, Bool.not_eq_false, Bool.not_eq_true', Bool.not_eq_false', Bool.true_beq, Bool.false_beq, Bool.true_bne, Bool.false_bne, Bool.bne_true, Bool.bne_false] at c14b0); (try simp only [beq_iff_eq, bne_iff_ne, ne_eq, decide_eq_true_eq, decide_eq_false_iff_not, decide_eq_decide, bne_eq_false_iff_eq, beq_eq_false_iff_ne, Bool.not_eq_true, Bool.not_eq_false, Bool.not_eq_true', Bool.not_eq_false', Bool.true_beq, Bool.false_beq, Bool.true_bne, Bool.false_bne, Bool.bne_true, Bool.bne_false] at c16b0); (try simp only [beq_iff_eq, bne_iff_ne, ne_eq, decide_eq_true_eq, decide_eq_false_iff_not, decide_eq_decide, bne_eq_false_iff_eq, beq_eq_false_iff_ne, Bool.not_eq_true, Bool.not_eq_false, Bool.not_eq_true', Bool.not_eq_false', Bool.true_beq, Bool.false_beq, Bool.true_bne, Bool.false_bne, Bool.bne_true, Bool.bne_false] at c18b0); (try simp only [beq_iff_eq, bne_iff_ne, ne_eq, decide_eq_true_eq, decide_eq_false_iff_not, decide_eq_decide, bne_eq_false_iff_eq, beq_eq_false_iff_ne, Bool.not_eq_true, Bool.not_eq_false, Bool.not_eq_true', Bool.not_eq_false', Bool.true_beq, Bool.false_beq, Bool.true_bne, Bool.false_bne, Bool.bne_true, Bool.bne_false] at c18b1); (try simp only [beq_iff_eq, bne_iff_ne, ne_eq, decide_eq_true_eq, decide_eq_false_iff_not, decide_eq_decide, bne_eq_false_iff_eq, beq_eq_false_iff_ne, Bool.not_eq_true, Bool.not_eq_false, Bool.not_eq_true', Bool.not_eq_false', Bool.true_beq, Bool.false_beq, Bool.true_bne, Bool.false_bne, Bool.bne_true, Bool.bne_false] at c19b0); (try simp only [beq_iff_eq, bne_iff_ne, ne_eq, decide_eq_true_eq, decide_eq_false_iff_not, decide_eq_decide, bne_eq_false_iff_eq, beq_eq_false_iff_ne, Bool.not_eq_true, Bool.not_eq_false, Bool.not_eq_true', Bool.not_eq_false', Bool.true_beq, Bool.false_beq, Bool.true_bne, Bool.false_bne, Bool.bne_true, Bool.bne_false] at c19b1); (try simp only [beq_iff_eq, bne_iff_ne, ne_eq, decide_eq_true_eq, decide_eq_false_iff_not, decide_eq_decide, bne_eq_false_iff_eq, beq_eq_false_iff_ne, Bool.not_eq_true, Bool.not_eq_false, Bool.not_eq_true', Bool.not_eq_false', Bool.true_beq, Bool.false_beq, Bool.true_bne, Bool.false_bne, Bool.bne_true, Bool.bne_false] at c21b0); (try simp only [beq_iff_eq, bne_iff_ne, ne_eq, decide_eq_true_eq, decide_eq_false_iff_not, decide_eq_decide, bne_eq_false_iff_eq, beq_eq_false_iff_ne, Bool.not_eq_true, Bool.not_eq_false, Bool.not_eq_true', Bool.not_eq_false', Bool.true_beq, Bool.false_beq, Bool.true_bne, Bool.false_bne, Bool.bne_true, Bool.bne_false] at c21b1); (try simp only [beq_iff_eq, bne_iff_ne, ne_eq, decide_eq_true_eq, decide_eq_false_iff_not, decide_eq_decide, bne_eq_false_iff_eq, beq_eq_false_iff_ne, Bool.not_eq_true, Bool.not_eq_false, Bool.not_eq_true', Bool.not_eq_false', Bool.true_beq, Bool.false_beq, Bool.true_bne, Bool.false_bne, Bool.bne_true, Bool.bne_false] at c22b0); (try simp only [beq_iff_eq, bne_iff_ne, ne_eq, decide_eq_true_eq, decide_eq_false_iff_not, decide_eq_decide, bne_eq_false_iff_eq, beq_eq_false_iff_ne, Bool.not_eq_true, Bool.not_eq_false, Bool.not_eq_true', Bool.not_eq_false', Bool.true_beq, Bool.false_beq, Bool.true_bne, Bool.false_bne, Bool.bne_true, Bool.bne_false] at c22b1); (try simp only [beq_iff_eq, bne_iff_ne, ne_eq, decide_eq_true_eq, decide_eq_false_iff_not, decide_eq_decide, bne_eq_false_iff_eq, beq_eq_false_iff_ne, Bool.not_eq_true, Bool.not_eq_false, Bool.not_eq_true', Bool.not_eq_false', Bool.true_beq, Bool.false_beq, Bool.true_bne, Bool.false_bne, Bool.bne_true, Bool.bne_false] at c23b0); (try simp only [beq_iff_eq, bne_iff_ne, ne_eq, decide_eq_true_eq, decide_eq_false_iff_not, decide_eq_decide, bne_eq_false_iff_eq, beq_eq_false_iff_ne, Bool.not_eq_true, Bool.not_eq_false, Bool.not_eq_true', Bool.not_eq_false', Bool.true_beq, Bool.false_beq, Bool.true_bne, Bool.false_bne, Bool.bne_true, Bool.bne_false] at c23b1); (try simp only [beq_iff_eq, bne_iff_ne, ne_eq, decide_eq_true_eq, decide_eq_false_iff_not, decide_eq_decide, bne_eq_false_iff_eq, beq_eq_false_iff_ne, Bool.not_eq_true, Bool.not_eq_false, Bool.not_eq_true', Bool.not_eq_false', Bool.true_beq, Bool.false_beq, Bool.true_bne, Bool.false_bne, Bool.bne_true, Bool.bne_false] at c24b0); (try simp only [beq_iff_eq, bne_iff_ne, ne_eq, decide_eq_true_eq, decide_eq_false_iff_not, decide_eq_decide, bne_eq_false_iff_eq, beq_eq_false_iff_ne, Bool.not_eq_true, Bool.not_eq_false, Bool.not_eq_true', Bool.not_eq_false', Bool.true_beq, Bool.false_beq, Bool.true_bne, Bool.false_bne, Bool.bne_true, Bool.bne_false] at c24b1); (try unfold wrap64 at *); omega)
                        · rw [if_neg c24] at H
                          exact absurd H (by simp)
                      · rw [if_neg c23] at H
                        exact absurd H (by simp)
                    · rw [if_neg c22] at H
                      exact absurd H (by simp)
                  · rw [if_neg c21] at H
                    exact absurd H (by simp)
                · rw [if_neg c19] at H
                  exact absurd H (by simp)
              · rw [if_neg c18] at H
                exact absurd H (by simp)
            · rw [if_neg c16] at H
              have c16b0 : decide (0 < t145) = false := decide_eq_false c16
              clear c16
              replace H := Option.bind_eq_some_iff.mp H
              obtain ⟨t148, A250, H⟩ := H
              replace H : (if (catS t144 (⟨#[10]⟩ : ByteArray)).size + t148.size ≤ 9223372036854775807 then (if (catS (catS t144 (⟨#[10]⟩ : ByteArray)) t148).size + 1 ≤ 9223372036854775807 then ((ammoniteref1_Put.f kj3 t145).bind fun t149 => (if (catS (catS (catS t144 (⟨#[10]⟩ : ByteArray)) t148) (⟨#[64]⟩ : ByteArray)).size + t149.size ≤ 9223372036854775807 then (if (catS (catS (catS (catS t144 (⟨#[10]⟩ : ByteArray)) t148) (⟨#[64]⟩ : ByteArray)) t149).size + 1 ≤ 9223372036854775807 then (ammonitekeep_Delta.j2 kj3 a1 x7_3 (catS (catS (catS (catS (catS t144 (⟨#[10]⟩ : ByteArray)) t148) (⟨#[64]⟩ : ByteArray)) t149) (⟨#[44]⟩ : ByteArray))) else (none)) else (none))) else (none)) else (none)) = some r := H
              have A25 := Aside0.mk A250
              clear A250
              by_cases c26 : (catS t144 (⟨#[10]⟩ : ByteArray)).size + t148.size ≤ 9223372036854775807
              · rw [if_pos c26] at H
                have c26b0 := eq_true c26
                have c26b1 : decide ((catS t144 (⟨#[10]⟩ : ByteArray)).size + t148.size ≤ 9223372036854775807) = true := decide_eq_true c26
                try have c26b2 : (9223372036854775807 < (catS t144 (⟨#[10]⟩ : ByteArray)).size + t148.size) = False := eq_false (Nat.not_lt.2 c26)
                clear c26
                by_cases c27 : (catS (catS t144 (⟨#[10]⟩ : ByteArray)) t148).size + 1 ≤ 9223372036854775807
                · rw [if_pos c27] at H
                  have c27b0 := eq_true c27
                  have c27b1 : decide ((catS (catS t144 (⟨#[10]⟩ : ByteArray)) t148).size + 1 ≤ 9223372036854775807) = true := decide_eq_true c27
                  try have c27b2 : (9223372036854775807 < (catS (catS t144 (⟨#[10]⟩ : ByteArray)) t148).size + 1) = False := eq_false (Nat.not_lt.2 c27)
                  clear c27
                  replace H := Option.bind_eq_some_iff.mp H
                  obtain ⟨t149, A280, H⟩ := H
                  replace H : (if (catS (catS (catS t144 (⟨#[10]⟩ : ByteArray)) t148) (⟨#[64]⟩ : ByteArray)).size + t149.size ≤ 9223372036854775807 then (if (catS (catS (catS (catS t144 (⟨#[10]⟩ : ByteArray)) t148) (⟨#[64]⟩ : ByteArray)) t149).size + 1 ≤ 9223372036854775807 then (ammonitekeep_Delta.j2 kj3 a1 x7_3 (catS (catS (catS (catS (catS t144 (⟨#[10]⟩ : ByteArray)) t148) (⟨#[64]⟩ : ByteArray)) t149) (⟨#[44]⟩ : ByteArray))) else (none)) else (none)) = some r := H
                  have A28 := Aside0.mk A280
                  clear A280
                  by_cases c29 : (catS (catS (catS t144 (⟨#[10]⟩ : ByteArray)) t148) (⟨#[64]⟩ : ByteArray)).size + t149.size ≤ 9223372036854775807
                  · rw [if_pos c29] at H
                    have c29b0 := eq_true c29
                    have c29b1 : decide ((catS (catS (catS t144 (⟨#[10]⟩ : ByteArray)) t148) (⟨#[64]⟩ : ByteArray)).size + t149.size ≤ 9223372036854775807) = true := decide_eq_true c29
                    try have c29b2 : (9223372036854775807 < (catS (catS (catS t144 (⟨#[10]⟩ : ByteArray)) t148) (⟨#[64]⟩ : ByteArray)).size + t149.size) = False := eq_false (Nat.not_lt.2 c29)
                    clear c29
                    by_cases c30 : (catS (catS (catS (catS t144 (⟨#[10]⟩ : ByteArray)) t148) (⟨#[64]⟩ : ByteArray)) t149).size + 1 ≤ 9223372036854775807
                    · rw [if_pos c30] at H
                      have c30b0 := eq_true c30
                      have c30b1 : decide ((catS (catS (catS (catS t144 (⟨#[10]⟩ : ByteArray)) t148) (⟨#[64]⟩ : ByteArray)) t149).size + 1 ≤ 9223372036854775807) = true := decide_eq_true c30
                      try have c30b2 : (9223372036854775807 < (catS (catS (catS (catS t144 (⟨#[10]⟩ : ByteArray)) t148) (⟨#[64]⟩ : ByteArray)) t149).size + 1) = False := eq_false (Nat.not_lt.2 c30)
                      clear c30
                      have H' := Aside0.mk H
                      clear H
                      go_wp2_with (first | (go_at_call 17; (try simp only [i64_w, i32_w]); (with_reducible refine (ammonitebook_Within.calls a2 0 (wrap64 (x7_3 - 1)) t145 _ A15.out).mono ?_); rintro e w' ⟨rfl, ⟨nd, rfl⟩⟩; (try first | exact ⟨rfl, _, World.drewN_drewN _ _ _⟩ | exact ⟨rfl, _, Eq.trans (World.drewN_drewN _ _ _) (congrArg (World.drewN _) (Nat.add_assoc _ _ _))⟩)) | (go_at_call 36; (try simp only [i64_w, i32_w]); (with_reducible refine (ammoniteref1_Put.calls kj3 (wrap64 (x7_3 - t145)) t148 _ A25.out).mono ?_); rintro e w' ⟨rfl, ⟨nd, rfl⟩⟩; (try first | exact ⟨rfl, _, World.drewN_drewN _ _ _⟩ | exact ⟨rfl, _, Eq.trans (World.drewN_drewN _ _ _) (congrArg (World.drewN _) (Nat.add_assoc _ _ _))⟩)) | (go_at_call 36; (try simp only [i64_w, i32_w]); (with_reducible refine (ammoniteref1_Put.calls kj3 t145 t149 _ A28.out).mono ?_); rintro e w' ⟨rfl, ⟨nd, rfl⟩⟩; (try first | exact ⟨rfl, _, World.drewN_drewN _ _ _⟩ | exact ⟨rfl, _, Eq.trans (World.drewN_drewN _ _ _) (congrArg (World.drewN _) (Nat.add_assoc _ _ _))⟩)))
                      repeat (go_quiet (first | (go_at_call 17; (try simp only [i64_w, i32_w]); (with_reducible refine (ammonitebook_Within.calls a2 0 (wrap64 (x7_3 - 1)) t145 _ A15.out).mono ?_); rintro e w' ⟨rfl, ⟨nd, rfl⟩⟩; (try first | exact ⟨rfl, _, World.drewN_drewN _ _ _⟩ | exact ⟨rfl, _, Eq.trans (World.drewN_drewN _ _ _) (congrArg (World.drewN _) (Nat.add_assoc _ _ _))⟩)) | (go_at_call 36; (try simp only [i64_w, i32_w]); (with_reducible refine (ammoniteref1_Put.calls kj3 (wrap64 (x7_3 - t145)) t148 _ A25.out).mono ?_); rintro e w' ⟨rfl, ⟨nd, rfl⟩⟩; (try first | exact ⟨rfl, _, World.drewN_drewN _ _ _⟩ | exact ⟨rfl, _, Eq.trans (World.drewN_drewN _ _ _) (congrArg (World.drewN _) (Nat.add_assoc _ _ _))⟩)) | (go_at_call 36; (try simp only [i64_w, i32_w]); (with_reducible refine (ammoniteref1_Put.calls kj3 t145 t149 _ A28.out).mono ?_); rintro e w' ⟨rfl, ⟨nd, rfl⟩⟩; (try first | exact ⟨rfl, _, World.drewN_drewN _ _ _⟩ | exact ⟨rfl, _, Eq.trans (World.drewN_drewN _ _ _) (congrArg (World.drewN _) (Nat.add_assoc _ _ _))⟩))); try go_wp2_with (first | (go_at_call 17; (try simp only [i64_w, i32_w]); (with_reducible refine (ammonitebook_Within.calls a2 0 (wrap64 (x7_3 - 1)) t145 _ A15.out).mono ?_); rintro e w' ⟨rfl, ⟨nd, rfl⟩⟩; (try first | exact ⟨rfl, _, World.drewN_drewN _ _ _⟩ | exact ⟨rfl, _, Eq.trans (World.drewN_drewN _ _ _) (congrArg (World.drewN _) (Nat.add_assoc _ _ _))⟩)) | (go_at_call 36; (try simp only [i64_w, i32_w]); (with_reducible refine (ammoniteref1_Put.calls kj3 (wrap64 (x7_3 - t145)) t148 _ A25.out).mono ?_); rintro e w' ⟨rfl, ⟨nd, rfl⟩⟩; (try first | exact ⟨rfl, _, World.drewN_drewN _ _ _⟩ | exact ⟨rfl, _, Eq.trans (World.drewN_drewN _ _ _) (congrArg (World.drewN _) (Nat.add_assoc _ _ _))⟩)) | (go_at_call 36; (try simp only [i64_w, i32_w]); (with_reducible refine (ammoniteref1_Put.calls kj3 t145 t149 _ A28.out).mono ?_); rintro e w' ⟨rfl, ⟨nd, rfl⟩⟩; (try first | exact ⟨rfl, _, World.drewN_drewN _ _ _⟩ | exact ⟨rfl, _, Eq.trans (World.drewN_drewN _ _ _) (congrArg (World.drewN _) (Nat.add_assoc _ _ _))⟩))))
                      go_meet
                      case rel => exact ⟨_, (catS (catS (catS (catS (catS t144 (⟨#[10]⟩ : ByteArray)) t148) (⟨#[64]⟩ : ByteArray)) t149) (⟨#[44]⟩ : ByteArray)), (by first | rfl | (simp; done) | (simp [*]; done)), H', ⟨by have := HJ3.out; first | omega | exact Nat.le_refl _⟩, by repeat (first | exact Drawn0.refl _ | apply Drawn0.step)⟩
                      all_goals (exfalso; (try simp only [beq_iff_eq, bne_iff_ne, ne_eq, decide_eq_true_eq, decide_eq_false_iff_not, decide_eq_decide, bne_eq_false_iff_eq, beq_eq_false_iff_ne, Bool.not_eq_true, Bool.not_eq_false, Bool.not_eq_true', Bool.not_eq_false', Bool.true_beq, Bool.false_beq, Bool.true_bne, Bool.false_bne, Bool.bne_true, Bool.bne_false] at c12b0); (try simp only [beq_iff_eq, bne_iff_ne, ne_eq, decide_eq_true_eq, decide_eq_false_iff_not, decide_eq_decide, bne_eq_false_iff_eq, beq_eq_false_iff_ne, Bool.not_eq_true, Bool.not_eq_false, Bool.not_eq_true', Bool.not_eq_false', Bool.true_beq, Bool.false_beq, Bool.true_bne, Bool.false_bne, Bool.bne_true, Bool.bne_false] at c12b1); (try simp only [beq_iff_eq, bne_iff_ne, ne_eq, decide_eq_true_eq, decide_eq_false_iff_not, decide_eq_decide, bne_eq_false_iff_eq, beq_eq_false_iff_ne, Bool.not_eq_true, Bool.not_eq_false, Bool.not_eq_true', Bool.not_eq_false', Bool.true_beq, Bool.false_beq, Bool.true_bne, Bool.false_bne, Bool.bne_true, Bool.bne_false] at c14b0); (try simp only [beq_iff_eq, bne_iff_ne, ne_eq, decide_eq_true_eq, decide_eq_false_iff_not, decide_eq_decide, bne_eq_false_iff_eq, beq_eq_false_iff_ne, Bool.not_eq_true, Bool.not_eq_false, Bool.not_eq_true', Bool.not_eq_false', Bool.true_beq, Bool.false_beq, Bool.true_bne, Bool.false_bne, Bool.bne_true, Bool.bne_false] at c16b0); (try simp only [beq_iff_eq, bne_iff_ne, ne_eq, decide_eq_true_eq, decide_eq_false_iff_not, decide_eq_decide, bne_eq_false_iff_eq, beq_eq_false_iff_ne, Bool.not_eq_true, Bool.not_eq_false, Bool.not_eq_true', Bool.not_eq_false', Bool.true_beq, Bool.false_beq, Bool.true_bne, Bool.false_bne, Bool.bne_true, Bool.bne_false] at c26b0); (try simp only [beq_iff_eq, bne_iff_ne, ne_eq, decide_eq_true_eq, decide_eq_false_iff_not, decide_eq_decide, bne_eq_false_iff_eq, beq_eq_false_iff_ne, Bool.not_eq_true, Bool.not_eq_false, Bool.not_eq_true', Bool.not_eq_false', Bool.true_beq, Bool.false_beq, Bool.true_bne, Bool.false_bne, Bool.bne_true, Bool.bne_false] at c26b1); (try simp only [beq_iff_eq, bne_iff_ne, ne_eq, decide_eq_true_eq, decide_eq_false_iff_not, decide_eq_decide, bne_eq_false_iff_eq, beq_eq_false_iff_ne, Bool.not_eq_true, Bool.not_eq_false, Bool.not_eq_true', Bool.not_eq_false', Bool.true_beq, Bool.false_beq, Bool.true_bne, Bool.false_bne, Bool.bne_true, Bool.bne_false] at c27b0); (try simp only [beq_iff_eq, bne_iff_ne, ne_eq, decide_eq_true_eq, decide_eq_false_iff_not, decide_eq_decide, bne_eq_false_iff_eq, beq_eq_false_iff_ne, Bool.not_eq_true, Bool.not_eq_false, Bool.not_eq_true', Bool.not_eq_false', Bool.true_beq, Bool.false_beq, Bool.true_bne, Bool.false_bne, Bool.bne_true, Bool.bne_false] at c27b1); (try simp only [beq_iff_eq, bne_iff_ne, ne_eq, decide_eq_true_eq, decide_eq_false_iff_not, decide_eq_decide, bne_eq_false_iff_eq, beq_eq_false_iff_ne, Bool.not_eq_true, Bool.not_eq_false, Bool.not_eq_true', Bool.not_eq_false', Bool.true_beq, Bool.false_beq, Bool.true_bne, Bool.false_bne, Bool.bne_true, Bool.bne_false] at c29b0); (try simp only [beq_iff_eq, bne_iff_ne, ne_eq, decide_eq_true_eq, decide_eq_false_iff_not, decide_eq_decide, bne_eq_false_iff_eq, beq_eq_false_iff_ne, Bool.not_eq_true, Bool.not_eq_false, Bool.not_eq_true', Bool.not_eq_false', Bool.true_beq, Bool.false_beq, Bool.true_bne, Bool.false_bne, Bool.bne_true, Bool.bne_false] at c29b1); (try simp only [beq_iff_eq, bne_iff_ne, ne_eq, decide_eq_true_eq, decide_eq_false_iff_not, decide_eq_decide, bne_eq_false_iff_eq, beq_eq_false_iff_ne, Bool.not_eq_true, Bool.not_eq_false, Bool.not_eq_true', Bool.not_eq_false', Bool.true_beq, Bool.false_beq, Bool.true_bne, Bool.false_bne, Bool.bne_true, Bool.bne_false] at c30b0); (try simp only [beq_iff_eq, bne_iff_ne, ne_eq, decide_eq_true_eq, decide_eq_false_iff_not, decide_eq_decide, bne_eq_false_iff_eq, beq_eq_false_iff_ne, Bool.not_eq_true, Bool.not_eq_false, Bool.not_eq_true', Bool.not_eq_false', Bool.true_beq, Bool.false_beq, Bool.true_bne, Bool.false_bne, Bool.bne_true, Bool.bne_false] at c30b1); (try unfold wrap64 at *); omega)
                    · rw [if_neg c30] at H
                      exact absurd H (by simp)
                  · rw [if_neg c29] at H
                    exact absurd H (by simp)
                · rw [if_neg c27] at H
                  exact absurd H (by simp)
              · rw [if_neg c26] at H
                exact absurd H (by simp)
          · rw [if_neg c14] at H
            have c14b0 : decide (0 < x7_3) = false := decide_eq_false c14
            clear c14
            (first | rw [c14b0] | (simp only [i64_w, i32_w]; rw [c14b0]) | skip)
            have H' := Aside0.mk H
            clear H
            go_wp2
            repeat (go_quiet (fail); try go_wp2)
            go_meet
            case rel => exact ⟨_, (catS t144 (⟨#[10]⟩ : ByteArray)), (by first | rfl | (simp; done) | (simp [*]; done)), H', ⟨by have := HJ3.out; first | omega | exact Nat.le_refl _⟩, by repeat (first | exact Drawn0.refl _ | apply Drawn0.step)⟩
            all_goals (exfalso; (try simp only [beq_iff_eq, bne_iff_ne, ne_eq, decide_eq_true_eq, decide_eq_false_iff_not, decide_eq_decide, bne_eq_false_iff_eq, beq_eq_false_iff_ne, Bool.not_eq_true, Bool.not_eq_false, Bool.not_eq_true', Bool.not_eq_false', Bool.true_beq, Bool.false_beq, Bool.true_bne, Bool.false_bne, Bool.bne_true, Bool.bne_false] at c12b0); (try simp only [beq_iff_eq, bne_iff_ne, ne_eq, decide_eq_true_eq, decide_eq_false_iff_not, decide_eq_decide, bne_eq_false_iff_eq, beq_eq_false_iff_ne, Bool.not_eq_true, Bool.not_eq_false, Bool.not_eq_true', Bool.not_eq_false', Bool.true_beq, Bool.false_beq, Bool.true_bne, Bool.false_bne, Bool.bne_true, Bool.bne_false] at c12b1); (try simp only [beq_iff_eq, bne_iff_ne, ne_eq, decide_eq_true_eq, decide_eq_false_iff_not, decide_eq_decide, bne_eq_false_iff_eq, beq_eq_false_iff_ne, Bool.not_eq_true, Bool.not_eq_false, Bool.not_eq_true', Bool.not_eq_false', Bool.true_beq, Bool.false_beq, Bool.true_bne, Bool.false_bne, Bool.bne_true, Bool.bne_false] at c14b0); (try unfold wrap64 at *); omega)
        case rest =>
          clear HC13
          try clear c1
          try clear c2
          try clear p2
          try clear c3
          try clear c5
          try clear c5b0
          try clear c6
          try clear c6b0
          try clear p6
          try clear c7
          try clear c7b0
          try clear p8
          try clear q8
          try clear hx8
          try clear p9
          try clear q9
          try clear hx9
          try clear c10
          try clear c10b0
          try clear c10b1
          try clear c12
          try clear c12b0
          try clear c12b1
          try clear c12b2
          try clear c14
          try clear c14b0
          try clear c16
          try clear c16b0
          try clear c18
          try clear c18b0
          try clear c18b1
          try clear c18b2
          try clear c19
          try clear c19b0
          try clear c19b1
          try clear c19b2
          try clear c21
          try clear c21b0
          try clear c21b1
          try clear c21b2
          try clear c22
          try clear c22b0
          try clear c22b1
          try clear c22b2
          try clear c23
          try clear c23b0
          try clear c23b1
          try clear c23b2
          try clear c24
          try clear c24b0
          try clear c24b1
          try clear c24b2
          try clear c26
          try clear c26b0
          try clear c26b1
          try clear c26b2
          try clear c27
          try clear c27b0
          try clear c27b1
          try clear c27b2
          try clear c29
          try clear c29b0
          try clear c29b1
          try clear c29b2
          try clear c30
          try clear c30b0
          try clear c30b1
          try clear c30b2
          try clear p2
          try clear p6
          try clear p8
          try clear p9
          try clear q8
          try clear q9
          obtain ⟨kq, x8_12, rfl, HA, HJ12, ⟨mc12, rfl⟩⟩ := hcut
          cases kq with
          | zero => exact absurd HA.out (by simp [ammonitekeep_Delta.j2])
          | succ kj12 =>
            have H := HA.out
            clear HA
            simp only [ammonitekeep_Delta.j2] at H
            by_cases c31 : (a1.size : Int) > x7_3
            · rw [if_pos c31] at H
              have c31b0 : decide (x7_3 < (a1.size : Int)) = true := decide_eq_true c31
              clear c31
              replace H := Option.bind_eq_some_iff.mp H
              obtain ⟨t150, A320, H⟩ := H
              replace H : (if x8_12.size + t150.size ≤ 9223372036854775807 then (if (catS x8_12 t150).size + 1 ≤ 9223372036854775807 then (if 0 ≤ x7_3 then (if x7_3 ≤ (a1.size : Int) then (if (catS (catS x8_12 t150) (⟨#[58]⟩ : ByteArray)).size + (cutS a1 (x7_3 : Int).toNat a1.size).size ≤ 9223372036854775807 then ((ammoniteref1_Check.f kj12 a1).bind fun t151 => ((ammoniteref1_Put.f kj12 t151).bind fun t152 => (if (catS (catS (catS x8_12 t150) (⟨#[58]⟩ : ByteArray)) (cutS a1 (x7_3 : Int).toNat a1.size)).size + t152.size ≤ 9223372036854775807 then (if (catS (catS (catS (catS x8_12 t150) (⟨#[58]⟩ : ByteArray)) (cutS a1 (x7_3 : Int).toNat a1.size)) t152).size + 1 ≤ 9223372036854775807 then (some (catS (catS (catS (catS (catS x8_12 t150) (⟨#[58]⟩ : ByteArray)) (cutS a1 (x7_3 : Int).toNat a1.size)) t152) (⟨#[59]⟩ : ByteArray))) else (none)) else (none)))) else (none)) else (none)) else (none)) else (none)) else (none)) = some r := H
              have A32 := Aside0.mk A320
              clear A320
              by_cases c33 : x8_12.size + t150.size ≤ 9223372036854775807
              · rw [if_pos c33] at H
                have c33b0 := eq_true c33
                have c33b1 : decide (x8_12.size + t150.size ≤ 9223372036854775807) = true := decide_eq_true c33
                try have c33b2 : (9223372036854775807 < x8_12.size + t150.size) = False := eq_false (Nat.not_lt.2 c33)
                clear c33
                by_cases c34 : (catS x8_12 t150).size + 1 ≤ 9223372036854775807
                · rw [if_pos c34] at H
                  have c34b0 := eq_true c34
                  have c34b1 : decide ((catS x8_12 t150).size + 1 ≤ 9223372036854775807) = true := decide_eq_true c34
                  try have c34b2 : (9223372036854775807 < (catS x8_12 t150).size + 1) = False := eq_false (Nat.not_lt.2 c34)
                  clear c34
                  by_cases c35 : 0 ≤ x7_3
                  · rw [if_pos c35] at H
                    have c35b0 := eq_true c35
                    have c35b1 : decide (0 ≤ x7_3) = true := decide_eq_true c35
                    clear c35
                    by_cases c36 : x7_3 ≤ (a1.size : Int)
                    · rw [if_pos c36] at H
                      have c36b0 := eq_true c36
                      have c36b1 : decide (x7_3 ≤ (a1.size : Int)) = true := decide_eq_true c36
                      clear c36
                      by_cases c37 : (catS (catS x8_12 t150) (⟨#[58]⟩ : ByteArray)).size + (cutS a1 (x7_3 : Int).toNat a1.size).size ≤ 9223372036854775807
                      · rw [if_pos c37] at H
                        have c37b0 := eq_true c37
                        have c37b1 : decide ((catS (catS x8_12 t150) (⟨#[58]⟩ : ByteArray)).size + (cutS a1 (x7_3 : Int).toNat a1.size).size ≤ 9223372036854775807) = true := decide_eq_true c37
                        try have c37b2 : (9223372036854775807 < (catS (catS x8_12 t150) (⟨#[58]⟩ : ByteArray)).size + (cutS a1 (x7_3 : Int).toNat a1.size).size) = False := eq_false (Nat.not_lt.2 c37)
                        clear c37
                        replace H := Option.bind_eq_some_iff.mp H
                        obtain ⟨t151, A380, H⟩ := H
                        replace H : ((ammoniteref1_Put.f kj12 t151).bind fun t152 => (if (catS (catS (catS x8_12 t150) (⟨#[58]⟩ : ByteArray)) (cutS a1 (x7_3 : Int).toNat a1.size)).size + t152.size ≤ 9223372036854775807 then (if (catS (catS (catS (catS x8_12 t150) (⟨#[58]⟩ : ByteArray)) (cutS a1 (x7_3 : Int).toNat a1.size)) t152).size + 1 ≤ 9223372036854775807 then (some (catS (catS (catS (catS (catS x8_12 t150) (⟨#[58]⟩ : ByteArray)) (cutS a1 (x7_3 : Int).toNat a1.size)) t152) (⟨#[59]⟩ : ByteArray))) else (none)) else (none))) = some r := H
                        have A38 := Aside0.mk A380
                        clear A380
                        replace H := Option.bind_eq_some_iff.mp H
                        obtain ⟨t152, A390, H⟩ := H
                        replace H : (if (catS (catS (catS x8_12 t150) (⟨#[58]⟩ : ByteArray)) (cutS a1 (x7_3 : Int).toNat a1.size)).size + t152.size ≤ 9223372036854775807 then (if (catS (catS (catS (catS x8_12 t150) (⟨#[58]⟩ : ByteArray)) (cutS a1 (x7_3 : Int).toNat a1.size)) t152).size + 1 ≤ 9223372036854775807 then (some (catS (catS (catS (catS (catS x8_12 t150) (⟨#[58]⟩ : ByteArray)) (cutS a1 (x7_3 : Int).toNat a1.size)) t152) (⟨#[59]⟩ : ByteArray))) else (none)) else (none)) = some r := H
                        have A39 := Aside0.mk A390
                        clear A390
                        by_cases c40 : (catS (catS (catS x8_12 t150) (⟨#[58]⟩ : ByteArray)) (cutS a1 (x7_3 : Int).toNat a1.size)).size + t152.size ≤ 9223372036854775807
                        · rw [if_pos c40] at H
                          have c40b0 := eq_true c40
                          have c40b1 : decide ((catS (catS (catS x8_12 t150) (⟨#[58]⟩ : ByteArray)) (cutS a1 (x7_3 : Int).toNat a1.size)).size + t152.size ≤ 9223372036854775807) = true := decide_eq_true c40
                          try have c40b2 : (9223372036854775807 < (catS (catS (catS x8_12 t150) (⟨#[58]⟩ : ByteArray)) (cutS a1 (x7_3 : Int).toNat a1.size)).size + t152.size) = False := eq_false (Nat.not_lt.2 c40)
                          clear c40
                          by_cases c41 : (catS (catS (catS (catS x8_12 t150) (⟨#[58]⟩ : ByteArray)) (cutS a1 (x7_3 : Int).toNat a1.size)) t152).size + 1 ≤ 9223372036854775807
                          · rw [if_pos c41] at H
                            have c41b0 := eq_true c41
                            have c41b1 : decide ((catS (catS (catS (catS x8_12 t150) (⟨#[58]⟩ : ByteArray)) (cutS a1 (x7_3 : Int).toNat a1.size)) t152).size + 1 ≤ 9223372036854775807) = true := decide_eq_true c41
                            try have c41b2 : (9223372036854775807 < (catS (catS (catS (catS x8_12 t150) (⟨#[58]⟩ : ByteArray)) (cutS a1 (x7_3 : Int).toNat a1.size)) t152).size + 1) = False := eq_false (Nat.not_lt.2 c41)
                            clear c41
                            obtain rfl := Option.some.inj H
                            go_wp2_with (first | (go_at_call 36; (try simp only [i64_w, i32_w]); (with_reducible refine (ammoniteref1_Put.calls kj12 (wrap64 ((a1.size : Int) - x7_3)) t150 _ A32.out).mono ?_); rintro e w' ⟨rfl, ⟨nd, rfl⟩⟩; (try first | exact ⟨rfl, _, World.drewN_drewN _ _ _⟩ | exact ⟨rfl, _, Eq.trans (World.drewN_drewN _ _ _) (congrArg (World.drewN _) (Nat.add_assoc _ _ _))⟩)) | (go_at_call 26; (try simp only [i64_w, i32_w]); (with_reducible refine (ammoniteref1_Check.calls kj12 a1 t151 _ A38.out).mono ?_); rintro e w' ⟨rfl, ⟨nd, rfl⟩⟩; (try first | exact ⟨rfl, _, World.drewN_drewN _ _ _⟩ | exact ⟨rfl, _, Eq.trans (World.drewN_drewN _ _ _) (congrArg (World.drewN _) (Nat.add_assoc _ _ _))⟩)) | (go_at_call 36; (try simp only [i64_w, i32_w]); (with_reducible refine (ammoniteref1_Put.calls kj12 t151 t152 _ A39.out).mono ?_); rintro e w' ⟨rfl, ⟨nd, rfl⟩⟩; (try first | exact ⟨rfl, _, World.drewN_drewN _ _ _⟩ | exact ⟨rfl, _, Eq.trans (World.drewN_drewN _ _ _) (congrArg (World.drewN _) (Nat.add_assoc _ _ _))⟩)))
                            repeat (go_quiet (first | (go_at_call 36; (try simp only [i64_w, i32_w]); (with_reducible refine (ammoniteref1_Put.calls kj12 (wrap64 ((a1.size : Int) - x7_3)) t150 _ A32.out).mono ?_); rintro e w' ⟨rfl, ⟨nd, rfl⟩⟩; (try first | exact ⟨rfl, _, World.drewN_drewN _ _ _⟩ | exact ⟨rfl, _, Eq.trans (World.drewN_drewN _ _ _) (congrArg (World.drewN _) (Nat.add_assoc _ _ _))⟩)) | (go_at_call 26; (try simp only [i64_w, i32_w]); (with_reducible refine (ammoniteref1_Check.calls kj12 a1 t151 _ A38.out).mono ?_); rintro e w' ⟨rfl, ⟨nd, rfl⟩⟩; (try first | exact ⟨rfl, _, World.drewN_drewN _ _ _⟩ | exact ⟨rfl, _, Eq.trans (World.drewN_drewN _ _ _) (congrArg (World.drewN _) (Nat.add_assoc _ _ _))⟩)) | (go_at_call 36; (try simp only [i64_w, i32_w]); (with_reducible refine (ammoniteref1_Put.calls kj12 t151 t152 _ A39.out).mono ?_); rintro e w' ⟨rfl, ⟨nd, rfl⟩⟩; (try first | exact ⟨rfl, _, World.drewN_drewN _ _ _⟩ | exact ⟨rfl, _, Eq.trans (World.drewN_drewN _ _ _) (congrArg (World.drewN _) (Nat.add_assoc _ _ _))⟩))); try go_wp2_with (first | (go_at_call 36; (try simp only [i64_w, i32_w]); (with_reducible refine (ammoniteref1_Put.calls kj12 (wrap64 ((a1.size : Int) - x7_3)) t150 _ A32.out).mono ?_); rintro e w' ⟨rfl, ⟨nd, rfl⟩⟩; (try first | exact ⟨rfl, _, World.drewN_drewN _ _ _⟩ | exact ⟨rfl, _, Eq.trans (World.drewN_drewN _ _ _) (congrArg (World.drewN _) (Nat.add_assoc _ _ _))⟩)) | (go_at_call 26; (try simp only [i64_w, i32_w]); (with_reducible refine (ammoniteref1_Check.calls kj12 a1 t151 _ A38.out).mono ?_); rintro e w' ⟨rfl, ⟨nd, rfl⟩⟩; (try first | exact ⟨rfl, _, World.drewN_drewN _ _ _⟩ | exact ⟨rfl, _, Eq.trans (World.drewN_drewN _ _ _) (congrArg (World.drewN _) (Nat.add_assoc _ _ _))⟩)) | (go_at_call 36; (try simp only [i64_w, i32_w]); (with_reducible refine (ammoniteref1_Put.calls kj12 t151 t152 _ A39.out).mono ?_); rintro e w' ⟨rfl, ⟨nd, rfl⟩⟩; (try first | exact ⟨rfl, _, World.drewN_drewN _ _ _⟩ | exact ⟨rfl, _, Eq.trans (World.drewN_drewN _ _ _) (congrArg (World.drewN _) (Nat.add_assoc _ _ _))⟩))))
                            go_ret
                            exact ⟨by first | rfl | (simp; done) | (simp [*]; done), by repeat (first | exact Drawn0.refl _ | apply Drawn0.step)⟩
                            all_goals (exfalso; (try simp only [beq_iff_eq, bne_iff_ne, ne_eq, decide_eq_true_eq, decide_eq_false_iff_not, decide_eq_decide, bne_eq_false_iff_eq, beq_eq_false_iff_ne, Bool.not_eq_true, Bool.not_eq_false, Bool.not_eq_true', Bool.not_eq_false', Bool.true_beq, Bool.false_beq, Bool.true_bne, Bool.false_bne, Bool.bne_true, Bool.bne_false] at c12b0); (try simp only [beq_iff_eq, bne_iff_ne, ne_eq, decide_eq_true_eq, decide_eq_false_iff_not, decide_eq_decide, bne_eq_false_iff_eq, beq_eq_false_iff_ne, Bool.not_eq_true, Bool.not_eq_false, Bool.not_eq_true', Bool.not_eq_false', Bool.true_beq, Bool.false_beq, Bool.true_bne, Bool.false_bne, Bool.bne_true, Bool.bne_false] at c12b1); (try simp only [beq_iff_eq, bne_iff_ne, ne_eq, decide_eq_true_eq, decide_eq_false_iff_not, decide_eq_decide, bne_eq_false_iff_eq, beq_eq_false_iff_ne, Bool.not_eq_true, Bool.not_eq_false, Bool.not_eq_true', Bool.not_eq_false', Bool.true_beq, Bool.false_beq, Bool.true_bne, Bool.false_bne, Bool.bne_true, Bool.bne_false] at c31b0); (try simp only [beq_iff_eq, bne_iff_ne, ne_eq, decide_eq_true_eq, decide_eq_false_iff_not, decide_eq_decide, bne_eq_false_iff_eq, beq_eq_false_iff_ne, Bool.not_eq_true, Bool.not_eq_false, Bool.not_eq_true', Bool.not_eq_false', Bool.true_beq, Bool.false_beq, Bool.true_bne, Bool.false_bne, Bool.bne_true, Bool.bne_false] at c33b0); (try simp only [beq_iff_eq, bne_iff_ne, ne_eq, decide_eq_true_eq, decide_eq_false_iff_not, decide_eq_decide, bne_eq_false_iff_eq, beq_eq_false_iff_ne, Bool.not_eq_true, Bool.not_eq_false, Bool.not_eq_true', Bool.not_eq_false', Bool.true_beq, Bool.false_beq, Bool.true_bne, Bool.false_bne, Bool.bne_true, Bool.bne_false] at c33b1); (try simp only [beq_iff_eq, bne_iff_ne, ne_eq, decide_eq_true_eq, decide_eq_false_iff_not, decide_eq_decide, bne_eq_false_iff_eq, beq_eq_false_iff_ne, Bool.not_eq_true, Bool.not_eq_false, Bool.not_eq_true', Bool.not_eq_false', Bool.true_beq, Bool.false_beq, Bool.true_bne, Bool.false_bne, Bool.bne_true, Bool.bne_false] at c34b0); (try simp only [beq_iff_eq, bne_iff_ne, ne_eq, decide_eq_true_eq, decide_eq_false_iff_not, decide_eq_decide, bne_eq_false_iff_eq, beq_eq_false_iff_ne, Bool.not_eq_true, Bool.not_eq_false, Bool.not_eq_true', Bool.not_eq_false', Bool.true_beq, Bool.false_beq, Bool.true_bne, Bool.false_bne, Bool.bne_true, Bool.bne_false] at c34b1); (try simp only [beq_iff_eq, bne_iff_ne, ne_eq, decide_eq_true_eq, decide_eq_false_iff_not, decide_eq_decide, bne_eq_false_iff_eq, beq_eq_false_iff_ne, Bool.not_eq_true, Bool.not_eq_false, Bool.not_eq_true', Bool.not_eq_false', Bool.true_beq, Bool.false_beq, Bool.true_bne, Bool.false_bne, Bool.bne_true, Bool.bne_false] at c35b0); (try simp only [beq_iff_eq, bne_iff_ne, ne_eq, decide_eq_true_eq, decide_eq_false_iff_not, decide_eq_decide, bne_eq_false_iff_eq, beq_eq_false_iff_ne, Bool.not_eq_true, Bool.not_eq_false, Bool.not_eq_true', Bool.not_eq_false', Bool.true_beq, Bool.false_beq, Bool.true_bne, Bool.false_bne, Bool.bne_true, Bool.bne_false] at c35b1); (try simp only [beq_iff_eq, bne_iff_ne, ne_eq, decide_eq_true_eq, decide_eq_false_iff_not, decide_eq_decide, bne_eq_false_iff_eq, beq_eq_false_iff_ne, Bool.not_eq_true, Bool.not_eq_false, Bool.not_eq_true', Bool.not_eq_false', Bool.true_beq, Bool.false_beq, Bool.true_bne, Bool.false_bne, Bool.bne_true, Bool.bne_false] at c36b0); (try simp only [beq_iff_eq, bne_iff_ne, ne_eq, decide_eq_true_eq, decide_eq_false_iff_not, decide_eq_decide, bne_eq_false_iff_eq, beq_eq_false_iff_ne, Bool.not_eq_true, Bool.not_eq_false, Bool.not_eq_true', Bool.not_eq_false', Bool.true_beq, Bool.false_beq, Bool.true_bne, Bool.false_bne, Bool.bne_true, Bool.bne_false] at c36b1); (try simp only [beq_iff_eq, bne_iff_ne, ne_eq, decide_eq_true_eq, decide_eq_false_iff_not, decide_eq_decide, bne_eq_false_iff_eq, beq_eq_false_iff_ne, Bool.not_eq_true, Bool.not_eq_false, Bool.not_eq_true', Bool.not_eq_false', Bool.true_beq, Bool.false_beq, Bool.true_bne, Bool.false_bne, Bool.bne_true, Bool.bne_false] at c37b0); (try simp only [beq_iff_eq, bne_iff_ne, ne_eq, decide_eq_true_eq, decide_eq_false_iff_not, decide_eq_decide, bne_eq_false_iff_eq, beq_eq_false_iff_ne, Bool.not_eq_true, Bool.not_eq_false, Bool.not_eq_true', Bool.not_eq_false', Bool.true_beq, Bool.false_beq, Bool.true_bne, Bool.false_bne, Bool.bne_true, Bool.bne_false] at c37b1); (try simp only [beq_iff_eq, bne_iff_ne, ne_eq, decide_eq_true_eq, decide_eq_false_iff_not, decide_eq_decide, bne_eq_false_iff_eq, beq_eq_false_iff_ne, Bool.not_eq_true, Bool.not_eq_false, Bool.not_eq_true', Bool.not_eq_false', Bool.true_beq, Bool.false_beq, Bool.true_bne, Bool.false_bne, Bool.bne_true, Bool.bne_false] at c40b0); (try simp only [beq_iff_eq, bne_iff_ne, ne_eq, decide_eq_true_eq, decide_eq_false_iff_not, decide_eq_decide, bne_eq_false_iff_eq, beq_eq_false_iff_ne, Bool.not_eq_true, Bool.not_eq_false, Bool.not_eq_true', Bool.not_eq_false', Bool.true_beq, Bool.false_beq, Bool.true_bne, Bool.false_bne, Bool.bne_true, Bool.bne_false] at c40b1); (try simp only [beq_iff_eq, bne_iff_ne, ne_eq, decide_eq_true_eq, decide_eq_false_iff_not, decide_eq_decide, bne_eq_false_iff_eq, beq_eq_false_iff_ne, Bool.not_eq_true, Bool.not_eq_false, Bool.not_eq_true', Bool.not_eq_false', Bool.true_beq, Bool.false_beq, Bool.true_bne, Bool.false_bne, Bool.bne_true, Bool.bne_false] at c41b0); (try simp only [beq_iff_eq, bne_iff_ne, ne_eq, decide_eq_true_eq, decide_eq_false_iff_not, decide_eq_decide, bne_eq_false_iff_eq, beq_eq_false_iff_ne, Bool.not_eq_true, Bool.not_eq_false, Bool.not_eq_true', Bool.not_eq_false', Bool.true_beq, Bool.false_beq, Bool.true_bne, Bool.false_bne, Bool.bne_true, Bool.bne_false] at c41b1); (try unfold wrap64 at *); omega)
                          · rw [if_neg c41] at H
                            exact absurd H (by simp)
                        · rw [if_neg c40] at H
                          exact absurd H (by simp)
                      · rw [if_neg c37] at H
                        exact absurd H (by simp)
                    · rw [if_neg c36] at H
                      exact absurd H (by simp)
                  · rw [if_neg c35] at H
                    exact absurd H (by simp)
                · rw [if_neg c34] at H
                  exact absurd H (by simp)
              · rw [if_neg c33] at H
                exact absurd H (by simp)
            · rw [if_neg c31] at H
              have c31b0 : decide (x7_3 < (a1.size : Int)) = false := decide_eq_false c31
              clear c31
              replace H := Option.bind_eq_some_iff.mp H
              obtain ⟨t153, A420, H⟩ := H
              replace H : ((ammoniteref1_Put.f kj12 t153).bind fun t154 => (if x8_12.size + t154.size ≤ 9223372036854775807 then (if (catS x8_12 t154).size + 1 ≤ 9223372036854775807 then (some (catS (catS x8_12 t154) (⟨#[59]⟩ : ByteArray))) else (none)) else (none))) = some r := H
              have A42 := Aside0.mk A420
              clear A420
              replace H := Option.bind_eq_some_iff.mp H
              obtain ⟨t154, A430, H⟩ := H
              replace H : (if x8_12.size + t154.size ≤ 9223372036854775807 then (if (catS x8_12 t154).size + 1 ≤ 9223372036854775807 then (some (catS (catS x8_12 t154) (⟨#[59]⟩ : ByteArray))) else (none)) else (none)) = some r := H
              have A43 := Aside0.mk A430
              clear A430
              by_cases c44 : x8_12.size + t154.size ≤ 9223372036854775807
              · rw [if_pos c44] at H
                have c44b0 := eq_true c44
                have c44b1 : decide (x8_12.size + t154.size ≤ 9223372036854775807) = true := decide_eq_true c44
                try have c44b2 : (9223372036854775807 < x8_12.size + t154.size) = False := eq_false (Nat.not_lt.2 c44)
                clear c44
                by_cases c45 : (catS x8_12 t154).size + 1 ≤ 9223372036854775807
                · rw [if_pos c45] at H
                  have c45b0 := eq_true c45
                  have c45b1 : decide ((catS x8_12 t154).size + 1 ≤ 9223372036854775807) = true := decide_eq_true c45
                  try have c45b2 : (9223372036854775807 < (catS x8_12 t154).size + 1) = False := eq_false (Nat.not_lt.2 c45)
                  clear c45
                  obtain rfl := Option.some.inj H
                  go_wp2_with (first | (go_at_call 26; (try simp only [i64_w, i32_w]); (with_reducible refine (ammoniteref1_Check.calls kj12 a1 t153 _ A42.out).mono ?_); rintro e w' ⟨rfl, ⟨nd, rfl⟩⟩; (try first | exact ⟨rfl, _, World.drewN_drewN _ _ _⟩ | exact ⟨rfl, _, Eq.trans (World.drewN_drewN _ _ _) (congrArg (World.drewN _) (Nat.add_assoc _ _ _))⟩)) | (go_at_call 36; (try simp only [i64_w, i32_w]); (with_reducible refine (ammoniteref1_Put.calls kj12 t153 t154 _ A43.out).mono ?_); rintro e w' ⟨rfl, ⟨nd, rfl⟩⟩; (try first | exact ⟨rfl, _, World.drewN_drewN _ _ _⟩ | exact ⟨rfl, _, Eq.trans (World.drewN_drewN _ _ _) (congrArg (World.drewN _) (Nat.add_assoc _ _ _))⟩)))
                  repeat (go_quiet (first | (go_at_call 26; (try simp only [i64_w, i32_w]); (with_reducible refine (ammoniteref1_Check.calls kj12 a1 t153 _ A42.out).mono ?_); rintro e w' ⟨rfl, ⟨nd, rfl⟩⟩; (try first | exact ⟨rfl, _, World.drewN_drewN _ _ _⟩ | exact ⟨rfl, _, Eq.trans (World.drewN_drewN _ _ _) (congrArg (World.drewN _) (Nat.add_assoc _ _ _))⟩)) | (go_at_call 36; (try simp only [i64_w, i32_w]); (with_reducible refine (ammoniteref1_Put.calls kj12 t153 t154 _ A43.out).mono ?_); rintro e w' ⟨rfl, ⟨nd, rfl⟩⟩; (try first | exact ⟨rfl, _, World.drewN_drewN _ _ _⟩ | exact ⟨rfl, _, Eq.trans (World.drewN_drewN _ _ _) (congrArg (World.drewN _) (Nat.add_assoc _ _ _))⟩))); try go_wp2_with (first | (go_at_call 26; (try simp only [i64_w, i32_w]); (with_reducible refine (ammoniteref1_Check.calls kj12 a1 t153 _ A42.out).mono ?_); rintro e w' ⟨rfl, ⟨nd, rfl⟩⟩; (try first | exact ⟨rfl, _, World.drewN_drewN _ _ _⟩ | exact ⟨rfl, _, Eq.trans (World.drewN_drewN _ _ _) (congrArg (World.drewN _) (Nat.add_assoc _ _ _))⟩)) | (go_at_call 36; (try simp only [i64_w, i32_w]); (with_reducible refine (ammoniteref1_Put.calls kj12 t153 t154 _ A43.out).mono ?_); rintro e w' ⟨rfl, ⟨nd, rfl⟩⟩; (try first | exact ⟨rfl, _, World.drewN_drewN _ _ _⟩ | exact ⟨rfl, _, Eq.trans (World.drewN_drewN _ _ _) (congrArg (World.drewN _) (Nat.add_assoc _ _ _))⟩))))
                  go_ret
                  exact ⟨by first | rfl | (simp; done) | (simp [*]; done), by repeat (first | exact Drawn0.refl _ | apply Drawn0.step)⟩
                  all_goals (exfalso; (try simp only [beq_iff_eq, bne_iff_ne, ne_eq, decide_eq_true_eq, decide_eq_false_iff_not, decide_eq_decide, bne_eq_false_iff_eq, beq_eq_false_iff_ne, Bool.not_eq_true, Bool.not_eq_false, Bool.not_eq_true', Bool.not_eq_false', Bool.true_beq, Bool.false_beq, Bool.true_bne, Bool.false_bne, Bool.bne_true, Bool.bne_false] at c12b0); (try simp only [beq_iff_eq, bne_iff_ne, ne_eq, decide_eq_true_eq, decide_eq_false_iff_not, decide_eq_decide, bne_eq_false_iff_eq, beq_eq_false_iff_ne, Bool.not_eq_true, Bool.not_eq_false, Bool.not_eq_true', Bool.not_eq_false', Bool.true_beq, Bool.false_beq, Bool.true_bne, Bool.false_bne, Bool.bne_true, Bool.bne_false] at c12b1); (try simp only [beq_iff_eq, bne_iff_ne, ne_eq, decide_eq_true_eq, decide_eq_false_iff_not, decide_eq_decide, bne_eq_false_iff_eq, beq_eq_false_iff_ne, Bool.not_eq_true, Bool.not_eq_false, Bool.not_eq_true', Bool.not_eq_false', Bool.true_beq, Bool.false_beq, Bool.true_bne, Bool.false_bne, Bool.bne_true, Bool.bne_false] at c31b0); (try simp only [beq_iff_eq, bne_iff_ne, ne_eq, decide_eq_true_eq, decide_eq_false_iff_not, decide_eq_decide, bne_eq_false_iff_eq, beq_eq_false_iff_ne, Bool.not_eq_true, Bool.not_eq_false, Bool.not_eq_true', Bool.not_eq_false', Bool.true_beq, Bool.false_beq, Bool.true_bne, Bool.false_bne, Bool.bne_true, Bool.bne_false] at c44b0); (try simp only [beq_iff_eq, bne_iff_ne, ne_eq, decide_eq_true_eq, decide_eq_false_iff_not, decide_eq_decide, bne_eq_false_iff_eq, beq_eq_false_iff_ne, Bool.not_eq_true, Bool.not_eq_false, Bool.not_eq_true', Bool.not_eq_false', Bool.true_beq, Bool.false_beq, Bool.true_bne, Bool.false_bne, Bool.bne_true, Bool.bne_false] at c44b1); (try simp only [beq_iff_eq, bne_iff_ne, ne_eq, decide_eq_true_eq, decide_eq_false_iff_not, decide_eq_decide, bne_eq_false_iff_eq, beq_eq_false_iff_ne, Bool.not_eq_true, Bool.not_eq_false, Bool.not_eq_true', Bool.not_eq_false', Bool.true_beq, Bool.false_beq, Bool.true_bne, Bool.false_bne, Bool.bne_true, Bool.bne_false] at c45b0); (try simp only [beq_iff_eq, bne_iff_ne, ne_eq, decide_eq_true_eq, decide_eq_false_iff_not, decide_eq_decide, bne_eq_false_iff_eq, beq_eq_false_iff_ne, Bool.not_eq_true, Bool.not_eq_false, Bool.not_eq_true', Bool.not_eq_false', Bool.true_beq, Bool.false_beq, Bool.true_bne, Bool.false_bne, Bool.bne_true, Bool.bne_false] at c45b1); (try unfold wrap64 at *); omega)
                · rw [if_neg c45] at H
                  exact absurd H (by simp)
              · rw [if_neg c44] at H
                exact absurd H (by simp)
      · rw [if_neg c12] at H
        exact absurd H (by simp)

/-! ### ammoniteref1_digit: function 37 -/
def ammoniteref1_digit.l0 : Nat → Int → Int → Option (Int)
  | 0, _, _ => none
  | k + 1, x0, x4 => if x4 < 64 then (if 0 ≤ x4 then (if (bt (⟨#[48, 49, 50, 51, 52, 53, 54, 55, 56, 57, 65, 66, 67, 68, 69, 70, 71, 72, 73, 74, 75, 76, 77, 78, 79, 80, 81, 82, 83, 84, 85, 86, 87, 88, 89, 90, 95, 97, 98, 99, 100, 101, 102, 103, 104, 105, 106, 107, 108, 109, 110, 111, 112, 113, 114, 115, 116, 117, 118, 119, 120, 121, 122, 126]⟩ : ByteArray) x4) = x0 then (some x4) else (ammoniteref1_digit.l0 k x0 (wrap64 (x4 + 1)))) else (none)) else (some (-1))
def ammoniteref1_digit.f (k : Nat) (a0 : Int) : Option (Int) := ammoniteref1_digit.l0 k a0 0
theorem ammoniteref1_digit.mono_l : ∀ k, (∀ y0 y1, LeO (ammoniteref1_digit.l0 k y0 y1) (ammoniteref1_digit.l0 (k + 1) y0 y1))
  | 0 => fun _ _ r h => by simp [ammoniteref1_digit.l0] at h
  | k + 1 => by
    have ih0 := ammoniteref1_digit.mono_l k
    · intro y0 y1
      unfold ammoniteref1_digit.l0
      repeat' first
      | (with_reducible exact ih0 _ _)
      | (with_reducible exact LeO.refl _)
      | (with_reducible exact LeO.none _)
      | (with_reducible refine LeO.ite ?_ ?_)
      | (with_reducible refine LeO.bind ?_ (fun _ => ?_))
      | exact ih0 _ _
      | exact LeO.none _
      | refine LeO.ite ?_ ?_
      | refine LeO.bind ?_ (fun _ => ?_)
theorem ammoniteref1_digit.mono : ∀ a0 k, LeO (ammoniteref1_digit.f k a0) (ammoniteref1_digit.f (k + 1) a0) := by
  intro a0 k
  have ih0 := ammoniteref1_digit.mono_l k
  unfold ammoniteref1_digit.f
  repeat' first
      | (with_reducible exact ih0 _ _)
      | (with_reducible exact LeO.refl _)
      | (with_reducible exact LeO.none _)
      | (with_reducible refine LeO.ite ?_ ?_)
      | (with_reducible refine LeO.bind ?_ (fun _ => ?_))
      | exact ih0 _ _
      | exact LeO.none _
      | refine LeO.ite ?_ ?_
      | refine LeO.bind ?_ (fun _ => ?_)
set_option maxHeartbeats 8000000 in
set_option maxRecDepth 100000 in
theorem ammoniteref1_digit.calls (k : Nat) (a0 : Int) (r : Int) (w : World) (h : ammoniteref1_digit.f k a0 = some r) :
    Calls Try.prog 37 #[.int .u8 a0] w fun e w' => e = .returned (.int .i64 r) ∧ Drawn0 w w' := by
  have H : (ammoniteref1_digit.l0 k a0 0) = some r := h
  clear h
  have H' := Aside0.mk H
  clear H
  go_enter Try.func37, Try.ntmps37
  go_wp2
  go_loopg [4] k (fun kq v4 w' => ∃ (x4_1 : Int), v4 = .int .i64 x4_1 ∧ Aside0 (ammoniteref1_digit.l0 kq a0 x4_1 = some r) ∧ Aside0 (kq ≤ k) ∧ Drawn0 w w')
  case atStart => exact ⟨(0), (by first | rfl | (simp; done) | (simp [*]; done)), H', ⟨Nat.le_refl _⟩, by repeat (first | exact Drawn0.refl _ | apply Drawn0.step)⟩
  case round =>
    clear H'
    obtain ⟨x4_1, rfl, HA, HK1, ⟨m1, rfl⟩⟩ := hrel
    cases gk with
    | zero => exact absurd HA.out (by simp [ammoniteref1_digit.l0])
    | succ k1 =>
      have H := HA.out
      clear HA
      simp only [ammoniteref1_digit.l0] at H
      by_cases c2 : x4_1 < 64
      · rw [if_pos c2] at H
        have c2b0 : decide (x4_1 < 64) = true := decide_eq_true c2
        clear c2
        by_cases c3 : 0 ≤ x4_1
        · rw [if_pos c3] at H
          have c3b0 : decide (0 ≤ x4_1) = true := decide_eq_true c3
          clear c3
          by_cases c5 : (bt (⟨#[48, 49, 50, 51, 52, 53, 54, 55, 56, 57, 65, 66, 67, 68, 69, 70, 71, 72, 73, 74, 75, 76, 77, 78, 79, 80, 81, 82, 83, 84, 85, 86, 87, 88, 89, 90, 95, 97, 98, 99, 100, 101, 102, 103, 104, 105, 106, 107, 108, 109, 110, 111, 112, 113, 114, 115, 116, 117, 118, 119, 120, 121, 122, 126]⟩ : ByteArray) x4_1) = a0
          · rw [if_pos c5] at H
            have c5b0 : ((bt (⟨#[48, 49, 50, 51, 52, 53, 54, 55, 56, 57, 65, 66, 67, 68, 69, 70, 71, 72, 73, 74, 75, 76, 77, 78, 79, 80, 81, 82, 83, 84, 85, 86, 87, 88, 89, 90, 95, 97, 98, 99, 100, 101, 102, 103, 104, 105, 106, 107, 108, 109, 110, 111, 112, 113, 114, 115, 116, 117, 118, 119, 120, 121, 122, 126]⟩ : ByteArray) x4_1) == a0) = true := beq_iff_eq.mpr c5
            have c5b1 : ((bt (⟨#[48, 49, 50, 51, 52, 53, 54, 55, 56, 57, 65, 66, 67, 68, 69, 70, 71, 72, 73, 74, 75, 76, 77, 78, 79, 80, 81, 82, 83, 84, 85, 86, 87, 88, 89, 90, 95, 97, 98, 99, 100, 101, 102, 103, 104, 105, 106, 107, 108, 109, 110, 111, 112, 113, 114, 115, 116, 117, 118, 119, 120, 121, 122, 126]⟩ : ByteArray) x4_1) != a0) = false := bne_eq_false_iff_eq.mpr c5
            clear c5
            obtain rfl := Option.some.inj H
            have p4 : 0 ≤ (x4_1 : Int) := of_decide_eq_true (by first | (with_reducible assumption) | assumption)
            have q4 : x4_1 < (64 : Int) := of_decide_eq_true (by first | (with_reducible assumption) | assumption)
            have hx4 := bt_at (⟨#[48, 49, 50, 51, 52, 53, 54, 55, 56, 57, 65, 66, 67, 68, 69, 70, 71, 72, 73, 74, 75, 76, 77, 78, 79, 80, 81, 82, 83, 84, 85, 86, 87, 88, 89, 90, 95, 97, 98, 99, 100, 101, 102, 103, 104, 105, 106, 107, 108, 109, 110, 111, 112, 113, 114, 115, 116, 117, 118, 119, 120, 121, 122, 126]⟩ : ByteArray) x4_1
            replace p4 := eq_true p4
            replace q4 := eq_true q4
            go_wp2
            go_ret
            exact ⟨by first | rfl | (simp; done) | (simp [*]; done), by repeat (first | exact Drawn0.refl _ | apply Drawn0.step)⟩
            all_goals (exfalso; (try simp only [beq_iff_eq, bne_iff_ne, ne_eq, decide_eq_true_eq, decide_eq_false_iff_not, decide_eq_decide, bne_eq_false_iff_eq, beq_eq_false_iff_ne, Bool.not_eq_true, Bool.not_eq_false, Bool.not_eq_true', Bool.not_eq_false', Bool.true_beq, Bool.false_beq, Bool.true_bne, Bool.false_bne, Bool.bne_true, Bool.bne_false] at c2b0); (try simp only [beq_iff_eq, bne_iff_ne, ne_eq, decide_eq_true_eq, decide_eq_false_iff_not, decide_eq_decide, bne_eq_false_iff_eq, beq_eq_false_iff_ne, Bool.not_eq_true, Bool.not_eq_false, Bool.not_eq_true', Bool.not_eq_false', Bool.true_beq, Bool.false_beq, Bool.true_bne, Bool.false_bne, Bool.bne_true, Bool.bne_false] at c3b0); (try simp only [beq_iff_eq, bne_iff_ne, ne_eq, decide_eq_true_eq, decide_eq_false_iff_not, decide_eq_decide, bne_eq_false_iff_eq, beq_eq_false_iff_ne, Bool.not_eq_true, Bool.not_eq_false, Bool.not_eq_true', Bool.not_eq_false', Bool.true_beq, Bool.false_beq, Bool.true_bne, Bool.false_bne, Bool.bne_true, Bool.bne_false] at c5b0); (try simp only [beq_iff_eq, bne_iff_ne, ne_eq, decide_eq_true_eq, decide_eq_false_iff_not, decide_eq_decide, bne_eq_false_iff_eq, beq_eq_false_iff_ne, Bool.not_eq_true, Bool.not_eq_false, Bool.not_eq_true', Bool.not_eq_false', Bool.true_beq, Bool.false_beq, Bool.true_bne, Bool.false_bne, Bool.bne_true, Bool.bne_false] at c5b1); (try unfold wrap64 at *); omega)
          · rw [if_neg c5] at H
            have c5b0 : ((bt (⟨#[48, 49, 50, 51, 52, 53, 54, 55, 56, 57, 65, 66, 67, 68, 69, 70, 71, 72, 73, 74, 75, 76, 77, 78, 79, 80, 81, 82, 83, 84, 85, 86, 87, 88, 89, 90, 95, 97, 98, 99, 100, 101, 102, 103, 104, 105, 106, 107, 108, 109, 110, 111, 112, 113, 114, 115, 116, 117, 118, 119, 120, 121, 122, 126]⟩ : ByteArray) x4_1) == a0) = false := beq_eq_false_iff_ne.mpr c5
            have c5b1 : ((bt (⟨#[48, 49, 50, 51, 52, 53, 54, 55, 56, 57, 65, 66, 67, 68, 69, 70, 71, 72, 73, 74, 75, 76, 77, 78, 79, 80, 81, 82, 83, 84, 85, 86, 87, 88, 89, 90, 95, 97, 98, 99, 100, 101, 102, 103, 104, 105, 106, 107, 108, 109, 110, 111, 112, 113, 114, 115, 116, 117, 118, 119, 120, 121, 122, 126]⟩ : ByteArray) x4_1) != a0) = true := bne_iff_ne.mpr c5
            have H' := Aside0.mk H
            clear H
            have p4 : 0 ≤ (x4_1 : Int) := of_decide_eq_true (by first | (with_reducible assumption) | assumption)
            have q4 : x4_1 < (64 : Int) := of_decide_eq_true (by first | (with_reducible assumption) | assumption)
            have hx4 := bt_at (⟨#[48, 49, 50, 51, 52, 53, 54, 55, 56, 57, 65, 66, 67, 68, 69, 70, 71, 72, 73, 74, 75, 76, 77, 78, 79, 80, 81, 82, 83, 84, 85, 86, 87, 88, 89, 90, 95, 97, 98, 99, 100, 101, 102, 103, 104, 105, 106, 107, 108, 109, 110, 111, 112, 113, 114, 115, 116, 117, 118, 119, 120, 121, 122, 126]⟩ : ByteArray) x4_1
            replace p4 := eq_true p4
            replace q4 := eq_true q4
            go_wp2
            go_roundg k1
            case measure => have := HK1.out; omega
            case rel => exact ⟨(wrap64 (x4_1 + 1)), (by first | rfl | (simp; done) | (simp [*]; done)), H', ⟨by have := HK1.out; omega⟩, by repeat (first | exact Drawn0.refl _ | apply Drawn0.step)⟩
            all_goals (exfalso; (try simp only [beq_iff_eq, bne_iff_ne, ne_eq, decide_eq_true_eq, decide_eq_false_iff_not, decide_eq_decide, bne_eq_false_iff_eq, beq_eq_false_iff_ne, Bool.not_eq_true, Bool.not_eq_false, Bool.not_eq_true', Bool.not_eq_false', Bool.true_beq, Bool.false_beq, Bool.true_bne, Bool.false_bne, Bool.bne_true, Bool.bne_false] at c2b0); (try simp only [beq_iff_eq, bne_iff_ne, ne_eq, decide_eq_true_eq, decide_eq_false_iff_not, decide_eq_decide, bne_eq_false_iff_eq, beq_eq_false_iff_ne, Bool.not_eq_true, Bool.not_eq_false, Bool.not_eq_true', Bool.not_eq_false', Bool.true_beq, Bool.false_beq, Bool.true_bne, Bool.false_bne, Bool.bne_true, Bool.bne_false] at c3b0); (try simp only [beq_iff_eq, bne_iff_ne, ne_eq, decide_eq_true_eq, decide_eq_false_iff_not, decide_eq_decide, bne_eq_false_iff_eq, beq_eq_false_iff_ne, Bool.not_eq_true, Bool.not_eq_false, Bool.not_eq_true', Bool.not_eq_false', Bool.true_beq, Bool.false_beq, Bool.true_bne, Bool.false_bne, Bool.bne_true, Bool.bne_false] at c5b0); (try simp only [beq_iff_eq, bne_iff_ne, ne_eq, decide_eq_true_eq, decide_eq_false_iff_not, decide_eq_decide, bne_eq_false_iff_eq, beq_eq_false_iff_ne, Bool.not_eq_true, Bool.not_eq_false, Bool.not_eq_true', Bool.not_eq_false', Bool.true_beq, Bool.false_beq, Bool.true_bne, Bool.false_bne, Bool.bne_true, Bool.bne_false] at c5b1); (try unfold wrap64 at *); omega)
        · rw [if_neg c3] at H
          exact absurd H (by simp)
      · rw [if_neg c2] at H
        have c2b0 : decide (x4_1 < 64) = false := decide_eq_false c2
        clear c2
        obtain rfl := Option.some.inj H
        go_wp2
        go_ret
        exact ⟨by first | rfl | (simp; done) | (simp [*]; done), by repeat (first | exact Drawn0.refl _ | apply Drawn0.step)⟩
        all_goals (exfalso; (try simp only [beq_iff_eq, bne_iff_ne, ne_eq, decide_eq_true_eq, decide_eq_false_iff_not, decide_eq_decide, bne_eq_false_iff_eq, beq_eq_false_iff_ne, Bool.not_eq_true, Bool.not_eq_false, Bool.not_eq_true', Bool.not_eq_false', Bool.true_beq, Bool.false_beq, Bool.true_bne, Bool.false_bne, Bool.bne_true, Bool.bne_false] at c2b0); (try unfold wrap64 at *); omega)

end Go.Proofs.Ytcjkichimndioab.Q
