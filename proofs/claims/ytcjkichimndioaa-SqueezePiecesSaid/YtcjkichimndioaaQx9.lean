-- Written by a program of this session (wip/tools/ap.py) for this claim.
import Derived.Test.YtcjkichimndioaaQx0
import Derived.Test.YtcjkichimndioaaQx1
import Derived.Test.YtcjkichimndioaaQx2
import Derived.Test.YtcjkichimndioaaQx7
namespace Go.Proofs.Ytcjkichimndioaa.Q
open Go.Proofs.Ytcjkichimndioaa.Given
open Go.RowKit Go.Proofs.Ytcjkichimndioaa.PW Go.Proofs.YtcjkichimndioaaW.PrintWords Go.Proofs.YtcjkichimndioaaW.PrintLast Go.Proofs.YtcjkichimndioaaW.PrintMore
attribute [local go_sem] max2_int min2_int max_two min_two max_three min_three max_four min_four   -- for this text's walks alone
set_option linter.unnecessarySimpa false
attribute [local go_sem high] run_cut_if run_cut_from run_cut_to run_cat_if
set_option linter.unusedVariables false
set_option linter.unusedSimpArgs false

/-! ### ammonitelaw4_SqueezePieces: function 10 -/
def ammonitelaw4_SqueezePieces.l0 : Nat → ByteArray → ByteArray → Int → Int → ByteArray → Int → Int → Option (Bool)
  | 0, _, _, _, _, _, _, _ => none
  | k + 1, x0, x1, x9, x10, x11, x38, x39 => if x39 < x38 then (if 0 ≤ (wrap64 ((x11.size : Int) - x10)) then (if (wrap64 ((x11.size : Int) - x10)) ≤ (wrap64 ((wrap64 ((x11.size : Int) - x10)) + 1)) then (if (wrap64 ((wrap64 ((x11.size : Int) - x10)) + 1)) ≤ (x11.size : Int) then (if x11.size + (cutS x11 ((wrap64 ((x11.size : Int) - x10)) : Int).toNat ((wrap64 ((wrap64 ((x11.size : Int) - x10)) + 1)) : Int).toNat).size ≤ 9223372036854775807 then (ammonitelaw4_SqueezePieces.l0 k x0 x1 x9 x10 (catS x11 (cutS x11 ((wrap64 ((x11.size : Int) - x10)) : Int).toNat ((wrap64 ((wrap64 ((x11.size : Int) - x10)) + 1)) : Int).toNat)) x38 (wrap64 (x39 + 1))) else (none)) else (none)) else (none)) else (none)) else (if x11.size + x1.size ≤ 9223372036854775807 then ((some (([(wrap64 ((x0.size : Int) - 1)) % 256] : List Int) : List Int)).bind fun y251 => (if (strOfNums y251).size + x0.size ≤ 9223372036854775807 then ((some (([(wrap64 ((wrap64 (128 + x9)) - 3)) % 256, 0, (x10) % 256] : List Int) : List Int)).bind fun y254 => (if (catS (strOfNums y251) x0).size + (strOfNums y254).size ≤ 9223372036854775807 then ((some (([(wrap64 ((x1.size : Int) - 1)) % 256] : List Int) : List Int)).bind fun y257 => (if (catS (catS (strOfNums y251) x0) (strOfNums y254)).size + (strOfNums y257).size ≤ 9223372036854775807 then (if (catS (catS (catS (strOfNums y251) x0) (strOfNums y254)) (strOfNums y257)).size + x1.size ≤ 9223372036854775807 then ((digit_Dec.f k ((catS x11 x1).size : Int)).bind fun t260 => (if t260.size + 1 ≤ 9223372036854775807 then (if (catS t260 (⟨#[59]⟩ : ByteArray)).size + (catS (catS (catS (catS (strOfNums y251) x0) (strOfNums y254)) (strOfNums y257)) x1).size ≤ 9223372036854775807 then ((squeeze_Expand.f k (catS (catS t260 (⟨#[59]⟩ : ByteArray)) (catS (catS (catS (catS (strOfNums y251) x0) (strOfNums y254)) (strOfNums y257)) x1)) 400).bind fun bt261 => ((digit_Dec.f k ((catS x11 x1).size : Int)).bind fun t263 => (if t263.size + 1 ≤ 9223372036854775807 then (if (catS t263 (⟨#[59]⟩ : ByteArray)).size + (catS (catS (catS (catS (strOfNums y251) x0) (strOfNums y254)) (strOfNums y257)) x1).size ≤ 9223372036854775807 then (if (catS (catS t263 (⟨#[59]⟩ : ByteArray)) (catS (catS (catS (catS (strOfNums y251) x0) (strOfNums y254)) (strOfNums y257)) x1)).size + 2 ≤ 9223372036854775807 then ((squeeze_Expand.f k (catS (catS (catS t263 (⟨#[59]⟩ : ByteArray)) (catS (catS (catS (catS (strOfNums y251) x0) (strOfNums y254)) (strOfNums y257)) x1)) (⟨#[0, 122]⟩ : ByteArray)) 400).bind fun bt264 => ((digit_Dec.f k ((catS x11 x1).size : Int)).bind fun t266 => (if t266.size + 1 ≤ 9223372036854775807 then (if 0 ≤ (wrap64 (((catS (catS (catS (catS (strOfNums y251) x0) (strOfNums y254)) (strOfNums y257)) x1).size : Int) - 1)) then (if (wrap64 (((catS (catS (catS (catS (strOfNums y251) x0) (strOfNums y254)) (strOfNums y257)) x1).size : Int) - 1)) ≤ ((catS (catS (catS (catS (strOfNums y251) x0) (strOfNums y254)) (strOfNums y257)) x1).size : Int) then (if (catS t266 (⟨#[59]⟩ : ByteArray)).size + (cutS (catS (catS (catS (catS (strOfNums y251) x0) (strOfNums y254)) (strOfNums y257)) x1) 0 ((wrap64 (((catS (catS (catS (catS (strOfNums y251) x0) (strOfNums y254)) (strOfNums y257)) x1).size : Int) - 1)) : Int).toNat).size ≤ 9223372036854775807 then ((squeeze_Expand.f k (catS (catS t266 (⟨#[59]⟩ : ByteArray)) (cutS (catS (catS (catS (catS (strOfNums y251) x0) (strOfNums y254)) (strOfNums y257)) x1) 0 ((wrap64 (((catS (catS (catS (catS (strOfNums y251) x0) (strOfNums y254)) (strOfNums y257)) x1).size : Int) - 1)) : Int).toNat)) 400).bind fun bt267 => (if bt261.2 = true then (if bt261.1.toList = (catS x11 x1).toList then (if bt264.2 = true then (some false) else (if bt267.2 = true then (some false) else ((ammonitelaw4_SqueezeRuns.f k).bind fun t269 => (some t269)))) else (some false)) else (some false))) else (none)) else (none)) else (none)) else (none)))) else (none)) else (none)) else (none)))) else (none)) else (none))) else (none)) else (none))) else (none))) else (none))) else (none))
def ammonitelaw4_SqueezePieces.f (k : Nat) (a0 : ByteArray) (a1 : ByteArray) (a2 : Int) (a3 : Int) : Option (Bool) := if 0 ≤ (mn (a0.size : Int) 60) then (if (mn (a0.size : Int) 60) ≤ (a0.size : Int) then (if 1 + (cutS a0 0 ((mn (a0.size : Int) 60) : Int).toNat).size ≤ 9223372036854775807 then (if 0 ≤ (mn (a1.size : Int) 60) then (if (mn (a1.size : Int) 60) ≤ (a1.size : Int) then (if 1 + (cutS a1 0 ((mn (a1.size : Int) 60) : Int).toNat).size ≤ 9223372036854775807 then ((ammonitebook_Within.f a2 3 90).bind fun t249 => ((ammonitebook_Within.f a3 1 ((catS (⟨#[120]⟩ : ByteArray) (cutS a0 0 ((mn (a0.size : Int) 60) : Int).toNat)).size : Int)).bind fun t250 => (ammonitelaw4_SqueezePieces.l0 k (catS (⟨#[120]⟩ : ByteArray) (cutS a0 0 ((mn (a0.size : Int) 60) : Int).toNat)) (catS (⟨#[121]⟩ : ByteArray) (cutS a1 0 ((mn (a1.size : Int) 60) : Int).toNat)) t249 t250 (catS (⟨#[120]⟩ : ByteArray) (cutS a0 0 ((mn (a0.size : Int) 60) : Int).toNat)) t249 0))) else (none)) else (none)) else (none)) else (none)) else (none)) else (none)
theorem ammonitelaw4_SqueezePieces.mono_l : ∀ k, (∀ y0 y1 y2 y3 y4 y5 y6, LeO (ammonitelaw4_SqueezePieces.l0 k y0 y1 y2 y3 y4 y5 y6) (ammonitelaw4_SqueezePieces.l0 (k + 1) y0 y1 y2 y3 y4 y5 y6))
  | 0 => fun _ _ _ _ _ _ _ r h => by simp [ammonitelaw4_SqueezePieces.l0] at h
  | k + 1 => by
    have ih0 := ammonitelaw4_SqueezePieces.mono_l k
    · intro y0 y1 y2 y3 y4 y5 y6
      unfold ammonitelaw4_SqueezePieces.l0
      repeat' first
      | (with_reducible exact ih0 _ _ _ _ _ _ _)
      | (with_reducible exact ammonitelaw4_SqueezeRuns.mono _)
      | (with_reducible exact digit_Dec.mono _ _)
      | (with_reducible exact squeeze_Expand.mono _ _ _)
      | (with_reducible exact LeO.refl _)
      | (with_reducible exact LeO.none _)
      | (with_reducible refine LeO.ite ?_ ?_)
      | (with_reducible refine LeO.bind ?_ (fun _ => ?_))
      | exact ih0 _ _ _ _ _ _ _
      | exact ammonitelaw4_SqueezeRuns.mono _
      | exact digit_Dec.mono _ _
      | exact squeeze_Expand.mono _ _ _
      | exact LeO.none _
      | refine LeO.ite ?_ ?_
      | refine LeO.bind ?_ (fun _ => ?_)
theorem ammonitelaw4_SqueezePieces.mono : ∀ a0 a1 a2 a3 k, LeO (ammonitelaw4_SqueezePieces.f k a0 a1 a2 a3) (ammonitelaw4_SqueezePieces.f (k + 1) a0 a1 a2 a3) := by
  intro a0 a1 a2 a3 k
  have ih0 := ammonitelaw4_SqueezePieces.mono_l k
  unfold ammonitelaw4_SqueezePieces.f
  repeat' first
      | (with_reducible exact ih0 _ _ _ _ _ _ _)
      | (with_reducible exact ammonitelaw4_SqueezeRuns.mono _)
      | (with_reducible exact digit_Dec.mono _ _)
      | (with_reducible exact squeeze_Expand.mono _ _ _)
      | (with_reducible exact LeO.refl _)
      | (with_reducible exact LeO.none _)
      | (with_reducible refine LeO.ite ?_ ?_)
      | (with_reducible refine LeO.bind ?_ (fun _ => ?_))
      | exact ih0 _ _ _ _ _ _ _
      | exact ammonitelaw4_SqueezeRuns.mono _
      | exact digit_Dec.mono _ _
      | exact squeeze_Expand.mono _ _ _
      | exact LeO.none _
      | refine LeO.ite ?_ ?_
      | refine LeO.bind ?_ (fun _ => ?_)
def ammonitelaw4_SqueezePieces.T1 : Bool × List (List Nat × List Nat) := (true, [([], []), ([], []), ([1], [1]), ([2], [2]), ([0, 3], [0, 3]), ([4], [4]), ([], []), ([], []), ([7], [7]), ([8], [8]), ([6, 9], [6, 9]), ([10], [10]), ([5, 0, 1, 2, 3, 4, 5], [0, 1, 5]), ([11, 12, 0, 1, 2, 3, 4, 5, 6, 7, 8, 9, 10, 11, 12], [6, 7, 11])])
def ammonitelaw4_SqueezePieces.B1 : List Nat := [0, 0, 2, 6, 15, 31, 0, 0, 128, 384, 960, 1984, 63, 8191]
theorem ammonitelaw4_SqueezePieces.tab1 : rtab .any (opsOf Try.f10 1) = ammonitelaw4_SqueezePieces.T1 := by kernel_rfl
theorem ammonitelaw4_SqueezePieces.bits1 : waitsOk ammonitelaw4_SqueezePieces.T1.2 ammonitelaw4_SqueezePieces.B1 = true := by kernel_rfl
def ammonitelaw4_SqueezePieces.T12 : Bool × List (List Nat × List Nat) := (true, [([], []), ([0], [0]), ([1], [1]), ([2], [2]), ([], []), ([], []), ([5], [5]), ([6], [6]), ([4, 7], [4, 7]), ([3, 8], [3, 8]), ([9, 2], [9]), ([10], [10]), ([11], [11]), ([11], [11]), ([12, 10, 0, 1, 2, 3, 4, 5, 6, 7, 8, 9, 10, 11, 12], [12]), ([13, 14, 0, 1, 2, 3, 4, 5, 6, 7, 8, 9, 10, 11, 12, 13, 14], [13])])
def ammonitelaw4_SqueezePieces.B12 : List Nat := [0, 1, 3, 7, 0, 0, 32, 96, 240, 511, 1023, 2047, 4095, 4095, 8191, 32767]
theorem ammonitelaw4_SqueezePieces.tab12 : rtab .any (opsOf Try.f10 12) = ammonitelaw4_SqueezePieces.T12 := by kernel_rfl
theorem ammonitelaw4_SqueezePieces.bits12 : waitsOk ammonitelaw4_SqueezePieces.T12.2 ammonitelaw4_SqueezePieces.B12 = true := by kernel_rfl
set_option maxHeartbeats 8000000 in
set_option maxRecDepth 100000 in
theorem ammonitelaw4_SqueezePieces.calls (k : Nat) (a0 : ByteArray) (a1 : ByteArray) (a2 : Int) (a3 : Int) (r : Bool) (w : World) (h : ammonitelaw4_SqueezePieces.f k a0 a1 a2 a3 = some r) (hrt : r = true) :
    Calls Try.prog 10 #[.string a0, .string a1, .int .i64 a2, .int .i64 a3] w fun e w' => e = .returned (.bool r) ∧ Below w.heap.size w w' := by
  have HRT := Aside0.mk hrt
  clear hrt
  have HB := Aside0.mk (Below.refl w.heap.size w)
  have H : (if 0 ≤ (mn (a0.size : Int) 60) then (if (mn (a0.size : Int) 60) ≤ (a0.size : Int) then (if 1 + (cutS a0 0 ((mn (a0.size : Int) 60) : Int).toNat).size ≤ 9223372036854775807 then (if 0 ≤ (mn (a1.size : Int) 60) then (if (mn (a1.size : Int) 60) ≤ (a1.size : Int) then (if 1 + (cutS a1 0 ((mn (a1.size : Int) 60) : Int).toNat).size ≤ 9223372036854775807 then ((ammonitebook_Within.f a2 3 90).bind fun t249 => ((ammonitebook_Within.f a3 1 ((catS (⟨#[120]⟩ : ByteArray) (cutS a0 0 ((mn (a0.size : Int) 60) : Int).toNat)).size : Int)).bind fun t250 => (ammonitelaw4_SqueezePieces.l0 k (catS (⟨#[120]⟩ : ByteArray) (cutS a0 0 ((mn (a0.size : Int) 60) : Int).toNat)) (catS (⟨#[121]⟩ : ByteArray) (cutS a1 0 ((mn (a1.size : Int) 60) : Int).toNat)) t249 t250 (catS (⟨#[120]⟩ : ByteArray) (cutS a0 0 ((mn (a0.size : Int) 60) : Int).toNat)) t249 0))) else (none)) else (none)) else (none)) else (none)) else (none)) else (none)) = some r := h
  clear h
  obtain ⟨ji5, hji5⟩ : ∃ j_ : Int, (mn (a0.size : Int) 60) = j_ := ⟨_, rfl⟩
  replace H : (if 0 ≤ (ji5) then (if (ji5) ≤ (a0.size : Int) then (if 1 + (cutS a0 0 ((ji5) : Int).toNat).size ≤ 9223372036854775807 then (if 0 ≤ (mn (a1.size : Int) 60) then (if (mn (a1.size : Int) 60) ≤ (a1.size : Int) then (if 1 + (cutS a1 0 ((mn (a1.size : Int) 60) : Int).toNat).size ≤ 9223372036854775807 then ((ammonitebook_Within.f a2 3 90).bind fun t249 => ((ammonitebook_Within.f a3 1 ((catS (⟨#[120]⟩ : ByteArray) (cutS a0 0 ((ji5) : Int).toNat)).size : Int)).bind fun t250 => (ammonitelaw4_SqueezePieces.l0 k (catS (⟨#[120]⟩ : ByteArray) (cutS a0 0 ((ji5) : Int).toNat)) (catS (⟨#[121]⟩ : ByteArray) (cutS a1 0 ((mn (a1.size : Int) 60) : Int).toNat)) t249 t250 (catS (⟨#[120]⟩ : ByteArray) (cutS a0 0 ((ji5) : Int).toNat)) t249 0))) else (none)) else (none)) else (none)) else (none)) else (none)) else (none)) = some r := by first | (rw [hji5] at H; exact H) | (simp only [hji5] at H ⊢; exact H)
  (try (have hji5h : ji5 ≤ 60 := by (rw [← hji5]; unfold mn; (repeat' split) <;> omega)))
  (try (have hji5g : ji5 ≤ 64 := by omega))
  (try (have hji5l : 0 ≤ ji5 := by (rw [← hji5]; unfold mn; (repeat' split) <;> omega)))
  (try (have hji5m : 0 ≤ ji5 := by omega))
  have hji5_ : (if 60 < (a0.size : Int) then 60 else (a0.size : Int)) = ji5 := hji5
  by_cases c6 : 0 ≤ (ji5)
  · rw [if_pos c6] at H
    have c6b0 := eq_true c6
    have c6b1 : decide (0 ≤ (ji5)) = true := decide_eq_true c6
    clear c6
    by_cases c7 : (ji5) ≤ (a0.size : Int)
    · rw [if_pos c7] at H
      have c7b0 := eq_true c7
      have c7b1 : decide ((ji5) ≤ (a0.size : Int)) = true := decide_eq_true c7
      clear c7
      by_cases c8 : 1 + (cutS a0 0 ((ji5) : Int).toNat).size ≤ 9223372036854775807
      · rw [if_pos c8] at H
        have c8b0 := eq_true c8
        have c8b1 : decide (1 + (cutS a0 0 ((ji5) : Int).toNat).size ≤ 9223372036854775807) = true := decide_eq_true c8
        try have c8b2 : (9223372036854775807 < 1 + (cutS a0 0 ((ji5) : Int).toNat).size) = False := eq_false (Nat.not_lt.2 c8)
        clear c8
        obtain ⟨ji9, hji9⟩ : ∃ j_ : Int, (mn (a1.size : Int) 60) = j_ := ⟨_, rfl⟩
        replace H : (if 0 ≤ (ji9) then (if (ji9) ≤ (a1.size : Int) then (if 1 + (cutS a1 0 ((ji9) : Int).toNat).size ≤ 9223372036854775807 then ((ammonitebook_Within.f a2 3 90).bind fun t249 => ((ammonitebook_Within.f a3 1 ((catS (⟨#[120]⟩ : ByteArray) (cutS a0 0 ((ji5) : Int).toNat)).size : Int)).bind fun t250 => (ammonitelaw4_SqueezePieces.l0 k (catS (⟨#[120]⟩ : ByteArray) (cutS a0 0 ((ji5) : Int).toNat)) (catS (⟨#[121]⟩ : ByteArray) (cutS a1 0 ((ji9) : Int).toNat)) t249 t250 (catS (⟨#[120]⟩ : ByteArray) (cutS a0 0 ((ji5) : Int).toNat)) t249 0))) else (none)) else (none)) else (none)) = some r := by first | (rw [hji9] at H; exact H) | (simp only [hji9] at H ⊢; exact H)
        (try (have hji9h : ji9 ≤ 60 := by (rw [← hji9]; unfold mn; (repeat' split) <;> omega)))
        (try (have hji9g : ji9 ≤ 64 := by omega))
        (try (have hji9l : 0 ≤ ji9 := by (rw [← hji9]; unfold mn; (repeat' split) <;> omega)))
        (try (have hji9m : 0 ≤ ji9 := by omega))
        have hji9_ : (if 60 < (a1.size : Int) then 60 else (a1.size : Int)) = ji9 := hji9
        by_cases c10 : 0 ≤ (ji9)
        · rw [if_pos c10] at H
          have c10b0 := eq_true c10
          have c10b1 : decide (0 ≤ (ji9)) = true := decide_eq_true c10
          clear c10
          by_cases c11 : (ji9) ≤ (a1.size : Int)
          · rw [if_pos c11] at H
            have c11b0 := eq_true c11
            have c11b1 : decide ((ji9) ≤ (a1.size : Int)) = true := decide_eq_true c11
            clear c11
            by_cases c12 : 1 + (cutS a1 0 ((ji9) : Int).toNat).size ≤ 9223372036854775807
            · rw [if_pos c12] at H
              have c12b0 := eq_true c12
              have c12b1 : decide (1 + (cutS a1 0 ((ji9) : Int).toNat).size ≤ 9223372036854775807) = true := decide_eq_true c12
              try have c12b2 : (9223372036854775807 < 1 + (cutS a1 0 ((ji9) : Int).toNat).size) = False := eq_false (Nat.not_lt.2 c12)
              clear c12
              replace H := Option.bind_eq_some_iff.mp H
              obtain ⟨t249, A130, H⟩ := H
              replace H : ((ammonitebook_Within.f a3 1 ((catS (⟨#[120]⟩ : ByteArray) (cutS a0 0 ((ji5) : Int).toNat)).size : Int)).bind fun t250 => (ammonitelaw4_SqueezePieces.l0 k (catS (⟨#[120]⟩ : ByteArray) (cutS a0 0 ((ji5) : Int).toNat)) (catS (⟨#[121]⟩ : ByteArray) (cutS a1 0 ((ji9) : Int).toNat)) t249 t250 (catS (⟨#[120]⟩ : ByteArray) (cutS a0 0 ((ji5) : Int).toNat)) t249 0)) = some r := H
              have A13 := Aside0.mk A130
              clear A130
              replace H := Option.bind_eq_some_iff.mp H
              obtain ⟨t250, A140, H⟩ := H
              replace H : (ammonitelaw4_SqueezePieces.l0 k (catS (⟨#[120]⟩ : ByteArray) (cutS a0 0 ((ji5) : Int).toNat)) (catS (⟨#[121]⟩ : ByteArray) (cutS a1 0 ((ji9) : Int).toNat)) t249 t250 (catS (⟨#[120]⟩ : ByteArray) (cutS a0 0 ((ji5) : Int).toNat)) t249 0) = some r := H
              have A14 := Aside0.mk A140
              clear A140
              have H' := Aside0.mk H
              clear H
              go_enter Try.func10, Try.ntmps10
              try go_wp2
              have n0_ := Aside0.mk (below_drew1 HB.out)
              clear HB
              have HB := n0_
              clear n0_
              refine start_ (n := 14) (S := fun w' => True) (ds := []) #[false, false, false, false, false, false, false, false, false, false, false, false, false, false] (by kernel_rfl) rfl rfl trivial (fun hHeld => ?_); refine with_tabW ammonitelaw4_SqueezePieces.tab1 ammonitelaw4_SqueezePieces.bits1 (fun HT_ HW_ => ?_)
              generalize w.drew = w15 at HB hHeld ⊢
              refine pure_ (i := 0) (N := some 19) (v := ?_) (a' := ?_) #[true, false, false, false, false, false, false, false, false, false, false, false, false, false] rfl rfl (any_of HT_.out (by kernel_rfl)) (fun _ _ _ h => h) (Or.inl ⟨by rfl, ?_⟩) ?_ ?_
              rotate_left
              · intro w'
                go_simp
                with_reducible rfl
              rotate_left
              · simp only [Act.put, List.setIfInBounds_toArray, List.set_cons_zero, List.set_cons_succ, i64_w, i32_w]
                rfl
              refine pure_ (i := 1) (N := some 20) (v := ?_) (a' := ?_) #[true, true, false, false, false, false, false, false, false, false, false, false, false, false] rfl rfl (any_of HT_.out (by kernel_rfl)) (fun _ _ _ h => h) (Or.inl ⟨by rfl, ?_⟩) ?_ ?_
              rotate_left
              · intro w'
                go_simp
                with_reducible rfl
              rotate_left
              · simp only [Act.put, List.setIfInBounds_toArray, List.set_cons_zero, List.set_cons_succ, i64_w, i32_w]
                rfl
              refine pure_ (i := 2) (N := some 21) (v := ?_) (a' := ?_) #[true, true, true, false, false, false, false, false, false, false, false, false, false, false] rfl rfl (any_of HT_.out (by kernel_rfl)) (fun _ _ _ h => h) (Or.inl ⟨by rfl, ?_⟩) ?_ ?_
              rotate_left
              · intro w'
                go_simp
                with_reducible rfl
              rotate_left
              · simp only [Act.put, List.setIfInBounds_toArray, List.set_cons_zero, List.set_cons_succ, i64_w, i32_w]
                rfl
              refine pure_ (i := 3) (N := some 22) (v := ?_) (a' := ?_) #[true, true, true, true, false, false, false, false, false, false, false, false, false, false] rfl rfl (any_of HT_.out (by kernel_rfl)) (fun _ _ _ h => h) (Or.inl ⟨by rfl, ?_⟩) ?_ ?_
              rotate_left
              · intro w'
                go_simp
                with_reducible rfl
              rotate_left
              · simp only [Act.put, List.setIfInBounds_toArray, List.set_cons_zero, List.set_cons_succ, i64_w, i32_w]
                rfl
              refine pure_ (i := 4) (N := some 23) (v := ?_) (a' := ?_) #[true, true, true, true, true, false, false, false, false, false, false, false, false, false] rfl rfl (any_of HT_.out (by kernel_rfl)) (fun _ _ _ h => h) (Or.inl ⟨by rfl, ?_⟩) ?_ ?_
              rotate_left
              · intro w'
                go_simp
                with_reducible rfl
              rotate_left
              · simp only [Act.put, List.setIfInBounds_toArray, List.set_cons_zero, List.set_cons_succ, i64_w, i32_w]
                rfl
              refine pure_ (i := 5) (N := some 24) (v := ?_) (a' := ?_) #[true, true, true, true, true, true, false, false, false, false, false, false, false, false] rfl rfl (any_of HT_.out (by kernel_rfl)) (fun _ _ _ h => h) (Or.inl ⟨by rfl, ?_⟩) ?_ ?_
              rotate_left
              · intro w'
                go_simp
                with_reducible rfl
              rotate_left
              · simp only [Act.put, List.setIfInBounds_toArray, List.set_cons_zero, List.set_cons_succ, i64_w, i32_w]
                rfl
              refine pure_ (i := 6) (N := some 25) (v := ?_) (a' := ?_) #[true, true, true, true, true, true, true, false, false, false, false, false, false, false] rfl rfl (any_of HT_.out (by kernel_rfl)) (fun _ _ _ h => h) (Or.inl ⟨by rfl, ?_⟩) ?_ ?_
              rotate_left
              · intro w'
                go_simp
                with_reducible rfl
              rotate_left
              · simp only [Act.put, List.setIfInBounds_toArray, List.set_cons_zero, List.set_cons_succ, i64_w, i32_w]
                rfl
              refine pure_ (i := 7) (N := some 26) (v := ?_) (a' := ?_) #[true, true, true, true, true, true, true, true, false, false, false, false, false, false] rfl rfl (any_of HT_.out (by kernel_rfl)) (fun _ _ _ h => h) (Or.inl ⟨by rfl, ?_⟩) ?_ ?_
              rotate_left
              · intro w'
                go_simp
                with_reducible rfl
              rotate_left
              · simp only [Act.put, List.setIfInBounds_toArray, List.set_cons_zero, List.set_cons_succ, i64_w, i32_w]
                rfl
              refine pure_ (i := 8) (N := some 27) (v := ?_) (a' := ?_) #[true, true, true, true, true, true, true, true, true, false, false, false, false, false] rfl rfl (any_of HT_.out (by kernel_rfl)) (fun _ _ _ h => h) (Or.inl ⟨by rfl, ?_⟩) ?_ ?_
              rotate_left
              · intro w'
                go_simp
                with_reducible rfl
              rotate_left
              · simp only [Act.put, List.setIfInBounds_toArray, List.set_cons_zero, List.set_cons_succ, i64_w, i32_w]
                rfl
              refine pure_ (i := 9) (N := some 28) (v := ?_) (a' := ?_) #[true, true, true, true, true, true, true, true, true, true, false, false, false, false] rfl rfl (any_of HT_.out (by kernel_rfl)) (fun _ _ _ h => h) (Or.inl ⟨by rfl, ?_⟩) ?_ ?_
              rotate_left
              · intro w'
                go_simp
                with_reducible rfl
              rotate_left
              · simp only [Act.put, List.setIfInBounds_toArray, List.set_cons_zero, List.set_cons_succ, i64_w, i32_w]
                rfl
              refine pure_ (i := 10) (N := some 29) (v := ?_) (a' := ?_) #[true, true, true, true, true, true, true, true, true, true, true, false, false, false] rfl rfl (any_of HT_.out (by kernel_rfl)) (fun _ _ _ h => h) (Or.inl ⟨by rfl, ?_⟩) ?_ ?_
              rotate_left
              · intro w'
                go_simp
                with_reducible rfl
              rotate_left
              · simp only [Act.put, List.setIfInBounds_toArray, List.set_cons_zero, List.set_cons_succ, i64_w, i32_w]
                rfl
              refine pure_ (i := 11) (N := some 30) (v := ?_) (a' := ?_) #[true, true, true, true, true, true, true, true, true, true, true, true, false, false] rfl rfl (any_of HT_.out (by kernel_rfl)) (fun _ _ _ h => h) (Or.inl ⟨by rfl, ?_⟩) ?_ ?_
              rotate_left
              · intro w'
                go_simp
                with_reducible rfl
              rotate_left
              · simp only [Act.put, List.setIfInBounds_toArray, List.set_cons_zero, List.set_cons_succ, i64_w, i32_w]
                rfl
              refine pure_ (i := 12) (N := some 0) (v := ?_) (a' := ?_) #[true, true, true, true, true, true, true, true, true, true, true, true, true, false] rfl rfl (any_of HT_.out (by kernel_rfl)) (fun _ _ _ h => h) (Or.inl ⟨by rfl, ?_⟩) ?_ ?_
              rotate_left
              · intro w'
                go_simp
                with_reducible rfl
              rotate_left
              · simp only [Act.put, List.setIfInBounds_toArray, List.set_cons_zero, List.set_cons_succ, i64_w, i32_w]
                rfl
              refine pure_ (i := 13) (N := some 1) (v := ?_) (a' := ?_) #[true, true, true, true, true, true, true, true, true, true, true, true, true, true] rfl rfl (any_of HT_.out (by kernel_rfl)) (fun _ _ _ h => h) (Or.inl ⟨by rfl, ?_⟩) ?_ ?_
              rotate_left
              · intro w'
                go_simp
                with_reducible rfl
              rotate_left
              · simp only [Act.put, List.setIfInBounds_toArray, List.set_cons_zero, List.set_cons_succ, i64_w, i32_w]
                rfl
              refine done_ (done_of HT_.out (by kernel_rfl)) ?_
              try go_wp2_with (first | ((with_reducible refine gate_callee (f := 17) rfl ?_); refine goesL_ (some 32) rfl rfl Try.func17 (by kernel_rfl) rfl #[.int .i64 a2, .int .i64 3, .int .i64 90] rfl (by (try simp only [List.map_toArray, List.map_cons, List.map_nil]); first | done | rfl | (simp only [List.length_drop, List.length_take]; rfl)) ?_; (with_reducible refine (ammonitebook_Within.calls a2 3 90 t249 _ A13.out).mono ?_); rintro e w' ⟨rfl, ⟨nd, rfl⟩⟩; refine ⟨_, rfl, ?_⟩) | ((with_reducible refine gate_callee (f := 17) rfl ?_); refine goesL_ (some 36) rfl rfl Try.func17 (by kernel_rfl) rfl #[.int .i64 a3, .int .i64 1, .int .i64 ((catS (⟨#[120]⟩ : ByteArray) (cutS a0 0 ((ji5) : Int).toNat)).size : Int)] rfl (by (try simp only [List.map_toArray, List.map_cons, List.map_nil]); first | done | (simp only [hji5]; rfl) | rfl | (simp only [List.length_drop, List.length_take]; rfl)) ?_; (with_reducible refine (ammonitebook_Within.calls a3 1 ((catS (⟨#[120]⟩ : ByteArray) (cutS a0 0 ((ji5) : Int).toNat)).size : Int) t250 _ A14.out).mono ?_); rintro e w' ⟨rfl, ⟨nd, rfl⟩⟩; refine ⟨_, rfl, ?_⟩))
              (try simp only [hji5, hji9])
              go_loopg [11, 39] k (fun kq v11 v39 w' => ∃ (x11_1 : ByteArray) (x39_1 : Int), v11 = .string x11_1 ∧ v39 = .int .i64 x39_1 ∧ Aside0 (ammonitelaw4_SqueezePieces.l0 kq (catS (⟨#[120]⟩ : ByteArray) (cutS a0 0 ((ji5) : Int).toNat)) (catS (⟨#[121]⟩ : ByteArray) (cutS a1 0 ((ji9) : Int).toNat)) t249 t250 x11_1 t249 x39_1 = some r) ∧ Aside0 (kq ≤ k) ∧ Aside0 (Below w.heap.size w w'))
              case atStart => exact ⟨(catS (⟨#[120]⟩ : ByteArray) (cutS a0 0 ((ji5) : Int).toNat)), (0), (by first | rfl | (simp; done) | (simp only [← hji5] <;> (first | rfl | simp)) | (simp [*]; done)), (by first | rfl | (simp; done) | (simp [*]; done)), H', ⟨Nat.le_refl _⟩, ⟨by repeat (first | (with_reducible first | exact HB.out | apply below_alloc | apply pw_below_drewN | apply below_drew1) | exact HB.out)⟩⟩
              case round =>
                clear H'
                try clear c1
                try clear p2
                try clear c6
                try clear c6b0
                try clear c6b1
                try clear c7
                try clear c7b0
                try clear c7b1
                try clear c8
                try clear c8b0
                try clear c8b1
                try clear c8b2
                try clear c10
                try clear c10b0
                try clear c10b1
                try clear c11
                try clear c11b0
                try clear c11b1
                try clear c12
                try clear c12b0
                try clear c12b1
                try clear c12b2
                obtain ⟨x11_1, x39_1, rfl, rfl, HA, HK1, HB⟩ := hrel
                cases gk with
                | zero => exact absurd HA.out (by simp [ammonitelaw4_SqueezePieces.l0])
                | succ k1 =>
                  have H := HA.out
                  clear HA
                  simp only [ammonitelaw4_SqueezePieces.l0] at H
                  by_cases c16 : x39_1 < t249
                  · rw [if_pos c16] at H
                    have c16b0 : decide (x39_1 < t249) = true := decide_eq_true c16
                    clear c16
                    obtain ⟨ji17, hji17⟩ : ∃ j_ : Int, (wrap64 ((x11_1.size : Int) - t250)) = j_ := ⟨_, rfl⟩
                    replace H : (if 0 ≤ (ji17) then (if (ji17) ≤ (wrap64 ((ji17) + 1)) then (if (wrap64 ((ji17) + 1)) ≤ (x11_1.size : Int) then (if x11_1.size + (cutS x11_1 ((ji17) : Int).toNat ((wrap64 ((ji17) + 1)) : Int).toNat).size ≤ 9223372036854775807 then (ammonitelaw4_SqueezePieces.l0 k1 (catS (⟨#[120]⟩ : ByteArray) (cutS a0 0 ((ji5) : Int).toNat)) (catS (⟨#[121]⟩ : ByteArray) (cutS a1 0 ((ji9) : Int).toNat)) t249 t250 (catS x11_1 (cutS x11_1 ((ji17) : Int).toNat ((wrap64 ((ji17) + 1)) : Int).toNat)) t249 (wrap64 (x39_1 + 1))) else (none)) else (none)) else (none)) else (none)) = some r := by first | (rw [hji17] at H; exact H) | (simp only [hji17] at H ⊢; exact H)
                    have hji17w : (IntKind.i64.wrap ((x11_1.size : Int) - t250)) = ji17 := (i64_w _).trans hji17
                    by_cases c18 : 0 ≤ (ji17)
                    · rw [if_pos c18] at H
                      have c18b0 := eq_true c18
                      have c18b1 : decide (0 ≤ (ji17)) = true := decide_eq_true c18
                      clear c18
                      by_cases c19 : (ji17) ≤ (wrap64 ((ji17) + 1))
                      · rw [if_pos c19] at H
                        have c19b0 := eq_true c19
                        have c19b1 : decide ((ji17) ≤ (wrap64 ((ji17) + 1))) = true := decide_eq_true c19
                        by_cases c20 : (wrap64 ((ji17) + 1)) ≤ (x11_1.size : Int)
                        · rw [if_pos c20] at H
                          have c20b0 := eq_true c20
                          have c20b1 : decide ((wrap64 ((ji17) + 1)) ≤ (x11_1.size : Int)) = true := decide_eq_true c20
                          by_cases c21 : x11_1.size + (cutS x11_1 ((ji17) : Int).toNat ((wrap64 ((ji17) + 1)) : Int).toNat).size ≤ 9223372036854775807
                          · rw [if_pos c21] at H
                            have c21b0 := eq_true c21
                            have c21b1 : decide (x11_1.size + (cutS x11_1 ((ji17) : Int).toNat ((wrap64 ((ji17) + 1)) : Int).toNat).size ≤ 9223372036854775807) = true := decide_eq_true c21
                            try have c21b2 : (9223372036854775807 < x11_1.size + (cutS x11_1 ((ji17) : Int).toNat ((wrap64 ((ji17) + 1)) : Int).toNat).size) = False := eq_false (Nat.not_lt.2 c21)
                            clear c21
                            have H' := Aside0.mk H
                            clear H
                            go_wp2
                            go_roundg k1
                            case measure => have := HK1.out; omega
                            case rel => exact ⟨(catS x11_1 (cutS x11_1 ((ji17) : Int).toNat ((wrap64 ((ji17) + 1)) : Int).toNat)), (wrap64 (x39_1 + 1)), (by first | rfl | (simp; done) | (simp only [← hji17] <;> (first | rfl | simp)) | (simp [*]; done)), (by first | rfl | (simp; done) | (simp [*]; done)), H', ⟨by have := HK1.out; omega⟩, ⟨by repeat (first | (with_reducible first | exact HB.out | apply below_alloc | apply pw_below_drewN | apply below_drew1) | exact HB.out)⟩⟩
                            all_goals (exfalso; (try simp only [beq_iff_eq, bne_iff_ne, ne_eq, decide_eq_true_eq, decide_eq_false_iff_not, decide_eq_decide, bne_eq_false_iff_eq, beq_eq_false_iff_ne, Bool.not_eq_true, Bool.not_eq_false, Bool.not_eq_true', Bool.not_eq_false', Bool.true_beq, Bool.false_beq, Bool.true_bne, Bool.false_bne, Bool.bne_true, Bool.bne_false] at c6b0); (try simp only [beq_iff_eq, bne_iff_ne, ne_eq, decide_eq_true_eq, decide_eq_false_iff_not, decide_eq_decide, bne_eq_false_iff_eq, beq_eq_false_iff_ne, Bool.not_eq_true, Bool.not_eq_false, Bool.not_eq_true', Bool.not_eq_false', Bool.true_beq, Bool.false_beq, Bool.true_bne, Bool.false_bne, Bool.bne_true, Bool.bne_false] at c6b1); (try simp only [beq_iff_eq, bne_iff_ne, ne_eq, decide_eq_true_eq, decide_eq_false_iff_not, decide_eq_decide, bne_eq_false_iff_eq, beq_eq_false_iff_ne, Bool.not_eq_true, Bool.not_eq_false, Bool.not_eq_true', Bool.not_eq_false', Bool.true_beq, Bool.false_beq, Bool.true_bne, Bool.false_bne, Bool.bne_true, Bool.bne_false] at c7b0); (try simp only [beq_iff_eq, bne_iff_ne, ne_eq, decide_eq_true_eq, decide_eq_false_iff_not, decide_eq_decide, bne_eq_false_iff_eq, beq_eq_false_iff_ne, Bool.not_eq_true, Bool.not_eq_false, Bool.not_eq_true', Bool.not_eq_false', Bool.true_beq, Bool.false_beq, Bool.true_bne, Bool.false_bne, Bool.bne_true, Bool.bne_false] at c7b1); (try simp only [beq_iff_eq, bne_iff_ne, ne_eq, decide_eq_true_eq, decide_eq_false_iff_not, decide_eq_decide, bne_eq_false_iff_eq, beq_eq_false_iff_ne, Bool.not_eq_true, Bool.not_eq_false, Bool.not_eq_true', Bool.not_eq_false', Bool.true_beq, Bool.false_beq, Bool.true_bne, Bool.false_bne, Bool.bne_true, Bool.bne_false] at c8b0); (try simp only [beq_iff_eq, bne_iff_ne, ne_eq, decide_eq_true_eq, decide_eq_false_iff_not, decide_eq_decide, bne_eq_false_iff_eq, beq_eq_false_iff_ne, Bool.not_eq_true, Bool.not_eq_false, Bool.not_eq_true', Bool.not_eq_false', Bool.true_beq, Bool.false_beq, Bool.true_bne, Bool.false_bne, Bool.bne_true, Bool.bne_false] at c8b1); (try simp only [beq_iff_eq, bne_iff_ne, ne_eq, decide_eq_true_eq, decide_eq_false_iff_not, decide_eq_decide, bne_eq_false_iff_eq, beq_eq_false_iff_ne, Bool.not_eq_true, Bool.not_eq_false, Bool.not_eq_true', Bool.not_eq_false', Bool.true_beq, Bool.false_beq, Bool.true_bne, Bool.false_bne, Bool.bne_true, Bool.bne_false] at c10b0); (try simp only [beq_iff_eq, bne_iff_ne, ne_eq, decide_eq_true_eq, decide_eq_false_iff_not, decide_eq_decide, bne_eq_false_iff_eq, beq_eq_false_iff_ne, Bool.not_eq_true, Bool.not_eq_false, Bool.not_eq_true', Bool.not_eq_false', Bool.true_beq, Bool.false_beq, Bool.true_bne, Bool.false_bne, Bool.bne_true, Bool.bne_false] at c10b1); (try simp only [beq_iff_eq, bne_iff_ne, ne_eq, decide_eq_true_eq, decide_eq_false_iff_not, decide_eq_decide, bne_eq_false_iff_eq, beq_eq_false_iff_ne, Bool.not_eq_true, Bool.not_eq_false, Bool.not_eq_true', Bool.not_eq_false', Bool.true_beq, Bool.false_beq, Bool.true_bne, Bool.false_bne, Bool.bne_true, Bool.bne_false] at c11b0); (try simp only [beq_iff_eq, bne_iff_ne, ne_eq, decide_eq_true_eq, decide_eq_false_iff_not, decide_eq_decide, bne_eq_false_iff_eq, beq_eq_false_iff_ne, Bool.not_eq_true, Bool.not_eq_false, Bool.not_eq_true', Bool.not_eq_false', Bool.true_beq, Bool.false_beq, Bool.true_bne, Bool.false_bne, Bool.bne_true, Bool.bne_false] at c11b1); (try simp only [beq_iff_eq, bne_iff_ne, ne_eq, decide_eq_true_eq, decide_eq_false_iff_not, decide_eq_decide, bne_eq_false_iff_eq, beq_eq_false_iff_ne, Bool.not_eq_true, Bool.not_eq_false, Bool.not_eq_true', Bool.not_eq_false', Bool.true_beq, Bool.false_beq, Bool.true_bne, Bool.false_bne, Bool.bne_true, Bool.bne_false] at c12b0); (try simp only [beq_iff_eq, bne_iff_ne, ne_eq, decide_eq_true_eq, decide_eq_false_iff_not, decide_eq_decide, bne_eq_false_iff_eq, beq_eq_false_iff_ne, Bool.not_eq_true, Bool.not_eq_false, Bool.not_eq_true', Bool.not_eq_false', Bool.true_beq, Bool.false_beq, Bool.true_bne, Bool.false_bne, Bool.bne_true, Bool.bne_false] at c12b1); (try simp only [beq_iff_eq, bne_iff_ne, ne_eq, decide_eq_true_eq, decide_eq_false_iff_not, decide_eq_decide, bne_eq_false_iff_eq, beq_eq_false_iff_ne, Bool.not_eq_true, Bool.not_eq_false, Bool.not_eq_true', Bool.not_eq_false', Bool.true_beq, Bool.false_beq, Bool.true_bne, Bool.false_bne, Bool.bne_true, Bool.bne_false] at c16b0); (try simp only [beq_iff_eq, bne_iff_ne, ne_eq, decide_eq_true_eq, decide_eq_false_iff_not, decide_eq_decide, bne_eq_false_iff_eq, beq_eq_false_iff_ne, Bool.not_eq_true, Bool.not_eq_false, Bool.not_eq_true', Bool.not_eq_false', Bool.true_beq, Bool.false_beq, Bool.true_bne, Bool.false_bne, Bool.bne_true, Bool.bne_false] at c18b0); (try simp only [beq_iff_eq, bne_iff_ne, ne_eq, decide_eq_true_eq, decide_eq_false_iff_not, decide_eq_decide, bne_eq_false_iff_eq, beq_eq_false_iff_ne, Bool.not_eq_true, Bool.not_eq_false, Bool.not_eq_true', Bool.not_eq_false', Bool.true_beq, Bool.false_beq, Bool.true_bne, Bool.false_bne, Bool.bne_true, Bool.bne_false] at c18b1); (try simp only [beq_iff_eq, bne_iff_ne, ne_eq, decide_eq_true_eq, decide_eq_false_iff_not, decide_eq_decide, bne_eq_false_iff_eq, beq_eq_false_iff_ne, Bool.not_eq_true, Bool.not_eq_false, Bool.not_eq_true', Bool.not_eq_false', Bool.true_beq, Bool.false_beq, Bool.true_bne, Bool.false_bne, Bool.bne_true, Bool.bne_false] at c19b0); (try simp only [beq_iff_eq, bne_iff_ne, ne_eq, decide_eq_true_eq, decide_eq_false_iff_not, decide_eq_decide, bne_eq_false_iff_eq, beq_eq_false_iff_ne, Bool.not_eq_true, Bool.not_eq_false, Bool.not_eq_true', Bool.not_eq_false', Bool.true_beq, Bool.false_beq, Bool.true_bne, Bool.false_bne, Bool.bne_true, Bool.bne_false] at c19b1); (try simp only [beq_iff_eq, bne_iff_ne, ne_eq, decide_eq_true_eq, decide_eq_false_iff_not, decide_eq_decide, bne_eq_false_iff_eq, beq_eq_false_iff_ne, Bool.not_eq_true, Bool.not_eq_false, Bool.not_eq_true', Bool.not_eq_false', Bool.true_beq, Bool.false_beq, Bool.true_bne, Bool.false_bne, Bool.bne_true, Bool.bne_false] at c19); (try simp only [beq_iff_eq, bne_iff_ne, ne_eq, decide_eq_true_eq, decide_eq_false_iff_not, decide_eq_decide, bne_eq_false_iff_eq, beq_eq_false_iff_ne, Bool.not_eq_true, Bool.not_eq_false, Bool.not_eq_true', Bool.not_eq_false', Bool.true_beq, Bool.false_beq, Bool.true_bne, Bool.false_bne, Bool.bne_true, Bool.bne_false] at c20b0); (try simp only [beq_iff_eq, bne_iff_ne, ne_eq, decide_eq_true_eq, decide_eq_false_iff_not, decide_eq_decide, bne_eq_false_iff_eq, beq_eq_false_iff_ne, Bool.not_eq_true, Bool.not_eq_false, Bool.not_eq_true', Bool.not_eq_false', Bool.true_beq, Bool.false_beq, Bool.true_bne, Bool.false_bne, Bool.bne_true, Bool.bne_false] at c20b1); (try simp only [beq_iff_eq, bne_iff_ne, ne_eq, decide_eq_true_eq, decide_eq_false_iff_not, decide_eq_decide, bne_eq_false_iff_eq, beq_eq_false_iff_ne, Bool.not_eq_true, Bool.not_eq_false, Bool.not_eq_true', Bool.not_eq_false', Bool.true_beq, Bool.false_beq, Bool.true_bne, Bool.false_bne, Bool.bne_true, Bool.bne_false] at c20); (try simp only [beq_iff_eq, bne_iff_ne, ne_eq, decide_eq_true_eq, decide_eq_false_iff_not, decide_eq_decide, bne_eq_false_iff_eq, beq_eq_false_iff_ne, Bool.not_eq_true, Bool.not_eq_false, Bool.not_eq_true', Bool.not_eq_false', Bool.true_beq, Bool.false_beq, Bool.true_bne, Bool.false_bne, Bool.bne_true, Bool.bne_false] at c21b0); (try simp only [beq_iff_eq, bne_iff_ne, ne_eq, decide_eq_true_eq, decide_eq_false_iff_not, decide_eq_decide, bne_eq_false_iff_eq, beq_eq_false_iff_ne, Bool.not_eq_true, Bool.not_eq_false, Bool.not_eq_true', Bool.not_eq_false', Bool.true_beq, Bool.false_beq, Bool.true_bne, Bool.false_bne, Bool.bne_true, Bool.bne_false] at c21b1); (try unfold wrap64 at *); omega)
                          · rw [if_neg c21] at H
                            exact absurd H (by simp)
                        · rw [if_neg c20] at H
                          exact absurd H (by simp)
                      · rw [if_neg c19] at H
                        exact absurd H (by simp)
                    · rw [if_neg c18] at H
                      exact absurd H (by simp)
                  · rw [if_neg c16] at H
                    have c16b0 : decide (x39_1 < t249) = false := decide_eq_false c16
                    clear c16
                    by_cases c22 : x11_1.size + (catS (⟨#[121]⟩ : ByteArray) (cutS a1 0 ((ji9) : Int).toNat)).size ≤ 9223372036854775807
                    · rw [if_pos c22] at H
                      have c22b0 := eq_true c22
                      have c22b1 : decide (x11_1.size + (catS (⟨#[121]⟩ : ByteArray) (cutS a1 0 ((ji9) : Int).toNat)).size ≤ 9223372036854775807) = true := decide_eq_true c22
                      try have c22b2 : (9223372036854775807 < x11_1.size + (catS (⟨#[121]⟩ : ByteArray) (cutS a1 0 ((ji9) : Int).toNat)).size) = False := eq_false (Nat.not_lt.2 c22)
                      clear c22
                      obtain ⟨y251, hy251⟩ : ∃ y_ : List Int, y_ = (([(wrap64 (((catS (⟨#[120]⟩ : ByteArray) (cutS a0 0 ((ji5) : Int).toNat)).size : Int) - 1)) % 256] : List Int)) := ⟨_, rfl⟩
                      replace H : (if (strOfNums y251).size + (catS (⟨#[120]⟩ : ByteArray) (cutS a0 0 ((ji5) : Int).toNat)).size ≤ 9223372036854775807 then ((some (([(wrap64 ((wrap64 (128 + t249)) - 3)) % 256, 0, (t250) % 256] : List Int) : List Int)).bind fun y254 => (if (catS (strOfNums y251) (catS (⟨#[120]⟩ : ByteArray) (cutS a0 0 ((ji5) : Int).toNat))).size + (strOfNums y254).size ≤ 9223372036854775807 then ((some (([(wrap64 (((catS (⟨#[121]⟩ : ByteArray) (cutS a1 0 ((ji9) : Int).toNat)).size : Int) - 1)) % 256] : List Int) : List Int)).bind fun y257 => (if (catS (catS (strOfNums y251) (catS (⟨#[120]⟩ : ByteArray) (cutS a0 0 ((ji5) : Int).toNat))) (strOfNums y254)).size + (strOfNums y257).size ≤ 9223372036854775807 then (if (catS (catS (catS (strOfNums y251) (catS (⟨#[120]⟩ : ByteArray) (cutS a0 0 ((ji5) : Int).toNat))) (strOfNums y254)) (strOfNums y257)).size + (catS (⟨#[121]⟩ : ByteArray) (cutS a1 0 ((ji9) : Int).toNat)).size ≤ 9223372036854775807 then ((digit_Dec.f k1 ((catS x11_1 (catS (⟨#[121]⟩ : ByteArray) (cutS a1 0 ((ji9) : Int).toNat))).size : Int)).bind fun t260 => (if t260.size + 1 ≤ 9223372036854775807 then (if (catS t260 (⟨#[59]⟩ : ByteArray)).size + (catS (catS (catS (catS (strOfNums y251) (catS (⟨#[120]⟩ : ByteArray) (cutS a0 0 ((ji5) : Int).toNat))) (strOfNums y254)) (strOfNums y257)) (catS (⟨#[121]⟩ : ByteArray) (cutS a1 0 ((ji9) : Int).toNat))).size ≤ 9223372036854775807 then ((squeeze_Expand.f k1 (catS (catS t260 (⟨#[59]⟩ : ByteArray)) (catS (catS (catS (catS (strOfNums y251) (catS (⟨#[120]⟩ : ByteArray) (cutS a0 0 ((ji5) : Int).toNat))) (strOfNums y254)) (strOfNums y257)) (catS (⟨#[121]⟩ : ByteArray) (cutS a1 0 ((ji9) : Int).toNat)))) 400).bind fun bt261 => ((digit_Dec.f k1 ((catS x11_1 (catS (⟨#[121]⟩ : ByteArray) (cutS a1 0 ((ji9) : Int).toNat))).size : Int)).bind fun t263 => (if t263.size + 1 ≤ 9223372036854775807 then (if (catS t263 (⟨#[59]⟩ : ByteArray)).size + (catS (catS (catS (catS (strOfNums y251) (catS (⟨#[120]⟩ : ByteArray) (cutS a0 0 ((ji5) : Int).toNat))) (strOfNums y254)) (strOfNums y257)) (catS (⟨#[121]⟩ : ByteArray) (cutS a1 0 ((ji9) : Int).toNat))).size ≤ 9223372036854775807 then (if (catS (catS t263 (⟨#[59]⟩ : ByteArray)) (catS (catS (catS (catS (strOfNums y251) (catS (⟨#[120]⟩ : ByteArray) (cutS a0 0 ((ji5) : Int).toNat))) (strOfNums y254)) (strOfNums y257)) (catS (⟨#[121]⟩ : ByteArray) (cutS a1 0 ((ji9) : Int).toNat)))).size + 2 ≤ 9223372036854775807 then ((squeeze_Expand.f k1 (catS (catS (catS t263 (⟨#[59]⟩ : ByteArray)) (catS (catS (catS (catS (strOfNums y251) (catS (⟨#[120]⟩ : ByteArray) (cutS a0 0 ((ji5) : Int).toNat))) (strOfNums y254)) (strOfNums y257)) (catS (⟨#[121]⟩ : ByteArray) (cutS a1 0 ((ji9) : Int).toNat)))) (⟨#[0, 122]⟩ : ByteArray)) 400).bind fun bt264 => ((digit_Dec.f k1 ((catS x11_1 (catS (⟨#[121]⟩ : ByteArray) (cutS a1 0 ((ji9) : Int).toNat))).size : Int)).bind fun t266 => (if t266.size + 1 ≤ 9223372036854775807 then (if 0 ≤ (wrap64 (((catS (catS (catS (catS (strOfNums y251) (catS (⟨#[120]⟩ : ByteArray) (cutS a0 0 ((ji5) : Int).toNat))) (strOfNums y254)) (strOfNums y257)) (catS (⟨#[121]⟩ : ByteArray) (cutS a1 0 ((ji9) : Int).toNat))).size : Int) - 1)) then (if (wrap64 (((catS (catS (catS (catS (strOfNums y251) (catS (⟨#[120]⟩ : ByteArray) (cutS a0 0 ((ji5) : Int).toNat))) (strOfNums y254)) (strOfNums y257)) (catS (⟨#[121]⟩ : ByteArray) (cutS a1 0 ((ji9) : Int).toNat))).size : Int) - 1)) ≤ ((catS (catS (catS (catS (strOfNums y251) (catS (⟨#[120]⟩ : ByteArray) (cutS a0 0 ((ji5) : Int).toNat))) (strOfNums y254)) (strOfNums y257)) (catS (⟨#[121]⟩ : ByteArray) (cutS a1 0 ((ji9) : Int).toNat))).size : Int) then (if (catS t266 (⟨#[59]⟩ : ByteArray)).size + (cutS (catS (catS (catS (catS (strOfNums y251) (catS (⟨#[120]⟩ : ByteArray) (cutS a0 0 ((ji5) : Int).toNat))) (strOfNums y254)) (strOfNums y257)) (catS (⟨#[121]⟩ : ByteArray) (cutS a1 0 ((ji9) : Int).toNat))) 0 ((wrap64 (((catS (catS (catS (catS (strOfNums y251) (catS (⟨#[120]⟩ : ByteArray) (cutS a0 0 ((ji5) : Int).toNat))) (strOfNums y254)) (strOfNums y257)) (catS (⟨#[121]⟩ : ByteArray) (cutS a1 0 ((ji9) : Int).toNat))).size : Int) - 1)) : Int).toNat).size ≤ 9223372036854775807 then ((squeeze_Expand.f k1 (catS (catS t266 (⟨#[59]⟩ : ByteArray)) (cutS (catS (catS (catS (catS (strOfNums y251) (catS (⟨#[120]⟩ : ByteArray) (cutS a0 0 ((ji5) : Int).toNat))) (strOfNums y254)) (strOfNums y257)) (catS (⟨#[121]⟩ : ByteArray) (cutS a1 0 ((ji9) : Int).toNat))) 0 ((wrap64 (((catS (catS (catS (catS (strOfNums y251) (catS (⟨#[120]⟩ : ByteArray) (cutS a0 0 ((ji5) : Int).toNat))) (strOfNums y254)) (strOfNums y257)) (catS (⟨#[121]⟩ : ByteArray) (cutS a1 0 ((ji9) : Int).toNat))).size : Int) - 1)) : Int).toNat)) 400).bind fun bt267 => (if bt261.2 = true then (if bt261.1.toList = (catS x11_1 (catS (⟨#[121]⟩ : ByteArray) (cutS a1 0 ((ji9) : Int).toNat))).toList then (if bt264.2 = true then (some false) else (if bt267.2 = true then (some false) else ((ammonitelaw4_SqueezeRuns.f k1).bind fun t269 => (some t269)))) else (some false)) else (some false))) else (none)) else (none)) else (none)) else (none)))) else (none)) else (none)) else (none)))) else (none)) else (none))) else (none)) else (none))) else (none))) else (none)) = some r := by first | (rw [hy251]; with_reducible exact H) | (have H2_ := (Option.bind_some _ _).symm.trans H; rw [hy251]; with_reducible exact H2_) | (have H2_ := (Option.bind_some _ _).symm.trans H; with_reducible exact H2_) | with_reducible exact H | (rw [hy251]; exact H) | exact H
                      have Ny251 := Aside0.mk hy251
                      clear hy251
                      by_cases c23 : (strOfNums y251).size + (catS (⟨#[120]⟩ : ByteArray) (cutS a0 0 ((ji5) : Int).toNat)).size ≤ 9223372036854775807
                      · rw [if_pos c23] at H
                        have c23b0 := eq_true c23
                        have c23b1 : decide ((strOfNums y251).size + (catS (⟨#[120]⟩ : ByteArray) (cutS a0 0 ((ji5) : Int).toNat)).size ≤ 9223372036854775807) = true := decide_eq_true c23
                        try have c23b2 : (9223372036854775807 < (strOfNums y251).size + (catS (⟨#[120]⟩ : ByteArray) (cutS a0 0 ((ji5) : Int).toNat)).size) = False := eq_false (Nat.not_lt.2 c23)
                        clear c23
                        obtain ⟨y254, hy254⟩ : ∃ y_ : List Int, y_ = (([(wrap64 ((wrap64 (128 + t249)) - 3)) % 256, 0, (t250) % 256] : List Int)) := ⟨_, rfl⟩
                        replace H : (if (catS (strOfNums y251) (catS (⟨#[120]⟩ : ByteArray) (cutS a0 0 ((ji5) : Int).toNat))).size + (strOfNums y254).size ≤ 9223372036854775807 then ((some (([(wrap64 (((catS (⟨#[121]⟩ : ByteArray) (cutS a1 0 ((ji9) : Int).toNat)).size : Int) - 1)) % 256] : List Int) : List Int)).bind fun y257 => (if (catS (catS (strOfNums y251) (catS (⟨#[120]⟩ : ByteArray) (cutS a0 0 ((ji5) : Int).toNat))) (strOfNums y254)).size + (strOfNums y257).size ≤ 9223372036854775807 then (if (catS (catS (catS (strOfNums y251) (catS (⟨#[120]⟩ : ByteArray) (cutS a0 0 ((ji5) : Int).toNat))) (strOfNums y254)) (strOfNums y257)).size + (catS (⟨#[121]⟩ : ByteArray) (cutS a1 0 ((ji9) : Int).toNat)).size ≤ 9223372036854775807 then ((digit_Dec.f k1 ((catS x11_1 (catS (⟨#[121]⟩ : ByteArray) (cutS a1 0 ((ji9) : Int).toNat))).size : Int)).bind fun t260 => (if t260.size + 1 ≤ 9223372036854775807 then (if (catS t260 (⟨#[59]⟩ : ByteArray)).size + (catS (catS (catS (catS (strOfNums y251) (catS (⟨#[120]⟩ : ByteArray) (cutS a0 0 ((ji5) : Int).toNat))) (strOfNums y254)) (strOfNums y257)) (catS (⟨#[121]⟩ : ByteArray) (cutS a1 0 ((ji9) : Int).toNat))).size ≤ 9223372036854775807 then ((squeeze_Expand.f k1 (catS (catS t260 (⟨#[59]⟩ : ByteArray)) (catS (catS (catS (catS (strOfNums y251) (catS (⟨#[120]⟩ : ByteArray) (cutS a0 0 ((ji5) : Int).toNat))) (strOfNums y254)) (strOfNums y257)) (catS (⟨#[121]⟩ : ByteArray) (cutS a1 0 ((ji9) : Int).toNat)))) 400).bind fun bt261 => ((digit_Dec.f k1 ((catS x11_1 (catS (⟨#[121]⟩ : ByteArray) (cutS a1 0 ((ji9) : Int).toNat))).size : Int)).bind fun t263 => (if t263.size + 1 ≤ 9223372036854775807 then (if (catS t263 (⟨#[59]⟩ : ByteArray)).size + (catS (catS (catS (catS (strOfNums y251) (catS (⟨#[120]⟩ : ByteArray) (cutS a0 0 ((ji5) : Int).toNat))) (strOfNums y254)) (strOfNums y257)) (catS (⟨#[121]⟩ : ByteArray) (cutS a1 0 ((ji9) : Int).toNat))).size ≤ 9223372036854775807 then (if (catS (catS t263 (⟨#[59]⟩ : ByteArray)) (catS (catS (catS (catS (strOfNums y251) (catS (⟨#[120]⟩ : ByteArray) (cutS a0 0 ((ji5) : Int).toNat))) (strOfNums y254)) (strOfNums y257)) (catS (⟨#[121]⟩ : ByteArray) (cutS a1 0 ((ji9) : Int).toNat)))).size + 2 ≤ 9223372036854775807 then ((squeeze_Expand.f k1 (catS (catS (catS t263 (⟨#[59]⟩ : ByteArray)) (catS (catS (catS (catS (strOfNums y251) (catS (⟨#[120]⟩ : ByteArray) (cutS a0 0 ((ji5) : Int).toNat))) (strOfNums y254)) (strOfNums y257)) (catS (⟨#[121]⟩ : ByteArray) (cutS a1 0 ((ji9) : Int).toNat)))) (⟨#[0, 122]⟩ : ByteArray)) 400).bind fun bt264 => ((digit_Dec.f k1 ((catS x11_1 (catS (⟨#[121]⟩ : ByteArray) (cutS a1 0 ((ji9) : Int).toNat))).size : Int)).bind fun t266 => (if t266.size + 1 ≤ 9223372036854775807 then (if 0 ≤ (wrap64 (((catS (catS (catS (catS (strOfNums y251) (catS (⟨#[120]⟩ : ByteArray) (cutS a0 0 ((ji5) : Int).toNat))) (strOfNums y254)) (strOfNums y257)) (catS (⟨#[121]⟩ : ByteArray) (cutS a1 0 ((ji9) : Int).toNat))).size : Int) - 1)) then (if (wrap64 (((catS (catS (catS (catS (strOfNums y251) (catS (⟨#[120]⟩ : ByteArray) (cutS a0 0 ((ji5) : Int).toNat))) (strOfNums y254)) (strOfNums y257)) (catS (⟨#[121]⟩ : ByteArray) (cutS a1 0 ((ji9) : Int).toNat))).size : Int) - 1)) ≤ ((catS (catS (catS (catS (strOfNums y251) (catS (⟨#[120]⟩ : ByteArray) (cutS a0 0 ((ji5) : Int).toNat))) (strOfNums y254)) (strOfNums y257)) (catS (⟨#[121]⟩ : ByteArray) (cutS a1 0 ((ji9) : Int).toNat))).size : Int) then (if (catS t266 (⟨#[59]⟩ : ByteArray)).size + (cutS (catS (catS (catS (catS (strOfNums y251) (catS (⟨#[120]⟩ : ByteArray) (cutS a0 0 ((ji5) : Int).toNat))) (strOfNums y254)) (strOfNums y257)) (catS (⟨#[121]⟩ : ByteArray) (cutS a1 0 ((ji9) : Int).toNat))) 0 ((wrap64 (((catS (catS (catS (catS (strOfNums y251) (catS (⟨#[120]⟩ : ByteArray) (cutS a0 0 ((ji5) : Int).toNat))) (strOfNums y254)) (strOfNums y257)) (catS (⟨#[121]⟩ : ByteArray) (cutS a1 0 ((ji9) : Int).toNat))).size : Int) - 1)) : Int).toNat).size ≤ 9223372036854775807 then ((squeeze_Expand.f k1 (catS (catS t266 (⟨#[59]⟩ : ByteArray)) (cutS (catS (catS (catS (catS (strOfNums y251) (catS (⟨#[120]⟩ : ByteArray) (cutS a0 0 ((ji5) : Int).toNat))) (strOfNums y254)) (strOfNums y257)) (catS (⟨#[121]⟩ : ByteArray) (cutS a1 0 ((ji9) : Int).toNat))) 0 ((wrap64 (((catS (catS (catS (catS (strOfNums y251) (catS (⟨#[120]⟩ : ByteArray) (cutS a0 0 ((ji5) : Int).toNat))) (strOfNums y254)) (strOfNums y257)) (catS (⟨#[121]⟩ : ByteArray) (cutS a1 0 ((ji9) : Int).toNat))).size : Int) - 1)) : Int).toNat)) 400).bind fun bt267 => (if bt261.2 = true then (if bt261.1.toList = (catS x11_1 (catS (⟨#[121]⟩ : ByteArray) (cutS a1 0 ((ji9) : Int).toNat))).toList then (if bt264.2 = true then (some false) else (if bt267.2 = true then (some false) else ((ammonitelaw4_SqueezeRuns.f k1).bind fun t269 => (some t269)))) else (some false)) else (some false))) else (none)) else (none)) else (none)) else (none)))) else (none)) else (none)) else (none)))) else (none)) else (none))) else (none)) else (none))) else (none)) = some r := by first | (rw [hy254]; with_reducible exact H) | (have H2_ := (Option.bind_some _ _).symm.trans H; rw [hy254]; with_reducible exact H2_) | (have H2_ := (Option.bind_some _ _).symm.trans H; with_reducible exact H2_) | with_reducible exact H | (rw [hy254]; exact H) | exact H
                        have Ny254 := Aside0.mk hy254
                        clear hy254
                        by_cases c24 : (catS (strOfNums y251) (catS (⟨#[120]⟩ : ByteArray) (cutS a0 0 ((ji5) : Int).toNat))).size + (strOfNums y254).size ≤ 9223372036854775807
                        · rw [if_pos c24] at H
                          have c24b0 := eq_true c24
                          have c24b1 : decide ((catS (strOfNums y251) (catS (⟨#[120]⟩ : ByteArray) (cutS a0 0 ((ji5) : Int).toNat))).size + (strOfNums y254).size ≤ 9223372036854775807) = true := decide_eq_true c24
                          try have c24b2 : (9223372036854775807 < (catS (strOfNums y251) (catS (⟨#[120]⟩ : ByteArray) (cutS a0 0 ((ji5) : Int).toNat))).size + (strOfNums y254).size) = False := eq_false (Nat.not_lt.2 c24)
                          clear c24
                          obtain ⟨y257, hy257⟩ : ∃ y_ : List Int, y_ = (([(wrap64 (((catS (⟨#[121]⟩ : ByteArray) (cutS a1 0 ((ji9) : Int).toNat)).size : Int) - 1)) % 256] : List Int)) := ⟨_, rfl⟩
                          replace H : (if (catS (catS (strOfNums y251) (catS (⟨#[120]⟩ : ByteArray) (cutS a0 0 ((ji5) : Int).toNat))) (strOfNums y254)).size + (strOfNums y257).size ≤ 9223372036854775807 then (if (catS (catS (catS (strOfNums y251) (catS (⟨#[120]⟩ : ByteArray) (cutS a0 0 ((ji5) : Int).toNat))) (strOfNums y254)) (strOfNums y257)).size + (catS (⟨#[121]⟩ : ByteArray) (cutS a1 0 ((ji9) : Int).toNat)).size ≤ 9223372036854775807 then ((digit_Dec.f k1 ((catS x11_1 (catS (⟨#[121]⟩ : ByteArray) (cutS a1 0 ((ji9) : Int).toNat))).size : Int)).bind fun t260 => (if t260.size + 1 ≤ 9223372036854775807 then (if (catS t260 (⟨#[59]⟩ : ByteArray)).size + (catS (catS (catS (catS (strOfNums y251) (catS (⟨#[120]⟩ : ByteArray) (cutS a0 0 ((ji5) : Int).toNat))) (strOfNums y254)) (strOfNums y257)) (catS (⟨#[121]⟩ : ByteArray) (cutS a1 0 ((ji9) : Int).toNat))).size ≤ 9223372036854775807 then ((squeeze_Expand.f k1 (catS (catS t260 (⟨#[59]⟩ : ByteArray)) (catS (catS (catS (catS (strOfNums y251) (catS (⟨#[120]⟩ : ByteArray) (cutS a0 0 ((ji5) : Int).toNat))) (strOfNums y254)) (strOfNums y257)) (catS (⟨#[121]⟩ : ByteArray) (cutS a1 0 ((ji9) : Int).toNat)))) 400).bind fun bt261 => ((digit_Dec.f k1 ((catS x11_1 (catS (⟨#[121]⟩ : ByteArray) (cutS a1 0 ((ji9) : Int).toNat))).size : Int)).bind fun t263 => (if t263.size + 1 ≤ 9223372036854775807 then (if (catS t263 (⟨#[59]⟩ : ByteArray)).size + (catS (catS (catS (catS (strOfNums y251) (catS (⟨#[120]⟩ : ByteArray) (cutS a0 0 ((ji5) : Int).toNat))) (strOfNums y254)) (strOfNums y257)) (catS (⟨#[121]⟩ : ByteArray) (cutS a1 0 ((ji9) : Int).toNat))).size ≤ 9223372036854775807 then (if (catS (catS t263 (⟨#[59]⟩ : ByteArray)) (catS (catS (catS (catS (strOfNums y251) (catS (⟨#[120]⟩ : ByteArray) (cutS a0 0 ((ji5) : Int).toNat))) (strOfNums y254)) (strOfNums y257)) (catS (⟨#[121]⟩ : ByteArray) (cutS a1 0 ((ji9) : Int).toNat)))).size + 2 ≤ 9223372036854775807 then ((squeeze_Expand.f k1 (catS (catS (catS t263 (⟨#[59]⟩ : ByteArray)) (catS (catS (catS (catS (strOfNums y251) (catS (⟨#[120]⟩ : ByteArray) (cutS a0 0 ((ji5) : Int).toNat))) (strOfNums y254)) (strOfNums y257)) (catS (⟨#[121]⟩ : ByteArray) (cutS a1 0 ((ji9) : Int).toNat)))) (⟨#[0, 122]⟩ : ByteArray)) 400).bind fun bt264 => ((digit_Dec.f k1 ((catS x11_1 (catS (⟨#[121]⟩ : ByteArray) (cutS a1 0 ((ji9) : Int).toNat))).size : Int)).bind fun t266 => (if t266.size + 1 ≤ 9223372036854775807 then (if 0 ≤ (wrap64 (((catS (catS (catS (catS (strOfNums y251) (catS (⟨#[120]⟩ : ByteArray) (cutS a0 0 ((ji5) : Int).toNat))) (strOfNums y254)) (strOfNums y257)) (catS (⟨#[121]⟩ : ByteArray) (cutS a1 0 ((ji9) : Int).toNat))).size : Int) - 1)) then (if (wrap64 (((catS (catS (catS (catS (strOfNums y251) (catS (⟨#[120]⟩ : ByteArray) (cutS a0 0 ((ji5) : Int).toNat))) (strOfNums y254)) (strOfNums y257)) (catS (⟨#[121]⟩ : ByteArray) (cutS a1 0 ((ji9) : Int).toNat))).size : Int) - 1)) ≤ ((catS (catS (catS (catS (strOfNums y251) (catS (⟨#[120]⟩ : ByteArray) (cutS a0 0 ((ji5) : Int).toNat))) (strOfNums y254)) (strOfNums y257)) (catS (⟨#[121]⟩ : ByteArray) (cutS a1 0 ((ji9) : Int).toNat))).size : Int) then (if (catS t266 (⟨#[59]⟩ : ByteArray)).size + (cutS (catS (catS (catS (catS (strOfNums y251) (catS (⟨#[120]⟩ : ByteArray) (cutS a0 0 ((ji5) : Int).toNat))) (strOfNums y254)) (strOfNums y257)) (catS (⟨#[121]⟩ : ByteArray) (cutS a1 0 ((ji9) : Int).toNat))) 0 ((wrap64 (((catS (catS (catS (catS (strOfNums y251) (catS (⟨#[120]⟩ : ByteArray) (cutS a0 0 ((ji5) : Int).toNat))) (strOfNums y254)) (strOfNums y257)) (catS (⟨#[121]⟩ : ByteArray) (cutS a1 0 ((ji9) : Int).toNat))).size : Int) - 1)) : Int).toNat).size ≤ 9223372036854775807 then ((squeeze_Expand.f k1 (catS (catS t266 (⟨#[59]⟩ : ByteArray)) (cutS (catS (catS (catS (catS (strOfNums y251) (catS (⟨#[120]⟩ : ByteArray) (cutS a0 0 ((ji5) : Int).toNat))) (strOfNums y254)) (strOfNums y257)) (catS (⟨#[121]⟩ : ByteArray) (cutS a1 0 ((ji9) : Int).toNat))) 0 ((wrap64 (((catS (catS (catS (catS (strOfNums y251) (catS (⟨#[120]⟩ : ByteArray) (cutS a0 0 ((ji5) : Int).toNat))) (strOfNums y254)) (strOfNums y257)) (catS (⟨#[121]⟩ : ByteArray) (cutS a1 0 ((ji9) : Int).toNat))).size : Int) - 1)) : Int).toNat)) 400).bind fun bt267 => (if bt261.2 = true then (if bt261.1.toList = (catS x11_1 (catS (⟨#[121]⟩ : ByteArray) (cutS a1 0 ((ji9) : Int).toNat))).toList then (if bt264.2 = true then (some false) else (if bt267.2 = true then (some false) else ((ammonitelaw4_SqueezeRuns.f k1).bind fun t269 => (some t269)))) else (some false)) else (some false))) else (none)) else (none)) else (none)) else (none)))) else (none)) else (none)) else (none)))) else (none)) else (none))) else (none)) else (none)) = some r := by first | (rw [hy257]; with_reducible exact H) | (have H2_ := (Option.bind_some _ _).symm.trans H; rw [hy257]; with_reducible exact H2_) | (have H2_ := (Option.bind_some _ _).symm.trans H; with_reducible exact H2_) | with_reducible exact H | (rw [hy257]; exact H) | exact H
                          have Ny257 := Aside0.mk hy257
                          clear hy257
                          by_cases c25 : (catS (catS (strOfNums y251) (catS (⟨#[120]⟩ : ByteArray) (cutS a0 0 ((ji5) : Int).toNat))) (strOfNums y254)).size + (strOfNums y257).size ≤ 9223372036854775807
                          · rw [if_pos c25] at H
                            have c25b0 := eq_true c25
                            have c25b1 : decide ((catS (catS (strOfNums y251) (catS (⟨#[120]⟩ : ByteArray) (cutS a0 0 ((ji5) : Int).toNat))) (strOfNums y254)).size + (strOfNums y257).size ≤ 9223372036854775807) = true := decide_eq_true c25
                            try have c25b2 : (9223372036854775807 < (catS (catS (strOfNums y251) (catS (⟨#[120]⟩ : ByteArray) (cutS a0 0 ((ji5) : Int).toNat))) (strOfNums y254)).size + (strOfNums y257).size) = False := eq_false (Nat.not_lt.2 c25)
                            clear c25
                            by_cases c26 : (catS (catS (catS (strOfNums y251) (catS (⟨#[120]⟩ : ByteArray) (cutS a0 0 ((ji5) : Int).toNat))) (strOfNums y254)) (strOfNums y257)).size + (catS (⟨#[121]⟩ : ByteArray) (cutS a1 0 ((ji9) : Int).toNat)).size ≤ 9223372036854775807
                            · rw [if_pos c26] at H
                              have c26b0 := eq_true c26
                              have c26b1 : decide ((catS (catS (catS (strOfNums y251) (catS (⟨#[120]⟩ : ByteArray) (cutS a0 0 ((ji5) : Int).toNat))) (strOfNums y254)) (strOfNums y257)).size + (catS (⟨#[121]⟩ : ByteArray) (cutS a1 0 ((ji9) : Int).toNat)).size ≤ 9223372036854775807) = true := decide_eq_true c26
                              try have c26b2 : (9223372036854775807 < (catS (catS (catS (strOfNums y251) (catS (⟨#[120]⟩ : ByteArray) (cutS a0 0 ((ji5) : Int).toNat))) (strOfNums y254)) (strOfNums y257)).size + (catS (⟨#[121]⟩ : ByteArray) (cutS a1 0 ((ji9) : Int).toNat)).size) = False := eq_false (Nat.not_lt.2 c26)
                              clear c26
                              replace H := Option.bind_eq_some_iff.mp H
                              obtain ⟨t260, A270, H⟩ := H
                              replace H : (if t260.size + 1 ≤ 9223372036854775807 then (if (catS t260 (⟨#[59]⟩ : ByteArray)).size + (catS (catS (catS (catS (strOfNums y251) (catS (⟨#[120]⟩ : ByteArray) (cutS a0 0 ((ji5) : Int).toNat))) (strOfNums y254)) (strOfNums y257)) (catS (⟨#[121]⟩ : ByteArray) (cutS a1 0 ((ji9) : Int).toNat))).size ≤ 9223372036854775807 then ((squeeze_Expand.f k1 (catS (catS t260 (⟨#[59]⟩ : ByteArray)) (catS (catS (catS (catS (strOfNums y251) (catS (⟨#[120]⟩ : ByteArray) (cutS a0 0 ((ji5) : Int).toNat))) (strOfNums y254)) (strOfNums y257)) (catS (⟨#[121]⟩ : ByteArray) (cutS a1 0 ((ji9) : Int).toNat)))) 400).bind fun bt261 => ((digit_Dec.f k1 ((catS x11_1 (catS (⟨#[121]⟩ : ByteArray) (cutS a1 0 ((ji9) : Int).toNat))).size : Int)).bind fun t263 => (if t263.size + 1 ≤ 9223372036854775807 then (if (catS t263 (⟨#[59]⟩ : ByteArray)).size + (catS (catS (catS (catS (strOfNums y251) (catS (⟨#[120]⟩ : ByteArray) (cutS a0 0 ((ji5) : Int).toNat))) (strOfNums y254)) (strOfNums y257)) (catS (⟨#[121]⟩ : ByteArray) (cutS a1 0 ((ji9) : Int).toNat))).size ≤ 9223372036854775807 then (if (catS (catS t263 (⟨#[59]⟩ : ByteArray)) (catS (catS (catS (catS (strOfNums y251) (catS (⟨#[120]⟩ : ByteArray) (cutS a0 0 ((ji5) : Int).toNat))) (strOfNums y254)) (strOfNums y257)) (catS (⟨#[121]⟩ : ByteArray) (cutS a1 0 ((ji9) : Int).toNat)))).size + 2 ≤ 9223372036854775807 then ((squeeze_Expand.f k1 (catS (catS (catS t263 (⟨#[59]⟩ : ByteArray)) (catS (catS (catS (catS (strOfNums y251) (catS (⟨#[120]⟩ : ByteArray) (cutS a0 0 ((ji5) : Int).toNat))) (strOfNums y254)) (strOfNums y257)) (catS (⟨#[121]⟩ : ByteArray) (cutS a1 0 ((ji9) : Int).toNat)))) (⟨#[0, 122]⟩ : ByteArray)) 400).bind fun bt264 => ((digit_Dec.f k1 ((catS x11_1 (catS (⟨#[121]⟩ : ByteArray) (cutS a1 0 ((ji9) : Int).toNat))).size : Int)).bind fun t266 => (if t266.size + 1 ≤ 9223372036854775807 then (if 0 ≤ (wrap64 (((catS (catS (catS (catS (strOfNums y251) (catS (⟨#[120]⟩ : ByteArray) (cutS a0 0 ((ji5) : Int).toNat))) (strOfNums y254)) (strOfNums y257)) (catS (⟨#[121]⟩ : ByteArray) (cutS a1 0 ((ji9) : Int).toNat))).size : Int) - 1)) then (if (wrap64 (((catS (catS (catS (catS (strOfNums y251) (catS (⟨#[120]⟩ : ByteArray) (cutS a0 0 ((ji5) : Int).toNat))) (strOfNums y254)) (strOfNums y257)) (catS (⟨#[121]⟩ : ByteArray) (cutS a1 0 ((ji9) : Int).toNat))).size : Int) - 1)) ≤ ((catS (catS (catS (catS (strOfNums y251) (catS (⟨#[120]⟩ : ByteArray) (cutS a0 0 ((ji5) : Int).toNat))) (strOfNums y254)) (strOfNums y257)) (catS (⟨#[121]⟩ : ByteArray) (cutS a1 0 ((ji9) : Int).toNat))).size : Int) then (if (catS t266 (⟨#[59]⟩ : ByteArray)).size + (cutS (catS (catS (catS (catS (strOfNums y251) (catS (⟨#[120]⟩ : ByteArray) (cutS a0 0 ((ji5) : Int).toNat))) (strOfNums y254)) (strOfNums y257)) (catS (⟨#[121]⟩ : ByteArray) (cutS a1 0 ((ji9) : Int).toNat))) 0 ((wrap64 (((catS (catS (catS (catS (strOfNums y251) (catS (⟨#[120]⟩ : ByteArray) (cutS a0 0 ((ji5) : Int).toNat))) (strOfNums y254)) (strOfNums y257)) (catS (⟨#[121]⟩ : ByteArray) (cutS a1 0 ((ji9) : Int).toNat))).size : Int) - 1)) : Int).toNat).size ≤ 9223372036854775807 then ((squeeze_Expand.f k1 (catS (catS t266 (⟨#[59]⟩ : ByteArray)) (cutS (catS (catS (catS (catS (strOfNums y251) (catS (⟨#[120]⟩ : ByteArray) (cutS a0 0 ((ji5) : Int).toNat))) (strOfNums y254)) (strOfNums y257)) (catS (⟨#[121]⟩ : ByteArray) (cutS a1 0 ((ji9) : Int).toNat))) 0 ((wrap64 (((catS (catS (catS (catS (strOfNums y251) (catS (⟨#[120]⟩ : ByteArray) (cutS a0 0 ((ji5) : Int).toNat))) (strOfNums y254)) (strOfNums y257)) (catS (⟨#[121]⟩ : ByteArray) (cutS a1 0 ((ji9) : Int).toNat))).size : Int) - 1)) : Int).toNat)) 400).bind fun bt267 => (if bt261.2 = true then (if bt261.1.toList = (catS x11_1 (catS (⟨#[121]⟩ : ByteArray) (cutS a1 0 ((ji9) : Int).toNat))).toList then (if bt264.2 = true then (some false) else (if bt267.2 = true then (some false) else ((ammonitelaw4_SqueezeRuns.f k1).bind fun t269 => (some t269)))) else (some false)) else (some false))) else (none)) else (none)) else (none)) else (none)))) else (none)) else (none)) else (none)))) else (none)) else (none)) = some r := H
                              have A27 := Aside0.mk A270
                              clear A270
                              by_cases c28 : t260.size + 1 ≤ 9223372036854775807
                              · rw [if_pos c28] at H
                                have c28b0 := eq_true c28
                                have c28b1 : decide (t260.size + 1 ≤ 9223372036854775807) = true := decide_eq_true c28
                                try have c28b2 : (9223372036854775807 < t260.size + 1) = False := eq_false (Nat.not_lt.2 c28)
                                clear c28
                                by_cases c29 : (catS t260 (⟨#[59]⟩ : ByteArray)).size + (catS (catS (catS (catS (strOfNums y251) (catS (⟨#[120]⟩ : ByteArray) (cutS a0 0 ((ji5) : Int).toNat))) (strOfNums y254)) (strOfNums y257)) (catS (⟨#[121]⟩ : ByteArray) (cutS a1 0 ((ji9) : Int).toNat))).size ≤ 9223372036854775807
                                · rw [if_pos c29] at H
                                  have c29b0 := eq_true c29
                                  have c29b1 : decide ((catS t260 (⟨#[59]⟩ : ByteArray)).size + (catS (catS (catS (catS (strOfNums y251) (catS (⟨#[120]⟩ : ByteArray) (cutS a0 0 ((ji5) : Int).toNat))) (strOfNums y254)) (strOfNums y257)) (catS (⟨#[121]⟩ : ByteArray) (cutS a1 0 ((ji9) : Int).toNat))).size ≤ 9223372036854775807) = true := decide_eq_true c29
                                  try have c29b2 : (9223372036854775807 < (catS t260 (⟨#[59]⟩ : ByteArray)).size + (catS (catS (catS (catS (strOfNums y251) (catS (⟨#[120]⟩ : ByteArray) (cutS a0 0 ((ji5) : Int).toNat))) (strOfNums y254)) (strOfNums y257)) (catS (⟨#[121]⟩ : ByteArray) (cutS a1 0 ((ji9) : Int).toNat))).size) = False := eq_false (Nat.not_lt.2 c29)
                                  clear c29
                                  replace H := Option.bind_eq_some_iff.mp H
                                  obtain ⟨⟨t261, t262⟩, A300, H⟩ := H
                                  replace H : ((digit_Dec.f k1 ((catS x11_1 (catS (⟨#[121]⟩ : ByteArray) (cutS a1 0 ((ji9) : Int).toNat))).size : Int)).bind fun t263 => (if t263.size + 1 ≤ 9223372036854775807 then (if (catS t263 (⟨#[59]⟩ : ByteArray)).size + (catS (catS (catS (catS (strOfNums y251) (catS (⟨#[120]⟩ : ByteArray) (cutS a0 0 ((ji5) : Int).toNat))) (strOfNums y254)) (strOfNums y257)) (catS (⟨#[121]⟩ : ByteArray) (cutS a1 0 ((ji9) : Int).toNat))).size ≤ 9223372036854775807 then (if (catS (catS t263 (⟨#[59]⟩ : ByteArray)) (catS (catS (catS (catS (strOfNums y251) (catS (⟨#[120]⟩ : ByteArray) (cutS a0 0 ((ji5) : Int).toNat))) (strOfNums y254)) (strOfNums y257)) (catS (⟨#[121]⟩ : ByteArray) (cutS a1 0 ((ji9) : Int).toNat)))).size + 2 ≤ 9223372036854775807 then ((squeeze_Expand.f k1 (catS (catS (catS t263 (⟨#[59]⟩ : ByteArray)) (catS (catS (catS (catS (strOfNums y251) (catS (⟨#[120]⟩ : ByteArray) (cutS a0 0 ((ji5) : Int).toNat))) (strOfNums y254)) (strOfNums y257)) (catS (⟨#[121]⟩ : ByteArray) (cutS a1 0 ((ji9) : Int).toNat)))) (⟨#[0, 122]⟩ : ByteArray)) 400).bind fun bt264 => ((digit_Dec.f k1 ((catS x11_1 (catS (⟨#[121]⟩ : ByteArray) (cutS a1 0 ((ji9) : Int).toNat))).size : Int)).bind fun t266 => (if t266.size + 1 ≤ 9223372036854775807 then (if 0 ≤ (wrap64 (((catS (catS (catS (catS (strOfNums y251) (catS (⟨#[120]⟩ : ByteArray) (cutS a0 0 ((ji5) : Int).toNat))) (strOfNums y254)) (strOfNums y257)) (catS (⟨#[121]⟩ : ByteArray) (cutS a1 0 ((ji9) : Int).toNat))).size : Int) - 1)) then (if (wrap64 (((catS (catS (catS (catS (strOfNums y251) (catS (⟨#[120]⟩ : ByteArray) (cutS a0 0 ((ji5) : Int).toNat))) (strOfNums y254)) (strOfNums y257)) (catS (⟨#[121]⟩ : ByteArray) (cutS a1 0 ((ji9) : Int).toNat))).size : Int) - 1)) ≤ ((catS (catS (catS (catS (strOfNums y251) (catS (⟨#[120]⟩ : ByteArray) (cutS a0 0 ((ji5) : Int).toNat))) (strOfNums y254)) (strOfNums y257)) (catS (⟨#[121]⟩ : ByteArray) (cutS a1 0 ((ji9) : Int).toNat))).size : Int) then (if (catS t266 (⟨#[59]⟩ : ByteArray)).size + (cutS (catS (catS (catS (catS (strOfNums y251) (catS (⟨#[120]⟩ : ByteArray) (cutS a0 0 ((ji5) : Int).toNat))) (strOfNums y254)) (strOfNums y257)) (catS (⟨#[121]⟩ : ByteArray) (cutS a1 0 ((ji9) : Int).toNat))) 0 ((wrap64 (((catS (catS (catS (catS (strOfNums y251) (catS (⟨#[120]⟩ : ByteArray) (cutS a0 0 ((ji5) : Int).toNat))) (strOfNums y254)) (strOfNums y257)) (catS (⟨#[121]⟩ : ByteArray) (cutS a1 0 ((ji9) : Int).toNat))).size : Int) - 1)) : Int).toNat).size ≤ 9223372036854775807 then ((squeeze_Expand.f k1 (catS (catS t266 (⟨#[59]⟩ : ByteArray)) (cutS (catS (catS (catS (catS (strOfNums y251) (catS (⟨#[120]⟩ : ByteArray) (cutS a0 0 ((ji5) : Int).toNat))) (strOfNums y254)) (strOfNums y257)) (catS (⟨#[121]⟩ : ByteArray) (cutS a1 0 ((ji9) : Int).toNat))) 0 ((wrap64 (((catS (catS (catS (catS (strOfNums y251) (catS (⟨#[120]⟩ : ByteArray) (cutS a0 0 ((ji5) : Int).toNat))) (strOfNums y254)) (strOfNums y257)) (catS (⟨#[121]⟩ : ByteArray) (cutS a1 0 ((ji9) : Int).toNat))).size : Int) - 1)) : Int).toNat)) 400).bind fun bt267 => (if t262 = true then (if t261.toList = (catS x11_1 (catS (⟨#[121]⟩ : ByteArray) (cutS a1 0 ((ji9) : Int).toNat))).toList then (if bt264.2 = true then (some false) else (if bt267.2 = true then (some false) else ((ammonitelaw4_SqueezeRuns.f k1).bind fun t269 => (some t269)))) else (some false)) else (some false))) else (none)) else (none)) else (none)) else (none)))) else (none)) else (none)) else (none))) = some r := H
                                  have A30 := Aside0.mk A300
                                  clear A300
                                  replace H := Option.bind_eq_some_iff.mp H
                                  obtain ⟨t263, A310, H⟩ := H
                                  replace H : (if t263.size + 1 ≤ 9223372036854775807 then (if (catS t263 (⟨#[59]⟩ : ByteArray)).size + (catS (catS (catS (catS (strOfNums y251) (catS (⟨#[120]⟩ : ByteArray) (cutS a0 0 ((ji5) : Int).toNat))) (strOfNums y254)) (strOfNums y257)) (catS (⟨#[121]⟩ : ByteArray) (cutS a1 0 ((ji9) : Int).toNat))).size ≤ 9223372036854775807 then (if (catS (catS t263 (⟨#[59]⟩ : ByteArray)) (catS (catS (catS (catS (strOfNums y251) (catS (⟨#[120]⟩ : ByteArray) (cutS a0 0 ((ji5) : Int).toNat))) (strOfNums y254)) (strOfNums y257)) (catS (⟨#[121]⟩ : ByteArray) (cutS a1 0 ((ji9) : Int).toNat)))).size + 2 ≤ 9223372036854775807 then ((squeeze_Expand.f k1 (catS (catS (catS t263 (⟨#[59]⟩ : ByteArray)) (catS (catS (catS (catS (strOfNums y251) (catS (⟨#[120]⟩ : ByteArray) (cutS a0 0 ((ji5) : Int).toNat))) (strOfNums y254)) (strOfNums y257)) (catS (⟨#[121]⟩ : ByteArray) (cutS a1 0 ((ji9) : Int).toNat)))) (⟨#[0, 122]⟩ : ByteArray)) 400).bind fun bt264 => ((digit_Dec.f k1 ((catS x11_1 (catS (⟨#[121]⟩ : ByteArray) (cutS a1 0 ((ji9) : Int).toNat))).size : Int)).bind fun t266 => (if t266.size + 1 ≤ 9223372036854775807 then (if 0 ≤ (wrap64 (((catS (catS (catS (catS (strOfNums y251) (catS (⟨#[120]⟩ : ByteArray) (cutS a0 0 ((ji5) : Int).toNat))) (strOfNums y254)) (strOfNums y257)) (catS (⟨#[121]⟩ : ByteArray) (cutS a1 0 ((ji9) : Int).toNat))).size : Int) - 1)) then (if (wrap64 (((catS (catS (catS (catS (strOfNums y251) (catS (⟨#[120]⟩ : ByteArray) (cutS a0 0 ((ji5) : Int).toNat))) (strOfNums y254)) (strOfNums y257)) (catS (⟨#[121]⟩ : ByteArray) (cutS a1 0 ((ji9) : Int).toNat))).size : Int) - 1)) ≤ ((catS (catS (catS (catS (strOfNums y251) (catS (⟨#[120]⟩ : ByteArray) (cutS a0 0 ((ji5) : Int).toNat))) (strOfNums y254)) (strOfNums y257)) (catS (⟨#[121]⟩ : ByteArray) (cutS a1 0 ((ji9) : Int).toNat))).size : Int) then (if (catS t266 (⟨#[59]⟩ : ByteArray)).size + (cutS (catS (catS (catS (catS (strOfNums y251) (catS (⟨#[120]⟩ : ByteArray) (cutS a0 0 ((ji5) : Int).toNat))) (strOfNums y254)) (strOfNums y257)) (catS (⟨#[121]⟩ : ByteArray) (cutS a1 0 ((ji9) : Int).toNat))) 0 ((wrap64 (((catS (catS (catS (catS (strOfNums y251) (catS (⟨#[120]⟩ : ByteArray) (cutS a0 0 ((ji5) : Int).toNat))) (strOfNums y254)) (strOfNums y257)) (catS (⟨#[121]⟩ : ByteArray) (cutS a1 0 ((ji9) : Int).toNat))).size : Int) - 1)) : Int).toNat).size ≤ 9223372036854775807 then ((squeeze_Expand.f k1 (catS (catS t266 (⟨#[59]⟩ : ByteArray)) (cutS (catS (catS (catS (catS (strOfNums y251) (catS (⟨#[120]⟩ : ByteArray) (cutS a0 0 ((ji5) : Int).toNat))) (strOfNums y254)) (strOfNums y257)) (catS (⟨#[121]⟩ : ByteArray) (cutS a1 0 ((ji9) : Int).toNat))) 0 ((wrap64 (((catS (catS (catS (catS (strOfNums y251) (catS (⟨#[120]⟩ : ByteArray) (cutS a0 0 ((ji5) : Int).toNat))) (strOfNums y254)) (strOfNums y257)) (catS (⟨#[121]⟩ : ByteArray) (cutS a1 0 ((ji9) : Int).toNat))).size : Int) - 1)) : Int).toNat)) 400).bind fun bt267 => (if t262 = true then (if t261.toList = (catS x11_1 (catS (⟨#[121]⟩ : ByteArray) (cutS a1 0 ((ji9) : Int).toNat))).toList then (if bt264.2 = true then (some false) else (if bt267.2 = true then (some false) else ((ammonitelaw4_SqueezeRuns.f k1).bind fun t269 => (some t269)))) else (some false)) else (some false))) else (none)) else (none)) else (none)) else (none)))) else (none)) else (none)) else (none)) = some r := H
                                  have A31 := Aside0.mk A310
                                  clear A310
                                  by_cases c32 : t263.size + 1 ≤ 9223372036854775807
                                  · rw [if_pos c32] at H
                                    have c32b0 := eq_true c32
                                    have c32b1 : decide (t263.size + 1 ≤ 9223372036854775807) = true := decide_eq_true c32
                                    try have c32b2 : (9223372036854775807 < t263.size + 1) = False := eq_false (Nat.not_lt.2 c32)
                                    clear c32
                                    by_cases c33 : (catS t263 (⟨#[59]⟩ : ByteArray)).size + (catS (catS (catS (catS (strOfNums y251) (catS (⟨#[120]⟩ : ByteArray) (cutS a0 0 ((ji5) : Int).toNat))) (strOfNums y254)) (strOfNums y257)) (catS (⟨#[121]⟩ : ByteArray) (cutS a1 0 ((ji9) : Int).toNat))).size ≤ 9223372036854775807
                                    · rw [if_pos c33] at H
                                      have c33b0 := eq_true c33
                                      have c33b1 : decide ((catS t263 (⟨#[59]⟩ : ByteArray)).size + (catS (catS (catS (catS (strOfNums y251) (catS (⟨#[120]⟩ : ByteArray) (cutS a0 0 ((ji5) : Int).toNat))) (strOfNums y254)) (strOfNums y257)) (catS (⟨#[121]⟩ : ByteArray) (cutS a1 0 ((ji9) : Int).toNat))).size ≤ 9223372036854775807) = true := decide_eq_true c33
                                      try have c33b2 : (9223372036854775807 < (catS t263 (⟨#[59]⟩ : ByteArray)).size + (catS (catS (catS (catS (strOfNums y251) (catS (⟨#[120]⟩ : ByteArray) (cutS a0 0 ((ji5) : Int).toNat))) (strOfNums y254)) (strOfNums y257)) (catS (⟨#[121]⟩ : ByteArray) (cutS a1 0 ((ji9) : Int).toNat))).size) = False := eq_false (Nat.not_lt.2 c33)
                                      clear c33
                                      by_cases c34 : (catS (catS t263 (⟨#[59]⟩ : ByteArray)) (catS (catS (catS (catS (strOfNums y251) (catS (⟨#[120]⟩ : ByteArray) (cutS a0 0 ((ji5) : Int).toNat))) (strOfNums y254)) (strOfNums y257)) (catS (⟨#[121]⟩ : ByteArray) (cutS a1 0 ((ji9) : Int).toNat)))).size + 2 ≤ 9223372036854775807
                                      · rw [if_pos c34] at H
                                        have c34b0 := eq_true c34
                                        have c34b1 : decide ((catS (catS t263 (⟨#[59]⟩ : ByteArray)) (catS (catS (catS (catS (strOfNums y251) (catS (⟨#[120]⟩ : ByteArray) (cutS a0 0 ((ji5) : Int).toNat))) (strOfNums y254)) (strOfNums y257)) (catS (⟨#[121]⟩ : ByteArray) (cutS a1 0 ((ji9) : Int).toNat)))).size + 2 ≤ 9223372036854775807) = true := decide_eq_true c34
                                        try have c34b2 : (9223372036854775807 < (catS (catS t263 (⟨#[59]⟩ : ByteArray)) (catS (catS (catS (catS (strOfNums y251) (catS (⟨#[120]⟩ : ByteArray) (cutS a0 0 ((ji5) : Int).toNat))) (strOfNums y254)) (strOfNums y257)) (catS (⟨#[121]⟩ : ByteArray) (cutS a1 0 ((ji9) : Int).toNat)))).size + 2) = False := eq_false (Nat.not_lt.2 c34)
                                        clear c34
                                        replace H := Option.bind_eq_some_iff.mp H
                                        obtain ⟨⟨t264, t265⟩, A350, H⟩ := H
                                        replace H : ((digit_Dec.f k1 ((catS x11_1 (catS (⟨#[121]⟩ : ByteArray) (cutS a1 0 ((ji9) : Int).toNat))).size : Int)).bind fun t266 => (if t266.size + 1 ≤ 9223372036854775807 then (if 0 ≤ (wrap64 (((catS (catS (catS (catS (strOfNums y251) (catS (⟨#[120]⟩ : ByteArray) (cutS a0 0 ((ji5) : Int).toNat))) (strOfNums y254)) (strOfNums y257)) (catS (⟨#[121]⟩ : ByteArray) (cutS a1 0 ((ji9) : Int).toNat))).size : Int) - 1)) then (if (wrap64 (((catS (catS (catS (catS (strOfNums y251) (catS (⟨#[120]⟩ : ByteArray) (cutS a0 0 ((ji5) : Int).toNat))) (strOfNums y254)) (strOfNums y257)) (catS (⟨#[121]⟩ : ByteArray) (cutS a1 0 ((ji9) : Int).toNat))).size : Int) - 1)) ≤ ((catS (catS (catS (catS (strOfNums y251) (catS (⟨#[120]⟩ : ByteArray) (cutS a0 0 ((ji5) : Int).toNat))) (strOfNums y254)) (strOfNums y257)) (catS (⟨#[121]⟩ : ByteArray) (cutS a1 0 ((ji9) : Int).toNat))).size : Int) then (if (catS t266 (⟨#[59]⟩ : ByteArray)).size + (cutS (catS (catS (catS (catS (strOfNums y251) (catS (⟨#[120]⟩ : ByteArray) (cutS a0 0 ((ji5) : Int).toNat))) (strOfNums y254)) (strOfNums y257)) (catS (⟨#[121]⟩ : ByteArray) (cutS a1 0 ((ji9) : Int).toNat))) 0 ((wrap64 (((catS (catS (catS (catS (strOfNums y251) (catS (⟨#[120]⟩ : ByteArray) (cutS a0 0 ((ji5) : Int).toNat))) (strOfNums y254)) (strOfNums y257)) (catS (⟨#[121]⟩ : ByteArray) (cutS a1 0 ((ji9) : Int).toNat))).size : Int) - 1)) : Int).toNat).size ≤ 9223372036854775807 then ((squeeze_Expand.f k1 (catS (catS t266 (⟨#[59]⟩ : ByteArray)) (cutS (catS (catS (catS (catS (strOfNums y251) (catS (⟨#[120]⟩ : ByteArray) (cutS a0 0 ((ji5) : Int).toNat))) (strOfNums y254)) (strOfNums y257)) (catS (⟨#[121]⟩ : ByteArray) (cutS a1 0 ((ji9) : Int).toNat))) 0 ((wrap64 (((catS (catS (catS (catS (strOfNums y251) (catS (⟨#[120]⟩ : ByteArray) (cutS a0 0 ((ji5) : Int).toNat))) (strOfNums y254)) (strOfNums y257)) (catS (⟨#[121]⟩ : ByteArray) (cutS a1 0 ((ji9) : Int).toNat))).size : Int) - 1)) : Int).toNat)) 400).bind fun bt267 => (if t262 = true then (if t261.toList = (catS x11_1 (catS (⟨#[121]⟩ : ByteArray) (cutS a1 0 ((ji9) : Int).toNat))).toList then (if t265 = true then (some false) else (if bt267.2 = true then (some false) else ((ammonitelaw4_SqueezeRuns.f k1).bind fun t269 => (some t269)))) else (some false)) else (some false))) else (none)) else (none)) else (none)) else (none))) = some r := H
                                        have A35 := Aside0.mk A350
                                        clear A350
                                        replace H := Option.bind_eq_some_iff.mp H
                                        obtain ⟨t266, A360, H⟩ := H
                                        replace H : (if t266.size + 1 ≤ 9223372036854775807 then (if 0 ≤ (wrap64 (((catS (catS (catS (catS (strOfNums y251) (catS (⟨#[120]⟩ : ByteArray) (cutS a0 0 ((ji5) : Int).toNat))) (strOfNums y254)) (strOfNums y257)) (catS (⟨#[121]⟩ : ByteArray) (cutS a1 0 ((ji9) : Int).toNat))).size : Int) - 1)) then (if (wrap64 (((catS (catS (catS (catS (strOfNums y251) (catS (⟨#[120]⟩ : ByteArray) (cutS a0 0 ((ji5) : Int).toNat))) (strOfNums y254)) (strOfNums y257)) (catS (⟨#[121]⟩ : ByteArray) (cutS a1 0 ((ji9) : Int).toNat))).size : Int) - 1)) ≤ ((catS (catS (catS (catS (strOfNums y251) (catS (⟨#[120]⟩ : ByteArray) (cutS a0 0 ((ji5) : Int).toNat))) (strOfNums y254)) (strOfNums y257)) (catS (⟨#[121]⟩ : ByteArray) (cutS a1 0 ((ji9) : Int).toNat))).size : Int) then (if (catS t266 (⟨#[59]⟩ : ByteArray)).size + (cutS (catS (catS (catS (catS (strOfNums y251) (catS (⟨#[120]⟩ : ByteArray) (cutS a0 0 ((ji5) : Int).toNat))) (strOfNums y254)) (strOfNums y257)) (catS (⟨#[121]⟩ : ByteArray) (cutS a1 0 ((ji9) : Int).toNat))) 0 ((wrap64 (((catS (catS (catS (catS (strOfNums y251) (catS (⟨#[120]⟩ : ByteArray) (cutS a0 0 ((ji5) : Int).toNat))) (strOfNums y254)) (strOfNums y257)) (catS (⟨#[121]⟩ : ByteArray) (cutS a1 0 ((ji9) : Int).toNat))).size : Int) - 1)) : Int).toNat).size ≤ 9223372036854775807 then ((squeeze_Expand.f k1 (catS (catS t266 (⟨#[59]⟩ : ByteArray)) (cutS (catS (catS (catS (catS (strOfNums y251) (catS (⟨#[120]⟩ : ByteArray) (cutS a0 0 ((ji5) : Int).toNat))) (strOfNums y254)) (strOfNums y257)) (catS (⟨#[121]⟩ : ByteArray) (cutS a1 0 ((ji9) : Int).toNat))) 0 ((wrap64 (((catS (catS (catS (catS (strOfNums y251) (catS (⟨#[120]⟩ : ByteArray) (cutS a0 0 ((ji5) : Int).toNat))) (strOfNums y254)) (strOfNums y257)) (catS (⟨#[121]⟩ : ByteArray) (cutS a1 0 ((ji9) : Int).toNat))).size : Int) - 1)) : Int).toNat)) 400).bind fun bt267 => (if t262 = true then (if t261.toList = (catS x11_1 (catS (⟨#[121]⟩ : ByteArray) (cutS a1 0 ((ji9) : Int).toNat))).toList then (if t265 = true then (some false) else (if bt267.2 = true then (some false) else ((ammonitelaw4_SqueezeRuns.f k1).bind fun t269 => (some t269)))) else (some false)) else (some false))) else (none)) else (none)) else (none)) else (none)) = some r := H
                                        have A36 := Aside0.mk A360
                                        clear A360
                                        by_cases c37 : t266.size + 1 ≤ 9223372036854775807
                                        · rw [if_pos c37] at H
                                          have c37b0 := eq_true c37
                                          have c37b1 : decide (t266.size + 1 ≤ 9223372036854775807) = true := decide_eq_true c37
                                          try have c37b2 : (9223372036854775807 < t266.size + 1) = False := eq_false (Nat.not_lt.2 c37)
                                          clear c37
                                          obtain ⟨ji38, hji38⟩ : ∃ j_ : Int, (wrap64 (((catS (catS (catS (catS (strOfNums y251) (catS (⟨#[120]⟩ : ByteArray) (cutS a0 0 ((ji5) : Int).toNat))) (strOfNums y254)) (strOfNums y257)) (catS (⟨#[121]⟩ : ByteArray) (cutS a1 0 ((ji9) : Int).toNat))).size : Int) - 1)) = j_ := ⟨_, rfl⟩
                                          replace H : (if 0 ≤ (ji38) then (if (ji38) ≤ ((catS (catS (catS (catS (strOfNums y251) (catS (⟨#[120]⟩ : ByteArray) (cutS a0 0 ((ji5) : Int).toNat))) (strOfNums y254)) (strOfNums y257)) (catS (⟨#[121]⟩ : ByteArray) (cutS a1 0 ((ji9) : Int).toNat))).size : Int) then (if (catS t266 (⟨#[59]⟩ : ByteArray)).size + (cutS (catS (catS (catS (catS (strOfNums y251) (catS (⟨#[120]⟩ : ByteArray) (cutS a0 0 ((ji5) : Int).toNat))) (strOfNums y254)) (strOfNums y257)) (catS (⟨#[121]⟩ : ByteArray) (cutS a1 0 ((ji9) : Int).toNat))) 0 ((ji38) : Int).toNat).size ≤ 9223372036854775807 then ((squeeze_Expand.f k1 (catS (catS t266 (⟨#[59]⟩ : ByteArray)) (cutS (catS (catS (catS (catS (strOfNums y251) (catS (⟨#[120]⟩ : ByteArray) (cutS a0 0 ((ji5) : Int).toNat))) (strOfNums y254)) (strOfNums y257)) (catS (⟨#[121]⟩ : ByteArray) (cutS a1 0 ((ji9) : Int).toNat))) 0 ((ji38) : Int).toNat)) 400).bind fun bt267 => (if t262 = true then (if t261.toList = (catS x11_1 (catS (⟨#[121]⟩ : ByteArray) (cutS a1 0 ((ji9) : Int).toNat))).toList then (if t265 = true then (some false) else (if bt267.2 = true then (some false) else ((ammonitelaw4_SqueezeRuns.f k1).bind fun t269 => (some t269)))) else (some false)) else (some false))) else (none)) else (none)) else (none)) = some r := by first | (rw [hji38] at H; exact H) | (simp only [hji38] at H ⊢; exact H)
                                          (try rw [hji38] at A27)
                                          (try rw [hji38] at A30)
                                          (try rw [hji38] at A31)
                                          (try rw [hji38] at A35)
                                          (try rw [hji38] at A36)
                                          have hji38w : (IntKind.i64.wrap (((catS (catS (catS (catS (strOfNums y251) (catS (⟨#[120]⟩ : ByteArray) (cutS a0 0 ((ji5) : Int).toNat))) (strOfNums y254)) (strOfNums y257)) (catS (⟨#[121]⟩ : ByteArray) (cutS a1 0 ((ji9) : Int).toNat))).size : Int) - 1)) = ji38 := (i64_w _).trans hji38
                                          by_cases c39 : 0 ≤ (ji38)
                                          · rw [if_pos c39] at H
                                            have c39b0 := eq_true c39
                                            have c39b1 : decide (0 ≤ (ji38)) = true := decide_eq_true c39
                                            clear c39
                                            by_cases c40 : (ji38) ≤ ((catS (catS (catS (catS (strOfNums y251) (catS (⟨#[120]⟩ : ByteArray) (cutS a0 0 ((ji5) : Int).toNat))) (strOfNums y254)) (strOfNums y257)) (catS (⟨#[121]⟩ : ByteArray) (cutS a1 0 ((ji9) : Int).toNat))).size : Int)
                                            · rw [if_pos c40] at H
                                              have c40b0 := eq_true c40
                                              have c40b1 : decide ((ji38) ≤ ((catS (catS (catS (catS (strOfNums y251) (catS (⟨#[120]⟩ : ByteArray) (cutS a0 0 ((ji5) : Int).toNat))) (strOfNums y254)) (strOfNums y257)) (catS (⟨#[121]⟩ : ByteArray) (cutS a1 0 ((ji9) : Int).toNat))).size : Int)) = true := decide_eq_true c40
                                              clear c40
                                              by_cases c41 : (catS t266 (⟨#[59]⟩ : ByteArray)).size + (cutS (catS (catS (catS (catS (strOfNums y251) (catS (⟨#[120]⟩ : ByteArray) (cutS a0 0 ((ji5) : Int).toNat))) (strOfNums y254)) (strOfNums y257)) (catS (⟨#[121]⟩ : ByteArray) (cutS a1 0 ((ji9) : Int).toNat))) 0 ((ji38) : Int).toNat).size ≤ 9223372036854775807
                                              · rw [if_pos c41] at H
                                                have c41b0 := eq_true c41
                                                have c41b1 : decide ((catS t266 (⟨#[59]⟩ : ByteArray)).size + (cutS (catS (catS (catS (catS (strOfNums y251) (catS (⟨#[120]⟩ : ByteArray) (cutS a0 0 ((ji5) : Int).toNat))) (strOfNums y254)) (strOfNums y257)) (catS (⟨#[121]⟩ : ByteArray) (cutS a1 0 ((ji9) : Int).toNat))) 0 ((ji38) : Int).toNat).size ≤ 9223372036854775807) = true := decide_eq_true c41
                                                try have c41b2 : (9223372036854775807 < (catS t266 (⟨#[59]⟩ : ByteArray)).size + (cutS (catS (catS (catS (catS (strOfNums y251) (catS (⟨#[120]⟩ : ByteArray) (cutS a0 0 ((ji5) : Int).toNat))) (strOfNums y254)) (strOfNums y257)) (catS (⟨#[121]⟩ : ByteArray) (cutS a1 0 ((ji9) : Int).toNat))) 0 ((ji38) : Int).toNat).size) = False := eq_false (Nat.not_lt.2 c41)
                                                clear c41
                                                replace H := Option.bind_eq_some_iff.mp H
                                                obtain ⟨⟨t267, t268⟩, A420, H⟩ := H
                                                replace H : (if t262 = true then (if t261.toList = (catS x11_1 (catS (⟨#[121]⟩ : ByteArray) (cutS a1 0 ((ji9) : Int).toNat))).toList then (if t265 = true then (some false) else (if t268 = true then (some false) else ((ammonitelaw4_SqueezeRuns.f k1).bind fun t269 => (some t269)))) else (some false)) else (some false)) = some r := H
                                                have A42 := Aside0.mk A420
                                                clear A420
                                                by_cases c43 : t262 = true
                                                · subst c43
                                                  have H1 : (if t261.toList = (catS x11_1 (catS (⟨#[121]⟩ : ByteArray) (cutS a1 0 ((ji9) : Int).toNat))).toList then (if t265 = true then (some false) else (if t268 = true then (some false) else ((ammonitelaw4_SqueezeRuns.f k1).bind fun t269 => (some t269)))) else (some false)) = some r := by rw [if_pos rfl] at H; exact H
                                                  clear H
                                                  have H := H1
                                                  clear H1
                                                  by_cases c44 : t261.toList = (catS x11_1 (catS (⟨#[121]⟩ : ByteArray) (cutS a1 0 ((ji9) : Int).toNat))).toList
                                                  · rw [if_pos c44] at H
                                                    have c44b0 : (t261.toList == (catS x11_1 (catS (⟨#[121]⟩ : ByteArray) (cutS a1 0 ((ji9) : Int).toNat))).toList) = true := beq_iff_eq.mpr c44
                                                    have c44b1 : (t261.toList != (catS x11_1 (catS (⟨#[121]⟩ : ByteArray) (cutS a1 0 ((ji9) : Int).toNat))).toList) = false := bne_eq_false_iff_eq.mpr c44
                                                    clear c44
                                                    by_cases c45 : t265 = true
                                                    · subst c45
                                                      have H1 : (some false) = some r := by rw [if_pos rfl] at H; exact H
                                                      clear H
                                                      have H := H1
                                                      clear H1
                                                      exact absurd ((Option.some.inj H).trans HRT.out) Bool.false_ne_true
                                                    · replace c45 := Bool.eq_false_iff.mpr c45
                                                      subst c45
                                                      have H1 : (if t268 = true then (some false) else ((ammonitelaw4_SqueezeRuns.f k1).bind fun t269 => (some t269))) = some r := by rw [if_neg (show ¬ (false = true) by decide)] at H; exact H
                                                      clear H
                                                      have H := H1
                                                      clear H1
                                                      by_cases c46 : t268 = true
                                                      · subst c46
                                                        have H1 : (some false) = some r := by rw [if_pos rfl] at H; exact H
                                                        clear H
                                                        have H := H1
                                                        clear H1
                                                        exact absurd ((Option.some.inj H).trans HRT.out) Bool.false_ne_true
                                                      · replace c46 := Bool.eq_false_iff.mpr c46
                                                        subst c46
                                                        have H1 : ((ammonitelaw4_SqueezeRuns.f k1).bind fun t269 => (some t269)) = some r := by rw [if_neg (show ¬ (false = true) by decide)] at H; exact H
                                                        clear H
                                                        have H := H1
                                                        clear H1
                                                        replace H := Option.bind_eq_some_iff.mp H
                                                        obtain ⟨t269, A470, H⟩ := H
                                                        replace H : (some t269) = some r := H
                                                        have A47 := Aside0.mk A470
                                                        clear A470
                                                        obtain rfl := Option.some.inj H
                                                        try go_wp2_with (first | ((with_reducible refine gate_dst (N := 62) rfl ?_); refine Kd.R_lit (Kd.int .u8) _ 5 ?hg (N := 62) ?hd (xs := ([(wrap64 (((catS (⟨#[120]⟩ : ByteArray) (cutS a0 0 ((ji5) : Int).toNat)).size : Int) - 1)) % 256] : List Int)) (inner := [.int .u8 ((wrap64 (((catS (⟨#[120]⟩ : ByteArray) (cutS a0 0 ((ji5) : Int).toNat)).size : Int) - 1)) % 256)]) (ok := fun _ => True) (okp := fun _ => True) ?hr ?hp (fun _ hk => hk) trivial (Below.refl _ _) (Nat.le_refl _) (by simp) ?_; (case hd => rfl); (case hg => rfl); (case hr => first | (go_simp; done) | (go_simp; rfl)); (case hp => exact (Reps.one (show Kd.M (Kd.int .u8) _ _ _ ((wrap64 (((catS (⟨#[120]⟩ : ByteArray) (cutS a0 0 ((ji5) : Int).toNat)).size : Int) - 1)) % 256) [.int .u8 ((wrap64 (((catS (⟨#[120]⟩ : ByteArray) (cutS a0 0 ((ji5) : Int).toNat)).size : Int) - 1)) % 256)] from rfl) (Reps.none _ _))); intro v252 w48 ho49 hb hg_ hnew_; clear hg_ hnew_; (first | rw [← Ny251.out] at ho49 | (simp only [Int.reduceToNat] at ho49; rw [← Ny251.out] at ho49)); have n0_ := Aside0.mk (Kd.R_lower ho49 (below_size (by repeat (first | (with_reducible first | exact HB.out | apply below_alloc | apply pw_below_drewN | apply below_drew1) | exact HB.out)))); have n1_ := Aside0.mk (below_step (by repeat (first | (with_reducible first | exact HB.out | apply below_alloc | apply pw_below_drewN | apply below_drew1) | exact HB.out)) hb); clear HB; have HO253 := n0_; have HB := n1_; clear n0_ n1_; clear hb ho49; have hcv50 := own_string (P := Try.prog) Try.underlying36 Try.underlying5 Try.underlying9 (Kd.own_of_R HO253.out)) | ((with_reducible refine gate_dst (N := 72) rfl ?_); refine Kd.R_lit (Kd.int .u8) _ 5 ?hg (N := 72) ?hd (xs := ([(wrap64 ((wrap64 (128 + t249)) - 3)) % 256, 0, (t250) % 256] : List Int)) (inner := [.int .u8 ((wrap64 ((wrap64 (128 + t249)) - 3)) % 256), .int .u8 0, .int .u8 ((t250) % 256)]) (ok := fun _ => True) (okp := fun _ => True) ?hr ?hp (fun _ hk => hk) trivial (Below.refl _ _) (Nat.le_refl _) (by simp) ?_; (case hd => rfl); (case hg => rfl); (case hr => first | (go_simp; done) | (go_simp; rfl)); (case hp => exact (Reps.one (show Kd.M (Kd.int .u8) _ _ _ ((wrap64 ((wrap64 (128 + t249)) - 3)) % 256) [.int .u8 ((wrap64 ((wrap64 (128 + t249)) - 3)) % 256)] from rfl) (Reps.one (show Kd.M (Kd.int .u8) _ _ _ 0 [.int .u8 0] from rfl) (Reps.one (show Kd.M (Kd.int .u8) _ _ _ ((t250) % 256) [.int .u8 ((t250) % 256)] from rfl) (Reps.none _ _))))); intro v255 w51 ho52 hb hg_ hnew_; clear hg_ hnew_; (first | rw [← Ny254.out] at ho52 | (simp only [Int.reduceToNat] at ho52; rw [← Ny254.out] at ho52)); have n0_ := Aside0.mk (Kd.R_elder' (by (with_reducible repeat (first | apply Kd.R_alloc | apply Kd.R_drewN | apply Kd.R_drew)); exact HO253.out) (Kd.R_base ho52) hb); have n1_ := Aside0.mk (Kd.R_lower (Kd.R_new' ho52 (Kd.R_lt (by (with_reducible repeat (first | apply Kd.R_alloc | apply Kd.R_drewN | apply Kd.R_drew)); exact HO253.out))) (below_size (by repeat (first | (with_reducible first | exact HB.out | apply below_alloc | apply pw_below_drewN | apply below_drew1) | exact HB.out)))); have n2_ := Aside0.mk (below_step (by repeat (first | (with_reducible first | exact HB.out | apply below_alloc | apply pw_below_drewN | apply below_drew1) | exact HB.out)) hb); clear HO253; clear HB; have HO253 := n0_; have HO256 := n1_; have HB := n2_; clear n0_ n1_ n2_; clear hb ho52; have hcv53 := own_string (P := Try.prog) Try.underlying36 Try.underlying5 Try.underlying9 (Kd.own_of_R HO256.out)) | ((with_reducible refine gate_dst (N := 79) rfl ?_); refine Kd.R_lit (Kd.int .u8) _ 5 ?hg (N := 79) ?hd (xs := ([(wrap64 (((catS (⟨#[121]⟩ : ByteArray) (cutS a1 0 ((ji9) : Int).toNat)).size : Int) - 1)) % 256] : List Int)) (inner := [.int .u8 ((wrap64 (((catS (⟨#[121]⟩ : ByteArray) (cutS a1 0 ((ji9) : Int).toNat)).size : Int) - 1)) % 256)]) (ok := fun _ => True) (okp := fun _ => True) ?hr ?hp (fun _ hk => hk) trivial (Below.refl _ _) (Nat.le_refl _) (by simp) ?_; (case hd => rfl); (case hg => rfl); (case hr => first | (go_simp; done) | (go_simp; rfl)); (case hp => exact (Reps.one (show Kd.M (Kd.int .u8) _ _ _ ((wrap64 (((catS (⟨#[121]⟩ : ByteArray) (cutS a1 0 ((ji9) : Int).toNat)).size : Int) - 1)) % 256) [.int .u8 ((wrap64 (((catS (⟨#[121]⟩ : ByteArray) (cutS a1 0 ((ji9) : Int).toNat)).size : Int) - 1)) % 256)] from rfl) (Reps.none _ _))); intro v258 w54 ho55 hb hg_ hnew_; clear hg_ hnew_; (first | rw [← Ny257.out] at ho55 | (simp only [Int.reduceToNat] at ho55; rw [← Ny257.out] at ho55)); have n0_ := Aside0.mk (Kd.R_elder' (by (with_reducible repeat (first | apply Kd.R_alloc | apply Kd.R_drewN | apply Kd.R_drew)); exact HO253.out) (Kd.R_base ho55) hb); have n1_ := Aside0.mk (Kd.R_elder' (by (with_reducible repeat (first | apply Kd.R_alloc | apply Kd.R_drewN | apply Kd.R_drew)); exact HO256.out) (Kd.R_base ho55) hb); have n2_ := Aside0.mk (Kd.R_lower (Kd.R_new' (Kd.R_new' ho55 (Kd.R_lt (by (with_reducible repeat (first | apply Kd.R_alloc | apply Kd.R_drewN | apply Kd.R_drew)); exact HO253.out))) (Kd.R_lt (by (with_reducible repeat (first | apply Kd.R_alloc | apply Kd.R_drewN | apply Kd.R_drew)); exact HO256.out))) (below_size (by repeat (first | (with_reducible first | exact HB.out | apply below_alloc | apply pw_below_drewN | apply below_drew1) | exact HB.out)))); have n3_ := Aside0.mk (below_step (by repeat (first | (with_reducible first | exact HB.out | apply below_alloc | apply pw_below_drewN | apply below_drew1) | exact HB.out)) hb); clear HO253; clear HO256; clear HB; have HO253 := n0_; have HO256 := n1_; have HO259 := n2_; have HB := n3_; clear n0_ n1_ n2_ n3_; clear hb ho55; have hcv56 := own_string (P := Try.prog) Try.underlying36 Try.underlying5 Try.underlying9 (Kd.own_of_R HO259.out)) | ((with_reducible refine gate_callee (f := 16) rfl ?_); refine goesL_ (some 87) rfl rfl Try.func16 (by kernel_rfl) rfl #[.int .i64 ((catS x11_1 (catS (⟨#[121]⟩ : ByteArray) (cutS a1 0 ((ji9) : Int).toNat))).size : Int)] rfl (by (try simp only [List.map_toArray, List.map_cons, List.map_nil]); first | done | (simp only [hji9]; rfl) | rfl | (simp only [List.length_drop, List.length_take]; rfl)) ?_; (with_reducible refine (digit_Dec.calls k1 ((catS x11_1 (catS (⟨#[121]⟩ : ByteArray) (cutS a1 0 ((ji9) : Int).toNat))).size : Int) t260 _ A27.out).mono ?_); rintro e w57 ⟨rfl, hb⟩; refine ⟨_, rfl, ?_⟩; have n0_ := Aside0.mk (Kd.R_below (by (with_reducible repeat (first | apply Kd.R_alloc | apply Kd.R_drewN | apply Kd.R_drew)); exact HO253.out) hb); have n1_ := Aside0.mk (Kd.R_below (by (with_reducible repeat (first | apply Kd.R_alloc | apply Kd.R_drewN | apply Kd.R_drew)); exact HO256.out) hb); have n2_ := Aside0.mk (Kd.R_below (by (with_reducible repeat (first | apply Kd.R_alloc | apply Kd.R_drewN | apply Kd.R_drew)); exact HO259.out) hb); have n3_ := Aside0.mk (below_step (by repeat (first | (with_reducible first | exact HB.out | apply below_alloc | apply pw_below_drewN | apply below_drew1) | exact HB.out)) hb); clear HO253; clear HO256; clear HO259; clear HB; have HO253 := n0_; have HO256 := n1_; have HO259 := n2_; have HB := n3_; clear n0_ n1_ n2_ n3_; (try clear hb); (try clear hb2); (try clear hk); (try clear hi)) | ((with_reducible refine gate_callee (f := 22) rfl ?_); refine goesL_ (some 91) rfl rfl Try.func22 (by kernel_rfl) rfl #[.string (catS (catS t260 (⟨#[59]⟩ : ByteArray)) (catS (catS (catS (catS (strOfNums y251) (catS (⟨#[120]⟩ : ByteArray) (cutS a0 0 ((ji5) : Int).toNat))) (strOfNums y254)) (strOfNums y257)) (catS (⟨#[121]⟩ : ByteArray) (cutS a1 0 ((ji9) : Int).toNat)))), .int .i64 400] rfl (by (try simp only [List.map_toArray, List.map_cons, List.map_nil]); first | done | (simp only [hji5, hji9]; rfl) | rfl | (simp only [List.length_drop, List.length_take]; rfl)) ?_; (with_reducible refine (squeeze_Expand.calls k1 (catS (catS t260 (⟨#[59]⟩ : ByteArray)) (catS (catS (catS (catS (strOfNums y251) (catS (⟨#[120]⟩ : ByteArray) (cutS a0 0 ((ji5) : Int).toNat))) (strOfNums y254)) (strOfNums y257)) (catS (⟨#[121]⟩ : ByteArray) (cutS a1 0 ((ji9) : Int).toNat)))) 400 t261 true _ A30.out).mono ?_); rintro e w58 ⟨rfl, hb⟩; refine ⟨_, rfl, ?_⟩; have n0_ := Aside0.mk (Kd.R_below (by (with_reducible repeat (first | apply Kd.R_alloc | apply Kd.R_drewN | apply Kd.R_drew)); exact HO253.out) hb); have n1_ := Aside0.mk (Kd.R_below (by (with_reducible repeat (first | apply Kd.R_alloc | apply Kd.R_drewN | apply Kd.R_drew)); exact HO256.out) hb); have n2_ := Aside0.mk (Kd.R_below (by (with_reducible repeat (first | apply Kd.R_alloc | apply Kd.R_drewN | apply Kd.R_drew)); exact HO259.out) hb); have n3_ := Aside0.mk (below_step (by repeat (first | (with_reducible first | exact HB.out | apply below_alloc | apply pw_below_drewN | apply below_drew1) | exact HB.out)) hb); clear HO253; clear HO256; clear HO259; clear HB; have HO253 := n0_; have HO256 := n1_; have HO259 := n2_; have HB := n3_; clear n0_ n1_ n2_ n3_; (try clear hb); (try clear hb2); (try clear hk); (try clear hi)) | ((with_reducible refine gate_callee (f := 16) rfl ?_); refine goesL_ (some 97) rfl rfl Try.func16 (by kernel_rfl) rfl #[.int .i64 ((catS x11_1 (catS (⟨#[121]⟩ : ByteArray) (cutS a1 0 ((ji9) : Int).toNat))).size : Int)] rfl (by (try simp only [List.map_toArray, List.map_cons, List.map_nil]); first | done | (simp only [hji9]; rfl) | rfl | (simp only [List.length_drop, List.length_take]; rfl)) ?_; (with_reducible refine (digit_Dec.calls k1 ((catS x11_1 (catS (⟨#[121]⟩ : ByteArray) (cutS a1 0 ((ji9) : Int).toNat))).size : Int) t263 _ A31.out).mono ?_); rintro e w59 ⟨rfl, hb⟩; refine ⟨_, rfl, ?_⟩; have n0_ := Aside0.mk (Kd.R_below (by (with_reducible repeat (first | apply Kd.R_alloc | apply Kd.R_drewN | apply Kd.R_drew)); exact HO253.out) hb); have n1_ := Aside0.mk (Kd.R_below (by (with_reducible repeat (first | apply Kd.R_alloc | apply Kd.R_drewN | apply Kd.R_drew)); exact HO256.out) hb); have n2_ := Aside0.mk (Kd.R_below (by (with_reducible repeat (first | apply Kd.R_alloc | apply Kd.R_drewN | apply Kd.R_drew)); exact HO259.out) hb); have n3_ := Aside0.mk (below_step (by repeat (first | (with_reducible first | exact HB.out | apply below_alloc | apply pw_below_drewN | apply below_drew1) | exact HB.out)) hb); clear HO253; clear HO256; clear HO259; clear HB; have HO253 := n0_; have HO256 := n1_; have HO259 := n2_; have HB := n3_; clear n0_ n1_ n2_ n3_; (try clear hb); (try clear hb2); (try clear hk); (try clear hi)) | ((with_reducible refine gate_callee (f := 22) rfl ?_); refine goesL_ (some 102) rfl rfl Try.func22 (by kernel_rfl) rfl #[.string (catS (catS (catS t263 (⟨#[59]⟩ : ByteArray)) (catS (catS (catS (catS (strOfNums y251) (catS (⟨#[120]⟩ : ByteArray) (cutS a0 0 ((ji5) : Int).toNat))) (strOfNums y254)) (strOfNums y257)) (catS (⟨#[121]⟩ : ByteArray) (cutS a1 0 ((ji9) : Int).toNat)))) (⟨#[0, 122]⟩ : ByteArray)), .int .i64 400] rfl (by (try simp only [List.map_toArray, List.map_cons, List.map_nil]); first | done | (simp only [hji5, hji9]; rfl) | rfl | (simp only [List.length_drop, List.length_take]; rfl)) ?_; (with_reducible refine (squeeze_Expand.calls k1 (catS (catS (catS t263 (⟨#[59]⟩ : ByteArray)) (catS (catS (catS (catS (strOfNums y251) (catS (⟨#[120]⟩ : ByteArray) (cutS a0 0 ((ji5) : Int).toNat))) (strOfNums y254)) (strOfNums y257)) (catS (⟨#[121]⟩ : ByteArray) (cutS a1 0 ((ji9) : Int).toNat)))) (⟨#[0, 122]⟩ : ByteArray)) 400 t264 false _ A35.out).mono ?_); rintro e w60 ⟨rfl, hb⟩; refine ⟨_, rfl, ?_⟩; have n0_ := Aside0.mk (Kd.R_below (by (with_reducible repeat (first | apply Kd.R_alloc | apply Kd.R_drewN | apply Kd.R_drew)); exact HO253.out) hb); have n1_ := Aside0.mk (Kd.R_below (by (with_reducible repeat (first | apply Kd.R_alloc | apply Kd.R_drewN | apply Kd.R_drew)); exact HO256.out) hb); have n2_ := Aside0.mk (Kd.R_below (by (with_reducible repeat (first | apply Kd.R_alloc | apply Kd.R_drewN | apply Kd.R_drew)); exact HO259.out) hb); have n3_ := Aside0.mk (below_step (by repeat (first | (with_reducible first | exact HB.out | apply below_alloc | apply pw_below_drewN | apply below_drew1) | exact HB.out)) hb); clear HO253; clear HO256; clear HO259; clear HB; have HO253 := n0_; have HO256 := n1_; have HO259 := n2_; have HB := n3_; clear n0_ n1_ n2_ n3_; (try clear hb); (try clear hb2); (try clear hk); (try clear hi)))
                                                        have n0_ := Aside0.mk (Kd.R_drew HO253.out)
                                                        have n1_ := Aside0.mk (Kd.R_drew HO256.out)
                                                        have n2_ := Aside0.mk (Kd.R_drew HO259.out)
                                                        have n3_ := Aside0.mk (below_drew1 HB.out)
                                                        clear HO253
                                                        clear HO256
                                                        clear HO259
                                                        clear HB
                                                        have HO253 := n0_
                                                        have HO256 := n1_
                                                        have HO259 := n2_
                                                        have HB := n3_
                                                        clear n0_ n1_ n2_ n3_
                                                        refine start_ (n := 16) (S := fun w' => True) (ds := []) #[false, false, false, false, false, false, false, false, false, false, false, false, false, false, false, false] (by kernel_rfl) rfl rfl trivial (fun hHeld => ?_); refine with_tabW ammonitelaw4_SqueezePieces.tab12 ammonitelaw4_SqueezePieces.bits12 (fun HT_ HW_ => ?_)
                                                        generalize w60.drew = w61 at HO253 HO256 HO259 HB hHeld ⊢
                                                        refine pure_ (i := 0) (N := some 106) (v := ?_) (a' := ?_) #[true, false, false, false, false, false, false, false, false, false, false, false, false, false, false, false] rfl rfl (any_of HT_.out (by kernel_rfl)) (fun _ _ _ h => h) (Or.inl ⟨by rfl, ?_⟩) ?_ ?_
                                                        rotate_left
                                                        · intro w'
                                                          go_simp
                                                          with_reducible rfl
                                                        rotate_left
                                                        · simp only [Act.put, List.setIfInBounds_toArray, List.set_cons_zero, List.set_cons_succ, i64_w, i32_w]
                                                          rfl
                                                        refine pure_ (i := 1) (N := some 107) (v := ?_) (a' := ?_) #[true, true, false, false, false, false, false, false, false, false, false, false, false, false, false, false] rfl rfl (any_of HT_.out (by kernel_rfl)) (fun _ _ _ h => h) (Or.inl ⟨by rfl, ?_⟩) ?_ ?_
                                                        rotate_left
                                                        · intro w'
                                                          go_simp
                                                          with_reducible rfl
                                                        rotate_left
                                                        · simp only [Act.put, List.setIfInBounds_toArray, List.set_cons_zero, List.set_cons_succ, i64_w, i32_w]
                                                          rfl
                                                        refine pure_ (i := 4) (N := some 110) (v := ?_) (a' := ?_) #[true, true, false, false, true, false, false, false, false, false, false, false, false, false, false, false] rfl rfl (any_of HT_.out (by kernel_rfl)) (fun _ _ _ h => h) (Or.inl ⟨by rfl, ?_⟩) ?_ ?_
                                                        rotate_left
                                                        · intro w'
                                                          go_simp
                                                          with_reducible rfl
                                                        rotate_left
                                                        · simp only [Act.put, List.setIfInBounds_toArray, List.set_cons_zero, List.set_cons_succ, i64_w, i32_w]
                                                          rfl
                                                        refine pure_ (i := 5) (N := some 111) (v := ?_) (a' := ?_) #[true, true, false, false, true, true, false, false, false, false, false, false, false, false, false, false] rfl rfl (any_of HT_.out (by kernel_rfl)) (fun _ _ _ h => h) (Or.inl ⟨by rfl, ?_⟩) ?_ ?_
                                                        rotate_left
                                                        · intro w'
                                                          go_simp
                                                          with_reducible rfl
                                                        rotate_left
                                                        · simp only [Act.put, List.setIfInBounds_toArray, List.set_cons_zero, List.set_cons_succ, i64_w, i32_w]
                                                          rfl
                                                        refine pure_ (i := 6) (N := some 112) (v := ?_) (a' := ?_) #[true, true, false, false, true, true, true, false, false, false, false, false, false, false, false, false] rfl rfl (any_of HT_.out (by kernel_rfl)) (fun _ _ _ h => h) (Or.inl ⟨by rfl, ?_⟩) ?_ ?_
                                                        rotate_left
                                                        · intro w'
                                                          go_simp
                                                          with_reducible rfl
                                                        rotate_left
                                                        · simp only [Act.put, List.setIfInBounds_toArray, List.set_cons_zero, List.set_cons_succ, i64_w, i32_w]
                                                          rfl
                                                        refine pure_ (i := 7) (N := some 113) (v := ?_) (a' := ?_) #[true, true, false, false, true, true, true, true, false, false, false, false, false, false, false, false] rfl rfl (any_of HT_.out (by kernel_rfl)) (fun _ _ _ h => h) (Or.inl ⟨by rfl, ?_⟩) ?_ ?_
                                                        rotate_left
                                                        · intro w'
                                                          go_simp
                                                          with_reducible rfl
                                                        rotate_left
                                                        · simp only [Act.put, List.setIfInBounds_toArray, List.set_cons_zero, List.set_cons_succ, i64_w, i32_w]
                                                          rfl
                                                        refine pure_ (i := 8) (N := some 114) (v := ?_) (a' := ?_) #[true, true, false, false, true, true, true, true, true, false, false, false, false, false, false, false] rfl rfl (any_of HT_.out (by kernel_rfl)) (fun _ _ _ h => h) (Or.inl ⟨by rfl, ?_⟩) ?_ ?_
                                                        rotate_left
                                                        · intro w'
                                                          go_simp
                                                          with_reducible rfl
                                                        rotate_left
                                                        · simp only [Act.put, List.setIfInBounds_toArray, List.set_cons_zero, List.set_cons_succ, i64_w, i32_w]
                                                          rfl
                                                        refine one_ (i := 2) (N := some 108) #[true, true, true, false, true, true, true, true, true, false, false, false, false, false, false, false] rfl rfl (one_of HT_.out (by kernel_rfl)) (by decide) (fun K hK => ?_)
                                                        refine goes_ Try.func16 (by kernel_rfl) rfl #[.int .i64 ((catS x11_1 (catS (⟨#[121]⟩ : ByteArray) (cutS a1 0 ((ji9) : Int).toNat))).size : Int)] (by rfl) rfl rfl (by (try simp only [List.map_toArray, List.map_cons, List.map_nil]); first | done | (simp only [hji9]; rfl) | rfl | (simp only [List.length_drop, List.length_take]; rfl)) ?_
                                                        with_reducible refine (digit_Dec.calls k1 ((catS x11_1 (catS (⟨#[121]⟩ : ByteArray) (cutS a1 0 ((ji9) : Int).toNat))).size : Int) t266 _ A36.out).mono ?_
                                                        rintro e w62 ⟨rfl, hb⟩
                                                        refine ⟨_, rfl, ?_⟩
                                                        have n0_ := Aside0.mk (Kd.R_below (by (with_reducible repeat (first | apply Kd.R_alloc | apply Kd.R_drewN | apply Kd.R_drew)); exact HO253.out) hb)
                                                        have n1_ := Aside0.mk (Kd.R_below (by (with_reducible repeat (first | apply Kd.R_alloc | apply Kd.R_drewN | apply Kd.R_drew)); exact HO256.out) hb)
                                                        have n2_ := Aside0.mk (Kd.R_below (by (with_reducible repeat (first | apply Kd.R_alloc | apply Kd.R_drewN | apply Kd.R_drew)); exact HO259.out) hb)
                                                        have n3_ := Aside0.mk (below_step (by repeat (first | (with_reducible first | exact HB.out | apply below_alloc | apply pw_below_drewN | apply below_drew1) | exact HB.out)) hb)
                                                        clear HO253
                                                        clear HO256
                                                        clear HO259
                                                        clear HB
                                                        have HO253 := n0_
                                                        have HO256 := n1_
                                                        have HO259 := n2_
                                                        have HB := n3_
                                                        clear n0_ n1_ n2_ n3_
                                                        (try clear hb)
                                                        (try clear hb2)
                                                        (try clear hk)
                                                        (try clear hi)
                                                        refine hK.out _ _ trivial (fun hHeld => ?_)
                                                        clear hK K
                                                        refine norm_ (a' := ?_) ?_ ?_
                                                        rotate_left
                                                        · show Act.put _ (some 108) _ = _
                                                          simp only [Act.put, List.setIfInBounds_toArray, List.set_cons_zero, List.set_cons_succ, i64_w, i32_w]
                                                          rfl
                                                        refine pure_ (i := 3) (N := some 109) (v := ?_) (a' := ?_) #[true, true, true, true, true, true, true, true, true, false, false, false, false, false, false, false] rfl rfl (any_of HT_.out (by kernel_rfl)) (fun _ _ _ h => h) (Or.inl ⟨by rfl, ?_⟩) ?_ ?_
                                                        rotate_left
                                                        · intro w'
                                                          go_simp
                                                          with_reducible rfl
                                                        rotate_left
                                                        · simp only [Act.put, List.setIfInBounds_toArray, List.set_cons_zero, List.set_cons_succ, i64_w, i32_w]
                                                          rfl
                                                        refine pure_ (i := 9) (N := some 115) (v := ?_) (a' := ?_) #[true, true, true, true, true, true, true, true, true, true, false, false, false, false, false, false] rfl rfl (any_of HT_.out (by kernel_rfl)) (fun _ _ _ h => h) (Or.inl ⟨by rfl, ?_⟩) ?_ ?_
                                                        rotate_left
                                                        · intro w'
                                                          go_simp
                                                          with_reducible rfl
                                                        rotate_left
                                                        · simp only [Act.put, List.setIfInBounds_toArray, List.set_cons_zero, List.set_cons_succ, i64_w, i32_w]
                                                          rfl
                                                        refine one_ (i := 10) (N := some 116) #[true, true, true, true, true, true, true, true, true, true, true, false, false, false, false, false] rfl rfl (one_of HT_.out (by kernel_rfl)) (by decide) (fun K hK => ?_)
                                                        refine goes_ Try.func22 (by kernel_rfl) rfl #[.string (catS (catS t266 (⟨#[59]⟩ : ByteArray)) (cutS (catS (catS (catS (catS (strOfNums y251) (catS (⟨#[120]⟩ : ByteArray) (cutS a0 0 ((ji5) : Int).toNat))) (strOfNums y254)) (strOfNums y257)) (catS (⟨#[121]⟩ : ByteArray) (cutS a1 0 ((ji9) : Int).toNat))) 0 ((ji38) : Int).toNat)), .int .i64 400] (by rfl) rfl rfl (by (try simp only [List.map_toArray, List.map_cons, List.map_nil]); first | done | (simp only [hji38, hji5, hji9]; rfl) | rfl | (simp only [List.length_drop, List.length_take]; rfl)) ?_
                                                        with_reducible refine (squeeze_Expand.calls k1 (catS (catS t266 (⟨#[59]⟩ : ByteArray)) (cutS (catS (catS (catS (catS (strOfNums y251) (catS (⟨#[120]⟩ : ByteArray) (cutS a0 0 ((ji5) : Int).toNat))) (strOfNums y254)) (strOfNums y257)) (catS (⟨#[121]⟩ : ByteArray) (cutS a1 0 ((ji9) : Int).toNat))) 0 ((ji38) : Int).toNat)) 400 t267 false _ A42.out).mono ?_
                                                        rintro e w63 ⟨rfl, hb⟩
                                                        refine ⟨_, rfl, ?_⟩
                                                        have n0_ := Aside0.mk (Kd.R_below (by (with_reducible repeat (first | apply Kd.R_alloc | apply Kd.R_drewN | apply Kd.R_drew)); exact HO253.out) hb)
                                                        have n1_ := Aside0.mk (Kd.R_below (by (with_reducible repeat (first | apply Kd.R_alloc | apply Kd.R_drewN | apply Kd.R_drew)); exact HO256.out) hb)
                                                        have n2_ := Aside0.mk (Kd.R_below (by (with_reducible repeat (first | apply Kd.R_alloc | apply Kd.R_drewN | apply Kd.R_drew)); exact HO259.out) hb)
                                                        have n3_ := Aside0.mk (below_step (by repeat (first | (with_reducible first | exact HB.out | apply below_alloc | apply pw_below_drewN | apply below_drew1) | exact HB.out)) hb)
                                                        clear HO253
                                                        clear HO256
                                                        clear HO259
                                                        clear HB
                                                        have HO253 := n0_
                                                        have HO256 := n1_
                                                        have HO259 := n2_
                                                        have HB := n3_
                                                        clear n0_ n1_ n2_ n3_
                                                        (try clear hb)
                                                        (try clear hb2)
                                                        (try clear hk)
                                                        (try clear hi)
                                                        refine hK.out _ _ trivial (fun hHeld => ?_)
                                                        clear hK K
                                                        refine norm_ (a' := ?_) ?_ ?_
                                                        rotate_left
                                                        · show Act.put _ (some 116) _ = _
                                                          simp only [Act.put, List.setIfInBounds_toArray, List.set_cons_zero, List.set_cons_succ, i64_w, i32_w]
                                                          rfl
                                                        refine pure_ (i := 11) (N := some 105) (v := ?_) (a' := ?_) #[true, true, true, true, true, true, true, true, true, true, true, true, false, false, false, false] rfl rfl (any_of HT_.out (by kernel_rfl)) (fun _ _ _ h => h) (Or.inl ⟨by rfl, ?_⟩) ?_ ?_
                                                        rotate_left
                                                        · intro w'
                                                          go_simp
                                                          with_reducible rfl
                                                        rotate_left
                                                        · simp only [Act.put, List.setIfInBounds_toArray, List.set_cons_zero, List.set_cons_succ, i64_w, i32_w]
                                                          rfl
                                                        refine pure_ (i := 12) (N := some 117) (v := ?_) (a' := ?_) #[true, true, true, true, true, true, true, true, true, true, true, true, true, false, false, false] rfl rfl (any_of HT_.out (by kernel_rfl)) (fun _ _ _ h => h) (Or.inl ⟨by rfl, ?_⟩) ?_ ?_
                                                        rotate_left
                                                        · intro w'
                                                          go_simp
                                                          with_reducible rfl
                                                        rotate_left
                                                        · simp only [Act.put, List.setIfInBounds_toArray, List.set_cons_zero, List.set_cons_succ, i64_w, i32_w]
                                                          rfl
                                                        refine pure_ (i := 13) (N := some 118) (v := ?_) (a' := ?_) #[true, true, true, true, true, true, true, true, true, true, true, true, true, true, false, false] rfl rfl (any_of HT_.out (by kernel_rfl)) (fun _ _ _ h => h) (Or.inl ⟨by rfl, ?_⟩) ?_ ?_
                                                        rotate_left
                                                        · intro w'
                                                          go_simp
                                                          with_reducible rfl
                                                        rotate_left
                                                        · simp only [Act.put, List.setIfInBounds_toArray, List.set_cons_zero, List.set_cons_succ, i64_w, i32_w]
                                                          rfl
                                                        refine pure_ (i := 14) (N := some 17) (v := ?_) (a' := ?_) #[true, true, true, true, true, true, true, true, true, true, true, true, true, true, true, false] rfl rfl (any_of HT_.out (by kernel_rfl)) (fun _ _ _ h => h) (Or.inl ⟨by rfl, ?_⟩) ?_ ?_
                                                        rotate_left
                                                        · intro w'
                                                          go_simp
                                                          with_reducible rfl
                                                        rotate_left
                                                        · simp only [Act.put, List.setIfInBounds_toArray, List.set_cons_zero, List.set_cons_succ, i64_w, i32_w]
                                                          rfl
                                                        refine pure_ (i := 15) (N := some 18) (v := ?_) (a' := ?_) #[true, true, true, true, true, true, true, true, true, true, true, true, true, true, true, true] rfl rfl (any_of HT_.out (by kernel_rfl)) (fun _ _ _ h => h) (Or.inl ⟨by rfl, ?_⟩) ?_ ?_
                                                        rotate_left
                                                        · intro w'
                                                          go_simp
                                                          with_reducible rfl
                                                        rotate_left
                                                        · simp only [Act.put, List.setIfInBounds_toArray, List.set_cons_zero, List.set_cons_succ, i64_w, i32_w]
                                                          rfl
                                                        refine done_ (done_of HT_.out (by kernel_rfl)) ?_
                                                        try go_wp2_with (first | (go_at_call 8; (with_reducible refine (ammonitelaw4_SqueezeRuns.calls k1  t269 _ A47.out).mono ?_); rintro e w64 ⟨rfl, hb⟩; have n0_ := Aside0.mk (Kd.R_below (by (with_reducible repeat (first | apply Kd.R_alloc | apply Kd.R_drewN | apply Kd.R_drew)); exact HO253.out) hb); have n1_ := Aside0.mk (Kd.R_below (by (with_reducible repeat (first | apply Kd.R_alloc | apply Kd.R_drewN | apply Kd.R_drew)); exact HO256.out) hb); have n2_ := Aside0.mk (Kd.R_below (by (with_reducible repeat (first | apply Kd.R_alloc | apply Kd.R_drewN | apply Kd.R_drew)); exact HO259.out) hb); have n3_ := Aside0.mk (below_step (by repeat (first | (with_reducible first | exact HB.out | apply below_alloc | apply pw_below_drewN | apply below_drew1) | exact HB.out)) hb); clear HO253; clear HO256; clear HO259; clear HB; have HO253 := n0_; have HO256 := n1_; have HO259 := n2_; have HB := n3_; clear n0_ n1_ n2_ n3_; (try clear hb); (try clear hb2); (try clear hk); (try clear hi)))
                                                        go_ret
                                                        exact ⟨by first | rfl | (simp [errW_none, errW_some] <;> rfl) | (simp only [← hji5, ← hji9, ← hji38]; first | rfl | (simp [errW_none, errW_some] <;> rfl)) | (simp [*, errW_none, errW_some] <;> rfl), by repeat (first | (with_reducible first | exact HB.out | apply below_alloc | apply pw_below_drewN | apply below_drew1) | exact HB.out)⟩
                                                        all_goals (exfalso; (try simp only [beq_iff_eq, bne_iff_ne, ne_eq, decide_eq_true_eq, decide_eq_false_iff_not, decide_eq_decide, bne_eq_false_iff_eq, beq_eq_false_iff_ne, Bool.not_eq_true, Bool.not_eq_false, Bool.not_eq_true', Bool.not_eq_false', Bool.true_beq, Bool.false_beq, Bool.true_bne, Bool.false_bne, Bool.bne_true, Bool.bne_false] at c6b0); (try simp only [beq_iff_eq, bne_iff_ne, ne_eq, decide_eq_true_eq, decide_eq_false_iff_not, decide_eq_decide, bne_eq_false_iff_eq, beq_eq_false_iff_ne, Bool.not_eq_true, Bool.not_eq_false, Bool.not_eq_true', Bool.not_eq_false', Bool.true_beq, Bool.false_beq, Bool.true_bne, Bool.false_bne, Bool.bne_true, Bool.bne_false] at c6b1); (try simp only [beq_iff_eq, bne_iff_ne, ne_eq, decide_eq_true_eq, decide_eq_false_iff_not, decide_eq_decide, bne_eq_false_iff_eq, beq_eq_false_iff_ne, Bool.not_eq_true, Bool.not_eq_false, Bool.not_eq_true', Bool.not_eq_false', Bool.true_beq, Bool.false_beq, Bool.true_bne, Bool.false_bne, Bool.bne_true, Bool.bne_false] at c7b0); (try simp only [beq_iff_eq, bne_iff_ne, ne_eq, decide_eq_true_eq, decide_eq_false_iff_not, decide_eq_decide, bne_eq_false_iff_eq, beq_eq_false_iff_ne, Bool.not_eq_true, Bool.not_eq_false, Bool.not_eq_true', Bool.not_eq_false', Bool.true_beq, Bool.false_beq, Bool.true_bne, Bool.false_bne, Bool.bne_true, Bool.bne_false] at c7b1); (try simp only [beq_iff_eq, bne_iff_ne, ne_eq, decide_eq_true_eq, decide_eq_false_iff_not, decide_eq_decide, bne_eq_false_iff_eq, beq_eq_false_iff_ne, Bool.not_eq_true, Bool.not_eq_false, Bool.not_eq_true', Bool.not_eq_false', Bool.true_beq, Bool.false_beq, Bool.true_bne, Bool.false_bne, Bool.bne_true, Bool.bne_false] at c8b0); (try simp only [beq_iff_eq, bne_iff_ne, ne_eq, decide_eq_true_eq, decide_eq_false_iff_not, decide_eq_decide, bne_eq_false_iff_eq, beq_eq_false_iff_ne, Bool.not_eq_true, Bool.not_eq_false, Bool.not_eq_true', Bool.not_eq_false', Bool.true_beq, Bool.false_beq, Bool.true_bne, Bool.false_bne, Bool.bne_true, Bool.bne_false] at c8b1); (try simp only [beq_iff_eq, bne_iff_ne, ne_eq, decide_eq_true_eq, decide_eq_false_iff_not, decide_eq_decide, bne_eq_false_iff_eq, beq_eq_false_iff_ne, Bool.not_eq_true, Bool.not_eq_false, Bool.not_eq_true', Bool.not_eq_false', Bool.true_beq, Bool.false_beq, Bool.true_bne, Bool.false_bne, Bool.bne_true, Bool.bne_false] at c10b0); (try simp only [beq_iff_eq, bne_iff_ne, ne_eq, decide_eq_true_eq, decide_eq_false_iff_not, decide_eq_decide, bne_eq_false_iff_eq, beq_eq_false_iff_ne, Bool.not_eq_true, Bool.not_eq_false, Bool.not_eq_true', Bool.not_eq_false', Bool.true_beq, Bool.false_beq, Bool.true_bne, Bool.false_bne, Bool.bne_true, Bool.bne_false] at c10b1); (try simp only [beq_iff_eq, bne_iff_ne, ne_eq, decide_eq_true_eq, decide_eq_false_iff_not, decide_eq_decide, bne_eq_false_iff_eq, beq_eq_false_iff_ne, Bool.not_eq_true, Bool.not_eq_false, Bool.not_eq_true', Bool.not_eq_false', Bool.true_beq, Bool.false_beq, Bool.true_bne, Bool.false_bne, Bool.bne_true, Bool.bne_false] at c11b0); (try simp only [beq_iff_eq, bne_iff_ne, ne_eq, decide_eq_true_eq, decide_eq_false_iff_not, decide_eq_decide, bne_eq_false_iff_eq, beq_eq_false_iff_ne, Bool.not_eq_true, Bool.not_eq_false, Bool.not_eq_true', Bool.not_eq_false', Bool.true_beq, Bool.false_beq, Bool.true_bne, Bool.false_bne, Bool.bne_true, Bool.bne_false] at c11b1); (try simp only [beq_iff_eq, bne_iff_ne, ne_eq, decide_eq_true_eq, decide_eq_false_iff_not, decide_eq_decide, bne_eq_false_iff_eq, beq_eq_false_iff_ne, Bool.not_eq_true, Bool.not_eq_false, Bool.not_eq_true', Bool.not_eq_false', Bool.true_beq, Bool.false_beq, Bool.true_bne, Bool.false_bne, Bool.bne_true, Bool.bne_false] at c12b0); (try simp only [beq_iff_eq, bne_iff_ne, ne_eq, decide_eq_true_eq, decide_eq_false_iff_not, decide_eq_decide, bne_eq_false_iff_eq, beq_eq_false_iff_ne, Bool.not_eq_true, Bool.not_eq_false, Bool.not_eq_true', Bool.not_eq_false', Bool.true_beq, Bool.false_beq, Bool.true_bne, Bool.false_bne, Bool.bne_true, Bool.bne_false] at c12b1); (try simp only [beq_iff_eq, bne_iff_ne, ne_eq, decide_eq_true_eq, decide_eq_false_iff_not, decide_eq_decide, bne_eq_false_iff_eq, beq_eq_false_iff_ne, Bool.not_eq_true, Bool.not_eq_false, Bool.not_eq_true', Bool.not_eq_false', Bool.true_beq, Bool.false_beq, Bool.true_bne, Bool.false_bne, Bool.bne_true, Bool.bne_false] at c16b0); (try simp only [beq_iff_eq, bne_iff_ne, ne_eq, decide_eq_true_eq, decide_eq_false_iff_not, decide_eq_decide, bne_eq_false_iff_eq, beq_eq_false_iff_ne, Bool.not_eq_true, Bool.not_eq_false, Bool.not_eq_true', Bool.not_eq_false', Bool.true_beq, Bool.false_beq, Bool.true_bne, Bool.false_bne, Bool.bne_true, Bool.bne_false] at c22b0); (try simp only [beq_iff_eq, bne_iff_ne, ne_eq, decide_eq_true_eq, decide_eq_false_iff_not, decide_eq_decide, bne_eq_false_iff_eq, beq_eq_false_iff_ne, Bool.not_eq_true, Bool.not_eq_false, Bool.not_eq_true', Bool.not_eq_false', Bool.true_beq, Bool.false_beq, Bool.true_bne, Bool.false_bne, Bool.bne_true, Bool.bne_false] at c22b1); (try simp only [beq_iff_eq, bne_iff_ne, ne_eq, decide_eq_true_eq, decide_eq_false_iff_not, decide_eq_decide, bne_eq_false_iff_eq, beq_eq_false_iff_ne, Bool.not_eq_true, Bool.not_eq_false, Bool.not_eq_true', Bool.not_eq_false', Bool.true_beq, Bool.false_beq, Bool.true_bne, Bool.false_bne, Bool.bne_true, Bool.bne_false] at c23b0); (try simp only [beq_iff_eq, bne_iff_ne, ne_eq, decide_eq_true_eq, decide_eq_false_iff_not, decide_eq_decide, bne_eq_false_iff_eq, beq_eq_false_iff_ne, Bool.not_eq_true, Bool.not_eq_false, Bool.not_eq_true', Bool.not_eq_false', Bool.true_beq, Bool.false_beq, Bool.true_bne, Bool.false_bne, Bool.bne_true, Bool.bne_false] at c23b1); (try simp only [beq_iff_eq, bne_iff_ne, ne_eq, decide_eq_true_eq, decide_eq_false_iff_not, decide_eq_decide, bne_eq_false_iff_eq, beq_eq_false_iff_ne, Bool.not_eq_true, Bool.not_eq_false, Bool.not_eq_true', Bool.not_eq_false', Bool.true_beq, Bool.false_beq, Bool.true_bne, Bool.false_bne, Bool.bne_true, Bool.bne_false] at c24b0); (try simp only [beq_iff_eq, bne_iff_ne, ne_eq, decide_eq_true_eq, decide_eq_false_iff_not, decide_eq_decide, bne_eq_false_iff_eq, beq_eq_false_iff_ne, Bool.not_eq_true, Bool.not_eq_false, Bool.not_eq_true', Bool.not_eq_false', Bool.true_beq, Bool.false_beq, Bool.true_bne, Bool.false_bne, Bool.bne_true, Bool.bne_false] at c24b1); (try simp only [beq_iff_eq, bne_iff_ne, ne_eq, decide_eq_true_eq, decide_eq_false_iff_not, decide_eq_decide, bne_eq_false_iff_eq, beq_eq_false_iff_ne, Bool.not_eq_true, Bool.not_eq_false, Bool.not_eq_true', Bool.not_eq_false', Bool.true_beq, Bool.false_beq, Bool.true_bne, Bool.false_bne, Bool.bne_true, Bool.bne_false] at c25b0); (try simp only [beq_iff_eq, bne_iff_ne, ne_eq, decide_eq_true_eq, decide_eq_false_iff_not, decide_eq_decide, bne_eq_false_iff_eq, beq_eq_false_iff_ne, Bool.not_eq_true, Bool.not_eq_false, Bool.not_eq_true', Bool.not_eq_false', Bool.true_beq, Bool.false_beq, Bool.true_bne, Bool.false_bne, Bool.bne_true, Bool.bne_false] at c25b1); (try simp only [beq_iff_eq, bne_iff_ne, ne_eq, decide_eq_true_eq, decide_eq_false_iff_not, decide_eq_decide, bne_eq_false_iff_eq, beq_eq_false_iff_ne, Bool.not_eq_true, Bool.not_eq_false, Bool.not_eq_true', Bool.not_eq_false', Bool.true_beq, Bool.false_beq, Bool.true_bne, Bool.false_bne, Bool.bne_true, Bool.bne_false] at c26b0); (try simp only [beq_iff_eq, bne_iff_ne, ne_eq, decide_eq_true_eq, decide_eq_false_iff_not, decide_eq_decide, bne_eq_false_iff_eq, beq_eq_false_iff_ne, Bool.not_eq_true, Bool.not_eq_false, Bool.not_eq_true', Bool.not_eq_false', Bool.true_beq, Bool.false_beq, Bool.true_bne, Bool.false_bne, Bool.bne_true, Bool.bne_false] at c26b1); (try simp only [beq_iff_eq, bne_iff_ne, ne_eq, decide_eq_true_eq, decide_eq_false_iff_not, decide_eq_decide, bne_eq_false_iff_eq, beq_eq_false_iff_ne, Bool.not_eq_true, Bool.not_eq_false, Bool.not_eq_true', Bool.not_eq_false', Bool.true_beq, Bool.false_beq, Bool.true_bne, Bool.false_bne, Bool.bne_true, Bool.bne_false] at c28b0); (try simp only [beq_iff_eq, bne_iff_ne, ne_eq, decide_eq_true_eq, decide_eq_false_iff_not, decide_eq_decide, bne_eq_false_iff_eq, beq_eq_false_iff_ne, Bool.not_eq_true, Bool.not_eq_false, Bool.not_eq_true', Bool.not_eq_false', Bool.true_beq, Bool.false_beq, Bool.true_bne, Bool.false_bne, Bool.bne_true, Bool.bne_false] at c28b1); (try simp only [beq_iff_eq, bne_iff_ne, ne_eq, decide_eq_true_eq, decide_eq_false_iff_not, decide_eq_decide, bne_eq_false_iff_eq, beq_eq_false_iff_ne, Bool.not_eq_true, Bool.not_eq_false, Bool.not_eq_true', Bool.not_eq_false', Bool.true_beq, Bool.false_beq, Bool.true_bne, Bool.false_bne, Bool.bne_true, Bool.bne_false] at c29b0); (try simp only [beq_iff_eq, bne_iff_ne, ne_eq, decide_eq_true_eq, decide_eq_false_iff_not, decide_eq_decide, bne_eq_false_iff_eq, beq_eq_false_iff_ne, Bool.not_eq_true, Bool.not_eq_false, Bool.not_eq_true', Bool.not_eq_false', Bool.true_beq, Bool.false_beq, Bool.true_bne, Bool.false_bne, Bool.bne_true, Bool.bne_false] at c29b1); (try simp only [beq_iff_eq, bne_iff_ne, ne_eq, decide_eq_true_eq, decide_eq_false_iff_not, decide_eq_decide, bne_eq_false_iff_eq, beq_eq_false_iff_ne, Bool.not_eq_true, Bool.not_eq_false, Bool.not_eq_true', Bool.not_eq_false', Bool.true_beq, Bool.false_beq, Bool.true_bne, Bool.false_bne, Bool.bne_true, Bool.bne_false] at c32b0); (try simp only [beq_iff_eq, bne_iff_ne, ne_eq, decide_eq_true_eq, decide_eq_false_iff_not, decide_eq_decide, bne_eq_false_iff_eq, beq_eq_false_iff_ne, Bool.not_eq_true, Bool.not_eq_false, Bool.not_eq_true', Bool.not_eq_false', Bool.true_beq, Bool.false_beq, Bool.true_bne, Bool.false_bne, Bool.bne_true, Bool.bne_false] at c32b1); (try simp only [beq_iff_eq, bne_iff_ne, ne_eq, decide_eq_true_eq, decide_eq_false_iff_not, decide_eq_decide, bne_eq_false_iff_eq, beq_eq_false_iff_ne, Bool.not_eq_true, Bool.not_eq_false, Bool.not_eq_true', Bool.not_eq_false', Bool.true_beq, Bool.false_beq, Bool.true_bne, Bool.false_bne, Bool.bne_true, Bool.bne_false] at c33b0); (try simp only [beq_iff_eq, bne_iff_ne, ne_eq, decide_eq_true_eq, decide_eq_false_iff_not, decide_eq_decide, bne_eq_false_iff_eq, beq_eq_false_iff_ne, Bool.not_eq_true, Bool.not_eq_false, Bool.not_eq_true', Bool.not_eq_false', Bool.true_beq, Bool.false_beq, Bool.true_bne, Bool.false_bne, Bool.bne_true, Bool.bne_false] at c33b1); (try simp only [beq_iff_eq, bne_iff_ne, ne_eq, decide_eq_true_eq, decide_eq_false_iff_not, decide_eq_decide, bne_eq_false_iff_eq, beq_eq_false_iff_ne, Bool.not_eq_true, Bool.not_eq_false, Bool.not_eq_true', Bool.not_eq_false', Bool.true_beq, Bool.false_beq, Bool.true_bne, Bool.false_bne, Bool.bne_true, Bool.bne_false] at c34b0); (try simp only [beq_iff_eq, bne_iff_ne, ne_eq, decide_eq_true_eq, decide_eq_false_iff_not, decide_eq_decide, bne_eq_false_iff_eq, beq_eq_false_iff_ne, Bool.not_eq_true, Bool.not_eq_false, Bool.not_eq_true', Bool.not_eq_false', Bool.true_beq, Bool.false_beq, Bool.true_bne, Bool.false_bne, Bool.bne_true, Bool.bne_false] at c34b1); (try simp only [beq_iff_eq, bne_iff_ne, ne_eq, decide_eq_true_eq, decide_eq_false_iff_not, decide_eq_decide, bne_eq_false_iff_eq, beq_eq_false_iff_ne, Bool.not_eq_true, Bool.not_eq_false, Bool.not_eq_true', Bool.not_eq_false', Bool.true_beq, Bool.false_beq, Bool.true_bne, Bool.false_bne, Bool.bne_true, Bool.bne_false] at c37b0); (try simp only [beq_iff_eq, bne_iff_ne, ne_eq, decide_eq_true_eq, decide_eq_false_iff_not, decide_eq_decide, bne_eq_false_iff_eq, beq_eq_false_iff_ne, Bool.not_eq_true, Bool.not_eq_false, Bool.not_eq_true', Bool.not_eq_false', Bool.true_beq, Bool.false_beq, Bool.true_bne, Bool.false_bne, Bool.bne_true, Bool.bne_false] at c37b1); (try simp only [beq_iff_eq, bne_iff_ne, ne_eq, decide_eq_true_eq, decide_eq_false_iff_not, decide_eq_decide, bne_eq_false_iff_eq, beq_eq_false_iff_ne, Bool.not_eq_true, Bool.not_eq_false, Bool.not_eq_true', Bool.not_eq_false', Bool.true_beq, Bool.false_beq, Bool.true_bne, Bool.false_bne, Bool.bne_true, Bool.bne_false] at c39b0); (try simp only [beq_iff_eq, bne_iff_ne, ne_eq, decide_eq_true_eq, decide_eq_false_iff_not, decide_eq_decide, bne_eq_false_iff_eq, beq_eq_false_iff_ne, Bool.not_eq_true, Bool.not_eq_false, Bool.not_eq_true', Bool.not_eq_false', Bool.true_beq, Bool.false_beq, Bool.true_bne, Bool.false_bne, Bool.bne_true, Bool.bne_false] at c39b1); (try simp only [beq_iff_eq, bne_iff_ne, ne_eq, decide_eq_true_eq, decide_eq_false_iff_not, decide_eq_decide, bne_eq_false_iff_eq, beq_eq_false_iff_ne, Bool.not_eq_true, Bool.not_eq_false, Bool.not_eq_true', Bool.not_eq_false', Bool.true_beq, Bool.false_beq, Bool.true_bne, Bool.false_bne, Bool.bne_true, Bool.bne_false] at c40b0); (try simp only [beq_iff_eq, bne_iff_ne, ne_eq, decide_eq_true_eq, decide_eq_false_iff_not, decide_eq_decide, bne_eq_false_iff_eq, beq_eq_false_iff_ne, Bool.not_eq_true, Bool.not_eq_false, Bool.not_eq_true', Bool.not_eq_false', Bool.true_beq, Bool.false_beq, Bool.true_bne, Bool.false_bne, Bool.bne_true, Bool.bne_false] at c40b1); (try simp only [beq_iff_eq, bne_iff_ne, ne_eq, decide_eq_true_eq, decide_eq_false_iff_not, decide_eq_decide, bne_eq_false_iff_eq, beq_eq_false_iff_ne, Bool.not_eq_true, Bool.not_eq_false, Bool.not_eq_true', Bool.not_eq_false', Bool.true_beq, Bool.false_beq, Bool.true_bne, Bool.false_bne, Bool.bne_true, Bool.bne_false] at c41b0); (try simp only [beq_iff_eq, bne_iff_ne, ne_eq, decide_eq_true_eq, decide_eq_false_iff_not, decide_eq_decide, bne_eq_false_iff_eq, beq_eq_false_iff_ne, Bool.not_eq_true, Bool.not_eq_false, Bool.not_eq_true', Bool.not_eq_false', Bool.true_beq, Bool.false_beq, Bool.true_bne, Bool.false_bne, Bool.bne_true, Bool.bne_false] at c41b1); (try simp only [beq_iff_eq, bne_iff_ne, ne_eq, decide_eq_true_eq, decide_eq_false_iff_not, decide_eq_decide, bne_eq_false_iff_eq, beq_eq_false_iff_ne, Bool.not_eq_true, Bool.not_eq_false, Bool.not_eq_true', Bool.not_eq_false', Bool.true_beq, Bool.false_beq, Bool.true_bne, Bool.false_bne, Bool.bne_true, Bool.bne_false] at c44b0); (try simp only [beq_iff_eq, bne_iff_ne, ne_eq, decide_eq_true_eq, decide_eq_false_iff_not, decide_eq_decide, bne_eq_false_iff_eq, beq_eq_false_iff_ne, Bool.not_eq_true, Bool.not_eq_false, Bool.not_eq_true', Bool.not_eq_false', Bool.true_beq, Bool.false_beq, Bool.true_bne, Bool.false_bne, Bool.bne_true, Bool.bne_false] at c44b1); (try unfold wrap64 at *); omega)
                                                  · rw [if_neg c44] at H
                                                    have c44b0 : (t261.toList == (catS x11_1 (catS (⟨#[121]⟩ : ByteArray) (cutS a1 0 ((ji9) : Int).toNat))).toList) = false := beq_eq_false_iff_ne.mpr c44
                                                    have c44b1 : (t261.toList != (catS x11_1 (catS (⟨#[121]⟩ : ByteArray) (cutS a1 0 ((ji9) : Int).toNat))).toList) = true := bne_iff_ne.mpr c44
                                                    exact absurd ((Option.some.inj H).trans HRT.out) Bool.false_ne_true
                                                · replace c43 := Bool.eq_false_iff.mpr c43
                                                  subst c43
                                                  have H1 : (some false) = some r := by rw [if_neg (show ¬ (false = true) by decide)] at H; exact H
                                                  clear H
                                                  have H := H1
                                                  clear H1
                                                  exact absurd ((Option.some.inj H).trans HRT.out) Bool.false_ne_true
                                              · rw [if_neg c41] at H
                                                exact absurd H (by simp)
                                            · rw [if_neg c40] at H
                                              exact absurd H (by simp)
                                          · rw [if_neg c39] at H
                                            exact absurd H (by simp)
                                        · rw [if_neg c37] at H
                                          exact absurd H (by simp)
                                      · rw [if_neg c34] at H
                                        exact absurd H (by simp)
                                    · rw [if_neg c33] at H
                                      exact absurd H (by simp)
                                  · rw [if_neg c32] at H
                                    exact absurd H (by simp)
                                · rw [if_neg c29] at H
                                  exact absurd H (by simp)
                              · rw [if_neg c28] at H
                                exact absurd H (by simp)
                            · rw [if_neg c26] at H
                              exact absurd H (by simp)
                          · rw [if_neg c25] at H
                            exact absurd H (by simp)
                        · rw [if_neg c24] at H
                          exact absurd H (by simp)
                      · rw [if_neg c23] at H
                        exact absurd H (by simp)
                    · rw [if_neg c22] at H
                      exact absurd H (by simp)
            · rw [if_neg c12] at H
              exact absurd H (by simp)
          · rw [if_neg c11] at H
            exact absurd H (by simp)
        · rw [if_neg c10] at H
          exact absurd H (by simp)
      · rw [if_neg c8] at H
        exact absurd H (by simp)
    · rw [if_neg c7] at H
      exact absurd H (by simp)
  · rw [if_neg c6] at H
    exact absurd H (by simp)

/-- THE ONE PURE STATEMENT of ammonitelaw4_SqueezePieces: yours. -/
def ammonitelaw4_SqueezePieces.Pure : Prop := ∀ (a0 : ByteArray) (a1 : ByteArray) (a2 : Int) (a3 : Int), a0.size ≤ 140737488351232 → a1.size ≤ 140737488351232 → (Lit.int .i64 a2).wf = true → (Lit.int .i64 a3).wf = true → ∃ k, ammonitelaw4_SqueezePieces.f k a0 a1 a2 a3 = some true
theorem ammonitelaw4_SqueezePieces.walk (P : ammonitelaw4_SqueezePieces.Pure) (a0 : ByteArray) (a1 : ByteArray) (a2 : Int) (a3 : Int) (w : World) (w0 : a0.size ≤ 140737488351232) (w1 : a1.size ≤ 140737488351232) (w2 : (Lit.int .i64 a2).wf = true) (w3 : (Lit.int .i64 a3).wf = true) :
    Calls Try.prog 10 #[.string a0, .string a1, .int .i64 a2, .int .i64 a3] w fun e w' => e = .returned (.bool true) ∧ Below w.heap.size w w' := by
  obtain ⟨k, h⟩ := P a0 a1 a2 a3 w0 w1 w2 w3
  refine (ammonitelaw4_SqueezePieces.calls k a0 a1 a2 a3 true w h rfl).mono ?_
  rintro e w' ⟨rfl, hd⟩
  exact ⟨rfl, hd⟩

end Go.Proofs.Ytcjkichimndioaa.Q
