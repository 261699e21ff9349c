-- Written by a program of this session (wip/tools/ap.py) for this claim.
import Derived.Test.YtcjkichimndioabQx0
import Derived.Test.YtcjkichimndioabQx1
import Derived.Test.YtcjkichimndioabQx2
import Derived.Test.YtcjkichimndioabQx3
import Derived.Test.YtcjkichimndioabQx5
namespace Go.Proofs.Ytcjkichimndioab.Q
open Go.Proofs.Ytcjkichimndioab.Given
open Go.RowKit Go.Proofs.Ytcjkichimndioab.PW Go.Proofs.YtcjkichimndioabW.PrintWords Go.Proofs.YtcjkichimndioabW.PrintLast Go.Proofs.YtcjkichimndioabW.PrintMore
attribute [local go_sem] max2_int min2_int max_two min_two max_three min_three max_four min_four   -- for this text's walks alone
set_option linter.unnecessarySimpa false
attribute [local go_sem high] run_cut_if run_cut_from run_cut_to run_cat_if
set_option linter.unusedVariables false
set_option linter.unusedSimpArgs false

/-! ### ammonitelaw3_DeltaLimits: function 12 -/
def ammonitelaw3_DeltaLimits.f (k : Nat) (a0_0 : Int) (l0_1 : List Int) (a1 : Int) : Option (Bool) := (ammonitekeep_Text_Text.f k a0_0 l0_1).bind fun t146 => ((ammonitebook_Within.f a1 0 3).bind fun t147 => (if 0 ≤ (wrap64 (300 - t147)) then (if (wrap64 (300 - t147) : Int).toNat ≤ 281474976710656 then ((some (List.replicate (wrap64 (300 - t147) : Int).toNat 0 : List Int)).bind fun y148 => ((delta_Make.f k t146 (strOfNums y148)).bind fun t151 => ((delta_Apply.f k t146 t151).bind fun bt152 => ((delta_Make.f k t146 (⟨#[]⟩ : ByteArray)).bind fun t154 => ((delta_Apply.f k t146 t154).bind fun bt155 => ((digit_Put.f k 301).bind fun t157 => (if t157.size + 1 ≤ 9223372036854775807 then ((digit_Put.f k 301).bind fun t158 => (if (catS t157 (⟨#[10]⟩ : ByteArray)).size + t158.size ≤ 9223372036854775807 then (if (catS (catS t157 (⟨#[10]⟩ : ByteArray)) t158).size + 1 ≤ 9223372036854775807 then (if 301 ≤ 281474976710656 then ((some (List.replicate 301 0 : List Int)).bind fun y159 => (if (catS (catS (catS t157 (⟨#[10]⟩ : ByteArray)) t158) (⟨#[58]⟩ : ByteArray)).size + (strOfNums y159).size ≤ 9223372036854775807 then (if (catS (catS (catS (catS t157 (⟨#[10]⟩ : ByteArray)) t158) (⟨#[58]⟩ : ByteArray)) (strOfNums y159)).size + 2 ≤ 9223372036854775807 then ((delta_Apply.f k t146 (catS (catS (catS (catS (catS t157 (⟨#[10]⟩ : ByteArray)) t158) (⟨#[58]⟩ : ByteArray)) (strOfNums y159)) (⟨#[48, 59]⟩ : ByteArray))).bind fun bt162 => (if bt152.2 = true then (if bt152.1.toList = (strOfNums y148).toList then (if bt155.2 = true then (if bt155.1.toList = ([] : List UInt8) then (if bt162.2 = true then (some false) else (if 0 ≤ (wrap64 (301 + t147)) then (if (wrap64 (301 + t147) : Int).toNat ≤ 281474976710656 then ((delta_Make.f k t146 (strOfNums (List.replicate (wrap64 (301 + t147) : Int).toNat 0))).bind fun t167 => (if t167.toList = ([] : List UInt8) then ((ammonitelaw3_DeltaRuns.f k).bind fun t168 => (some t168)) else (some false))) else (none)) else (none))) else (some false)) else (some false)) else (some false)) else (some false))) else (none)) else (none))) else (none)) else (none)) else (none))) else (none)))))))) else (none)) else (none)))
theorem ammonitelaw3_DeltaLimits.mono : ∀ a0 a1 a2 k, LeO (ammonitelaw3_DeltaLimits.f k a0 a1 a2) (ammonitelaw3_DeltaLimits.f (k + 1) a0 a1 a2) := by
  intro a0 a1 a2 k
  unfold ammonitelaw3_DeltaLimits.f
  repeat' first
      | (with_reducible exact ammonitekeep_Text_Text.mono _ _ _)
      | (with_reducible exact ammonitelaw3_DeltaRuns.mono _)
      | (with_reducible exact delta_Apply.mono _ _ _)
      | (with_reducible exact delta_Make.mono _ _ _)
      | (with_reducible exact digit_Put.mono _ _)
      | (with_reducible exact LeO.refl _)
      | (with_reducible exact LeO.none _)
      | (with_reducible refine LeO.ite ?_ ?_)
      | (with_reducible refine LeO.bind ?_ (fun _ => ?_))
      | exact ammonitekeep_Text_Text.mono _ _ _
      | exact ammonitelaw3_DeltaRuns.mono _
      | exact delta_Apply.mono _ _ _
      | exact delta_Make.mono _ _ _
      | exact digit_Put.mono _ _
      | exact LeO.none _
      | refine LeO.ite ?_ ?_
      | refine LeO.bind ?_ (fun _ => ?_)
def ammonitelaw3_DeltaLimits.T7 : Bool × List (List Nat × List Nat) := (true, [([], []), ([0], [0]), ([0], []), ([1, 2], [1, 2]), ([3], [3]), ([], []), ([5], [5]), ([4, 6], [4, 6]), ([7], [7]), ([8, 2, 0, 1, 2, 3, 4, 5, 6, 7, 8], [8])])
def ammonitelaw3_DeltaLimits.B7 : List Nat := [0, 1, 1, 7, 15, 0, 32, 127, 255, 511]
theorem ammonitelaw3_DeltaLimits.tab7 : rtab .any (opsOf Try.f12 7) = ammonitelaw3_DeltaLimits.T7 := by kernel_rfl
theorem ammonitelaw3_DeltaLimits.bits7 : waitsOk ammonitelaw3_DeltaLimits.T7.2 ammonitelaw3_DeltaLimits.B7 = true := by kernel_rfl
set_option maxHeartbeats 8000000 in
set_option maxRecDepth 100000 in
theorem ammonitelaw3_DeltaLimits.calls (k : Nat) (a0_0 : Int) (A0_1 : Option Addr) (c0_1 : Nat) (l0_1 : List Int) (a1 : Int) (r : Bool) (w : World) (hr0_1 : Kd.C (Kd.int .i64) w A0_1 l0_1.length l0_1) (hc0_1 : l0_1.length ≤ c0_1) (h : ammonitelaw3_DeltaLimits.f k a0_0 l0_1 a1 = some r) (hrt : r = true) :
    Calls Try.prog 12 #[.agg #[.int .i64 a0_0, .slice A0_1 l0_1.length c0_1], .int .i64 a1] w fun e w' => e = .returned (.bool r) ∧ Below w.heap.size w w' := by
  have HRT := Aside0.mk hrt
  clear hrt
  have hu37 := Try.underlying37
  have HR0_1 := Aside0.mk hr0_1
  have HC0_1 := Aside0.mk hc0_1
  clear hr0_1 hc0_1
  have HB := Aside0.mk (Below.refl w.heap.size w)
  have H : ((ammonitekeep_Text_Text.f k a0_0 l0_1).bind fun t146 => ((ammonitebook_Within.f a1 0 3).bind fun t147 => (if 0 ≤ (wrap64 (300 - t147)) then (if (wrap64 (300 - t147) : Int).toNat ≤ 281474976710656 then ((some (List.replicate (wrap64 (300 - t147) : Int).toNat 0 : List Int)).bind fun y148 => ((delta_Make.f k t146 (strOfNums y148)).bind fun t151 => ((delta_Apply.f k t146 t151).bind fun bt152 => ((delta_Make.f k t146 (⟨#[]⟩ : ByteArray)).bind fun t154 => ((delta_Apply.f k t146 t154).bind fun bt155 => ((digit_Put.f k 301).bind fun t157 => (if t157.size + 1 ≤ 9223372036854775807 then ((digit_Put.f k 301).bind fun t158 => (if (catS t157 (⟨#[10]⟩ : ByteArray)).size + t158.size ≤ 9223372036854775807 then (if (catS (catS t157 (⟨#[10]⟩ : ByteArray)) t158).size + 1 ≤ 9223372036854775807 then (if 301 ≤ 281474976710656 then ((some (List.replicate 301 0 : List Int)).bind fun y159 => (if (catS (catS (catS t157 (⟨#[10]⟩ : ByteArray)) t158) (⟨#[58]⟩ : ByteArray)).size + (strOfNums y159).size ≤ 9223372036854775807 then (if (catS (catS (catS (catS t157 (⟨#[10]⟩ : ByteArray)) t158) (⟨#[58]⟩ : ByteArray)) (strOfNums y159)).size + 2 ≤ 9223372036854775807 then ((delta_Apply.f k t146 (catS (catS (catS (catS (catS t157 (⟨#[10]⟩ : ByteArray)) t158) (⟨#[58]⟩ : ByteArray)) (strOfNums y159)) (⟨#[48, 59]⟩ : ByteArray))).bind fun bt162 => (if bt152.2 = true then (if bt152.1.toList = (strOfNums y148).toList then (if bt155.2 = true then (if bt155.1.toList = ([] : List UInt8) then (if bt162.2 = true then (some false) else (if 0 ≤ (wrap64 (301 + t147)) then (if (wrap64 (301 + t147) : Int).toNat ≤ 281474976710656 then ((delta_Make.f k t146 (strOfNums (List.replicate (wrap64 (301 + t147) : Int).toNat 0))).bind fun t167 => (if t167.toList = ([] : List UInt8) then ((ammonitelaw3_DeltaRuns.f k).bind fun t168 => (some t168)) else (some false))) else (none)) else (none))) else (some false)) else (some false)) else (some false)) else (some false))) else (none)) else (none))) else (none)) else (none)) else (none))) else (none)))))))) else (none)) else (none)))) = some r := h
  clear h
  replace H := Option.bind_eq_some_iff.mp H
  obtain ⟨t146, A30, H⟩ := H
  replace H : ((ammonitebook_Within.f a1 0 3).bind fun t147 => (if 0 ≤ (wrap64 (300 - t147)) then (if (wrap64 (300 - t147) : Int).toNat ≤ 281474976710656 then ((some (List.replicate (wrap64 (300 - t147) : Int).toNat 0 : List Int)).bind fun y148 => ((delta_Make.f k t146 (strOfNums y148)).bind fun t151 => ((delta_Apply.f k t146 t151).bind fun bt152 => ((delta_Make.f k t146 (⟨#[]⟩ : ByteArray)).bind fun t154 => ((delta_Apply.f k t146 t154).bind fun bt155 => ((digit_Put.f k 301).bind fun t157 => (if t157.size + 1 ≤ 9223372036854775807 then ((digit_Put.f k 301).bind fun t158 => (if (catS t157 (⟨#[10]⟩ : ByteArray)).size + t158.size ≤ 9223372036854775807 then (if (catS (catS t157 (⟨#[10]⟩ : ByteArray)) t158).size + 1 ≤ 9223372036854775807 then (if 301 ≤ 281474976710656 then ((some (List.replicate 301 0 : List Int)).bind fun y159 => (if (catS (catS (catS t157 (⟨#[10]⟩ : ByteArray)) t158) (⟨#[58]⟩ : ByteArray)).size + (strOfNums y159).size ≤ 9223372036854775807 then (if (catS (catS (catS (catS t157 (⟨#[10]⟩ : ByteArray)) t158) (⟨#[58]⟩ : ByteArray)) (strOfNums y159)).size + 2 ≤ 9223372036854775807 then ((delta_Apply.f k t146 (catS (catS (catS (catS (catS t157 (⟨#[10]⟩ : ByteArray)) t158) (⟨#[58]⟩ : ByteArray)) (strOfNums y159)) (⟨#[48, 59]⟩ : ByteArray))).bind fun bt162 => (if bt152.2 = true then (if bt152.1.toList = (strOfNums y148).toList then (if bt155.2 = true then (if bt155.1.toList = ([] : List UInt8) then (if bt162.2 = true then (some false) else (if 0 ≤ (wrap64 (301 + t147)) then (if (wrap64 (301 + t147) : Int).toNat ≤ 281474976710656 then ((delta_Make.f k t146 (strOfNums (List.replicate (wrap64 (301 + t147) : Int).toNat 0))).bind fun t167 => (if t167.toList = ([] : List UInt8) then ((ammonitelaw3_DeltaRuns.f k).bind fun t168 => (some t168)) else (some false))) else (none)) else (none))) else (some false)) else (some false)) else (some false)) else (some false))) else (none)) else (none))) else (none)) else (none)) else (none))) else (none)))))))) else (none)) else (none))) = some r := H
  have A3 := Aside0.mk A30
  clear A30
  replace H := Option.bind_eq_some_iff.mp H
  obtain ⟨t147, A40, H⟩ := H
  replace H : (if 0 ≤ (wrap64 (300 - t147)) then (if (wrap64 (300 - t147) : Int).toNat ≤ 281474976710656 then ((some (List.replicate (wrap64 (300 - t147) : Int).toNat 0 : List Int)).bind fun y148 => ((delta_Make.f k t146 (strOfNums y148)).bind fun t151 => ((delta_Apply.f k t146 t151).bind fun bt152 => ((delta_Make.f k t146 (⟨#[]⟩ : ByteArray)).bind fun t154 => ((delta_Apply.f k t146 t154).bind fun bt155 => ((digit_Put.f k 301).bind fun t157 => (if t157.size + 1 ≤ 9223372036854775807 then ((digit_Put.f k 301).bind fun t158 => (if (catS t157 (⟨#[10]⟩ : ByteArray)).size + t158.size ≤ 9223372036854775807 then (if (catS (catS t157 (⟨#[10]⟩ : ByteArray)) t158).size + 1 ≤ 9223372036854775807 then (if 301 ≤ 281474976710656 then ((some (List.replicate 301 0 : List Int)).bind fun y159 => (if (catS (catS (catS t157 (⟨#[10]⟩ : ByteArray)) t158) (⟨#[58]⟩ : ByteArray)).size + (strOfNums y159).size ≤ 9223372036854775807 then (if (catS (catS (catS (catS t157 (⟨#[10]⟩ : ByteArray)) t158) (⟨#[58]⟩ : ByteArray)) (strOfNums y159)).size + 2 ≤ 9223372036854775807 then ((delta_Apply.f k t146 (catS (catS (catS (catS (catS t157 (⟨#[10]⟩ : ByteArray)) t158) (⟨#[58]⟩ : ByteArray)) (strOfNums y159)) (⟨#[48, 59]⟩ : ByteArray))).bind fun bt162 => (if bt152.2 = true then (if bt152.1.toList = (strOfNums y148).toList then (if bt155.2 = true then (if bt155.1.toList = ([] : List UInt8) then (if bt162.2 = true then (some false) else (if 0 ≤ (wrap64 (301 + t147)) then (if (wrap64 (301 + t147) : Int).toNat ≤ 281474976710656 then ((delta_Make.f k t146 (strOfNums (List.replicate (wrap64 (301 + t147) : Int).toNat 0))).bind fun t167 => (if t167.toList = ([] : List UInt8) then ((ammonitelaw3_DeltaRuns.f k).bind fun t168 => (some t168)) else (some false))) else (none)) else (none))) else (some false)) else (some false)) else (some false)) else (some false))) else (none)) else (none))) else (none)) else (none)) else (none))) else (none)))))))) else (none)) else (none)) = some r := H
  have A4 := Aside0.mk A40
  clear A40
  obtain ⟨ji5, hji5⟩ : ∃ j_ : Int, (wrap64 (300 - t147)) = j_ := ⟨_, rfl⟩
  replace H : (if 0 ≤ (ji5) then (if (ji5 : Int).toNat ≤ 281474976710656 then ((some (List.replicate (ji5 : Int).toNat 0 : List Int)).bind fun y148 => ((delta_Make.f k t146 (strOfNums y148)).bind fun t151 => ((delta_Apply.f k t146 t151).bind fun bt152 => ((delta_Make.f k t146 (⟨#[]⟩ : ByteArray)).bind fun t154 => ((delta_Apply.f k t146 t154).bind fun bt155 => ((digit_Put.f k 301).bind fun t157 => (if t157.size + 1 ≤ 9223372036854775807 then ((digit_Put.f k 301).bind fun t158 => (if (catS t157 (⟨#[10]⟩ : ByteArray)).size + t158.size ≤ 9223372036854775807 then (if (catS (catS t157 (⟨#[10]⟩ : ByteArray)) t158).size + 1 ≤ 9223372036854775807 then (if 301 ≤ 281474976710656 then ((some (List.replicate 301 0 : List Int)).bind fun y159 => (if (catS (catS (catS t157 (⟨#[10]⟩ : ByteArray)) t158) (⟨#[58]⟩ : ByteArray)).size + (strOfNums y159).size ≤ 9223372036854775807 then (if (catS (catS (catS (catS t157 (⟨#[10]⟩ : ByteArray)) t158) (⟨#[58]⟩ : ByteArray)) (strOfNums y159)).size + 2 ≤ 9223372036854775807 then ((delta_Apply.f k t146 (catS (catS (catS (catS (catS t157 (⟨#[10]⟩ : ByteArray)) t158) (⟨#[58]⟩ : ByteArray)) (strOfNums y159)) (⟨#[48, 59]⟩ : ByteArray))).bind fun bt162 => (if bt152.2 = true then (if bt152.1.toList = (strOfNums y148).toList then (if bt155.2 = true then (if bt155.1.toList = ([] : List UInt8) then (if bt162.2 = true then (some false) else (if 0 ≤ (wrap64 (301 + t147)) then (if (wrap64 (301 + t147) : Int).toNat ≤ 281474976710656 then ((delta_Make.f k t146 (strOfNums (List.replicate (wrap64 (301 + t147) : Int).toNat 0))).bind fun t167 => (if t167.toList = ([] : List UInt8) then ((ammonitelaw3_DeltaRuns.f k).bind fun t168 => (some t168)) else (some false))) else (none)) else (none))) else (some false)) else (some false)) else (some false)) else (some false))) else (none)) else (none))) else (none)) else (none)) else (none))) else (none)))))))) else (none)) else (none)) = some r := by first | (rw [hji5] at H; exact H) | (simp only [hji5] at H ⊢; exact H)
  (try rw [hji5] at A3)
  (try rw [hji5] at A4)
  have hji5w : (IntKind.i64.wrap (300 - t147)) = ji5 := (i64_w _).trans hji5
  by_cases c6 : 0 ≤ (ji5)
  · rw [if_pos c6] at H
    have c6b0 := eq_true c6
    have c6b1 : decide (0 ≤ (ji5)) = true := decide_eq_true c6
    clear c6
    by_cases c7 : (ji5 : Int).toNat ≤ 281474976710656
    · rw [if_pos c7] at H
      have c7b0 := eq_true c7
      have c7b1 : decide ((ji5 : Int).toNat ≤ 281474976710656) = true := decide_eq_true c7
      clear c7
      obtain ⟨y148, hy148⟩ : ∃ y_ : List Int, y_ = (List.replicate (ji5 : Int).toNat 0) := ⟨_, rfl⟩
      replace H : ((delta_Make.f k t146 (strOfNums y148)).bind fun t151 => ((delta_Apply.f k t146 t151).bind fun bt152 => ((delta_Make.f k t146 (⟨#[]⟩ : ByteArray)).bind fun t154 => ((delta_Apply.f k t146 t154).bind fun bt155 => ((digit_Put.f k 301).bind fun t157 => (if t157.size + 1 ≤ 9223372036854775807 then ((digit_Put.f k 301).bind fun t158 => (if (catS t157 (⟨#[10]⟩ : ByteArray)).size + t158.size ≤ 9223372036854775807 then (if (catS (catS t157 (⟨#[10]⟩ : ByteArray)) t158).size + 1 ≤ 9223372036854775807 then (if 301 ≤ 281474976710656 then ((some (List.replicate 301 0 : List Int)).bind fun y159 => (if (catS (catS (catS t157 (⟨#[10]⟩ : ByteArray)) t158) (⟨#[58]⟩ : ByteArray)).size + (strOfNums y159).size ≤ 9223372036854775807 then (if (catS (catS (catS (catS t157 (⟨#[10]⟩ : ByteArray)) t158) (⟨#[58]⟩ : ByteArray)) (strOfNums y159)).size + 2 ≤ 9223372036854775807 then ((delta_Apply.f k t146 (catS (catS (catS (catS (catS t157 (⟨#[10]⟩ : ByteArray)) t158) (⟨#[58]⟩ : ByteArray)) (strOfNums y159)) (⟨#[48, 59]⟩ : ByteArray))).bind fun bt162 => (if bt152.2 = true then (if bt152.1.toList = (strOfNums y148).toList then (if bt155.2 = true then (if bt155.1.toList = ([] : List UInt8) then (if bt162.2 = true then (some false) else (if 0 ≤ (wrap64 (301 + t147)) then (if (wrap64 (301 + t147) : Int).toNat ≤ 281474976710656 then ((delta_Make.f k t146 (strOfNums (List.replicate (wrap64 (301 + t147) : Int).toNat 0))).bind fun t167 => (if t167.toList = ([] : List UInt8) then ((ammonitelaw3_DeltaRuns.f k).bind fun t168 => (some t168)) else (some false))) else (none)) else (none))) else (some false)) else (some false)) else (some false)) else (some false))) else (none)) else (none))) else (none)) else (none)) else (none))) else (none))))))) = some r := by first | (rw [hy148]; with_reducible exact H) | (have H2_ := (Option.bind_some _ _).symm.trans H; rw [hy148]; with_reducible exact H2_) | (have H2_ := (Option.bind_some _ _).symm.trans H; with_reducible exact H2_) | with_reducible exact H | (rw [hy148]; exact H) | exact H
      have Ny148 := Aside0.mk hy148
      clear hy148
      replace H := Option.bind_eq_some_iff.mp H
      obtain ⟨t151, A80, H⟩ := H
      replace H : ((delta_Apply.f k t146 t151).bind fun bt152 => ((delta_Make.f k t146 (⟨#[]⟩ : ByteArray)).bind fun t154 => ((delta_Apply.f k t146 t154).bind fun bt155 => ((digit_Put.f k 301).bind fun t157 => (if t157.size + 1 ≤ 9223372036854775807 then ((digit_Put.f k 301).bind fun t158 => (if (catS t157 (⟨#[10]⟩ : ByteArray)).size + t158.size ≤ 9223372036854775807 then (if (catS (catS t157 (⟨#[10]⟩ : ByteArray)) t158).size + 1 ≤ 9223372036854775807 then (if 301 ≤ 281474976710656 then ((some (List.replicate 301 0 : List Int)).bind fun y159 => (if (catS (catS (catS t157 (⟨#[10]⟩ : ByteArray)) t158) (⟨#[58]⟩ : ByteArray)).size + (strOfNums y159).size ≤ 9223372036854775807 then (if (catS (catS (catS (catS t157 (⟨#[10]⟩ : ByteArray)) t158) (⟨#[58]⟩ : ByteArray)) (strOfNums y159)).size + 2 ≤ 9223372036854775807 then ((delta_Apply.f k t146 (catS (catS (catS (catS (catS t157 (⟨#[10]⟩ : ByteArray)) t158) (⟨#[58]⟩ : ByteArray)) (strOfNums y159)) (⟨#[48, 59]⟩ : ByteArray))).bind fun bt162 => (if bt152.2 = true then (if bt152.1.toList = (strOfNums y148).toList then (if bt155.2 = true then (if bt155.1.toList = ([] : List UInt8) then (if bt162.2 = true then (some false) else (if 0 ≤ (wrap64 (301 + t147)) then (if (wrap64 (301 + t147) : Int).toNat ≤ 281474976710656 then ((delta_Make.f k t146 (strOfNums (List.replicate (wrap64 (301 + t147) : Int).toNat 0))).bind fun t167 => (if t167.toList = ([] : List UInt8) then ((ammonitelaw3_DeltaRuns.f k).bind fun t168 => (some t168)) else (some false))) else (none)) else (none))) else (some false)) else (some false)) else (some false)) else (some false))) else (none)) else (none))) else (none)) else (none)) else (none))) else (none)))))) = some r := H
      have A8 := Aside0.mk A80
      clear A80
      replace H := Option.bind_eq_some_iff.mp H
      obtain ⟨⟨t152, t153⟩, A90, H⟩ := H
      replace H : ((delta_Make.f k t146 (⟨#[]⟩ : ByteArray)).bind fun t154 => ((delta_Apply.f k t146 t154).bind fun bt155 => ((digit_Put.f k 301).bind fun t157 => (if t157.size + 1 ≤ 9223372036854775807 then ((digit_Put.f k 301).bind fun t158 => (if (catS t157 (⟨#[10]⟩ : ByteArray)).size + t158.size ≤ 9223372036854775807 then (if (catS (catS t157 (⟨#[10]⟩ : ByteArray)) t158).size + 1 ≤ 9223372036854775807 then (if 301 ≤ 281474976710656 then ((some (List.replicate 301 0 : List Int)).bind fun y159 => (if (catS (catS (catS t157 (⟨#[10]⟩ : ByteArray)) t158) (⟨#[58]⟩ : ByteArray)).size + (strOfNums y159).size ≤ 9223372036854775807 then (if (catS (catS (catS (catS t157 (⟨#[10]⟩ : ByteArray)) t158) (⟨#[58]⟩ : ByteArray)) (strOfNums y159)).size + 2 ≤ 9223372036854775807 then ((delta_Apply.f k t146 (catS (catS (catS (catS (catS t157 (⟨#[10]⟩ : ByteArray)) t158) (⟨#[58]⟩ : ByteArray)) (strOfNums y159)) (⟨#[48, 59]⟩ : ByteArray))).bind fun bt162 => (if t153 = true then (if t152.toList = (strOfNums y148).toList then (if bt155.2 = true then (if bt155.1.toList = ([] : List UInt8) then (if bt162.2 = true then (some false) else (if 0 ≤ (wrap64 (301 + t147)) then (if (wrap64 (301 + t147) : Int).toNat ≤ 281474976710656 then ((delta_Make.f k t146 (strOfNums (List.replicate (wrap64 (301 + t147) : Int).toNat 0))).bind fun t167 => (if t167.toList = ([] : List UInt8) then ((ammonitelaw3_DeltaRuns.f k).bind fun t168 => (some t168)) else (some false))) else (none)) else (none))) else (some false)) else (some false)) else (some false)) else (some false))) else (none)) else (none))) else (none)) else (none)) else (none))) else (none))))) = some r := H
      have A9 := Aside0.mk A90
      clear A90
      replace H := Option.bind_eq_some_iff.mp H
      obtain ⟨t154, A100, H⟩ := H
      replace H : ((delta_Apply.f k t146 t154).bind fun bt155 => ((digit_Put.f k 301).bind fun t157 => (if t157.size + 1 ≤ 9223372036854775807 then ((digit_Put.f k 301).bind fun t158 => (if (catS t157 (⟨#[10]⟩ : ByteArray)).size + t158.size ≤ 9223372036854775807 then (if (catS (catS t157 (⟨#[10]⟩ : ByteArray)) t158).size + 1 ≤ 9223372036854775807 then (if 301 ≤ 281474976710656 then ((some (List.replicate 301 0 : List Int)).bind fun y159 => (if (catS (catS (catS t157 (⟨#[10]⟩ : ByteArray)) t158) (⟨#[58]⟩ : ByteArray)).size + (strOfNums y159).size ≤ 9223372036854775807 then (if (catS (catS (catS (catS t157 (⟨#[10]⟩ : ByteArray)) t158) (⟨#[58]⟩ : ByteArray)) (strOfNums y159)).size + 2 ≤ 9223372036854775807 then ((delta_Apply.f k t146 (catS (catS (catS (catS (catS t157 (⟨#[10]⟩ : ByteArray)) t158) (⟨#[58]⟩ : ByteArray)) (strOfNums y159)) (⟨#[48, 59]⟩ : ByteArray))).bind fun bt162 => (if t153 = true then (if t152.toList = (strOfNums y148).toList then (if bt155.2 = true then (if bt155.1.toList = ([] : List UInt8) then (if bt162.2 = true then (some false) else (if 0 ≤ (wrap64 (301 + t147)) then (if (wrap64 (301 + t147) : Int).toNat ≤ 281474976710656 then ((delta_Make.f k t146 (strOfNums (List.replicate (wrap64 (301 + t147) : Int).toNat 0))).bind fun t167 => (if t167.toList = ([] : List UInt8) then ((ammonitelaw3_DeltaRuns.f k).bind fun t168 => (some t168)) else (some false))) else (none)) else (none))) else (some false)) else (some false)) else (some false)) else (some false))) else (none)) else (none))) else (none)) else (none)) else (none))) else (none)))) = some r := H
      have A10 := Aside0.mk A100
      clear A100
      replace H := Option.bind_eq_some_iff.mp H
      obtain ⟨⟨t155, t156⟩, A110, H⟩ := H
      replace H : ((digit_Put.f k 301).bind fun t157 => (if t157.size + 1 ≤ 9223372036854775807 then ((digit_Put.f k 301).bind fun t158 => (if (catS t157 (⟨#[10]⟩ : ByteArray)).size + t158.size ≤ 9223372036854775807 then (if (catS (catS t157 (⟨#[10]⟩ : ByteArray)) t158).size + 1 ≤ 9223372036854775807 then (if 301 ≤ 281474976710656 then ((some (List.replicate 301 0 : List Int)).bind fun y159 => (if (catS (catS (catS t157 (⟨#[10]⟩ : ByteArray)) t158) (⟨#[58]⟩ : ByteArray)).size + (strOfNums y159).size ≤ 9223372036854775807 then (if (catS (catS (catS (catS t157 (⟨#[10]⟩ : ByteArray)) t158) (⟨#[58]⟩ : ByteArray)) (strOfNums y159)).size + 2 ≤ 9223372036854775807 then ((delta_Apply.f k t146 (catS (catS (catS (catS (catS t157 (⟨#[10]⟩ : ByteArray)) t158) (⟨#[58]⟩ : ByteArray)) (strOfNums y159)) (⟨#[48, 59]⟩ : ByteArray))).bind fun bt162 => (if t153 = true then (if t152.toList = (strOfNums y148).toList then (if t156 = true then (if t155.toList = ([] : List UInt8) then (if bt162.2 = true then (some false) else (if 0 ≤ (wrap64 (301 + t147)) then (if (wrap64 (301 + t147) : Int).toNat ≤ 281474976710656 then ((delta_Make.f k t146 (strOfNums (List.replicate (wrap64 (301 + t147) : Int).toNat 0))).bind fun t167 => (if t167.toList = ([] : List UInt8) then ((ammonitelaw3_DeltaRuns.f k).bind fun t168 => (some t168)) else (some false))) else (none)) else (none))) else (some false)) else (some false)) else (some false)) else (some false))) else (none)) else (none))) else (none)) else (none)) else (none))) else (none))) = some r := H
      have A11 := Aside0.mk A110
      clear A110
      replace H := Option.bind_eq_some_iff.mp H
      obtain ⟨t157, A120, H⟩ := H
      replace H : (if t157.size + 1 ≤ 9223372036854775807 then ((digit_Put.f k 301).bind fun t158 => (if (catS t157 (⟨#[10]⟩ : ByteArray)).size + t158.size ≤ 9223372036854775807 then (if (catS (catS t157 (⟨#[10]⟩ : ByteArray)) t158).size + 1 ≤ 9223372036854775807 then (if 301 ≤ 281474976710656 then ((some (List.replicate 301 0 : List Int)).bind fun y159 => (if (catS (catS (catS t157 (⟨#[10]⟩ : ByteArray)) t158) (⟨#[58]⟩ : ByteArray)).size + (strOfNums y159).size ≤ 9223372036854775807 then (if (catS (catS (catS (catS t157 (⟨#[10]⟩ : ByteArray)) t158) (⟨#[58]⟩ : ByteArray)) (strOfNums y159)).size + 2 ≤ 9223372036854775807 then ((delta_Apply.f k t146 (catS (catS (catS (catS (catS t157 (⟨#[10]⟩ : ByteArray)) t158) (⟨#[58]⟩ : ByteArray)) (strOfNums y159)) (⟨#[48, 59]⟩ : ByteArray))).bind fun bt162 => (if t153 = true then (if t152.toList = (strOfNums y148).toList then (if t156 = true then (if t155.toList = ([] : List UInt8) then (if bt162.2 = true then (some false) else (if 0 ≤ (wrap64 (301 + t147)) then (if (wrap64 (301 + t147) : Int).toNat ≤ 281474976710656 then ((delta_Make.f k t146 (strOfNums (List.replicate (wrap64 (301 + t147) : Int).toNat 0))).bind fun t167 => (if t167.toList = ([] : List UInt8) then ((ammonitelaw3_DeltaRuns.f k).bind fun t168 => (some t168)) else (some false))) else (none)) else (none))) else (some false)) else (some false)) else (some false)) else (some false))) else (none)) else (none))) else (none)) else (none)) else (none))) else (none)) = some r := H
      have A12 := Aside0.mk A120
      clear A120
      by_cases c13 : t157.size + 1 ≤ 9223372036854775807
      · rw [if_pos c13] at H
        have c13b0 := eq_true c13
        have c13b1 : decide (t157.size + 1 ≤ 9223372036854775807) = true := decide_eq_true c13
        try have c13b2 : (9223372036854775807 < t157.size + 1) = False := eq_false (Nat.not_lt.2 c13)
        clear c13
        replace H := Option.bind_eq_some_iff.mp H
        obtain ⟨t158, A140, H⟩ := H
        replace H : (if (catS t157 (⟨#[10]⟩ : ByteArray)).size + t158.size ≤ 9223372036854775807 then (if (catS (catS t157 (⟨#[10]⟩ : ByteArray)) t158).size + 1 ≤ 9223372036854775807 then (if 301 ≤ 281474976710656 then ((some (List.replicate 301 0 : List Int)).bind fun y159 => (if (catS (catS (catS t157 (⟨#[10]⟩ : ByteArray)) t158) (⟨#[58]⟩ : ByteArray)).size + (strOfNums y159).size ≤ 9223372036854775807 then (if (catS (catS (catS (catS t157 (⟨#[10]⟩ : ByteArray)) t158) (⟨#[58]⟩ : ByteArray)) (strOfNums y159)).size + 2 ≤ 9223372036854775807 then ((delta_Apply.f k t146 (catS (catS (catS (catS (catS t157 (⟨#[10]⟩ : ByteArray)) t158) (⟨#[58]⟩ : ByteArray)) (strOfNums y159)) (⟨#[48, 59]⟩ : ByteArray))).bind fun bt162 => (if t153 = true then (if t152.toList = (strOfNums y148).toList then (if t156 = true then (if t155.toList = ([] : List UInt8) then (if bt162.2 = true then (some false) else (if 0 ≤ (wrap64 (301 + t147)) then (if (wrap64 (301 + t147) : Int).toNat ≤ 281474976710656 then ((delta_Make.f k t146 (strOfNums (List.replicate (wrap64 (301 + t147) : Int).toNat 0))).bind fun t167 => (if t167.toList = ([] : List UInt8) then ((ammonitelaw3_DeltaRuns.f k).bind fun t168 => (some t168)) else (some false))) else (none)) else (none))) else (some false)) else (some false)) else (some false)) else (some false))) else (none)) else (none))) else (none)) else (none)) else (none)) = some r := H
        have A14 := Aside0.mk A140
        clear A140
        by_cases c15 : (catS t157 (⟨#[10]⟩ : ByteArray)).size + t158.size ≤ 9223372036854775807
        · rw [if_pos c15] at H
          have c15b0 := eq_true c15
          have c15b1 : decide ((catS t157 (⟨#[10]⟩ : ByteArray)).size + t158.size ≤ 9223372036854775807) = true := decide_eq_true c15
          try have c15b2 : (9223372036854775807 < (catS t157 (⟨#[10]⟩ : ByteArray)).size + t158.size) = False := eq_false (Nat.not_lt.2 c15)
          clear c15
          by_cases c16 : (catS (catS t157 (⟨#[10]⟩ : ByteArray)) t158).size + 1 ≤ 9223372036854775807
          · rw [if_pos c16] at H
            have c16b0 := eq_true c16
            have c16b1 : decide ((catS (catS t157 (⟨#[10]⟩ : ByteArray)) t158).size + 1 ≤ 9223372036854775807) = true := decide_eq_true c16
            try have c16b2 : (9223372036854775807 < (catS (catS t157 (⟨#[10]⟩ : ByteArray)) t158).size + 1) = False := eq_false (Nat.not_lt.2 c16)
            clear c16
            by_cases c17 : 301 ≤ 281474976710656
            · rw [if_pos c17] at H
              have c17b0 := eq_true c17
              have c17b1 : decide (301 ≤ 281474976710656) = true := decide_eq_true c17
              clear c17
              obtain ⟨y159, hy159⟩ : ∃ y_ : List Int, y_ = (List.replicate 301 0) := ⟨_, rfl⟩
              replace H : (if (catS (catS (catS t157 (⟨#[10]⟩ : ByteArray)) t158) (⟨#[58]⟩ : ByteArray)).size + (strOfNums y159).size ≤ 9223372036854775807 then (if (catS (catS (catS (catS t157 (⟨#[10]⟩ : ByteArray)) t158) (⟨#[58]⟩ : ByteArray)) (strOfNums y159)).size + 2 ≤ 9223372036854775807 then ((delta_Apply.f k t146 (catS (catS (catS (catS (catS t157 (⟨#[10]⟩ : ByteArray)) t158) (⟨#[58]⟩ : ByteArray)) (strOfNums y159)) (⟨#[48, 59]⟩ : ByteArray))).bind fun bt162 => (if t153 = true then (if t152.toList = (strOfNums y148).toList then (if t156 = true then (if t155.toList = ([] : List UInt8) then (if bt162.2 = true then (some false) else (if 0 ≤ (wrap64 (301 + t147)) then (if (wrap64 (301 + t147) : Int).toNat ≤ 281474976710656 then ((delta_Make.f k t146 (strOfNums (List.replicate (wrap64 (301 + t147) : Int).toNat 0))).bind fun t167 => (if t167.toList = ([] : List UInt8) then ((ammonitelaw3_DeltaRuns.f k).bind fun t168 => (some t168)) else (some false))) else (none)) else (none))) else (some false)) else (some false)) else (some false)) else (some false))) else (none)) else (none)) = some r := by first | (rw [hy159]; with_reducible exact H) | (have H2_ := (Option.bind_some _ _).symm.trans H; rw [hy159]; with_reducible exact H2_) | (have H2_ := (Option.bind_some _ _).symm.trans H; with_reducible exact H2_) | with_reducible exact H | (rw [hy159]; exact H) | exact H
              have Ny159 := Aside0.mk hy159
              clear hy159
              by_cases c18 : (catS (catS (catS t157 (⟨#[10]⟩ : ByteArray)) t158) (⟨#[58]⟩ : ByteArray)).size + (strOfNums y159).size ≤ 9223372036854775807
              · rw [if_pos c18] at H
                have c18b0 := eq_true c18
                have c18b1 : decide ((catS (catS (catS t157 (⟨#[10]⟩ : ByteArray)) t158) (⟨#[58]⟩ : ByteArray)).size + (strOfNums y159).size ≤ 9223372036854775807) = true := decide_eq_true c18
                try have c18b2 : (9223372036854775807 < (catS (catS (catS t157 (⟨#[10]⟩ : ByteArray)) t158) (⟨#[58]⟩ : ByteArray)).size + (strOfNums y159).size) = False := eq_false (Nat.not_lt.2 c18)
                clear c18
                by_cases c19 : (catS (catS (catS (catS t157 (⟨#[10]⟩ : ByteArray)) t158) (⟨#[58]⟩ : ByteArray)) (strOfNums y159)).size + 2 ≤ 9223372036854775807
                · rw [if_pos c19] at H
                  have c19b0 := eq_true c19
                  have c19b1 : decide ((catS (catS (catS (catS t157 (⟨#[10]⟩ : ByteArray)) t158) (⟨#[58]⟩ : ByteArray)) (strOfNums y159)).size + 2 ≤ 9223372036854775807) = true := decide_eq_true c19
                  try have c19b2 : (9223372036854775807 < (catS (catS (catS (catS t157 (⟨#[10]⟩ : ByteArray)) t158) (⟨#[58]⟩ : ByteArray)) (strOfNums y159)).size + 2) = False := eq_false (Nat.not_lt.2 c19)
                  clear c19
                  replace H := Option.bind_eq_some_iff.mp H
                  obtain ⟨⟨t162, t163⟩, A200, H⟩ := H
                  replace H : (if t153 = true then (if t152.toList = (strOfNums y148).toList then (if t156 = true then (if t155.toList = ([] : List UInt8) then (if t163 = true then (some false) else (if 0 ≤ (wrap64 (301 + t147)) then (if (wrap64 (301 + t147) : Int).toNat ≤ 281474976710656 then ((delta_Make.f k t146 (strOfNums (List.replicate (wrap64 (301 + t147) : Int).toNat 0))).bind fun t167 => (if t167.toList = ([] : List UInt8) then ((ammonitelaw3_DeltaRuns.f k).bind fun t168 => (some t168)) else (some false))) else (none)) else (none))) else (some false)) else (some false)) else (some false)) else (some false)) = some r := H
                  have A20 := Aside0.mk A200
                  clear A200
                  by_cases c21 : t153 = true
                  · subst c21
                    have H1 : (if t152.toList = (strOfNums y148).toList then (if t156 = true then (if t155.toList = ([] : List UInt8) then (if t163 = true then (some false) else (if 0 ≤ (wrap64 (301 + t147)) then (if (wrap64 (301 + t147) : Int).toNat ≤ 281474976710656 then ((delta_Make.f k t146 (strOfNums (List.replicate (wrap64 (301 + t147) : Int).toNat 0))).bind fun t167 => (if t167.toList = ([] : List UInt8) then ((ammonitelaw3_DeltaRuns.f k).bind fun t168 => (some t168)) else (some false))) else (none)) else (none))) else (some false)) else (some false)) else (some false)) = some r := by rw [if_pos rfl] at H; exact H
                    clear H
                    have H := H1
                    clear H1
                    by_cases c22 : t152.toList = (strOfNums y148).toList
                    · rw [if_pos c22] at H
                      have c22b0 : (t152.toList == (strOfNums y148).toList) = true := beq_iff_eq.mpr c22
                      have c22b1 : (t152.toList != (strOfNums y148).toList) = false := bne_eq_false_iff_eq.mpr c22
                      clear c22
                      by_cases c23 : t156 = true
                      · subst c23
                        have H1 : (if t155.toList = ([] : List UInt8) then (if t163 = true then (some false) else (if 0 ≤ (wrap64 (301 + t147)) then (if (wrap64 (301 + t147) : Int).toNat ≤ 281474976710656 then ((delta_Make.f k t146 (strOfNums (List.replicate (wrap64 (301 + t147) : Int).toNat 0))).bind fun t167 => (if t167.toList = ([] : List UInt8) then ((ammonitelaw3_DeltaRuns.f k).bind fun t168 => (some t168)) else (some false))) else (none)) else (none))) else (some false)) = some r := by rw [if_pos rfl] at H; exact H
                        clear H
                        have H := H1
                        clear H1
                        by_cases c24 : t155.toList = ([] : List UInt8)
                        · rw [if_pos c24] at H
                          have c24b0 : (t155.toList == ([] : List UInt8)) = true := beq_iff_eq.mpr c24
                          have c24b1 : (t155.toList != ([] : List UInt8)) = false := bne_eq_false_iff_eq.mpr c24
                          clear c24
                          by_cases c25 : t163 = true
                          · subst c25
                            have H1 : (some false) = some r := by rw [if_pos rfl] at H; exact H
                            clear H
                            have H := H1
                            clear H1
                            exact absurd ((Option.some.inj H).trans HRT.out) Bool.false_ne_true
                          · replace c25 := Bool.eq_false_iff.mpr c25
                            subst c25
                            have H1 : (if 0 ≤ (wrap64 (301 + t147)) then (if (wrap64 (301 + t147) : Int).toNat ≤ 281474976710656 then ((delta_Make.f k t146 (strOfNums (List.replicate (wrap64 (301 + t147) : Int).toNat 0))).bind fun t167 => (if t167.toList = ([] : List UInt8) then ((ammonitelaw3_DeltaRuns.f k).bind fun t168 => (some t168)) else (some false))) else (none)) else (none)) = some r := by rw [if_neg (show ¬ (false = true) by decide)] at H; exact H
                            clear H
                            have H := H1
                            clear H1
                            obtain ⟨ji26, hji26⟩ : ∃ j_ : Int, (wrap64 (301 + t147)) = j_ := ⟨_, rfl⟩
                            replace H : (if 0 ≤ (ji26) then (if (ji26 : Int).toNat ≤ 281474976710656 then ((delta_Make.f k t146 (strOfNums (List.replicate (ji26 : Int).toNat 0))).bind fun t167 => (if t167.toList = ([] : List UInt8) then ((ammonitelaw3_DeltaRuns.f k).bind fun t168 => (some t168)) else (some false))) else (none)) else (none)) = some r := by first | (rw [hji26] at H; exact H) | (simp only [hji26] at H ⊢; exact H)
                            (try rw [hji26] at A3)
                            (try rw [hji26] at A4)
                            (try rw [hji26] at A8)
                            (try rw [hji26] at A9)
                            (try rw [hji26] at A10)
                            (try rw [hji26] at A11)
                            (try rw [hji26] at A12)
                            (try rw [hji26] at A14)
                            (try rw [hji26] at A20)
                            have hji26w : (IntKind.i64.wrap (301 + t147)) = ji26 := (i64_w _).trans hji26
                            by_cases c27 : 0 ≤ (ji26)
                            · rw [if_pos c27] at H
                              have c27b0 := eq_true c27
                              have c27b1 : decide (0 ≤ (ji26)) = true := decide_eq_true c27
                              clear c27
                              by_cases c28 : (ji26 : Int).toNat ≤ 281474976710656
                              · rw [if_pos c28] at H
                                have c28b0 := eq_true c28
                                have c28b1 : decide ((ji26 : Int).toNat ≤ 281474976710656) = true := decide_eq_true c28
                                clear c28
                                obtain ⟨y164, hy164⟩ : ∃ y_ : List Int, y_ = (List.replicate (ji26 : Int).toNat 0) := ⟨_, rfl⟩
                                replace H : ((delta_Make.f k t146 (strOfNums y164)).bind fun t167 => (if t167.toList = ([] : List UInt8) then ((ammonitelaw3_DeltaRuns.f k).bind fun t168 => (some t168)) else (some false))) = some r := by first | (rw [hy164]; with_reducible exact H) | (have H2_ := (Option.bind_some _ _).symm.trans H; rw [hy164]; with_reducible exact H2_) | (have H2_ := (Option.bind_some _ _).symm.trans H; with_reducible exact H2_) | with_reducible exact H | (rw [hy164]; exact H) | exact H
                                have Ny164 := Aside0.mk hy164
                                clear hy164
                                replace H := Option.bind_eq_some_iff.mp H
                                obtain ⟨t167, A290, H⟩ := H
                                replace H : (if t167.toList = ([] : List UInt8) then ((ammonitelaw3_DeltaRuns.f k).bind fun t168 => (some t168)) else (some false)) = some r := H
                                have A29 := Aside0.mk A290
                                clear A290
                                by_cases c30 : t167.toList = ([] : List UInt8)
                                · rw [if_pos c30] at H
                                  have c30b0 : (t167.toList == ([] : List UInt8)) = true := beq_iff_eq.mpr c30
                                  have c30b1 : (t167.toList != ([] : List UInt8)) = false := bne_eq_false_iff_eq.mpr c30
                                  clear c30
                                  replace H := Option.bind_eq_some_iff.mp H
                                  obtain ⟨t168, A310, H⟩ := H
                                  replace H : (some t168) = some r := H
                                  have A31 := Aside0.mk A310
                                  clear A310
                                  obtain rfl := Option.some.inj H
                                  go_enter Try.func12, Try.ntmps12
                                  try go_wp2_with (first | ((with_reducible refine gate_dst (N := 2) rfl ?_); (try (refine gate_guard (by rfl) ?_; dsimp only)); refine box_event ?hg (N := 2) ?hd (cs := #[.int .i64 a0_0, .slice A0_1 l0_1.length c0_1]) (t := 37) ?hr ?_; (case hd => rfl); (case hg => rfl); (case hr => first | (go_simp; done) | (go_simp; rfl)); intro gb145 hg w32 hbox hb; have n0_ := Aside0.mk (below_step (by repeat (first | (with_reducible first | exact HB.out | apply below_alloc | apply pw_below_drewN | apply below_drew1) | exact HB.out)) hb); have n1_ := Aside0.mk (hbox); have n2_ := Aside0.mk ((by rw [hg]; exact (below_size (by repeat (first | (with_reducible first | exact HB.out | apply below_alloc | apply pw_below_drewN | apply below_drew1) | exact HB.out))) : w.heap.size ≤ gb145)); have n3_ := Aside0.mk ((by rw [hg]; exact (below_size (by repeat (first | (with_reducible first | exact HB.out | apply below_alloc | apply pw_below_drewN | apply below_drew1) | exact HB.out))) : w.heap.size ≤ gb145)); clear HB; have HB := n0_; have BK145 := n1_; have GW145 := n2_; have GE145 := n3_; clear n0_ n1_ n2_ n3_; clear hb hbox hg; have hcz33_0 : w32.cell? ⟨gb145, 0, none⟩ = some (.int .i64 a0_0) := (blk_cell BK145.out 0).trans rfl; have hcz33_1 : w32.cell? ⟨gb145, 1, none⟩ = some (.slice A0_1 l0_1.length c0_1) := (blk_cell BK145.out 1).trans rfl; have hfz33_0 := blk_frozen BK145.out 0; have hfz33_1 := blk_frozen BK145.out 1) | ((with_reducible refine gate_callee (f := 22) rfl ?_); refine goesL_ (some 17) rfl rfl Try.func22 (by kernel_rfl) rfl #[.agg #[.int .i64 a0_0, .slice A0_1 l0_1.length c0_1]] rfl (by (try simp only [List.map_toArray, List.map_cons, List.map_nil]); first | done | rfl | (simp only [List.length_drop, List.length_take]; rfl)) ?_; (with_reducible refine (ammonitekeep_Text_Text.calls k a0_0 _ _ l0_1 t146 _ ?side1 ?side2 A3.out).mono ?_); (case side1 => repeat (first | exact (Kd.C_below HR0_1.out HB.out) | (with_reducible refine Kd.C_alloc ?_ _) | (with_reducible refine Kd.C_drewN ?_ _) | (with_reducible refine Kd.C_drew ?_))); (case side2 => exact HC0_1.out); rintro e w34 ⟨rfl, hb⟩; refine ⟨_, rfl, ?_⟩; have n0_ := Aside0.mk (blk_below (g := gb145) (o := .cells #[.int .i64 a0_0, .slice A0_1 l0_1.length c0_1] 37 (0, 0)) (by (with_reducible repeat (first | refine blk_drewN ?_ _ | refine blk_drew ?_ | refine blk_alloc ?_ _)); exact BK145.out) hb); have n1_ := Aside0.mk (below_step (by repeat (first | (with_reducible first | exact HB.out | apply below_alloc | apply pw_below_drewN | apply below_drew1 | refine below_set ?_ GE145.out) | exact HB.out)) hb); clear BK145; clear HB; have BK145 := n0_; have HB := n1_; clear n0_ n1_; (try clear hb); (try clear hb2); (try clear hk); (try clear hi)) | ((with_reducible refine gate_callee (f := 17) rfl ?_); refine goesL_ (some 19) rfl rfl Try.func17 (by kernel_rfl) rfl #[.int .i64 a1, .int .i64 0, .int .i64 3] rfl (by (try simp only [List.map_toArray, List.map_cons, List.map_nil]); first | done | rfl | (simp only [List.length_drop, List.length_take]; rfl)) ?_; (with_reducible refine (ammonitebook_Within.calls a1 0 3 t147 _ A4.out).mono ?_); rintro e w' ⟨rfl, ⟨nd, rfl⟩⟩; refine ⟨_, rfl, ?_⟩) | ((with_reducible refine gate_dst (N := 22) rfl ?_); (try (refine gate_guard (by rfl) ?_; dsimp only)); refine Kd.R_make (Kd.int .u8) _ 5 rfl (N := 22) rfl 26 _ _ rfl ji5 rfl rfl Try.underlying26 (.int .u8 0) 1 info5 rfl (by decide) (by omega) 0 (ok := fun _ => True) (okp := fun _ => True) rfl (fun _ hk => hk) trivial (of_decide_eq_true (by first | (with_reducible assumption) | assumption)) (Nat.le_trans (Nat.mul_le_mul_right _ (of_decide_eq_true (by first | (with_reducible assumption) | assumption) : ji5.toNat ≤ 281474976710656)) (by omega)) (Below.refl _ _) (Nat.le_refl _) ?_; intro v149 w35 ho36 hb hg_ hnew_; clear hg_ hnew_; (first | rw [← Ny148.out] at ho36 | (simp only [Int.reduceToNat] at ho36; rw [← Ny148.out] at ho36)); have n0_ := Aside0.mk (Kd.R_lower ho36 (below_size (by repeat (first | (with_reducible first | exact HB.out | apply below_alloc | apply pw_below_drewN | apply below_drew1 | refine below_set ?_ GE145.out) | exact HB.out)))); have n1_ := Aside0.mk (blk_below (g := gb145) (o := .cells #[.int .i64 a0_0, .slice A0_1 l0_1.length c0_1] 37 (0, 0)) (by (with_reducible repeat (first | refine blk_drewN ?_ _ | refine blk_drew ?_ | refine blk_alloc ?_ _)); exact BK145.out) hb); have n2_ := Aside0.mk (below_step (by repeat (first | (with_reducible first | exact HB.out | apply below_alloc | apply pw_below_drewN | apply below_drew1 | refine below_set ?_ GE145.out) | exact HB.out)) hb); clear BK145; clear HB; have HO150 := n0_; have BK145 := n1_; have HB := n2_; clear n0_ n1_ n2_; clear hb ho36; have hcv37 := own_string (P := Try.prog) Try.underlying26 Try.underlying5 Try.underlying9 (Kd.own_of_R HO150.out)) | ((with_reducible refine gate_callee (f := 28) rfl ?_); refine goesL_ (some 26) rfl rfl Try.func28 (by kernel_rfl) rfl #[.string t146, .string (strOfNums y148)] rfl (by (try simp only [List.map_toArray, List.map_cons, List.map_nil]); first | done | rfl | (simp only [List.length_drop, List.length_take]; rfl)) ?_; (with_reducible refine (delta_Make.calls k t146 (strOfNums y148) t151 _ A8.out).mono ?_); rintro e w38 ⟨rfl, hb⟩; refine ⟨_, rfl, ?_⟩; have n0_ := Aside0.mk (Kd.R_below (by (with_reducible repeat (first | apply Kd.R_alloc | apply Kd.R_drewN | apply Kd.R_drew)); exact HO150.out) hb); have n1_ := Aside0.mk (blk_below (g := gb145) (o := .cells #[.int .i64 a0_0, .slice A0_1 l0_1.length c0_1] 37 (0, 0)) (by (with_reducible repeat (first | refine blk_drewN ?_ _ | refine blk_drew ?_ | refine blk_alloc ?_ _)); exact BK145.out) hb); have n2_ := Aside0.mk (below_step (by repeat (first | (with_reducible first | exact HB.out | apply below_alloc | apply pw_below_drewN | apply below_drew1 | refine below_set ?_ GE145.out) | exact HB.out)) hb); clear HO150; clear BK145; clear HB; have HO150 := n0_; have BK145 := n1_; have HB := n2_; clear n0_ n1_ n2_; (try clear hb); (try clear hb2); (try clear hk); (try clear hi)) | ((with_reducible refine gate_callee (f := 20) rfl ?_); refine goesL_ (some 30) rfl rfl Try.func20 (by kernel_rfl) rfl #[.string t146, .string t151] rfl (by (try simp only [List.map_toArray, List.map_cons, List.map_nil]); first | done | rfl | (simp only [List.length_drop, List.length_take]; rfl)) ?_; (with_reducible refine (delta_Apply.calls k t146 t151 t152 true _ A9.out).mono ?_); rintro e w' ⟨rfl, ⟨nd, rfl⟩⟩; refine ⟨_, rfl, ?_⟩) | ((with_reducible refine gate_callee (f := 28) rfl ?_); refine goesL_ (some 36) rfl rfl Try.func28 (by kernel_rfl) rfl #[.string t146, .string (⟨#[]⟩ : ByteArray)] rfl (by (try simp only [List.map_toArray, List.map_cons, List.map_nil]); first | done | rfl | (simp only [List.length_drop, List.length_take]; rfl)) ?_; (with_reducible refine (delta_Make.calls k t146 (⟨#[]⟩ : ByteArray) t154 _ A10.out).mono ?_); rintro e w39 ⟨rfl, hb⟩; refine ⟨_, rfl, ?_⟩; have n0_ := Aside0.mk (Kd.R_below (by (with_reducible repeat (first | apply Kd.R_alloc | apply Kd.R_drewN | apply Kd.R_drew)); exact HO150.out) hb); have n1_ := Aside0.mk (blk_below (g := gb145) (o := .cells #[.int .i64 a0_0, .slice A0_1 l0_1.length c0_1] 37 (0, 0)) (by (with_reducible repeat (first | refine blk_drewN ?_ _ | refine blk_drew ?_ | refine blk_alloc ?_ _)); exact BK145.out) hb); have n2_ := Aside0.mk (below_step (by repeat (first | (with_reducible first | exact HB.out | apply below_alloc | apply pw_below_drewN | apply below_drew1 | refine below_set ?_ GE145.out) | exact HB.out)) hb); clear HO150; clear BK145; clear HB; have HO150 := n0_; have BK145 := n1_; have HB := n2_; clear n0_ n1_ n2_; (try clear hb); (try clear hb2); (try clear hk); (try clear hi)) | ((with_reducible refine gate_callee (f := 20) rfl ?_); refine goesL_ (some 37) rfl rfl Try.func20 (by kernel_rfl) rfl #[.string t146, .string t154] rfl (by (try simp only [List.map_toArray, List.map_cons, List.map_nil]); first | done | rfl | (simp only [List.length_drop, List.length_take]; rfl)) ?_; (with_reducible refine (delta_Apply.calls k t146 t154 t155 true _ A11.out).mono ?_); rintro e w' ⟨rfl, ⟨nd, rfl⟩⟩; refine ⟨_, rfl, ?_⟩))
                                  (try (rw [drewN_self w39]; generalize hq_ : World.drewN w39 _ = w39; have n0_ : Aside0 (Kd.R (Kd.int .u8) 5 w39 w.heap.size (fun _ => True) v149 y148) := ⟨by rw [← hq_]; exact (by (with_reducible repeat (first | apply Kd.R_alloc | apply Kd.R_drewN | apply Kd.R_drew)); exact HO150.out)⟩; have n1_ : Aside0 (w39.heap[gb145]? = some (.cells #[.int .i64 a0_0, .slice A0_1 l0_1.length c0_1] 37 (0, 0))) := ⟨by rw [← hq_]; exact (by (with_reducible repeat (first | refine blk_drewN ?_ _ | refine blk_drew ?_ | refine blk_alloc ?_ _)); exact BK145.out)⟩; have n2_ : Aside0 (Below w.heap.size w w39) := ⟨by rw [← hq_]; exact (by repeat (first | (with_reducible first | exact HB.out | apply below_alloc | apply pw_below_drewN | apply below_drew1 | refine below_set ?_ GE145.out) | exact HB.out))⟩; clear HO150 BK145 HB hq_; have HO150 := n0_; have BK145 := n1_; have HB := n2_; clear n0_ n1_ n2_))
                                  have n0_ := Aside0.mk (Kd.R_drew HO150.out)
                                  have n1_ := Aside0.mk (blk_drew BK145.out)
                                  have n2_ := Aside0.mk (below_drew1 HB.out)
                                  clear HO150
                                  clear BK145
                                  clear HB
                                  have HO150 := n0_
                                  have BK145 := n1_
                                  have HB := n2_
                                  clear n0_ n1_ n2_
                                  refine start_ (n := 10) (S := fun w' => True) (ds := []) #[false, false, false, false, false, false, false, false, false, false] (by kernel_rfl) rfl rfl trivial (fun hHeld => ?_); refine with_tabW ammonitelaw3_DeltaLimits.tab7 ammonitelaw3_DeltaLimits.bits7 (fun HT_ HW_ => ?_)
                                  generalize w39.drew = w40 at HO150 BK145 HB hHeld ⊢
                                  refine join_ (σ := Value) 3 #[true, true, true, true, true, true, true, false, false, false] (fun s_ => [(40, .string t157), (42, .string t158), (45, s_), (46, .string (strOfNums y159)), (41, .string (catS t157 (⟨#[10]⟩ : ByteArray))), (43, .string (catS (catS t157 (⟨#[10]⟩ : ByteArray)) t158)), (44, .string (catS (catS (catS t157 (⟨#[10]⟩ : ByteArray)) t158) (⟨#[58]⟩ : ByteArray)))]) (fun s_ w' => (Kd.R (Kd.int .u8) 5 w' w.heap.size (fun k_ => some k_ ≠ (s_ : Value).ownBlock) v149 y148) ∧ (Kd.R (Kd.int .u8) 5 w' w.heap.size (fun k_ => some k_ ≠ (v149 : Value).ownBlock) s_ y159) ∧ (w'.heap[gb145]? = some (.cells #[.int .i64 a0_0, .slice A0_1 l0_1.length c0_1] 37 (0, 0))) ∧ (Below w.heap.size w w')) ?_ ?_
                                  rotate_left
                                  · intro hJ0_2_5_6
                                    refine join_ (σ := Value) 4 #[true, true, true, true, true, true, false, false, false, false] (fun s_ => [(40, .string t157), (42, .string t158), (45, s_), (41, .string (catS t157 (⟨#[10]⟩ : ByteArray))), (43, .string (catS (catS t157 (⟨#[10]⟩ : ByteArray)) t158)), (44, .string (catS (catS (catS t157 (⟨#[10]⟩ : ByteArray)) t158) (⟨#[58]⟩ : ByteArray)))]) (fun s_ w' => (Kd.R (Kd.int .u8) 5 w' w.heap.size (fun k_ => some k_ ≠ (s_ : Value).ownBlock) v149 y148) ∧ (Kd.R (Kd.int .u8) 5 w' w.heap.size (fun k_ => some k_ ≠ (v149 : Value).ownBlock) s_ y159) ∧ (w'.heap[gb145]? = some (.cells #[.int .i64 a0_0, .slice A0_1 l0_1.length c0_1] 37 (0, 0))) ∧ (Below w.heap.size w w')) ?_ ?_
                                    rotate_left
                                    · intro hJ0_2_5
                                      refine join_ (σ := Value) 6 #[true, true, false, false, false, true, true, false, false, false] (fun s_ => [(40, .string t157), (45, s_), (46, .string (strOfNums y159)), (41, .string (catS t157 (⟨#[10]⟩ : ByteArray)))]) (fun s_ w' => (Kd.R (Kd.int .u8) 5 w' w.heap.size (fun k_ => some k_ ≠ (s_ : Value).ownBlock) v149 y148) ∧ (Kd.R (Kd.int .u8) 5 w' w.heap.size (fun k_ => some k_ ≠ (v149 : Value).ownBlock) s_ y159) ∧ (w'.heap[gb145]? = some (.cells #[.int .i64 a0_0, .slice A0_1 l0_1.length c0_1] 37 (0, 0))) ∧ (Below w.heap.size w w')) ?_ ?_
                                      rotate_left
                                      · intro hJ0_5_6
                                        refine join_ (σ := Unit) 5 #[true, true, true, true, true, false, false, false, false, false] (fun s_ => [(40, .string t157), (42, .string t158), (41, .string (catS t157 (⟨#[10]⟩ : ByteArray))), (43, .string (catS (catS t157 (⟨#[10]⟩ : ByteArray)) t158)), (44, .string (catS (catS (catS t157 (⟨#[10]⟩ : ByteArray)) t158) (⟨#[58]⟩ : ByteArray)))]) (fun s_ w' => (Kd.R (Kd.int .u8) 5 w' w.heap.size (fun _ => True) v149 y148) ∧ (w'.heap[gb145]? = some (.cells #[.int .i64 a0_0, .slice A0_1 l0_1.length c0_1] 37 (0, 0))) ∧ (Below w.heap.size w w')) ?_ ?_
                                        rotate_left
                                        · intro hJ0_2
                                          refine join_ (σ := Value) 7 #[true, true, false, false, false, true, false, false, false, false] (fun s_ => [(40, .string t157), (45, s_), (41, .string (catS t157 (⟨#[10]⟩ : ByteArray)))]) (fun s_ w' => (Kd.R (Kd.int .u8) 5 w' w.heap.size (fun k_ => some k_ ≠ (s_ : Value).ownBlock) v149 y148) ∧ (Kd.R (Kd.int .u8) 5 w' w.heap.size (fun k_ => some k_ ≠ (v149 : Value).ownBlock) s_ y159) ∧ (w'.heap[gb145]? = some (.cells #[.int .i64 a0_0, .slice A0_1 l0_1.length c0_1] 37 (0, 0))) ∧ (Below w.heap.size w w')) ?_ ?_
                                          rotate_left
                                          · intro hJ0_5
                                            refine join_ (σ := Value) 8 #[false, false, false, false, false, true, true, false, false, false] (fun s_ => [(45, s_), (46, .string (strOfNums y159))]) (fun s_ w' => (Kd.R (Kd.int .u8) 5 w' w.heap.size (fun k_ => some k_ ≠ (s_ : Value).ownBlock) v149 y148) ∧ (Kd.R (Kd.int .u8) 5 w' w.heap.size (fun k_ => some k_ ≠ (v149 : Value).ownBlock) s_ y159) ∧ (w'.heap[gb145]? = some (.cells #[.int .i64 a0_0, .slice A0_1 l0_1.length c0_1] 37 (0, 0))) ∧ (Below w.heap.size w w')) ?_ ?_
                                            rotate_left
                                            · intro hJ5_6
                                              refine join_ (σ := Unit) 8 #[true, true, false, false, false, false, false, false, false, false] (fun s_ => [(40, .string t157), (41, .string (catS t157 (⟨#[10]⟩ : ByteArray)))]) (fun s_ w' => (Kd.R (Kd.int .u8) 5 w' w.heap.size (fun _ => True) v149 y148) ∧ (w'.heap[gb145]? = some (.cells #[.int .i64 a0_0, .slice A0_1 l0_1.length c0_1] 37 (0, 0))) ∧ (Below w.heap.size w w')) ?_ ?_
                                              rotate_left
                                              · intro hJ0
                                                refine join_ (σ := Value) 9 #[false, false, false, false, false, true, false, false, false, false] (fun s_ => [(45, s_)]) (fun s_ w' => (Kd.R (Kd.int .u8) 5 w' w.heap.size (fun k_ => some k_ ≠ (s_ : Value).ownBlock) v149 y148) ∧ (Kd.R (Kd.int .u8) 5 w' w.heap.size (fun k_ => some k_ ≠ (v149 : Value).ownBlock) s_ y159) ∧ (w'.heap[gb145]? = some (.cells #[.int .i64 a0_0, .slice A0_1 l0_1.length c0_1] 37 (0, 0))) ∧ (Below w.heap.size w w')) ?_ ?_
                                                rotate_left
                                                · intro hJ5
                                                  refine two_ (i := 0) (j := 5) (Ni := some 40) (Nj := some 45) #[true, false, false, false, false, false, false, false, false, false] #[false, false, false, false, false, true, false, false, false, false] rfl rfl rfl rfl (two_of HT_.out (by kernel_rfl)) (by decide) (by decide) (fun K hK => ?_) (fun K hK => ?_)
                                                  · skip
                                                    refine goes_ Try.func18 (by kernel_rfl) rfl #[.int .i64 301] (by rfl) rfl rfl (by (try simp only [List.map_toArray, List.map_cons, List.map_nil]); first | done | rfl | (simp only [List.length_drop, List.length_take]; rfl)) ?_
                                                    with_reducible refine (digit_Put.calls k 301 t157 _ A12.out).mono ?_
                                                    rintro e w' ⟨rfl, ⟨nd, rfl⟩⟩
                                                    refine ⟨_, rfl, ?_⟩
                                                    refine hK.out _ _ trivial (fun hHeld => ?_)
                                                    clear hK K
                                                    refine norm_ (a' := ?_) ?_ ?_
                                                    rotate_left
                                                    · show Act.put _ (some 40) _ = _
                                                      simp only [Act.put, List.setIfInBounds_toArray, List.set_cons_zero, List.set_cons_succ, i64_w, i32_w]
                                                      rfl
                                                    refine pure_ (i := 1) (N := some 41) (v := ?_) (a' := ?_) #[true, true, false, false, false, false, false, false, false, false] rfl rfl (any_of HT_.out (by kernel_rfl)) (fun _ _ _ h => h) (Or.inl ⟨by rfl, ?_⟩) ?_ ?_
                                                    rotate_left
                                                    · intro w'
                                                      go_simp
                                                      with_reducible rfl
                                                    rotate_left
                                                    · simp only [Act.put, List.setIfInBounds_toArray, List.set_cons_zero, List.set_cons_succ, i64_w, i32_w]
                                                      rfl
                                                    exact norm_ (by first | (simp only [putAll, Act.put, List.setIfInBounds_toArray, List.set_cons_zero, List.set_cons_succ]; done) | (simp only [putAll, Act.put, List.setIfInBounds_toArray, List.set_cons_zero, List.set_cons_succ]; rfl)) (hJ0 () _ ⟨(by (with_reducible repeat (first | apply Kd.R_alloc | apply Kd.R_drewN | apply Kd.R_drew)); exact HO150.out), (by (with_reducible repeat (first | refine blk_drewN ?_ _ | refine blk_drew ?_ | refine blk_alloc ?_ _)); exact BK145.out), (by repeat (first | (with_reducible first | exact HB.out | apply below_alloc | apply pw_below_drewN | apply below_drew1 | refine below_set ?_ GE145.out) | exact HB.out))⟩)
                                                  · skip
                                                    refine Kd.R_make_step (Kd.int .u8) _ 5 (by rfl) (N := 45) rfl 26 _ _ rfl 301 rfl rfl Try.underlying26 (.int .u8 0) 1 info5 rfl (by decide) (by omega) 0 (ok := fun _ => True) (okp := fun _ => True) rfl (fun _ hk => hk) trivial (by omega) (by omega) (Below.refl _ _) (Nat.le_refl _) ?_
                                                    intro v160 w41 ho42 hb hg_ hnew_
                                                    clear hg_ hnew_
                                                    (first | rw [← Ny159.out] at ho42 | (simp only [Int.reduceToNat] at ho42; rw [← Ny159.out] at ho42))
                                                    have n0_ := Aside0.mk (Kd.R_elder' (by (with_reducible repeat (first | apply Kd.R_alloc | apply Kd.R_drewN | apply Kd.R_drew)); exact HO150.out) (Kd.R_base ho42) hb)
                                                    have n1_ := Aside0.mk (Kd.R_lower (Kd.R_new' ho42 (Kd.R_lt (by (with_reducible repeat (first | apply Kd.R_alloc | apply Kd.R_drewN | apply Kd.R_drew)); exact HO150.out))) (below_size (by repeat (first | (with_reducible first | exact HB.out | apply below_alloc | apply pw_below_drewN | apply below_drew1 | refine below_set ?_ GE145.out) | exact HB.out))))
                                                    have n2_ := Aside0.mk (blk_below (g := gb145) (o := .cells #[.int .i64 a0_0, .slice A0_1 l0_1.length c0_1] 37 (0, 0)) (by (with_reducible repeat (first | refine blk_drewN ?_ _ | refine blk_drew ?_ | refine blk_alloc ?_ _)); exact BK145.out) hb)
                                                    have n3_ := Aside0.mk (below_step (by repeat (first | (with_reducible first | exact HB.out | apply below_alloc | apply pw_below_drewN | apply below_drew1 | refine below_set ?_ GE145.out) | exact HB.out)) hb)
                                                    clear HO150
                                                    clear BK145
                                                    clear HB
                                                    have HO150 := n0_
                                                    have HO161 := n1_
                                                    have BK145 := n2_
                                                    have HB := n3_
                                                    clear n0_ n1_ n2_ n3_
                                                    clear hb ho42
                                                    refine hK.out _ _ trivial (fun hHeld => ?_)
                                                    clear hK K
                                                    refine norm_ (a' := ?_) ?_ ?_
                                                    rotate_left
                                                    · show Act.put _ (some 45) _ = _
                                                      simp only [Act.put, List.setIfInBounds_toArray, List.set_cons_zero, List.set_cons_succ, i64_w, i32_w]
                                                      rfl
                                                    exact norm_ (by first | (simp only [putAll, Act.put, List.setIfInBounds_toArray, List.set_cons_zero, List.set_cons_succ]; done) | (simp only [putAll, Act.put, List.setIfInBounds_toArray, List.set_cons_zero, List.set_cons_succ]; rfl)) (hJ5 (v160) _ ⟨(by (with_reducible repeat (first | apply Kd.R_alloc | apply Kd.R_drewN | apply Kd.R_drew)); exact Kd.R_mono HO150.out (fun _ hk => hk.2)), (by (with_reducible repeat (first | apply Kd.R_alloc | apply Kd.R_drewN | apply Kd.R_drew)); exact Kd.R_mono HO161.out (fun _ hk => hk.2)), (by (with_reducible repeat (first | refine blk_drewN ?_ _ | refine blk_drew ?_ | refine blk_alloc ?_ _)); exact BK145.out), (by repeat (first | (with_reducible first | exact HB.out | apply below_alloc | apply pw_below_drewN | apply below_drew1 | refine below_set ?_ GE145.out) | exact HB.out))⟩)
                                                · skip
                                                  rintro v160 w43 ⟨h0_, h1_, h2_, h3_⟩
                                                  have n0_ : Aside0 (Kd.R (Kd.int .u8) 5 w43 w.heap.size (fun k_ => some k_ ≠ (v160 : Value).ownBlock) v149 y148) := ⟨h0_⟩
                                                  have n1_ : Aside0 (Kd.R (Kd.int .u8) 5 w43 w.heap.size (fun k_ => some k_ ≠ (v149 : Value).ownBlock) v160 y159) := ⟨h1_⟩
                                                  have n2_ : Aside0 (w43.heap[gb145]? = some (.cells #[.int .i64 a0_0, .slice A0_1 l0_1.length c0_1] 37 (0, 0))) := ⟨h2_⟩
                                                  have n3_ : Aside0 (Below w.heap.size w w43) := ⟨h3_⟩
                                                  clear HO150
                                                  clear BK145
                                                  clear HB
                                                  clear h0_ h1_ h2_ h3_
                                                  have HO150 := n0_
                                                  have HO161 := n1_
                                                  have BK145 := n2_
                                                  have HB := n3_
                                                  clear n0_ n1_ n2_ n3_
                                                  have hHeld := trivial
                                                  refine norm_ (a' := ?_) ?_ ?_
                                                  rotate_left
                                                  · simp only [putAll, Act.put, List.setIfInBounds_toArray, List.set_cons_zero, List.set_cons_succ]
                                                    rfl
                                                  refine two_ (i := 0) (j := 6) (Ni := some 40) (Nj := some 46) #[true, false, false, false, false, true, false, false, false, false] #[false, false, false, false, false, true, true, false, false, false] rfl rfl rfl rfl (two_of HT_.out (by kernel_rfl)) (by decide) (by decide) (fun K hK => ?_) (fun K hK => ?_)
                                                  · skip
                                                    refine goes_ Try.func18 (by kernel_rfl) rfl #[.int .i64 301] (by rfl) rfl rfl (by (try simp only [List.map_toArray, List.map_cons, List.map_nil]); first | done | rfl | (simp only [List.length_drop, List.length_take]; rfl)) ?_
                                                    with_reducible refine (digit_Put.calls k 301 t157 _ A12.out).mono ?_
                                                    rintro e w' ⟨rfl, ⟨nd, rfl⟩⟩
                                                    refine ⟨_, rfl, ?_⟩
                                                    refine hK.out _ _ trivial (fun hHeld => ?_)
                                                    clear hK K
                                                    refine norm_ (a' := ?_) ?_ ?_
                                                    rotate_left
                                                    · show Act.put _ (some 40) _ = _
                                                      simp only [Act.put, List.setIfInBounds_toArray, List.set_cons_zero, List.set_cons_succ, i64_w, i32_w]
                                                      rfl
                                                    refine pure_ (i := 1) (N := some 41) (v := ?_) (a' := ?_) #[true, true, false, false, false, true, false, false, false, false] rfl rfl (any_of HT_.out (by kernel_rfl)) (fun _ _ _ h => h) (Or.inl ⟨by rfl, ?_⟩) ?_ ?_
                                                    rotate_left
                                                    · intro w'
                                                      go_simp
                                                      with_reducible rfl
                                                    rotate_left
                                                    · simp only [Act.put, List.setIfInBounds_toArray, List.set_cons_zero, List.set_cons_succ, i64_w, i32_w]
                                                      rfl
                                                    exact norm_ (by first | (simp only [putAll, Act.put, List.setIfInBounds_toArray, List.set_cons_zero, List.set_cons_succ]; done) | (simp only [putAll, Act.put, List.setIfInBounds_toArray, List.set_cons_zero, List.set_cons_succ]; rfl)) (hJ0_5 (v160) _ ⟨(by (with_reducible repeat (first | apply Kd.R_alloc | apply Kd.R_drewN | apply Kd.R_drew)); exact HO150.out), (by (with_reducible repeat (first | apply Kd.R_alloc | apply Kd.R_drewN | apply Kd.R_drew)); exact HO161.out), (by (with_reducible repeat (first | refine blk_drewN ?_ _ | refine blk_drew ?_ | refine blk_alloc ?_ _)); exact BK145.out), (by repeat (first | (with_reducible first | exact HB.out | apply below_alloc | apply pw_below_drewN | apply below_drew1 | refine below_set ?_ GE145.out) | exact HB.out))⟩)
                                                  · skip
                                                    have hcv44 := own_string (P := Try.prog) Try.underlying26 Try.underlying5 Try.underlying9 (Kd.own_of_R HO161.out)
                                                    refine value_ (w1 := ?_) (v := ?_) (by rfl) rfl ?_ ?_
                                                    rotate_left 2
                                                    · go_simp
                                                      constructor
                                                      · rfl
                                                      · rfl
                                                    clear hcv44
                                                    refine hK.out _ _ trivial (fun hHeld => ?_)
                                                    clear hK K
                                                    refine norm_ (a' := ?_) ?_ ?_
                                                    rotate_left
                                                    · show Act.put _ (some 46) _ = _
                                                      simp only [Act.put, List.setIfInBounds_toArray, List.set_cons_zero, List.set_cons_succ, i64_w, i32_w]
                                                      rfl
                                                    exact norm_ (by first | (simp only [putAll, Act.put, List.setIfInBounds_toArray, List.set_cons_zero, List.set_cons_succ]; done) | (simp only [putAll, Act.put, List.setIfInBounds_toArray, List.set_cons_zero, List.set_cons_succ]; rfl)) (hJ5_6 (v160) _ ⟨(by (with_reducible repeat (first | apply Kd.R_alloc | apply Kd.R_drewN | apply Kd.R_drew)); exact HO150.out), (by (with_reducible repeat (first | apply Kd.R_alloc | apply Kd.R_drewN | apply Kd.R_drew)); exact HO161.out), (by (with_reducible repeat (first | refine blk_drewN ?_ _ | refine blk_drew ?_ | refine blk_alloc ?_ _)); exact BK145.out), (by repeat (first | (with_reducible first | exact HB.out | apply below_alloc | apply pw_below_drewN | apply below_drew1 | refine below_set ?_ GE145.out) | exact HB.out))⟩)
                                              · skip
                                                rintro _ w41 ⟨h0_, h1_, h2_⟩
                                                have n0_ : Aside0 (Kd.R (Kd.int .u8) 5 w41 w.heap.size (fun _ => True) v149 y148) := ⟨h0_⟩
                                                have n1_ : Aside0 (w41.heap[gb145]? = some (.cells #[.int .i64 a0_0, .slice A0_1 l0_1.length c0_1] 37 (0, 0))) := ⟨h1_⟩
                                                have n2_ : Aside0 (Below w.heap.size w w41) := ⟨h2_⟩
                                                clear HO150
                                                clear BK145
                                                clear HB
                                                clear h0_ h1_ h2_
                                                have HO150 := n0_
                                                have BK145 := n1_
                                                have HB := n2_
                                                clear n0_ n1_ n2_
                                                have hHeld := trivial
                                                refine norm_ (a' := ?_) ?_ ?_
                                                rotate_left
                                                · simp only [putAll, Act.put, List.setIfInBounds_toArray, List.set_cons_zero, List.set_cons_succ]
                                                  rfl
                                                refine two_ (i := 2) (j := 5) (Ni := some 42) (Nj := some 45) #[true, true, true, false, false, false, false, false, false, false] #[true, true, false, false, false, true, false, false, false, false] rfl rfl rfl rfl (two_of HT_.out (by kernel_rfl)) (by decide) (by decide) (fun K hK => ?_) (fun K hK => ?_)
                                                · skip
                                                  refine goes_ Try.func18 (by kernel_rfl) rfl #[.int .i64 301] (by rfl) rfl rfl (by (try simp only [List.map_toArray, List.map_cons, List.map_nil]); first | done | rfl | (simp only [List.length_drop, List.length_take]; rfl)) ?_
                                                  with_reducible refine (digit_Put.calls k 301 t158 _ A14.out).mono ?_
                                                  rintro e w' ⟨rfl, ⟨nd, rfl⟩⟩
                                                  refine ⟨_, rfl, ?_⟩
                                                  refine hK.out _ _ trivial (fun hHeld => ?_)
                                                  clear hK K
                                                  refine norm_ (a' := ?_) ?_ ?_
                                                  rotate_left
                                                  · show Act.put _ (some 42) _ = _
                                                    simp only [Act.put, List.setIfInBounds_toArray, List.set_cons_zero, List.set_cons_succ, i64_w, i32_w]
                                                    rfl
                                                  refine pure_ (i := 3) (N := some 43) (v := ?_) (a' := ?_) #[true, true, true, true, false, false, false, false, false, false] rfl rfl (any_of HT_.out (by kernel_rfl)) (fun _ _ _ h => h) (Or.inl ⟨by rfl, ?_⟩) ?_ ?_
                                                  rotate_left
                                                  · intro w'
                                                    go_simp
                                                    with_reducible rfl
                                                  rotate_left
                                                  · simp only [Act.put, List.setIfInBounds_toArray, List.set_cons_zero, List.set_cons_succ, i64_w, i32_w]
                                                    rfl
                                                  refine pure_ (i := 4) (N := some 44) (v := ?_) (a' := ?_) #[true, true, true, true, true, false, false, false, false, false] rfl rfl (any_of HT_.out (by kernel_rfl)) (fun _ _ _ h => h) (Or.inl ⟨by rfl, ?_⟩) ?_ ?_
                                                  rotate_left
                                                  · intro w'
                                                    go_simp
                                                    with_reducible rfl
                                                  rotate_left
                                                  · simp only [Act.put, List.setIfInBounds_toArray, List.set_cons_zero, List.set_cons_succ, i64_w, i32_w]
                                                    rfl
                                                  exact norm_ (by first | (simp only [putAll, Act.put, List.setIfInBounds_toArray, List.set_cons_zero, List.set_cons_succ]; done) | (simp only [putAll, Act.put, List.setIfInBounds_toArray, List.set_cons_zero, List.set_cons_succ]; rfl)) (hJ0_2 () _ ⟨(by (with_reducible repeat (first | apply Kd.R_alloc | apply Kd.R_drewN | apply Kd.R_drew)); exact HO150.out), (by (with_reducible repeat (first | refine blk_drewN ?_ _ | refine blk_drew ?_ | refine blk_alloc ?_ _)); exact BK145.out), (by repeat (first | (with_reducible first | exact HB.out | apply below_alloc | apply pw_below_drewN | apply below_drew1 | refine below_set ?_ GE145.out) | exact HB.out))⟩)
                                                · skip
                                                  refine Kd.R_make_step (Kd.int .u8) _ 5 (by rfl) (N := 45) rfl 26 _ _ rfl 301 rfl rfl Try.underlying26 (.int .u8 0) 1 info5 rfl (by decide) (by omega) 0 (ok := fun _ => True) (okp := fun _ => True) rfl (fun _ hk => hk) trivial (by omega) (by omega) (Below.refl _ _) (Nat.le_refl _) ?_
                                                  intro v160 w42 ho43 hb hg_ hnew_
                                                  clear hg_ hnew_
                                                  (first | rw [← Ny159.out] at ho43 | (simp only [Int.reduceToNat] at ho43; rw [← Ny159.out] at ho43))
                                                  have n0_ := Aside0.mk (Kd.R_elder' (by (with_reducible repeat (first | apply Kd.R_alloc | apply Kd.R_drewN | apply Kd.R_drew)); exact HO150.out) (Kd.R_base ho43) hb)
                                                  have n1_ := Aside0.mk (Kd.R_lower (Kd.R_new' ho43 (Kd.R_lt (by (with_reducible repeat (first | apply Kd.R_alloc | apply Kd.R_drewN | apply Kd.R_drew)); exact HO150.out))) (below_size (by repeat (first | (with_reducible first | exact HB.out | apply below_alloc | apply pw_below_drewN | apply below_drew1 | refine below_set ?_ GE145.out) | exact HB.out))))
                                                  have n2_ := Aside0.mk (blk_below (g := gb145) (o := .cells #[.int .i64 a0_0, .slice A0_1 l0_1.length c0_1] 37 (0, 0)) (by (with_reducible repeat (first | refine blk_drewN ?_ _ | refine blk_drew ?_ | refine blk_alloc ?_ _)); exact BK145.out) hb)
                                                  have n3_ := Aside0.mk (below_step (by repeat (first | (with_reducible first | exact HB.out | apply below_alloc | apply pw_below_drewN | apply below_drew1 | refine below_set ?_ GE145.out) | exact HB.out)) hb)
                                                  clear HO150
                                                  clear BK145
                                                  clear HB
                                                  have HO150 := n0_
                                                  have HO161 := n1_
                                                  have BK145 := n2_
                                                  have HB := n3_
                                                  clear n0_ n1_ n2_ n3_
                                                  clear hb ho43
                                                  refine hK.out _ _ trivial (fun hHeld => ?_)
                                                  clear hK K
                                                  refine norm_ (a' := ?_) ?_ ?_
                                                  rotate_left
                                                  · show Act.put _ (some 45) _ = _
                                                    simp only [Act.put, List.setIfInBounds_toArray, List.set_cons_zero, List.set_cons_succ, i64_w, i32_w]
                                                    rfl
                                                  exact norm_ (by first | (simp only [putAll, Act.put, List.setIfInBounds_toArray, List.set_cons_zero, List.set_cons_succ]; done) | (simp only [putAll, Act.put, List.setIfInBounds_toArray, List.set_cons_zero, List.set_cons_succ]; rfl)) (hJ0_5 (v160) _ ⟨(by (with_reducible repeat (first | apply Kd.R_alloc | apply Kd.R_drewN | apply Kd.R_drew)); exact Kd.R_mono HO150.out (fun _ hk => hk.2)), (by (with_reducible repeat (first | apply Kd.R_alloc | apply Kd.R_drewN | apply Kd.R_drew)); exact Kd.R_mono HO161.out (fun _ hk => hk.2)), (by (with_reducible repeat (first | refine blk_drewN ?_ _ | refine blk_drew ?_ | refine blk_alloc ?_ _)); exact BK145.out), (by repeat (first | (with_reducible first | exact HB.out | apply below_alloc | apply pw_below_drewN | apply below_drew1 | refine below_set ?_ GE145.out) | exact HB.out))⟩)
                                            · skip
                                              rintro v160 w44 ⟨h0_, h1_, h2_, h3_⟩
                                              have n0_ : Aside0 (Kd.R (Kd.int .u8) 5 w44 w.heap.size (fun k_ => some k_ ≠ (v160 : Value).ownBlock) v149 y148) := ⟨h0_⟩
                                              have n1_ : Aside0 (Kd.R (Kd.int .u8) 5 w44 w.heap.size (fun k_ => some k_ ≠ (v149 : Value).ownBlock) v160 y159) := ⟨h1_⟩
                                              have n2_ : Aside0 (w44.heap[gb145]? = some (.cells #[.int .i64 a0_0, .slice A0_1 l0_1.length c0_1] 37 (0, 0))) := ⟨h2_⟩
                                              have n3_ : Aside0 (Below w.heap.size w w44) := ⟨h3_⟩
                                              clear HO150
                                              clear BK145
                                              clear HB
                                              clear h0_ h1_ h2_ h3_
                                              have HO150 := n0_
                                              have HO161 := n1_
                                              have BK145 := n2_
                                              have HB := n3_
                                              clear n0_ n1_ n2_ n3_
                                              have hHeld := trivial
                                              refine norm_ (a' := ?_) ?_ ?_
                                              rotate_left
                                              · simp only [putAll, Act.put, List.setIfInBounds_toArray, List.set_cons_zero, List.set_cons_succ]
                                                rfl
                                              refine one_ (i := 0) (N := some 40) #[true, false, false, false, false, true, true, false, false, false] rfl rfl (one_of HT_.out (by kernel_rfl)) (by decide) (fun K hK => ?_)
                                              refine goes_ Try.func18 (by kernel_rfl) rfl #[.int .i64 301] (by rfl) rfl rfl (by (try simp only [List.map_toArray, List.map_cons, List.map_nil]); first | done | rfl | (simp only [List.length_drop, List.length_take]; rfl)) ?_
                                              with_reducible refine (digit_Put.calls k 301 t157 _ A12.out).mono ?_
                                              rintro e w' ⟨rfl, ⟨nd, rfl⟩⟩
                                              refine ⟨_, rfl, ?_⟩
                                              refine hK.out _ _ trivial (fun hHeld => ?_)
                                              clear hK K
                                              refine norm_ (a' := ?_) ?_ ?_
                                              rotate_left
                                              · show Act.put _ (some 40) _ = _
                                                simp only [Act.put, List.setIfInBounds_toArray, List.set_cons_zero, List.set_cons_succ, i64_w, i32_w]
                                                rfl
                                              refine pure_ (i := 1) (N := some 41) (v := ?_) (a' := ?_) #[true, true, false, false, false, true, true, false, false, false] rfl rfl (any_of HT_.out (by kernel_rfl)) (fun _ _ _ h => h) (Or.inl ⟨by rfl, ?_⟩) ?_ ?_
                                              rotate_left
                                              · intro w'
                                                go_simp
                                                with_reducible rfl
                                              rotate_left
                                              · simp only [Act.put, List.setIfInBounds_toArray, List.set_cons_zero, List.set_cons_succ, i64_w, i32_w]
                                                rfl
                                              exact norm_ (by first | (simp only [putAll, Act.put, List.setIfInBounds_toArray, List.set_cons_zero, List.set_cons_succ]; done) | (simp only [putAll, Act.put, List.setIfInBounds_toArray, List.set_cons_zero, List.set_cons_succ]; rfl)) (hJ0_5_6 (v160) _ ⟨(by (with_reducible repeat (first | apply Kd.R_alloc | apply Kd.R_drewN | apply Kd.R_drew)); exact HO150.out), (by (with_reducible repeat (first | apply Kd.R_alloc | apply Kd.R_drewN | apply Kd.R_drew)); exact HO161.out), (by (with_reducible repeat (first | refine blk_drewN ?_ _ | refine blk_drew ?_ | refine blk_alloc ?_ _)); exact BK145.out), (by repeat (first | (with_reducible first | exact HB.out | apply below_alloc | apply pw_below_drewN | apply below_drew1 | refine below_set ?_ GE145.out) | exact HB.out))⟩)
                                          · skip
                                            rintro v160 w43 ⟨h0_, h1_, h2_, h3_⟩
                                            have n0_ : Aside0 (Kd.R (Kd.int .u8) 5 w43 w.heap.size (fun k_ => some k_ ≠ (v160 : Value).ownBlock) v149 y148) := ⟨h0_⟩
                                            have n1_ : Aside0 (Kd.R (Kd.int .u8) 5 w43 w.heap.size (fun k_ => some k_ ≠ (v149 : Value).ownBlock) v160 y159) := ⟨h1_⟩
                                            have n2_ : Aside0 (w43.heap[gb145]? = some (.cells #[.int .i64 a0_0, .slice A0_1 l0_1.length c0_1] 37 (0, 0))) := ⟨h2_⟩
                                            have n3_ : Aside0 (Below w.heap.size w w43) := ⟨h3_⟩
                                            clear HO150
                                            clear BK145
                                            clear HB
                                            clear h0_ h1_ h2_ h3_
                                            have HO150 := n0_
                                            have HO161 := n1_
                                            have BK145 := n2_
                                            have HB := n3_
                                            clear n0_ n1_ n2_ n3_
                                            have hHeld := trivial
                                            refine norm_ (a' := ?_) ?_ ?_
                                            rotate_left
                                            · simp only [putAll, Act.put, List.setIfInBounds_toArray, List.set_cons_zero, List.set_cons_succ]
                                              rfl
                                            refine two_ (i := 2) (j := 6) (Ni := some 42) (Nj := some 46) #[true, true, true, false, false, true, false, false, false, false] #[true, true, false, false, false, true, true, false, false, false] rfl rfl rfl rfl (two_of HT_.out (by kernel_rfl)) (by decide) (by decide) (fun K hK => ?_) (fun K hK => ?_)
                                            · skip
                                              refine goes_ Try.func18 (by kernel_rfl) rfl #[.int .i64 301] (by rfl) rfl rfl (by (try simp only [List.map_toArray, List.map_cons, List.map_nil]); first | done | rfl | (simp only [List.length_drop, List.length_take]; rfl)) ?_
                                              with_reducible refine (digit_Put.calls k 301 t158 _ A14.out).mono ?_
                                              rintro e w' ⟨rfl, ⟨nd, rfl⟩⟩
                                              refine ⟨_, rfl, ?_⟩
                                              refine hK.out _ _ trivial (fun hHeld => ?_)
                                              clear hK K
                                              refine norm_ (a' := ?_) ?_ ?_
                                              rotate_left
                                              · show Act.put _ (some 42) _ = _
                                                simp only [Act.put, List.setIfInBounds_toArray, List.set_cons_zero, List.set_cons_succ, i64_w, i32_w]
                                                rfl
                                              refine pure_ (i := 3) (N := some 43) (v := ?_) (a' := ?_) #[true, true, true, true, false, true, false, false, false, false] rfl rfl (any_of HT_.out (by kernel_rfl)) (fun _ _ _ h => h) (Or.inl ⟨by rfl, ?_⟩) ?_ ?_
                                              rotate_left
                                              · intro w'
                                                go_simp
                                                with_reducible rfl
                                              rotate_left
                                              · simp only [Act.put, List.setIfInBounds_toArray, List.set_cons_zero, List.set_cons_succ, i64_w, i32_w]
                                                rfl
                                              refine pure_ (i := 4) (N := some 44) (v := ?_) (a' := ?_) #[true, true, true, true, true, true, false, false, false, false] rfl rfl (any_of HT_.out (by kernel_rfl)) (fun _ _ _ h => h) (Or.inl ⟨by rfl, ?_⟩) ?_ ?_
                                              rotate_left
                                              · intro w'
                                                go_simp
                                                with_reducible rfl
                                              rotate_left
                                              · simp only [Act.put, List.setIfInBounds_toArray, List.set_cons_zero, List.set_cons_succ, i64_w, i32_w]
                                                rfl
                                              exact norm_ (by first | (simp only [putAll, Act.put, List.setIfInBounds_toArray, List.set_cons_zero, List.set_cons_succ]; done) | (simp only [putAll, Act.put, List.setIfInBounds_toArray, List.set_cons_zero, List.set_cons_succ]; rfl)) (hJ0_2_5 (v160) _ ⟨(by (with_reducible repeat (first | apply Kd.R_alloc | apply Kd.R_drewN | apply Kd.R_drew)); exact HO150.out), (by (with_reducible repeat (first | apply Kd.R_alloc | apply Kd.R_drewN | apply Kd.R_drew)); exact HO161.out), (by (with_reducible repeat (first | refine blk_drewN ?_ _ | refine blk_drew ?_ | refine blk_alloc ?_ _)); exact BK145.out), (by repeat (first | (with_reducible first | exact HB.out | apply below_alloc | apply pw_below_drewN | apply below_drew1 | refine below_set ?_ GE145.out) | exact HB.out))⟩)
                                            · skip
                                              have hcv44 := own_string (P := Try.prog) Try.underlying26 Try.underlying5 Try.underlying9 (Kd.own_of_R HO161.out)
                                              refine value_ (w1 := ?_) (v := ?_) (by rfl) rfl ?_ ?_
                                              rotate_left 2
                                              · go_simp
                                                constructor
                                                · rfl
                                                · rfl
                                              clear hcv44
                                              refine hK.out _ _ trivial (fun hHeld => ?_)
                                              clear hK K
                                              refine norm_ (a' := ?_) ?_ ?_
                                              rotate_left
                                              · show Act.put _ (some 46) _ = _
                                                simp only [Act.put, List.setIfInBounds_toArray, List.set_cons_zero, List.set_cons_succ, i64_w, i32_w]
                                                rfl
                                              exact norm_ (by first | (simp only [putAll, Act.put, List.setIfInBounds_toArray, List.set_cons_zero, List.set_cons_succ]; done) | (simp only [putAll, Act.put, List.setIfInBounds_toArray, List.set_cons_zero, List.set_cons_succ]; rfl)) (hJ0_5_6 (v160) _ ⟨(by (with_reducible repeat (first | apply Kd.R_alloc | apply Kd.R_drewN | apply Kd.R_drew)); exact HO150.out), (by (with_reducible repeat (first | apply Kd.R_alloc | apply Kd.R_drewN | apply Kd.R_drew)); exact HO161.out), (by (with_reducible repeat (first | refine blk_drewN ?_ _ | refine blk_drew ?_ | refine blk_alloc ?_ _)); exact BK145.out), (by repeat (first | (with_reducible first | exact HB.out | apply below_alloc | apply pw_below_drewN | apply below_drew1 | refine below_set ?_ GE145.out) | exact HB.out))⟩)
                                        · skip
                                          rintro _ w41 ⟨h0_, h1_, h2_⟩
                                          have n0_ : Aside0 (Kd.R (Kd.int .u8) 5 w41 w.heap.size (fun _ => True) v149 y148) := ⟨h0_⟩
                                          have n1_ : Aside0 (w41.heap[gb145]? = some (.cells #[.int .i64 a0_0, .slice A0_1 l0_1.length c0_1] 37 (0, 0))) := ⟨h1_⟩
                                          have n2_ : Aside0 (Below w.heap.size w w41) := ⟨h2_⟩
                                          clear HO150
                                          clear BK145
                                          clear HB
                                          clear h0_ h1_ h2_
                                          have HO150 := n0_
                                          have BK145 := n1_
                                          have HB := n2_
                                          clear n0_ n1_ n2_
                                          have hHeld := trivial
                                          refine norm_ (a' := ?_) ?_ ?_
                                          rotate_left
                                          · simp only [putAll, Act.put, List.setIfInBounds_toArray, List.set_cons_zero, List.set_cons_succ]
                                            rfl
                                          refine one_ (i := 5) (N := some 45) #[true, true, true, true, true, true, false, false, false, false] rfl rfl (one_of HT_.out (by kernel_rfl)) (by decide) (fun K hK => ?_)
                                          refine Kd.R_make_step (Kd.int .u8) _ 5 (by rfl) (N := 45) rfl 26 _ _ rfl 301 rfl rfl Try.underlying26 (.int .u8 0) 1 info5 rfl (by decide) (by omega) 0 (ok := fun _ => True) (okp := fun _ => True) rfl (fun _ hk => hk) trivial (by omega) (by omega) (Below.refl _ _) (Nat.le_refl _) ?_
                                          intro v160 w42 ho43 hb hg_ hnew_
                                          clear hg_ hnew_
                                          (first | rw [← Ny159.out] at ho43 | (simp only [Int.reduceToNat] at ho43; rw [← Ny159.out] at ho43))
                                          have n0_ := Aside0.mk (Kd.R_elder' (by (with_reducible repeat (first | apply Kd.R_alloc | apply Kd.R_drewN | apply Kd.R_drew)); exact HO150.out) (Kd.R_base ho43) hb)
                                          have n1_ := Aside0.mk (Kd.R_lower (Kd.R_new' ho43 (Kd.R_lt (by (with_reducible repeat (first | apply Kd.R_alloc | apply Kd.R_drewN | apply Kd.R_drew)); exact HO150.out))) (below_size (by repeat (first | (with_reducible first | exact HB.out | apply below_alloc | apply pw_below_drewN | apply below_drew1 | refine below_set ?_ GE145.out) | exact HB.out))))
                                          have n2_ := Aside0.mk (blk_below (g := gb145) (o := .cells #[.int .i64 a0_0, .slice A0_1 l0_1.length c0_1] 37 (0, 0)) (by (with_reducible repeat (first | refine blk_drewN ?_ _ | refine blk_drew ?_ | refine blk_alloc ?_ _)); exact BK145.out) hb)
                                          have n3_ := Aside0.mk (below_step (by repeat (first | (with_reducible first | exact HB.out | apply below_alloc | apply pw_below_drewN | apply below_drew1 | refine below_set ?_ GE145.out) | exact HB.out)) hb)
                                          clear HO150
                                          clear BK145
                                          clear HB
                                          have HO150 := n0_
                                          have HO161 := n1_
                                          have BK145 := n2_
                                          have HB := n3_
                                          clear n0_ n1_ n2_ n3_
                                          clear hb ho43
                                          refine hK.out _ _ trivial (fun hHeld => ?_)
                                          clear hK K
                                          refine norm_ (a' := ?_) ?_ ?_
                                          rotate_left
                                          · show Act.put _ (some 45) _ = _
                                            simp only [Act.put, List.setIfInBounds_toArray, List.set_cons_zero, List.set_cons_succ, i64_w, i32_w]
                                            rfl
                                          exact norm_ (by first | (simp only [putAll, Act.put, List.setIfInBounds_toArray, List.set_cons_zero, List.set_cons_succ]; done) | (simp only [putAll, Act.put, List.setIfInBounds_toArray, List.set_cons_zero, List.set_cons_succ]; rfl)) (hJ0_2_5 (v160) _ ⟨(by (with_reducible repeat (first | apply Kd.R_alloc | apply Kd.R_drewN | apply Kd.R_drew)); exact Kd.R_mono HO150.out (fun _ hk => hk.2)), (by (with_reducible repeat (first | apply Kd.R_alloc | apply Kd.R_drewN | apply Kd.R_drew)); exact Kd.R_mono HO161.out (fun _ hk => hk.2)), (by (with_reducible repeat (first | refine blk_drewN ?_ _ | refine blk_drew ?_ | refine blk_alloc ?_ _)); exact BK145.out), (by repeat (first | (with_reducible first | exact HB.out | apply below_alloc | apply pw_below_drewN | apply below_drew1 | refine below_set ?_ GE145.out) | exact HB.out))⟩)
                                      · skip
                                        rintro v160 w44 ⟨h0_, h1_, h2_, h3_⟩
                                        have n0_ : Aside0 (Kd.R (Kd.int .u8) 5 w44 w.heap.size (fun k_ => some k_ ≠ (v160 : Value).ownBlock) v149 y148) := ⟨h0_⟩
                                        have n1_ : Aside0 (Kd.R (Kd.int .u8) 5 w44 w.heap.size (fun k_ => some k_ ≠ (v149 : Value).ownBlock) v160 y159) := ⟨h1_⟩
                                        have n2_ : Aside0 (w44.heap[gb145]? = some (.cells #[.int .i64 a0_0, .slice A0_1 l0_1.length c0_1] 37 (0, 0))) := ⟨h2_⟩
                                        have n3_ : Aside0 (Below w.heap.size w w44) := ⟨h3_⟩
                                        clear HO150
                                        clear BK145
                                        clear HB
                                        clear h0_ h1_ h2_ h3_
                                        have HO150 := n0_
                                        have HO161 := n1_
                                        have BK145 := n2_
                                        have HB := n3_
                                        clear n0_ n1_ n2_ n3_
                                        have hHeld := trivial
                                        refine norm_ (a' := ?_) ?_ ?_
                                        rotate_left
                                        · simp only [putAll, Act.put, List.setIfInBounds_toArray, List.set_cons_zero, List.set_cons_succ]
                                          rfl
                                        refine one_ (i := 2) (N := some 42) #[true, true, true, false, false, true, true, false, false, false] rfl rfl (one_of HT_.out (by kernel_rfl)) (by decide) (fun K hK => ?_)
                                        refine goes_ Try.func18 (by kernel_rfl) rfl #[.int .i64 301] (by rfl) rfl rfl (by (try simp only [List.map_toArray, List.map_cons, List.map_nil]); first | done | rfl | (simp only [List.length_drop, List.length_take]; rfl)) ?_
                                        with_reducible refine (digit_Put.calls k 301 t158 _ A14.out).mono ?_
                                        rintro e w' ⟨rfl, ⟨nd, rfl⟩⟩
                                        refine ⟨_, rfl, ?_⟩
                                        refine hK.out _ _ trivial (fun hHeld => ?_)
                                        clear hK K
                                        refine norm_ (a' := ?_) ?_ ?_
                                        rotate_left
                                        · show Act.put _ (some 42) _ = _
                                          simp only [Act.put, List.setIfInBounds_toArray, List.set_cons_zero, List.set_cons_succ, i64_w, i32_w]
                                          rfl
                                        refine pure_ (i := 3) (N := some 43) (v := ?_) (a' := ?_) #[true, true, true, true, false, true, true, false, false, false] rfl rfl (any_of HT_.out (by kernel_rfl)) (fun _ _ _ h => h) (Or.inl ⟨by rfl, ?_⟩) ?_ ?_
                                        rotate_left
                                        · intro w'
                                          go_simp
                                          with_reducible rfl
                                        rotate_left
                                        · simp only [Act.put, List.setIfInBounds_toArray, List.set_cons_zero, List.set_cons_succ, i64_w, i32_w]
                                          rfl
                                        refine pure_ (i := 4) (N := some 44) (v := ?_) (a' := ?_) #[true, true, true, true, true, true, true, false, false, false] rfl rfl (any_of HT_.out (by kernel_rfl)) (fun _ _ _ h => h) (Or.inl ⟨by rfl, ?_⟩) ?_ ?_
                                        rotate_left
                                        · intro w'
                                          go_simp
                                          with_reducible rfl
                                        rotate_left
                                        · simp only [Act.put, List.setIfInBounds_toArray, List.set_cons_zero, List.set_cons_succ, i64_w, i32_w]
                                          rfl
                                        exact norm_ (by first | (simp only [putAll, Act.put, List.setIfInBounds_toArray, List.set_cons_zero, List.set_cons_succ]; done) | (simp only [putAll, Act.put, List.setIfInBounds_toArray, List.set_cons_zero, List.set_cons_succ]; rfl)) (hJ0_2_5_6 (v160) _ ⟨(by (with_reducible repeat (first | apply Kd.R_alloc | apply Kd.R_drewN | apply Kd.R_drew)); exact HO150.out), (by (with_reducible repeat (first | apply Kd.R_alloc | apply Kd.R_drewN | apply Kd.R_drew)); exact HO161.out), (by (with_reducible repeat (first | refine blk_drewN ?_ _ | refine blk_drew ?_ | refine blk_alloc ?_ _)); exact BK145.out), (by repeat (first | (with_reducible first | exact HB.out | apply below_alloc | apply pw_below_drewN | apply below_drew1 | refine below_set ?_ GE145.out) | exact HB.out))⟩)
                                    · skip
                                      rintro v160 w43 ⟨h0_, h1_, h2_, h3_⟩
                                      have n0_ : Aside0 (Kd.R (Kd.int .u8) 5 w43 w.heap.size (fun k_ => some k_ ≠ (v160 : Value).ownBlock) v149 y148) := ⟨h0_⟩
                                      have n1_ : Aside0 (Kd.R (Kd.int .u8) 5 w43 w.heap.size (fun k_ => some k_ ≠ (v149 : Value).ownBlock) v160 y159) := ⟨h1_⟩
                                      have n2_ : Aside0 (w43.heap[gb145]? = some (.cells #[.int .i64 a0_0, .slice A0_1 l0_1.length c0_1] 37 (0, 0))) := ⟨h2_⟩
                                      have n3_ : Aside0 (Below w.heap.size w w43) := ⟨h3_⟩
                                      clear HO150
                                      clear BK145
                                      clear HB
                                      clear h0_ h1_ h2_ h3_
                                      have HO150 := n0_
                                      have HO161 := n1_
                                      have BK145 := n2_
                                      have HB := n3_
                                      clear n0_ n1_ n2_ n3_
                                      have hHeld := trivial
                                      refine norm_ (a' := ?_) ?_ ?_
                                      rotate_left
                                      · simp only [putAll, Act.put, List.setIfInBounds_toArray, List.set_cons_zero, List.set_cons_succ]
                                        rfl
                                      refine one_ (i := 6) (N := some 46) #[true, true, true, true, true, true, true, false, false, false] rfl rfl (one_of HT_.out (by kernel_rfl)) (by decide) (fun K hK => ?_)
                                      have hcv44 := own_string (P := Try.prog) Try.underlying26 Try.underlying5 Try.underlying9 (Kd.own_of_R HO161.out)
                                      refine value_ (w1 := ?_) (v := ?_) (by rfl) rfl ?_ ?_
                                      rotate_left 2
                                      · go_simp
                                        constructor
                                        · rfl
                                        · rfl
                                      clear hcv44
                                      refine hK.out _ _ trivial (fun hHeld => ?_)
                                      clear hK K
                                      refine norm_ (a' := ?_) ?_ ?_
                                      rotate_left
                                      · show Act.put _ (some 46) _ = _
                                        simp only [Act.put, List.setIfInBounds_toArray, List.set_cons_zero, List.set_cons_succ, i64_w, i32_w]
                                        rfl
                                      exact norm_ (by first | (simp only [putAll, Act.put, List.setIfInBounds_toArray, List.set_cons_zero, List.set_cons_succ]; done) | (simp only [putAll, Act.put, List.setIfInBounds_toArray, List.set_cons_zero, List.set_cons_succ]; rfl)) (hJ0_2_5_6 (v160) _ ⟨(by (with_reducible repeat (first | apply Kd.R_alloc | apply Kd.R_drewN | apply Kd.R_drew)); exact HO150.out), (by (with_reducible repeat (first | apply Kd.R_alloc | apply Kd.R_drewN | apply Kd.R_drew)); exact HO161.out), (by (with_reducible repeat (first | refine blk_drewN ?_ _ | refine blk_drew ?_ | refine blk_alloc ?_ _)); exact BK145.out), (by repeat (first | (with_reducible first | exact HB.out | apply below_alloc | apply pw_below_drewN | apply below_drew1 | refine below_set ?_ GE145.out) | exact HB.out))⟩)
                                  rintro v160 w44 ⟨h0_, h1_, h2_, h3_⟩
                                  have n0_ : Aside0 (Kd.R (Kd.int .u8) 5 w44 w.heap.size (fun k_ => some k_ ≠ (v160 : Value).ownBlock) v149 y148) := ⟨h0_⟩
                                  have n1_ : Aside0 (Kd.R (Kd.int .u8) 5 w44 w.heap.size (fun k_ => some k_ ≠ (v149 : Value).ownBlock) v160 y159) := ⟨h1_⟩
                                  have n2_ : Aside0 (w44.heap[gb145]? = some (.cells #[.int .i64 a0_0, .slice A0_1 l0_1.length c0_1] 37 (0, 0))) := ⟨h2_⟩
                                  have n3_ : Aside0 (Below w.heap.size w w44) := ⟨h3_⟩
                                  clear HO150
                                  clear BK145
                                  clear HB
                                  clear h0_ h1_ h2_ h3_
                                  have HO150 := n0_
                                  have HO161 := n1_
                                  have BK145 := n2_
                                  have HB := n3_
                                  clear n0_ n1_ n2_ n3_
                                  have hHeld := trivial
                                  refine norm_ (a' := ?_) ?_ ?_
                                  rotate_left
                                  · simp only [putAll, Act.put, List.setIfInBounds_toArray, List.set_cons_zero, List.set_cons_succ]
                                    rfl
                                  refine pure_ (i := 7) (N := some 47) (v := ?_) (a' := ?_) #[true, true, true, true, true, true, true, true, false, false] rfl rfl (any_of HT_.out (by kernel_rfl)) (fun _ _ _ h => h) (Or.inl ⟨by rfl, ?_⟩) ?_ ?_
                                  rotate_left
                                  · intro w'
                                    go_simp
                                    with_reducible rfl
                                  rotate_left
                                  · simp only [Act.put, List.setIfInBounds_toArray, List.set_cons_zero, List.set_cons_succ, i64_w, i32_w]
                                    rfl
                                  refine pure_ (i := 8) (N := some 48) (v := ?_) (a' := ?_) #[true, true, true, true, true, true, true, true, true, false] rfl rfl (any_of HT_.out (by kernel_rfl)) (fun _ _ _ h => h) (Or.inl ⟨by rfl, ?_⟩) ?_ ?_
                                  rotate_left
                                  · intro w'
                                    go_simp
                                    with_reducible rfl
                                  rotate_left
                                  · simp only [Act.put, List.setIfInBounds_toArray, List.set_cons_zero, List.set_cons_succ, i64_w, i32_w]
                                    rfl
                                  refine pure_ (i := 9) (N := some 13) (v := ?_) (a' := ?_) #[true, true, true, true, true, true, true, true, true, true] rfl rfl (any_of HT_.out (by kernel_rfl)) (fun _ _ _ h => h) (Or.inl ⟨by rfl, ?_⟩) ?_ ?_
                                  rotate_left
                                  · intro w'
                                    go_simp
                                    with_reducible rfl
                                  rotate_left
                                  · simp only [Act.put, List.setIfInBounds_toArray, List.set_cons_zero, List.set_cons_succ, i64_w, i32_w]
                                    rfl
                                  refine done_ (done_of HT_.out (by kernel_rfl)) ?_
                                  try go_wp2_with (first | ((with_reducible refine gate_callee (f := 20) rfl ?_); refine goesL_ (some 52) rfl rfl Try.func20 (by kernel_rfl) rfl #[.string t146, .string (catS (catS (catS (catS (catS t157 (⟨#[10]⟩ : ByteArray)) t158) (⟨#[58]⟩ : ByteArray)) (strOfNums y159)) (⟨#[48, 59]⟩ : ByteArray))] rfl (by (try simp only [List.map_toArray, List.map_cons, List.map_nil]); first | done | rfl | (simp only [List.length_drop, List.length_take]; rfl)) ?_; (with_reducible refine (delta_Apply.calls k t146 (catS (catS (catS (catS (catS t157 (⟨#[10]⟩ : ByteArray)) t158) (⟨#[58]⟩ : ByteArray)) (strOfNums y159)) (⟨#[48, 59]⟩ : ByteArray)) t162 false _ A20.out).mono ?_); rintro e w' ⟨rfl, ⟨nd, rfl⟩⟩; refine ⟨_, rfl, ?_⟩) | ((with_reducible refine gate_dst (N := 76) rfl ?_); (try (refine gate_guard (by rfl) ?_; dsimp only)); refine Kd.R_make (Kd.int .u8) _ 5 rfl (N := 76) rfl 26 _ _ rfl ji26 rfl rfl Try.underlying26 (.int .u8 0) 1 info5 rfl (by decide) (by omega) 0 (ok := fun _ => True) (okp := fun _ => True) rfl (fun _ hk => hk) trivial (of_decide_eq_true (by first | (with_reducible assumption) | assumption)) (Nat.le_trans (Nat.mul_le_mul_right _ (of_decide_eq_true (by first | (with_reducible assumption) | assumption) : ji26.toNat ≤ 281474976710656)) (by omega)) (Below.refl _ _) (Nat.le_refl _) ?_; intro v165 w45 ho46 hb hg_ hnew_; clear hg_ hnew_; (first | rw [← Ny164.out] at ho46 | (simp only [Int.reduceToNat] at ho46; rw [← Ny164.out] at ho46)); have n0_ := Aside0.mk (Kd.R_elder' (by (with_reducible repeat (first | apply Kd.R_alloc | apply Kd.R_drewN | apply Kd.R_drew)); exact HO150.out) (Kd.R_base ho46) hb); have n1_ := Aside0.mk (Kd.R_elder' (by (with_reducible repeat (first | apply Kd.R_alloc | apply Kd.R_drewN | apply Kd.R_drew)); exact HO161.out) (Kd.R_base ho46) hb); have n2_ := Aside0.mk (Kd.R_lower (Kd.R_new' (Kd.R_new' ho46 (Kd.R_lt (by (with_reducible repeat (first | apply Kd.R_alloc | apply Kd.R_drewN | apply Kd.R_drew)); exact HO150.out))) (Kd.R_lt (by (with_reducible repeat (first | apply Kd.R_alloc | apply Kd.R_drewN | apply Kd.R_drew)); exact HO161.out))) (below_size (by repeat (first | (with_reducible first | exact HB.out | apply below_alloc | apply pw_below_drewN | apply below_drew1 | refine below_set ?_ GE145.out) | exact HB.out)))); have n3_ := Aside0.mk (blk_below (g := gb145) (o := .cells #[.int .i64 a0_0, .slice A0_1 l0_1.length c0_1] 37 (0, 0)) (by (with_reducible repeat (first | refine blk_drewN ?_ _ | refine blk_drew ?_ | refine blk_alloc ?_ _)); exact BK145.out) hb); have n4_ := Aside0.mk (below_step (by repeat (first | (with_reducible first | exact HB.out | apply below_alloc | apply pw_below_drewN | apply below_drew1 | refine below_set ?_ GE145.out) | exact HB.out)) hb); clear HO150; clear HO161; clear BK145; clear HB; have HO150 := n0_; have HO161 := n1_; have HO166 := n2_; have BK145 := n3_; have HB := n4_; clear n0_ n1_ n2_ n3_ n4_; clear hb ho46; have hcv47 := own_string (P := Try.prog) Try.underlying26 Try.underlying5 Try.underlying9 (Kd.own_of_R HO166.out)) | (go_at_call 28; (try simp only [i64_w, i32_w]); (with_reducible refine (delta_Make.calls k t146 (strOfNums y164) t167 _ A29.out).mono ?_); rintro e w48 ⟨rfl, hb⟩; have n0_ := Aside0.mk (Kd.R_below (by (with_reducible repeat (first | apply Kd.R_alloc | apply Kd.R_drewN | apply Kd.R_drew)); exact HO150.out) hb); have n1_ := Aside0.mk (Kd.R_below (by (with_reducible repeat (first | apply Kd.R_alloc | apply Kd.R_drewN | apply Kd.R_drew)); exact HO161.out) hb); have n2_ := Aside0.mk (Kd.R_below (by (with_reducible repeat (first | apply Kd.R_alloc | apply Kd.R_drewN | apply Kd.R_drew)); exact HO166.out) hb); have n3_ := Aside0.mk (blk_below (g := gb145) (o := .cells #[.int .i64 a0_0, .slice A0_1 l0_1.length c0_1] 37 (0, 0)) (by (with_reducible repeat (first | refine blk_drewN ?_ _ | refine blk_drew ?_ | refine blk_alloc ?_ _)); exact BK145.out) hb); have n4_ := Aside0.mk (below_step (by repeat (first | (with_reducible first | exact HB.out | apply below_alloc | apply pw_below_drewN | apply below_drew1 | refine below_set ?_ GE145.out) | exact HB.out)) hb); clear HO150; clear HO161; clear HO166; clear BK145; clear HB; have HO150 := n0_; have HO161 := n1_; have HO166 := n2_; have BK145 := n3_; have HB := n4_; clear n0_ n1_ n2_ n3_ n4_; (try clear hb); (try clear hb2); (try clear hk); (try clear hi)) | (go_at_call 6; (try simp only [i64_w, i32_w]); (with_reducible refine (ammonitelaw3_DeltaRuns.calls k  t168 _ A31.out).mono ?_); rintro e w' ⟨rfl, ⟨nd, rfl⟩⟩))
                                  go_ret
                                  exact ⟨by first | rfl | (simp [errW_none, errW_some] <;> rfl) | (simp only [← hji5, ← hji26]; first | rfl | (simp [errW_none, errW_some] <;> rfl)) | (simp [*, errW_none, errW_some] <;> rfl), by repeat (first | (with_reducible first | exact HB.out | apply below_alloc | apply pw_below_drewN | apply below_drew1 | refine below_set ?_ GE145.out) | exact HB.out)⟩
                                  all_goals (exfalso; (try simp only [beq_iff_eq, bne_iff_ne, ne_eq, decide_eq_true_eq, decide_eq_false_iff_not, decide_eq_decide, bne_eq_false_iff_eq, beq_eq_false_iff_ne, Bool.not_eq_true, Bool.not_eq_false, Bool.not_eq_true', Bool.not_eq_false', Bool.true_beq, Bool.false_beq, Bool.true_bne, Bool.false_bne, Bool.bne_true, Bool.bne_false] at c6b0); (try simp only [beq_iff_eq, bne_iff_ne, ne_eq, decide_eq_true_eq, decide_eq_false_iff_not, decide_eq_decide, bne_eq_false_iff_eq, beq_eq_false_iff_ne, Bool.not_eq_true, Bool.not_eq_false, Bool.not_eq_true', Bool.not_eq_false', Bool.true_beq, Bool.false_beq, Bool.true_bne, Bool.false_bne, Bool.bne_true, Bool.bne_false] at c6b1); (try simp only [beq_iff_eq, bne_iff_ne, ne_eq, decide_eq_true_eq, decide_eq_false_iff_not, decide_eq_decide, bne_eq_false_iff_eq, beq_eq_false_iff_ne, Bool.not_eq_true, Bool.not_eq_false, Bool.not_eq_true', Bool.not_eq_false', Bool.true_beq, Bool.false_beq, Bool.true_bne, Bool.false_bne, Bool.bne_true, Bool.bne_false] at c7b0); (try simp only [beq_iff_eq, bne_iff_ne, ne_eq, decide_eq_true_eq, decide_eq_false_iff_not, decide_eq_decide, bne_eq_false_iff_eq, beq_eq_false_iff_ne, Bool.not_eq_true, Bool.not_eq_false, Bool.not_eq_true', Bool.not_eq_false', Bool.true_beq, Bool.false_beq, Bool.true_bne, Bool.false_bne, Bool.bne_true, Bool.bne_false] at c7b1); (try simp only [beq_iff_eq, bne_iff_ne, ne_eq, decide_eq_true_eq, decide_eq_false_iff_not, decide_eq_decide, bne_eq_false_iff_eq, beq_eq_false_iff_ne, Bool.not_eq_true, Bool.not_eq_false, Bool.not_eq_true', Bool.not_eq_false', Bool.true_beq, Bool.false_beq, Bool.true_bne, Bool.false_bne, Bool.bne_true, Bool.bne_false] at c13b0); (try simp only [beq_iff_eq, bne_iff_ne, ne_eq, decide_eq_true_eq, decide_eq_false_iff_not, decide_eq_decide, bne_eq_false_iff_eq, beq_eq_false_iff_ne, Bool.not_eq_true, Bool.not_eq_false, Bool.not_eq_true', Bool.not_eq_false', Bool.true_beq, Bool.false_beq, Bool.true_bne, Bool.false_bne, Bool.bne_true, Bool.bne_false] at c13b1); (try simp only [beq_iff_eq, bne_iff_ne, ne_eq, decide_eq_true_eq, decide_eq_false_iff_not, decide_eq_decide, bne_eq_false_iff_eq, beq_eq_false_iff_ne, Bool.not_eq_true, Bool.not_eq_false, Bool.not_eq_true', Bool.not_eq_false', Bool.true_beq, Bool.false_beq, Bool.true_bne, Bool.false_bne, Bool.bne_true, Bool.bne_false] at c15b0); (try simp only [beq_iff_eq, bne_iff_ne, ne_eq, decide_eq_true_eq, decide_eq_false_iff_not, decide_eq_decide, bne_eq_false_iff_eq, beq_eq_false_iff_ne, Bool.not_eq_true, Bool.not_eq_false, Bool.not_eq_true', Bool.not_eq_false', Bool.true_beq, Bool.false_beq, Bool.true_bne, Bool.false_bne, Bool.bne_true, Bool.bne_false] at c15b1); (try simp only [beq_iff_eq, bne_iff_ne, ne_eq, decide_eq_true_eq, decide_eq_false_iff_not, decide_eq_decide, bne_eq_false_iff_eq, beq_eq_false_iff_ne, Bool.not_eq_true, Bool.not_eq_false, Bool.not_eq_true', Bool.not_eq_false', Bool.true_beq, Bool.false_beq, Bool.true_bne, Bool.false_bne, Bool.bne_true, Bool.bne_false] at c16b0); (try simp only [beq_iff_eq, bne_iff_ne, ne_eq, decide_eq_true_eq, decide_eq_false_iff_not, decide_eq_decide, bne_eq_false_iff_eq, beq_eq_false_iff_ne, Bool.not_eq_true, Bool.not_eq_false, Bool.not_eq_true', Bool.not_eq_false', Bool.true_beq, Bool.false_beq, Bool.true_bne, Bool.false_bne, Bool.bne_true, Bool.bne_false] at c16b1); (try simp only [beq_iff_eq, bne_iff_ne, ne_eq, decide_eq_true_eq, decide_eq_false_iff_not, decide_eq_decide, bne_eq_false_iff_eq, beq_eq_false_iff_ne, Bool.not_eq_true, Bool.not_eq_false, Bool.not_eq_true', Bool.not_eq_false', Bool.true_beq, Bool.false_beq, Bool.true_bne, Bool.false_bne, Bool.bne_true, Bool.bne_false] at c17b0); (try simp only [beq_iff_eq, bne_iff_ne, ne_eq, decide_eq_true_eq, decide_eq_false_iff_not, decide_eq_decide, bne_eq_false_iff_eq, beq_eq_false_iff_ne, Bool.not_eq_true, Bool.not_eq_false, Bool.not_eq_true', Bool.not_eq_false', Bool.true_beq, Bool.false_beq, Bool.true_bne, Bool.false_bne, Bool.bne_true, Bool.bne_false] at c17b1); (try simp only [beq_iff_eq, bne_iff_ne, ne_eq, decide_eq_true_eq, decide_eq_false_iff_not, decide_eq_decide, bne_eq_false_iff_eq, beq_eq_false_iff_ne, Bool.not_eq_true, Bool.not_eq_false, Bool.not_eq_true', Bool.not_eq_false', Bool.true_beq, Bool.false_beq, Bool.true_bne, Bool.false_bne, Bool.bne_true, Bool.bne_false] at c18b0); (try simp only [beq_iff_eq, bne_iff_ne, ne_eq, decide_eq_true_eq, decide_eq_false_iff_not, decide_eq_decide, bne_eq_false_iff_eq, beq_eq_false_iff_ne, Bool.not_eq_true, Bool.not_eq_false, Bool.not_eq_true', Bool.not_eq_false', Bool.true_beq, Bool.false_beq, Bool.true_bne, Bool.false_bne, Bool.bne_true, Bool.bne_false] at c18b1); (try simp only [beq_iff_eq, bne_iff_ne, ne_eq, decide_eq_true_eq, decide_eq_false_iff_not, decide_eq_decide, bne_eq_false_iff_eq, beq_eq_false_iff_ne, Bool.not_eq_true, Bool.not_eq_false, Bool.not_eq_true', Bool.not_eq_false', Bool.true_beq, Bool.false_beq, Bool.true_bne, Bool.false_bne, Bool.bne_true, Bool.bne_false] at c19b0); (try simp only [beq_iff_eq, bne_iff_ne, ne_eq, decide_eq_true_eq, decide_eq_false_iff_not, decide_eq_decide, bne_eq_false_iff_eq, beq_eq_false_iff_ne, Bool.not_eq_true, Bool.not_eq_false, Bool.not_eq_true', Bool.not_eq_false', Bool.true_beq, Bool.false_beq, Bool.true_bne, Bool.false_bne, Bool.bne_true, Bool.bne_false] at c19b1); (try simp only [beq_iff_eq, bne_iff_ne, ne_eq, decide_eq_true_eq, decide_eq_false_iff_not, decide_eq_decide, bne_eq_false_iff_eq, beq_eq_false_iff_ne, Bool.not_eq_true, Bool.not_eq_false, Bool.not_eq_true', Bool.not_eq_false', Bool.true_beq, Bool.false_beq, Bool.true_bne, Bool.false_bne, Bool.bne_true, Bool.bne_false] at c22b0); (try simp only [beq_iff_eq, bne_iff_ne, ne_eq, decide_eq_true_eq, decide_eq_false_iff_not, decide_eq_decide, bne_eq_false_iff_eq, beq_eq_false_iff_ne, Bool.not_eq_true, Bool.not_eq_false, Bool.not_eq_true', Bool.not_eq_false', Bool.true_beq, Bool.false_beq, Bool.true_bne, Bool.false_bne, Bool.bne_true, Bool.bne_false] at c22b1); (try simp only [beq_iff_eq, bne_iff_ne, ne_eq, decide_eq_true_eq, decide_eq_false_iff_not, decide_eq_decide, bne_eq_false_iff_eq, beq_eq_false_iff_ne, Bool.not_eq_true, Bool.not_eq_false, Bool.not_eq_true', Bool.not_eq_false', Bool.true_beq, Bool.false_beq, Bool.true_bne, Bool.false_bne, Bool.bne_true, Bool.bne_false] at c24b0); (try simp only [beq_iff_eq, bne_iff_ne, ne_eq, decide_eq_true_eq, decide_eq_false_iff_not, decide_eq_decide, bne_eq_false_iff_eq, beq_eq_false_iff_ne, Bool.not_eq_true, Bool.not_eq_false, Bool.not_eq_true', Bool.not_eq_false', Bool.true_beq, Bool.false_beq, Bool.true_bne, Bool.false_bne, Bool.bne_true, Bool.bne_false] at c24b1); (try simp only [beq_iff_eq, bne_iff_ne, ne_eq, decide_eq_true_eq, decide_eq_false_iff_not, decide_eq_decide, bne_eq_false_iff_eq, beq_eq_false_iff_ne, Bool.not_eq_true, Bool.not_eq_false, Bool.not_eq_true', Bool.not_eq_false', Bool.true_beq, Bool.false_beq, Bool.true_bne, Bool.false_bne, Bool.bne_true, Bool.bne_false] at c27b0); (try simp only [beq_iff_eq, bne_iff_ne, ne_eq, decide_eq_true_eq, decide_eq_false_iff_not, decide_eq_decide, bne_eq_false_iff_eq, beq_eq_false_iff_ne, Bool.not_eq_true, Bool.not_eq_false, Bool.not_eq_true', Bool.not_eq_false', Bool.true_beq, Bool.false_beq, Bool.true_bne, Bool.false_bne, Bool.bne_true, Bool.bne_false] at c27b1); (try simp only [beq_iff_eq, bne_iff_ne, ne_eq, decide_eq_true_eq, decide_eq_false_iff_not, decide_eq_decide, bne_eq_false_iff_eq, beq_eq_false_iff_ne, Bool.not_eq_true, Bool.not_eq_false, Bool.not_eq_true', Bool.not_eq_false', Bool.true_beq, Bool.false_beq, Bool.true_bne, Bool.false_bne, Bool.bne_true, Bool.bne_false] at c28b0); (try simp only [beq_iff_eq, bne_iff_ne, ne_eq, decide_eq_true_eq, decide_eq_false_iff_not, decide_eq_decide, bne_eq_false_iff_eq, beq_eq_false_iff_ne, Bool.not_eq_true, Bool.not_eq_false, Bool.not_eq_true', Bool.not_eq_false', Bool.true_beq, Bool.false_beq, Bool.true_bne, Bool.false_bne, Bool.bne_true, Bool.bne_false] at c28b1); (try simp only [beq_iff_eq, bne_iff_ne, ne_eq, decide_eq_true_eq, decide_eq_false_iff_not, decide_eq_decide, bne_eq_false_iff_eq, beq_eq_false_iff_ne, Bool.not_eq_true, Bool.not_eq_false, Bool.not_eq_true', Bool.not_eq_false', Bool.true_beq, Bool.false_beq, Bool.true_bne, Bool.false_bne, Bool.bne_true, Bool.bne_false] at c30b0); (try simp only [beq_iff_eq, bne_iff_ne, ne_eq, decide_eq_true_eq, decide_eq_false_iff_not, decide_eq_decide, bne_eq_false_iff_eq, beq_eq_false_iff_ne, Bool.not_eq_true, Bool.not_eq_false, Bool.not_eq_true', Bool.not_eq_false', Bool.true_beq, Bool.false_beq, Bool.true_bne, Bool.false_bne, Bool.bne_true, Bool.bne_false] at c30b1); (try unfold wrap64 at *); omega)
                                · rw [if_neg c30] at H
                                  have c30b0 : (t167.toList == ([] : List UInt8)) = false := beq_eq_false_iff_ne.mpr c30
                                  have c30b1 : (t167.toList != ([] : List UInt8)) = true := bne_iff_ne.mpr c30
                                  exact absurd ((Option.some.inj H).trans HRT.out) Bool.false_ne_true
                              · rw [if_neg c28] at H
                                exact absurd H (by simp)
                            · rw [if_neg c27] at H
                              exact absurd H (by simp)
                        · rw [if_neg c24] at H
                          have c24b0 : (t155.toList == ([] : List UInt8)) = false := beq_eq_false_iff_ne.mpr c24
                          have c24b1 : (t155.toList != ([] : List UInt8)) = true := bne_iff_ne.mpr c24
                          exact absurd ((Option.some.inj H).trans HRT.out) Bool.false_ne_true
                      · replace c23 := Bool.eq_false_iff.mpr c23
                        subst c23
                        have H1 : (some false) = some r := by rw [if_neg (show ¬ (false = true) by decide)] at H; exact H
                        clear H
                        have H := H1
                        clear H1
                        exact absurd ((Option.some.inj H).trans HRT.out) Bool.false_ne_true
                    · rw [if_neg c22] at H
                      have c22b0 : (t152.toList == (strOfNums y148).toList) = false := beq_eq_false_iff_ne.mpr c22
                      have c22b1 : (t152.toList != (strOfNums y148).toList) = true := bne_iff_ne.mpr c22
                      exact absurd ((Option.some.inj H).trans HRT.out) Bool.false_ne_true
                  · replace c21 := Bool.eq_false_iff.mpr c21
                    subst c21
                    have H1 : (some false) = some r := by rw [if_neg (show ¬ (false = true) by decide)] at H; exact H
                    clear H
                    have H := H1
                    clear H1
                    exact absurd ((Option.some.inj H).trans HRT.out) Bool.false_ne_true
                · rw [if_neg c19] at H
                  exact absurd H (by simp)
              · rw [if_neg c18] at H
                exact absurd H (by simp)
            · rw [if_neg c17] at H
              exact absurd H (by simp)
          · rw [if_neg c16] at H
            exact absurd H (by simp)
        · rw [if_neg c15] at H
          exact absurd H (by simp)
      · rw [if_neg c13] at H
        exact absurd H (by simp)
    · rw [if_neg c7] at H
      exact absurd H (by simp)
  · rw [if_neg c6] at H
    exact absurd H (by simp)

/-- THE ONE PURE STATEMENT of ammonitelaw3_DeltaLimits: yours. -/
def ammonitelaw3_DeltaLimits.Pure : Prop := ∀ (a0_0 : Int) (l0_1 : List Int) (a1 : Int), (Lit.int .i64 a0_0).wf = true → l0_1.length ≤ maxLen → (∀ x ∈ l0_1, (Lit.int .i64 x).wf = true) → (Lit.int .i64 a1).wf = true → ∃ k, ammonitelaw3_DeltaLimits.f k a0_0 l0_1 a1 = some true
theorem ammonitelaw3_DeltaLimits.walk (P : ammonitelaw3_DeltaLimits.Pure) (a0_0 : Int) (a0_1 : Option Addr) (len0_1 cap0_1 : Nat) (z0_1 : List Int) (a1 : Int) (w : World) (w0_0 : (Lit.int .i64 a0_0).wf = true) (w0_1 : (a0_1 = none ∧ len0_1 = 0 ∧ cap0_1 = 0 ∧ z0_1 = []) ∨ ∃ x, a0_1 = some x ∧ len0_1 ≤ cap0_1 ∧ cap0_1 ≤ maxLen ∧ z0_1.length = cap0_1 ∧ (∀ i, i < z0_1.length → w.cell? (x.add i) = some (.int .i64 (z0_1.getD i 0))) ∧ ∀ n ∈ z0_1, (Lit.int .i64 n).wf = true) (w1 : (Lit.int .i64 a1).wf = true) :
    Calls Try.prog 12 #[.agg #[.int .i64 a0_0, .slice a0_1 len0_1 cap0_1], .int .i64 a1] w fun e w' => e = .returned (.bool true) ∧ Below w.heap.size w w' := by
  obtain ⟨l0_1, rfl, hr0_1, hm0_1, hw0_1, hc0_1⟩ := ReadsInt.ofRowC w0_1
  obtain ⟨k, h⟩ := P a0_0 l0_1 a1 w0_0 hm0_1 hw0_1 w1
  refine (ammonitelaw3_DeltaLimits.calls k a0_0 _ _ l0_1 a1 true w (Kd.C_of_reads (d := (0 : Int)) (h1 := fun _ => rfl) hr0_1) hc0_1 h rfl).mono ?_
  rintro e w' ⟨rfl, hd⟩
  exact ⟨rfl, hd⟩

end Go.Proofs.Ytcjkichimndioab.Q
