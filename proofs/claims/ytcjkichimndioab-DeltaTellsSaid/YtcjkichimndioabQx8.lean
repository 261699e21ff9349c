-- Written by a program of this session (wip/tools/ap.py) for this claim.
import Derived.Test.YtcjkichimndioabQx0
import Derived.Test.YtcjkichimndioabQx1
import Derived.Test.YtcjkichimndioabQx2
import Derived.Test.YtcjkichimndioabQx3
import Derived.Test.YtcjkichimndioabQx4
import Derived.Test.YtcjkichimndioabQx5
import Derived.Test.YtcjkichimndioabQx6
import Derived.Test.YtcjkichimndioabQx7
namespace Go.Proofs.Ytcjkichimndioab.Q
open Go.Proofs.Ytcjkichimndioab.Given
open Go.RowKit Go.Proofs.Ytcjkichimndioab.PW Go.Proofs.YtcjkichimndioabW.PrintWords Go.Proofs.YtcjkichimndioabW.PrintLast Go.Proofs.YtcjkichimndioabW.PrintMore
attribute [local go_sem] max2_int min2_int max_two min_two max_three min_three max_four min_four   -- for this text's walks alone
set_option linter.unnecessarySimpa false
attribute [local go_sem high] run_cut_if run_cut_from run_cut_to run_cat_if
set_option linter.unusedVariables false
set_option linter.unusedSimpArgs false

/-! ### ammonitelaw3_DeltaTells: function 7 -/
mutual
def ammonitelaw3_DeltaTells.j0 : Nat → ByteArray → ByteArray → Option (Bool)
  | 0, _, _ => none
  | k + 1, x13, x15 => (delta_Apply.f k x13 x15).bind fun bt173 => ((ammoniteref1_Apply.f k x13 x15).bind fun bt175 => ((ammoniteref1_Read.f k x15 0).bind fun bt177 => (if bt177.2 > 0 then (if bt177.2 < (x15.size : Int) then (if 0 ≤ bt177.2 then (ammonitelaw3_DeltaTells.j1 k x13 x15 bt173.1 bt173.2 bt175.1 bt175.2 bt177.1 ((bt x15 bt177.2) == 10)) else (none)) else (ammonitelaw3_DeltaTells.j1 k x13 x15 bt173.1 bt173.2 bt175.1 bt175.2 bt177.1 false)) else (ammonitelaw3_DeltaTells.j1 k x13 x15 bt173.1 bt173.2 bt175.1 bt175.2 bt177.1 false))))
def ammonitelaw3_DeltaTells.j1 : Nat → ByteArray → ByteArray → ByteArray → Bool → ByteArray → Bool → Int → Bool → Option (Bool)
  | 0, _, _, _, _, _, _, _, _ => none
  | k + 1, x13, x15, x17, x18, x19, x20, x21, x23 => if x23 = true then (ammonitelaw3_DeltaTells.j2 k x13 x15 x17 x18 x19 x20 x21 x23) else (ammonitelaw3_DeltaTells.j2 k x13 x15 x17 x18 x19 x20 0 x23)
def ammonitelaw3_DeltaTells.j2 : Nat → ByteArray → ByteArray → ByteArray → Bool → ByteArray → Bool → Int → Bool → Option (Bool)
  | 0, _, _, _, _, _, _, _, _ => none
  | k + 1, x13, x15, x17, x18, x19, x20, x21, x23 => (delta_Size.f k x15).bind fun bt179 => (if x17.toList = x19.toList then (if (x18 == x20) = true then ((delta_Check.f k x13).bind fun t181 => ((ammoniteref1_Check.f k x13).bind fun t182 => (if t181 = t182 then (if bt179.1 = x21 then (if (bt179.2 == x23) = true then ((ammonitelaw3_DeltaRuns.f k).bind fun t183 => (some t183)) else (some false)) else (some false)) else (some false)))) else (some false)) else (some false))
end
def ammonitelaw3_DeltaTells.f (k : Nat) (a0_0 : Int) (l0_1 : List Int) (a1_0 : Int) (l1_1 : List Int) (a2 : ByteArray) (a3 : Int) (a4 : Int) (a5 : Int) : Option (Bool) := (ammonitekeep_Text_Text.f k a0_0 l0_1).bind fun t166 => ((ammonitekeep_Text_Text.f k a1_0 l1_1).bind fun t167 => ((ammonitekeep_Delta.f k t166 t167 a3).bind fun t168 => ((ammonitebook_Within.f a3 0 (wrap64 ((t168.size : Int) - 1))).bind fun t169 => (if (Go.bits .and .i64 a5 7) = 0 then (if 0 ≤ t169 then (if t169 ≤ (t168.size : Int) then ((some (([a4] : List Int) : List Int)).bind fun y170 => (if (cutS t168 0 (t169 : Int).toNat).size + (strOfNums y170).size ≤ 9223372036854775807 then (if 0 ≤ (wrap64 (t169 + 1)) then (if (wrap64 (t169 + 1)) ≤ (t168.size : Int) then (if (catS (cutS t168 0 (t169 : Int).toNat) (strOfNums y170)).size + (cutS t168 ((wrap64 (t169 + 1)) : Int).toNat t168.size).size ≤ 9223372036854775807 then (ammonitelaw3_DeltaTells.j0 k t166 (catS (catS (cutS t168 0 (t169 : Int).toNat) (strOfNums y170)) (cutS t168 ((wrap64 (t169 + 1)) : Int).toNat t168.size))) else (none)) else (none)) else (none)) else (none))) else (none)) else (none)) else (if (Go.bits .and .i64 a5 7) = 1 then (if 0 ≤ t169 then (if t169 ≤ (t168.size : Int) then (ammonitelaw3_DeltaTells.j0 k t166 (cutS t168 0 (t169 : Int).toNat)) else (none)) else (none)) else (if (Go.bits .and .i64 a5 7) = 2 then (if 0 ≤ t169 then (if t169 ≤ (t168.size : Int) then (if 0 ≤ (mn (a2.size : Int) 3) then (if (mn (a2.size : Int) 3) ≤ (a2.size : Int) then (if (cutS t168 0 (t169 : Int).toNat).size + (cutS a2 0 ((mn (a2.size : Int) 3) : Int).toNat).size ≤ 9223372036854775807 then (if (catS (cutS t168 0 (t169 : Int).toNat) (cutS a2 0 ((mn (a2.size : Int) 3) : Int).toNat)).size + (cutS t168 (t169 : Int).toNat t168.size).size ≤ 9223372036854775807 then (ammonitelaw3_DeltaTells.j0 k t166 (catS (catS (cutS t168 0 (t169 : Int).toNat) (cutS a2 0 ((mn (a2.size : Int) 3) : Int).toNat)) (cutS t168 (t169 : Int).toNat t168.size))) else (none)) else (none)) else (none)) else (none)) else (none)) else (none)) else (if (Go.bits .and .i64 a5 7) = 3 then (if 0 ≤ (mn (a2.size : Int) 40) then (if (mn (a2.size : Int) 40) ≤ (a2.size : Int) then (ammonitelaw3_DeltaTells.j0 k t166 (cutS a2 0 ((mn (a2.size : Int) 40) : Int).toNat)) else (none)) else (none)) else (ammonitelaw3_DeltaTells.j0 k t166 t168))))))))
theorem ammonitelaw3_DeltaTells.mono_l : ∀ k, (∀ y0 y1, LeO (ammonitelaw3_DeltaTells.j0 k y0 y1) (ammonitelaw3_DeltaTells.j0 (k + 1) y0 y1)) ∧ (∀ y0 y1 y2 y3 y4 y5 y6 y7, LeO (ammonitelaw3_DeltaTells.j1 k y0 y1 y2 y3 y4 y5 y6 y7) (ammonitelaw3_DeltaTells.j1 (k + 1) y0 y1 y2 y3 y4 y5 y6 y7)) ∧ (∀ y0 y1 y2 y3 y4 y5 y6 y7, LeO (ammonitelaw3_DeltaTells.j2 k y0 y1 y2 y3 y4 y5 y6 y7) (ammonitelaw3_DeltaTells.j2 (k + 1) y0 y1 y2 y3 y4 y5 y6 y7))
  | 0 => ⟨fun _ _ r h => by simp [ammonitelaw3_DeltaTells.j0] at h, fun _ _ _ _ _ _ _ _ r h => by simp [ammonitelaw3_DeltaTells.j1] at h, fun _ _ _ _ _ _ _ _ r h => by simp [ammonitelaw3_DeltaTells.j2] at h⟩
  | k + 1 => by
    obtain ⟨ih0, ih1, ih2⟩ := ammonitelaw3_DeltaTells.mono_l k
    refine ⟨?_, ?_, ?_⟩
    · intro y0 y1
      unfold ammonitelaw3_DeltaTells.j0
      repeat' first
      | (with_reducible exact ih0 _ _)
      | (with_reducible exact ih1 _ _ _ _ _ _ _ _)
      | (with_reducible exact ih2 _ _ _ _ _ _ _ _)
      | (with_reducible exact ammonitekeep_Delta.mono _ _ _ _)
      | (with_reducible exact ammonitekeep_Text_Text.mono _ _ _)
      | (with_reducible exact ammonitelaw3_DeltaRuns.mono _)
      | (with_reducible exact ammoniteref1_Apply.mono _ _ _)
      | (with_reducible exact ammoniteref1_Check.mono _ _)
      | (with_reducible exact ammoniteref1_Read.mono _ _ _)
      | (with_reducible exact delta_Apply.mono _ _ _)
      | (with_reducible exact delta_Check.mono _ _)
      | (with_reducible exact delta_Size.mono _ _)
      | (with_reducible exact LeO.refl _)
      | (with_reducible exact LeO.none _)
      | (with_reducible refine LeO.ite ?_ ?_)
      | (with_reducible refine LeO.bind ?_ (fun _ => ?_))
      | exact ih0 _ _
      | exact ih1 _ _ _ _ _ _ _ _
      | exact ih2 _ _ _ _ _ _ _ _
      | exact ammonitekeep_Delta.mono _ _ _ _
      | exact ammonitekeep_Text_Text.mono _ _ _
      | exact ammonitelaw3_DeltaRuns.mono _
      | exact ammoniteref1_Apply.mono _ _ _
      | exact ammoniteref1_Check.mono _ _
      | exact ammoniteref1_Read.mono _ _ _
      | exact delta_Apply.mono _ _ _
      | exact delta_Check.mono _ _
      | exact delta_Size.mono _ _
      | exact LeO.none _
      | refine LeO.ite ?_ ?_
      | refine LeO.bind ?_ (fun _ => ?_)
    · intro y0 y1 y2 y3 y4 y5 y6 y7
      unfold ammonitelaw3_DeltaTells.j1
      repeat' first
      | (with_reducible exact ih0 _ _)
      | (with_reducible exact ih1 _ _ _ _ _ _ _ _)
      | (with_reducible exact ih2 _ _ _ _ _ _ _ _)
      | (with_reducible exact ammonitekeep_Delta.mono _ _ _ _)
      | (with_reducible exact ammonitekeep_Text_Text.mono _ _ _)
      | (with_reducible exact ammonitelaw3_DeltaRuns.mono _)
      | (with_reducible exact ammoniteref1_Apply.mono _ _ _)
      | (with_reducible exact ammoniteref1_Check.mono _ _)
      | (with_reducible exact ammoniteref1_Read.mono _ _ _)
      | (with_reducible exact delta_Apply.mono _ _ _)
      | (with_reducible exact delta_Check.mono _ _)
      | (with_reducible exact delta_Size.mono _ _)
      | (with_reducible exact LeO.refl _)
      | (with_reducible exact LeO.none _)
      | (with_reducible refine LeO.ite ?_ ?_)
      | (with_reducible refine LeO.bind ?_ (fun _ => ?_))
      | exact ih0 _ _
      | exact ih1 _ _ _ _ _ _ _ _
      | exact ih2 _ _ _ _ _ _ _ _
      | exact ammonitekeep_Delta.mono _ _ _ _
      | exact ammonitekeep_Text_Text.mono _ _ _
      | exact ammonitelaw3_DeltaRuns.mono _
      | exact ammoniteref1_Apply.mono _ _ _
      | exact ammoniteref1_Check.mono _ _
      | exact ammoniteref1_Read.mono _ _ _
      | exact delta_Apply.mono _ _ _
      | exact delta_Check.mono _ _
      | exact delta_Size.mono _ _
      | exact LeO.none _
      | refine LeO.ite ?_ ?_
      | refine LeO.bind ?_ (fun _ => ?_)
    · intro y0 y1 y2 y3 y4 y5 y6 y7
      unfold ammonitelaw3_DeltaTells.j2
      repeat' first
      | (with_reducible exact ih0 _ _)
      | (with_reducible exact ih1 _ _ _ _ _ _ _ _)
      | (with_reducible exact ih2 _ _ _ _ _ _ _ _)
      | (with_reducible exact ammonitekeep_Delta.mono _ _ _ _)
      | (with_reducible exact ammonitekeep_Text_Text.mono _ _ _)
      | (with_reducible exact ammonitelaw3_DeltaRuns.mono _)
      | (with_reducible exact ammoniteref1_Apply.mono _ _ _)
      | (with_reducible exact ammoniteref1_Check.mono _ _)
      | (with_reducible exact ammoniteref1_Read.mono _ _ _)
      | (with_reducible exact delta_Apply.mono _ _ _)
      | (with_reducible exact delta_Check.mono _ _)
      | (with_reducible exact delta_Size.mono _ _)
      | (with_reducible exact LeO.refl _)
      | (with_reducible exact LeO.none _)
      | (with_reducible refine LeO.ite ?_ ?_)
      | (with_reducible refine LeO.bind ?_ (fun _ => ?_))
      | exact ih0 _ _
      | exact ih1 _ _ _ _ _ _ _ _
      | exact ih2 _ _ _ _ _ _ _ _
      | exact ammonitekeep_Delta.mono _ _ _ _
      | exact ammonitekeep_Text_Text.mono _ _ _
      | exact ammonitelaw3_DeltaRuns.mono _
      | exact ammoniteref1_Apply.mono _ _ _
      | exact ammoniteref1_Check.mono _ _
      | exact ammoniteref1_Read.mono _ _ _
      | exact delta_Apply.mono _ _ _
      | exact delta_Check.mono _ _
      | exact delta_Size.mono _ _
      | exact LeO.none _
      | refine LeO.ite ?_ ?_
      | refine LeO.bind ?_ (fun _ => ?_)
theorem ammonitelaw3_DeltaTells.mono : ∀ a0 a1 a2 a3 a4 a5 a6 a7 k, LeO (ammonitelaw3_DeltaTells.f k a0 a1 a2 a3 a4 a5 a6 a7) (ammonitelaw3_DeltaTells.f (k + 1) a0 a1 a2 a3 a4 a5 a6 a7) := by
  intro a0 a1 a2 a3 a4 a5 a6 a7 k
  obtain ⟨ih0, ih1, ih2⟩ := ammonitelaw3_DeltaTells.mono_l k
  unfold ammonitelaw3_DeltaTells.f
  repeat' first
      | (with_reducible exact ih0 _ _)
      | (with_reducible exact ih1 _ _ _ _ _ _ _ _)
      | (with_reducible exact ih2 _ _ _ _ _ _ _ _)
      | (with_reducible exact ammonitekeep_Delta.mono _ _ _ _)
      | (with_reducible exact ammonitekeep_Text_Text.mono _ _ _)
      | (with_reducible exact ammonitelaw3_DeltaRuns.mono _)
      | (with_reducible exact ammoniteref1_Apply.mono _ _ _)
      | (with_reducible exact ammoniteref1_Check.mono _ _)
      | (with_reducible exact ammoniteref1_Read.mono _ _ _)
      | (with_reducible exact delta_Apply.mono _ _ _)
      | (with_reducible exact delta_Check.mono _ _)
      | (with_reducible exact delta_Size.mono _ _)
      | (with_reducible exact LeO.refl _)
      | (with_reducible exact LeO.none _)
      | (with_reducible refine LeO.ite ?_ ?_)
      | (with_reducible refine LeO.bind ?_ (fun _ => ?_))
      | exact ih0 _ _
      | exact ih1 _ _ _ _ _ _ _ _
      | exact ih2 _ _ _ _ _ _ _ _
      | exact ammonitekeep_Delta.mono _ _ _ _
      | exact ammonitekeep_Text_Text.mono _ _ _
      | exact ammonitelaw3_DeltaRuns.mono _
      | exact ammoniteref1_Apply.mono _ _ _
      | exact ammoniteref1_Check.mono _ _
      | exact ammoniteref1_Read.mono _ _ _
      | exact delta_Apply.mono _ _ _
      | exact delta_Check.mono _ _
      | exact delta_Size.mono _ _
      | exact LeO.none _
      | refine LeO.ite ?_ ?_
      | refine LeO.bind ?_ (fun _ => ?_)
def ammonitelaw3_DeltaTells.T6 : Bool × List (List Nat × List Nat) := (true, [([], []), ([], []), ([0, 1], [0, 1]), ([], []), ([3], [3]), ([4], [4]), ([2, 5], [2, 5]), ([], []), ([], []), ([8], [8]), ([7, 9], [7, 9]), ([6, 10], [6, 10]), ([11, 0, 1, 2, 3, 4, 5, 6, 7, 8, 9, 10, 11], [0, 7, 11])])
def ammonitelaw3_DeltaTells.B6 : List Nat := [0, 0, 3, 0, 8, 24, 63, 0, 0, 256, 896, 2047, 4095]
theorem ammonitelaw3_DeltaTells.tab6 : rtab .any (opsOf Try.f7 6) = ammonitelaw3_DeltaTells.T6 := by kernel_rfl
theorem ammonitelaw3_DeltaTells.bits6 : waitsOk ammonitelaw3_DeltaTells.T6.2 ammonitelaw3_DeltaTells.B6 = true := by kernel_rfl
def ammonitelaw3_DeltaTells.T10 : Bool × List (List Nat × List Nat) := (true, [([], []), ([], []), ([0, 1], [0, 1]), ([], []), ([], []), ([4], [4]), ([5], [5]), ([3, 6], [3, 6]), ([2, 7], [2, 7]), ([], []), ([], []), ([9, 10], [9, 10]), ([8, 11], [8, 11]), ([12, 0, 1, 2, 3, 4, 5, 6, 7, 8, 9, 10, 11, 12], [0, 9, 12])])
def ammonitelaw3_DeltaTells.B10 : List Nat := [0, 0, 3, 0, 0, 16, 48, 120, 255, 0, 0, 1536, 4095, 8191]
theorem ammonitelaw3_DeltaTells.tab10 : rtab .any (opsOf Try.f7 10) = ammonitelaw3_DeltaTells.T10 := by kernel_rfl
theorem ammonitelaw3_DeltaTells.bits10 : waitsOk ammonitelaw3_DeltaTells.T10.2 ammonitelaw3_DeltaTells.B10 = true := by kernel_rfl
set_option maxHeartbeats 8000000 in
set_option maxRecDepth 100000 in
theorem ammonitelaw3_DeltaTells.calls (k : Nat) (a0_0 : Int) (A0_1 : Option Addr) (c0_1 : Nat) (l0_1 : List Int) (a1_0 : Int) (A1_1 : Option Addr) (c1_1 : Nat) (l1_1 : List Int) (a2 : ByteArray) (a3 : Int) (a4 : Int) (a5 : Int) (r : Bool) (w : World) (hr0_1 : Kd.C (Kd.int .i64) w A0_1 l0_1.length l0_1) (hc0_1 : l0_1.length ≤ c0_1) (hr1_1 : Kd.C (Kd.int .i64) w A1_1 l1_1.length l1_1) (hc1_1 : l1_1.length ≤ c1_1) (h : ammonitelaw3_DeltaTells.f k a0_0 l0_1 a1_0 l1_1 a2 a3 a4 a5 = some r) (hrt : r = true) :
    Calls Try.prog 7 #[.agg #[.int .i64 a0_0, .slice A0_1 l0_1.length c0_1], .agg #[.int .i64 a1_0, .slice A1_1 l1_1.length c1_1], .string a2, .int .i64 a3, .int .u8 a4, .int .i64 a5] w fun e w' => e = .returned (.bool r) ∧ Below w.heap.size w w' := by
  have HRT := Aside0.mk hrt
  clear hrt
  have hu37 := Try.underlying37
  have HR0_1 := Aside0.mk hr0_1
  have HC0_1 := Aside0.mk hc0_1
  clear hr0_1 hc0_1
  have HR1_1 := Aside0.mk hr1_1
  have HC1_1 := Aside0.mk hc1_1
  clear hr1_1 hc1_1
  have HB := Aside0.mk (Below.refl w.heap.size w)
  have H : ((ammonitekeep_Text_Text.f k a0_0 l0_1).bind fun t166 => ((ammonitekeep_Text_Text.f k a1_0 l1_1).bind fun t167 => ((ammonitekeep_Delta.f k t166 t167 a3).bind fun t168 => ((ammonitebook_Within.f a3 0 (wrap64 ((t168.size : Int) - 1))).bind fun t169 => (if (Go.bits .and .i64 a5 7) = 0 then (if 0 ≤ t169 then (if t169 ≤ (t168.size : Int) then ((some (([a4] : List Int) : List Int)).bind fun y170 => (if (cutS t168 0 (t169 : Int).toNat).size + (strOfNums y170).size ≤ 9223372036854775807 then (if 0 ≤ (wrap64 (t169 + 1)) then (if (wrap64 (t169 + 1)) ≤ (t168.size : Int) then (if (catS (cutS t168 0 (t169 : Int).toNat) (strOfNums y170)).size + (cutS t168 ((wrap64 (t169 + 1)) : Int).toNat t168.size).size ≤ 9223372036854775807 then (ammonitelaw3_DeltaTells.j0 k t166 (catS (catS (cutS t168 0 (t169 : Int).toNat) (strOfNums y170)) (cutS t168 ((wrap64 (t169 + 1)) : Int).toNat t168.size))) else (none)) else (none)) else (none)) else (none))) else (none)) else (none)) else (if (Go.bits .and .i64 a5 7) = 1 then (if 0 ≤ t169 then (if t169 ≤ (t168.size : Int) then (ammonitelaw3_DeltaTells.j0 k t166 (cutS t168 0 (t169 : Int).toNat)) else (none)) else (none)) else (if (Go.bits .and .i64 a5 7) = 2 then (if 0 ≤ t169 then (if t169 ≤ (t168.size : Int) then (if 0 ≤ (mn (a2.size : Int) 3) then (if (mn (a2.size : Int) 3) ≤ (a2.size : Int) then (if (cutS t168 0 (t169 : Int).toNat).size + (cutS a2 0 ((mn (a2.size : Int) 3) : Int).toNat).size ≤ 9223372036854775807 then (if (catS (cutS t168 0 (t169 : Int).toNat) (cutS a2 0 ((mn (a2.size : Int) 3) : Int).toNat)).size + (cutS t168 (t169 : Int).toNat t168.size).size ≤ 9223372036854775807 then (ammonitelaw3_DeltaTells.j0 k t166 (catS (catS (cutS t168 0 (t169 : Int).toNat) (cutS a2 0 ((mn (a2.size : Int) 3) : Int).toNat)) (cutS t168 (t169 : Int).toNat t168.size))) else (none)) else (none)) else (none)) else (none)) else (none)) else (none)) else (if (Go.bits .and .i64 a5 7) = 3 then (if 0 ≤ (mn (a2.size : Int) 40) then (if (mn (a2.size : Int) 40) ≤ (a2.size : Int) then (ammonitelaw3_DeltaTells.j0 k t166 (cutS a2 0 ((mn (a2.size : Int) 40) : Int).toNat)) else (none)) else (none)) else (ammonitelaw3_DeltaTells.j0 k t166 t168))))))))) = some r := h
  clear h
  replace H := Option.bind_eq_some_iff.mp H
  obtain ⟨t166, A70, H⟩ := H
  replace H : ((ammonitekeep_Text_Text.f k a1_0 l1_1).bind fun t167 => ((ammonitekeep_Delta.f k t166 t167 a3).bind fun t168 => ((ammonitebook_Within.f a3 0 (wrap64 ((t168.size : Int) - 1))).bind fun t169 => (if (Go.bits .and .i64 a5 7) = 0 then (if 0 ≤ t169 then (if t169 ≤ (t168.size : Int) then ((some (([a4] : List Int) : List Int)).bind fun y170 => (if (cutS t168 0 (t169 : Int).toNat).size + (strOfNums y170).size ≤ 9223372036854775807 then (if 0 ≤ (wrap64 (t169 + 1)) then (if (wrap64 (t169 + 1)) ≤ (t168.size : Int) then (if (catS (cutS t168 0 (t169 : Int).toNat) (strOfNums y170)).size + (cutS t168 ((wrap64 (t169 + 1)) : Int).toNat t168.size).size ≤ 9223372036854775807 then (ammonitelaw3_DeltaTells.j0 k t166 (catS (catS (cutS t168 0 (t169 : Int).toNat) (strOfNums y170)) (cutS t168 ((wrap64 (t169 + 1)) : Int).toNat t168.size))) else (none)) else (none)) else (none)) else (none))) else (none)) else (none)) else (if (Go.bits .and .i64 a5 7) = 1 then (if 0 ≤ t169 then (if t169 ≤ (t168.size : Int) then (ammonitelaw3_DeltaTells.j0 k t166 (cutS t168 0 (t169 : Int).toNat)) else (none)) else (none)) else (if (Go.bits .and .i64 a5 7) = 2 then (if 0 ≤ t169 then (if t169 ≤ (t168.size : Int) then (if 0 ≤ (mn (a2.size : Int) 3) then (if (mn (a2.size : Int) 3) ≤ (a2.size : Int) then (if (cutS t168 0 (t169 : Int).toNat).size + (cutS a2 0 ((mn (a2.size : Int) 3) : Int).toNat).size ≤ 9223372036854775807 then (if (catS (cutS t168 0 (t169 : Int).toNat) (cutS a2 0 ((mn (a2.size : Int) 3) : Int).toNat)).size + (cutS t168 (t169 : Int).toNat t168.size).size ≤ 9223372036854775807 then (ammonitelaw3_DeltaTells.j0 k t166 (catS (catS (cutS t168 0 (t169 : Int).toNat) (cutS a2 0 ((mn (a2.size : Int) 3) : Int).toNat)) (cutS t168 (t169 : Int).toNat t168.size))) else (none)) else (none)) else (none)) else (none)) else (none)) else (none)) else (if (Go.bits .and .i64 a5 7) = 3 then (if 0 ≤ (mn (a2.size : Int) 40) then (if (mn (a2.size : Int) 40) ≤ (a2.size : Int) then (ammonitelaw3_DeltaTells.j0 k t166 (cutS a2 0 ((mn (a2.size : Int) 40) : Int).toNat)) else (none)) else (none)) else (ammonitelaw3_DeltaTells.j0 k t166 t168)))))))) = some r := H
  have A7 := Aside0.mk A70
  clear A70
  replace H := Option.bind_eq_some_iff.mp H
  obtain ⟨t167, A80, H⟩ := H
  replace H : ((ammonitekeep_Delta.f k t166 t167 a3).bind fun t168 => ((ammonitebook_Within.f a3 0 (wrap64 ((t168.size : Int) - 1))).bind fun t169 => (if (Go.bits .and .i64 a5 7) = 0 then (if 0 ≤ t169 then (if t169 ≤ (t168.size : Int) then ((some (([a4] : List Int) : List Int)).bind fun y170 => (if (cutS t168 0 (t169 : Int).toNat).size + (strOfNums y170).size ≤ 9223372036854775807 then (if 0 ≤ (wrap64 (t169 + 1)) then (if (wrap64 (t169 + 1)) ≤ (t168.size : Int) then (if (catS (cutS t168 0 (t169 : Int).toNat) (strOfNums y170)).size + (cutS t168 ((wrap64 (t169 + 1)) : Int).toNat t168.size).size ≤ 9223372036854775807 then (ammonitelaw3_DeltaTells.j0 k t166 (catS (catS (cutS t168 0 (t169 : Int).toNat) (strOfNums y170)) (cutS t168 ((wrap64 (t169 + 1)) : Int).toNat t168.size))) else (none)) else (none)) else (none)) else (none))) else (none)) else (none)) else (if (Go.bits .and .i64 a5 7) = 1 then (if 0 ≤ t169 then (if t169 ≤ (t168.size : Int) then (ammonitelaw3_DeltaTells.j0 k t166 (cutS t168 0 (t169 : Int).toNat)) else (none)) else (none)) else (if (Go.bits .and .i64 a5 7) = 2 then (if 0 ≤ t169 then (if t169 ≤ (t168.size : Int) then (if 0 ≤ (mn (a2.size : Int) 3) then (if (mn (a2.size : Int) 3) ≤ (a2.size : Int) then (if (cutS t168 0 (t169 : Int).toNat).size + (cutS a2 0 ((mn (a2.size : Int) 3) : Int).toNat).size ≤ 9223372036854775807 then (if (catS (cutS t168 0 (t169 : Int).toNat) (cutS a2 0 ((mn (a2.size : Int) 3) : Int).toNat)).size + (cutS t168 (t169 : Int).toNat t168.size).size ≤ 9223372036854775807 then (ammonitelaw3_DeltaTells.j0 k t166 (catS (catS (cutS t168 0 (t169 : Int).toNat) (cutS a2 0 ((mn (a2.size : Int) 3) : Int).toNat)) (cutS t168 (t169 : Int).toNat t168.size))) else (none)) else (none)) else (none)) else (none)) else (none)) else (none)) else (if (Go.bits .and .i64 a5 7) = 3 then (if 0 ≤ (mn (a2.size : Int) 40) then (if (mn (a2.size : Int) 40) ≤ (a2.size : Int) then (ammonitelaw3_DeltaTells.j0 k t166 (cutS a2 0 ((mn (a2.size : Int) 40) : Int).toNat)) else (none)) else (none)) else (ammonitelaw3_DeltaTells.j0 k t166 t168))))))) = some r := H
  have A8 := Aside0.mk A80
  clear A80
  replace H := Option.bind_eq_some_iff.mp H
  obtain ⟨t168, A90, H⟩ := H
  replace H : ((ammonitebook_Within.f a3 0 (wrap64 ((t168.size : Int) - 1))).bind fun t169 => (if (Go.bits .and .i64 a5 7) = 0 then (if 0 ≤ t169 then (if t169 ≤ (t168.size : Int) then ((some (([a4] : List Int) : List Int)).bind fun y170 => (if (cutS t168 0 (t169 : Int).toNat).size + (strOfNums y170).size ≤ 9223372036854775807 then (if 0 ≤ (wrap64 (t169 + 1)) then (if (wrap64 (t169 + 1)) ≤ (t168.size : Int) then (if (catS (cutS t168 0 (t169 : Int).toNat) (strOfNums y170)).size + (cutS t168 ((wrap64 (t169 + 1)) : Int).toNat t168.size).size ≤ 9223372036854775807 then (ammonitelaw3_DeltaTells.j0 k t166 (catS (catS (cutS t168 0 (t169 : Int).toNat) (strOfNums y170)) (cutS t168 ((wrap64 (t169 + 1)) : Int).toNat t168.size))) else (none)) else (none)) else (none)) else (none))) else (none)) else (none)) else (if (Go.bits .and .i64 a5 7) = 1 then (if 0 ≤ t169 then (if t169 ≤ (t168.size : Int) then (ammonitelaw3_DeltaTells.j0 k t166 (cutS t168 0 (t169 : Int).toNat)) else (none)) else (none)) else (if (Go.bits .and .i64 a5 7) = 2 then (if 0 ≤ t169 then (if t169 ≤ (t168.size : Int) then (if 0 ≤ (mn (a2.size : Int) 3) then (if (mn (a2.size : Int) 3) ≤ (a2.size : Int) then (if (cutS t168 0 (t169 : Int).toNat).size + (cutS a2 0 ((mn (a2.size : Int) 3) : Int).toNat).size ≤ 9223372036854775807 then (if (catS (cutS t168 0 (t169 : Int).toNat) (cutS a2 0 ((mn (a2.size : Int) 3) : Int).toNat)).size + (cutS t168 (t169 : Int).toNat t168.size).size ≤ 9223372036854775807 then (ammonitelaw3_DeltaTells.j0 k t166 (catS (catS (cutS t168 0 (t169 : Int).toNat) (cutS a2 0 ((mn (a2.size : Int) 3) : Int).toNat)) (cutS t168 (t169 : Int).toNat t168.size))) else (none)) else (none)) else (none)) else (none)) else (none)) else (none)) else (if (Go.bits .and .i64 a5 7) = 3 then (if 0 ≤ (mn (a2.size : Int) 40) then (if (mn (a2.size : Int) 40) ≤ (a2.size : Int) then (ammonitelaw3_DeltaTells.j0 k t166 (cutS a2 0 ((mn (a2.size : Int) 40) : Int).toNat)) else (none)) else (none)) else (ammonitelaw3_DeltaTells.j0 k t166 t168)))))) = some r := H
  have A9 := Aside0.mk A90
  clear A90
  replace H := Option.bind_eq_some_iff.mp H
  obtain ⟨t169, A100, H⟩ := H
  replace H : (if (Go.bits .and .i64 a5 7) = 0 then (if 0 ≤ t169 then (if t169 ≤ (t168.size : Int) then ((some (([a4] : List Int) : List Int)).bind fun y170 => (if (cutS t168 0 (t169 : Int).toNat).size + (strOfNums y170).size ≤ 9223372036854775807 then (if 0 ≤ (wrap64 (t169 + 1)) then (if (wrap64 (t169 + 1)) ≤ (t168.size : Int) then (if (catS (cutS t168 0 (t169 : Int).toNat) (strOfNums y170)).size + (cutS t168 ((wrap64 (t169 + 1)) : Int).toNat t168.size).size ≤ 9223372036854775807 then (ammonitelaw3_DeltaTells.j0 k t166 (catS (catS (cutS t168 0 (t169 : Int).toNat) (strOfNums y170)) (cutS t168 ((wrap64 (t169 + 1)) : Int).toNat t168.size))) else (none)) else (none)) else (none)) else (none))) else (none)) else (none)) else (if (Go.bits .and .i64 a5 7) = 1 then (if 0 ≤ t169 then (if t169 ≤ (t168.size : Int) then (ammonitelaw3_DeltaTells.j0 k t166 (cutS t168 0 (t169 : Int).toNat)) else (none)) else (none)) else (if (Go.bits .and .i64 a5 7) = 2 then (if 0 ≤ t169 then (if t169 ≤ (t168.size : Int) then (if 0 ≤ (mn (a2.size : Int) 3) then (if (mn (a2.size : Int) 3) ≤ (a2.size : Int) then (if (cutS t168 0 (t169 : Int).toNat).size + (cutS a2 0 ((mn (a2.size : Int) 3) : Int).toNat).size ≤ 9223372036854775807 then (if (catS (cutS t168 0 (t169 : Int).toNat) (cutS a2 0 ((mn (a2.size : Int) 3) : Int).toNat)).size + (cutS t168 (t169 : Int).toNat t168.size).size ≤ 9223372036854775807 then (ammonitelaw3_DeltaTells.j0 k t166 (catS (catS (cutS t168 0 (t169 : Int).toNat) (cutS a2 0 ((mn (a2.size : Int) 3) : Int).toNat)) (cutS t168 (t169 : Int).toNat t168.size))) else (none)) else (none)) else (none)) else (none)) else (none)) else (none)) else (if (Go.bits .and .i64 a5 7) = 3 then (if 0 ≤ (mn (a2.size : Int) 40) then (if (mn (a2.size : Int) 40) ≤ (a2.size : Int) then (ammonitelaw3_DeltaTells.j0 k t166 (cutS a2 0 ((mn (a2.size : Int) 40) : Int).toNat)) else (none)) else (none)) else (ammonitelaw3_DeltaTells.j0 k t166 t168))))) = some r := H
  have A10 := Aside0.mk A100
  clear A100
  have HC11 := Aside0.mk H
  clear H
  go_enter Try.func7, Try.ntmps7
  try go_wp2_with (first | ((with_reducible refine gate_dst (N := 6) rfl ?_); (try (refine gate_guard (by rfl) ?_; dsimp only)); refine box_event ?hg (N := 6) ?hd (cs := #[.int .i64 a0_0, .slice A0_1 l0_1.length c0_1]) (t := 37) ?hr ?_; (case hd => rfl); (case hg => rfl); (case hr => first | (go_simp; done) | (go_simp; rfl)); intro gb164 hg w12 hbox hb; have n0_ := Aside0.mk (below_step (by repeat (first | (with_reducible first | exact HB.out | apply below_alloc | apply pw_below_drewN | apply below_drew1) | exact HB.out)) hb); have n1_ := Aside0.mk (hbox); have n2_ := Aside0.mk ((by rw [hg]; exact (below_size (by repeat (first | (with_reducible first | exact HB.out | apply below_alloc | apply pw_below_drewN | apply below_drew1) | exact HB.out))) : w.heap.size ≤ gb164)); have n3_ := Aside0.mk ((by rw [hg]; exact (below_size (by repeat (first | (with_reducible first | exact HB.out | apply below_alloc | apply pw_below_drewN | apply below_drew1) | exact HB.out))) : w.heap.size ≤ gb164)); clear HB; have HB := n0_; have BK164 := n1_; have GW164 := n2_; have GE164 := n3_; clear n0_ n1_ n2_ n3_; clear hb hbox hg) | ((with_reducible refine gate_dst (N := 7) rfl ?_); (try (refine gate_guard (by rfl) ?_; dsimp only)); refine box_event ?hg (N := 7) ?hd (cs := #[.int .i64 a1_0, .slice A1_1 l1_1.length c1_1]) (t := 37) ?hr ?_; (case hd => rfl); (case hg => rfl); (case hr => first | (go_simp; done) | (go_simp; rfl)); intro gb165 hg w13 hbox hb; have n0_ := Aside0.mk (blk_below (g := gb164) (o := .cells #[.int .i64 a0_0, .slice A0_1 l0_1.length c0_1] 37 (0, 0)) (by (with_reducible repeat (first | refine blk_drewN ?_ _ | refine blk_drew ?_ | refine blk_alloc ?_ _)); exact BK164.out) hb); have n1_ := Aside0.mk (below_step (by repeat (first | (with_reducible first | exact HB.out | apply below_alloc | apply pw_below_drewN | apply below_drew1 | refine below_set ?_ GE164.out) | exact HB.out)) hb); have n2_ := Aside0.mk (hbox); have n3_ := Aside0.mk ((by rw [hg]; exact (below_size (by repeat (first | (with_reducible first | exact HB.out | apply below_alloc | apply pw_below_drewN | apply below_drew1 | refine below_set ?_ GE164.out) | exact HB.out))) : w.heap.size ≤ gb165)); have n4_ := Aside0.mk ((by rw [hg]; exact (below_size (by repeat (first | (with_reducible first | exact HB.out | apply below_alloc | apply pw_below_drewN | apply below_drew1 | refine below_set ?_ GE164.out) | exact HB.out))) : w.heap.size ≤ gb165)); have n5_ := Aside0.mk ((by rw [hg]; exact Nat.ne_of_lt (blk_lt (g := gb164) (o := .cells #[.int .i64 a0_0, .slice A0_1 l0_1.length c0_1] 37 (0, 0)) (by (with_reducible repeat (first | refine blk_drewN ?_ _ | refine blk_drew ?_ | refine blk_alloc ?_ _)); exact BK164.out)) : gb164 ≠ gb165)); have n6_ := Aside0.mk ((by rw [hg]; exact Nat.ne_of_gt (blk_lt (g := gb164) (o := .cells #[.int .i64 a0_0, .slice A0_1 l0_1.length c0_1] 37 (0, 0)) (by (with_reducible repeat (first | refine blk_drewN ?_ _ | refine blk_drew ?_ | refine blk_alloc ?_ _)); exact BK164.out)) : gb165 ≠ gb164)); clear BK164; clear HB; have BK164 := n0_; have HB := n1_; have BK165 := n2_; have GW165 := n3_; have GE165 := n4_; have NB164_165 := n5_; have NB165_164 := n6_; clear n0_ n1_ n2_ n3_ n4_ n5_ n6_; clear hb hbox hg))
  (try (generalize hdn_ : World.drewN w13 _ = wdn_ at ⊢; obtain ⟨n_, hdn_⟩ : ∃ n, World.drewN w13 n = wdn_ := ⟨_, hdn_⟩; have m0_ := blk_drewN BK164.out n_; rw [hdn_] at m0_; have m0_ := Aside0.mk m0_; have m1_ := blk_drewN BK165.out n_; rw [hdn_] at m1_; have m1_ := Aside0.mk m1_; have m2_ := pw_below_drewN HB.out n_; rw [hdn_] at m2_; have m2_ := Aside0.mk m2_; clear hdn_ BK164 BK165 HB; have BK164 := m0_; have BK165 := m1_; have HB := m2_; clear m0_ m1_ m2_))
  have n0_ := Aside0.mk (blk_drew BK164.out)
  have n1_ := Aside0.mk (blk_drew BK165.out)
  have n2_ := Aside0.mk (below_drew1 HB.out)
  clear BK164
  clear BK165
  clear HB
  have BK164 := n0_
  have BK165 := n1_
  have HB := n2_
  clear n0_ n1_ n2_
  refine start_ (n := 6) (S := fun w' => w'.cell? ⟨gb164, 0, none⟩ = some (.int .i64 a0_0) ∧ w'.cell? ⟨gb164, 1, none⟩ = some (.slice A0_1 l0_1.length c0_1) ∧ w'.cell? ⟨gb165, 0, none⟩ = some (.int .i64 a1_0) ∧ w'.cell? ⟨gb165, 1, none⟩ = some (.slice A1_1 l1_1.length c1_1)) (ds := []) #[false, false, false, false, false, false] (by kernel_rfl) rfl rfl ⟨(blk_cell BK164.out 0).trans rfl, (blk_cell BK164.out 1).trans rfl, (blk_cell BK165.out 0).trans rfl, (blk_cell BK165.out 1).trans rfl⟩ (fun hHeld => ?_)
  (first | generalize wdn_.drew = w14 at BK164 BK165 HB hHeld ⊢ | generalize w13.drew = w14 at BK164 BK165 HB hHeld ⊢)
  refine take_ (i := 0) (N := some 26) (v := ?_) (a' := ?_) #[true, false, false, false, false, false] rfl rfl (by kernel_rfl) (fun _ _ _ h => h) (Or.inl ⟨by rfl, ?_⟩) hHeld ?_ ?_
  rotate_left
  · rintro w' ⟨s0, s1, s2, s3⟩
    go_simp
    with_reducible rfl
  rotate_left
  · simp only [Act.put, List.setIfInBounds_toArray, List.set_cons_zero, List.set_cons_succ, i64_w, i32_w]
    rfl
  refine take_ (i := 2) (N := some 28) (v := ?_) (a' := ?_) #[true, false, true, false, false, false] rfl rfl (by kernel_rfl) (fun _ _ _ h => h) (Or.inl ⟨by rfl, ?_⟩) hHeld ?_ ?_
  rotate_left
  · rintro w' ⟨s0, s1, s2, s3⟩
    go_simp
    with_reducible rfl
  rotate_left
  · simp only [Act.put, List.setIfInBounds_toArray, List.set_cons_zero, List.set_cons_succ, i64_w, i32_w]
    rfl
  refine one_ (i := 1) (N := some 27) #[true, true, true, false, false, false] rfl rfl (by kernel_rfl) (by decide) (fun K hK => ?_)
  refine goes_ Try.func22 (by kernel_rfl) rfl #[.agg #[.int .i64 a0_0, .slice A0_1 l0_1.length c0_1]] (by rfl) rfl rfl (by (try simp only [List.map_toArray, List.map_cons, List.map_nil]); first | done | rfl | (simp only [List.length_drop, List.length_take]; rfl)) ?_
  with_reducible refine (ammonitekeep_Text_Text.calls k a0_0 _ _ l0_1 t166 _ ?side1 ?side2 A7.out).mono ?_
  (case side1 => repeat (first | exact (Kd.C_below HR0_1.out HB.out) | (with_reducible refine Kd.C_alloc ?_ _) | (with_reducible refine Kd.C_drewN ?_ _) | (with_reducible refine Kd.C_drew ?_)))
  (case side2 => exact HC0_1.out)
  rintro e w15 ⟨rfl, hb⟩
  refine ⟨_, rfl, ?_⟩
  have n0_ := Aside0.mk (blk_below (g := gb164) (o := .cells #[.int .i64 a0_0, .slice A0_1 l0_1.length c0_1] 37 (0, 0)) (by (with_reducible repeat (first | refine blk_drewN ?_ _ | refine blk_drew ?_ | refine blk_alloc ?_ _)); exact BK164.out) hb)
  have n1_ := Aside0.mk (blk_below (g := gb165) (o := .cells #[.int .i64 a1_0, .slice A1_1 l1_1.length c1_1] 37 (0, 0)) (by (with_reducible repeat (first | refine blk_drewN ?_ _ | refine blk_drew ?_ | refine blk_alloc ?_ _)); exact BK165.out) hb)
  have n2_ := Aside0.mk (below_step (by repeat (first | (with_reducible first | exact HB.out | apply below_alloc | apply pw_below_drewN | apply below_drew1 | refine below_set ?_ GE164.out | refine below_set ?_ GE165.out) | exact HB.out)) hb)
  clear BK164
  clear BK165
  clear HB
  have BK164 := n0_
  have BK165 := n1_
  have HB := n2_
  clear n0_ n1_ n2_
  (try clear hb)
  (try clear hb2)
  (try clear hk)
  (try clear hi)
  refine hK.out _ _ ⟨(blk_cell BK164.out 0).trans rfl, (blk_cell BK164.out 1).trans rfl, (blk_cell BK165.out 0).trans rfl, (blk_cell BK165.out 1).trans rfl⟩ (fun hHeld => ?_)
  clear hK K
  refine norm_ (a' := ?_) ?_ ?_
  rotate_left
  · show Act.put _ (some 27) _ = _
    simp only [Act.put, List.setIfInBounds_toArray, List.set_cons_zero, List.set_cons_succ, i64_w, i32_w]
    rfl
  refine one_ (i := 3) (N := some 29) #[true, true, true, true, false, false] rfl rfl (by kernel_rfl) (by decide) (fun K hK => ?_)
  refine goes_ Try.func22 (by kernel_rfl) rfl #[.agg #[.int .i64 a1_0, .slice A1_1 l1_1.length c1_1]] (by rfl) rfl rfl (by (try simp only [List.map_toArray, List.map_cons, List.map_nil]); first | done | rfl | (simp only [List.length_drop, List.length_take]; rfl)) ?_
  with_reducible refine (ammonitekeep_Text_Text.calls k a1_0 _ _ l1_1 t167 _ ?side1 ?side2 A8.out).mono ?_
  (case side1 => repeat (first | exact (Kd.C_below HR1_1.out HB.out) | (with_reducible refine Kd.C_alloc ?_ _) | (with_reducible refine Kd.C_drewN ?_ _) | (with_reducible refine Kd.C_drew ?_)))
  (case side2 => exact HC1_1.out)
  rintro e w16 ⟨rfl, hb⟩
  refine ⟨_, rfl, ?_⟩
  have n0_ := Aside0.mk (blk_below (g := gb164) (o := .cells #[.int .i64 a0_0, .slice A0_1 l0_1.length c0_1] 37 (0, 0)) (by (with_reducible repeat (first | refine blk_drewN ?_ _ | refine blk_drew ?_ | refine blk_alloc ?_ _)); exact BK164.out) hb)
  have n1_ := Aside0.mk (blk_below (g := gb165) (o := .cells #[.int .i64 a1_0, .slice A1_1 l1_1.length c1_1] 37 (0, 0)) (by (with_reducible repeat (first | refine blk_drewN ?_ _ | refine blk_drew ?_ | refine blk_alloc ?_ _)); exact BK165.out) hb)
  have n2_ := Aside0.mk (below_step (by repeat (first | (with_reducible first | exact HB.out | apply below_alloc | apply pw_below_drewN | apply below_drew1 | refine below_set ?_ GE164.out | refine below_set ?_ GE165.out) | exact HB.out)) hb)
  clear BK164
  clear BK165
  clear HB
  have BK164 := n0_
  have BK165 := n1_
  have HB := n2_
  clear n0_ n1_ n2_
  (try clear hb)
  (try clear hb2)
  (try clear hk)
  (try clear hi)
  refine hK.out _ _ ⟨(blk_cell BK164.out 0).trans rfl, (blk_cell BK164.out 1).trans rfl, (blk_cell BK165.out 0).trans rfl, (blk_cell BK165.out 1).trans rfl⟩ (fun hHeld => ?_)
  clear hK K
  refine norm_ (a' := ?_) ?_ ?_
  rotate_left
  · show Act.put _ (some 29) _ = _
    simp only [Act.put, List.setIfInBounds_toArray, List.set_cons_zero, List.set_cons_succ, i64_w, i32_w]
    rfl
  refine pure_ (i := 4) (N := some 13) (v := ?_) (a' := ?_) #[true, true, true, true, true, false] rfl rfl (by kernel_rfl) (fun _ _ _ h => h) (Or.inl ⟨by rfl, ?_⟩) ?_ ?_
  rotate_left
  · intro w'
    go_simp
    with_reducible rfl
  rotate_left
  · simp only [Act.put, List.setIfInBounds_toArray, List.set_cons_zero, List.set_cons_succ, i64_w, i32_w]
    rfl
  refine pure_ (i := 5) (N := some 14) (v := ?_) (a' := ?_) #[true, true, true, true, true, true] rfl rfl (by kernel_rfl) (fun _ _ _ h => h) (Or.inl ⟨by rfl, ?_⟩) ?_ ?_
  rotate_left
  · intro w'
    go_simp
    with_reducible rfl
  rotate_left
  · simp only [Act.put, List.setIfInBounds_toArray, List.set_cons_zero, List.set_cons_succ, i64_w, i32_w]
    rfl
  refine done_ (by kernel_rfl) ?_
  go_upto_block 0 with (first | ((with_reducible refine gate_callee (f := 23) rfl ?_); refine goesL_ (some 33) rfl rfl Try.func23 (by kernel_rfl) rfl #[.string t166, .string t167, .int .i64 a3] rfl (by (try simp only [List.map_toArray, List.map_cons, List.map_nil]); first | done | rfl | (simp only [List.length_drop, List.length_take]; rfl)) ?_; (with_reducible refine (ammonitekeep_Delta.calls k t166 t167 a3 t168 _ A9.out).mono ?_); rintro e w' ⟨rfl, ⟨nd, rfl⟩⟩; refine ⟨_, rfl, ?_⟩) | ((with_reducible refine gate_callee (f := 17) rfl ?_); refine goesL_ (some 38) rfl rfl Try.func17 (by kernel_rfl) rfl #[.int .i64 a3, .int .i64 0, .int .i64 (wrap64 ((t168.size : Int) - 1))] rfl (by (try simp only [List.map_toArray, List.map_cons, List.map_nil]); first | done | rfl | (simp only [List.length_drop, List.length_take]; rfl)) ?_; (with_reducible refine (ammonitebook_Within.calls a3 0 (wrap64 ((t168.size : Int) - 1)) t169 _ A10.out).mono ?_); rintro e w' ⟨rfl, ⟨nd, rfl⟩⟩; refine ⟨_, rfl, ?_⟩))
  (try simp only [Act.put, List.setIfInBounds_toArray, List.set_cons_zero, List.set_cons_succ])
  go_cut [15] (fun v15 wc => ∃ (kq : Nat) (x15_10 : ByteArray), v15 = .string x15_10 ∧ Aside0 (ammonitelaw3_DeltaTells.j0 kq t166 x15_10 = some r) ∧ Aside0 (kq ≤ k) ∧ Aside0 (wc.heap[gb164]? = some (.cells #[.int .i64 a0_0, (.slice A0_1 l0_1.length c0_1)] 37 (0, 0))) ∧ Aside0 (wc.heap[gb165]? = some (.cells #[.int .i64 a1_0, (.slice A1_1 l1_1.length c1_1)] 37 (0, 0))) ∧ Aside0 (Below w.heap.size w wc))
  case first =>
    have H := HC11.out
    clear HC11
    by_cases c17 : (Go.bits .and .i64 a5 7) = 0
    · rw [if_pos c17] at H
      have c17b0 : ((Go.bits .and .i64 a5 7) == 0) = true := beq_iff_eq.mpr c17
      have c17b1 : ((Go.bits .and .i64 a5 7) != 0) = false := bne_eq_false_iff_eq.mpr c17
      clear c17
      (first | rw [c17b0] | (simp only [i64_w, i32_w]; rw [c17b0]) | skip)
      by_cases c18 : 0 ≤ t169
      · rw [if_pos c18] at H
        have c18b0 := eq_true c18
        have c18b1 : decide (0 ≤ t169) = true := decide_eq_true c18
        clear c18
        by_cases c19 : t169 ≤ (t168.size : Int)
        · rw [if_pos c19] at H
          have c19b0 := eq_true c19
          have c19b1 : decide (t169 ≤ (t168.size : Int)) = true := decide_eq_true c19
          clear c19
          obtain ⟨y170, hy170⟩ : ∃ y_ : List Int, y_ = (([a4] : List Int)) := ⟨_, rfl⟩
          replace H : (if (cutS t168 0 (t169 : Int).toNat).size + (strOfNums y170).size ≤ 9223372036854775807 then (if 0 ≤ (wrap64 (t169 + 1)) then (if (wrap64 (t169 + 1)) ≤ (t168.size : Int) then (if (catS (cutS t168 0 (t169 : Int).toNat) (strOfNums y170)).size + (cutS t168 ((wrap64 (t169 + 1)) : Int).toNat t168.size).size ≤ 9223372036854775807 then (ammonitelaw3_DeltaTells.j0 k t166 (catS (catS (cutS t168 0 (t169 : Int).toNat) (strOfNums y170)) (cutS t168 ((wrap64 (t169 + 1)) : Int).toNat t168.size))) else (none)) else (none)) else (none)) else (none)) = some r := by first | (rw [hy170]; with_reducible exact H) | (have H2_ := (Option.bind_some _ _).symm.trans H; rw [hy170]; with_reducible exact H2_) | (have H2_ := (Option.bind_some _ _).symm.trans H; with_reducible exact H2_) | with_reducible exact H | (rw [hy170]; exact H) | exact H
          have Ny170 := Aside0.mk hy170
          clear hy170
          by_cases c20 : (cutS t168 0 (t169 : Int).toNat).size + (strOfNums y170).size ≤ 9223372036854775807
          · rw [if_pos c20] at H
            have c20b0 := eq_true c20
            have c20b1 : decide ((cutS t168 0 (t169 : Int).toNat).size + (strOfNums y170).size ≤ 9223372036854775807) = true := decide_eq_true c20
            try have c20b2 : (9223372036854775807 < (cutS t168 0 (t169 : Int).toNat).size + (strOfNums y170).size) = False := eq_false (Nat.not_lt.2 c20)
            clear c20
            obtain ⟨ji21, hji21⟩ : ∃ j_ : Int, (wrap64 (t169 + 1)) = j_ := ⟨_, rfl⟩
            replace H : (if 0 ≤ (ji21) then (if (ji21) ≤ (t168.size : Int) then (if (catS (cutS t168 0 (t169 : Int).toNat) (strOfNums y170)).size + (cutS t168 ((ji21) : Int).toNat t168.size).size ≤ 9223372036854775807 then (ammonitelaw3_DeltaTells.j0 k t166 (catS (catS (cutS t168 0 (t169 : Int).toNat) (strOfNums y170)) (cutS t168 ((ji21) : Int).toNat t168.size))) else (none)) else (none)) else (none)) = some r := by first | (rw [hji21] at H; exact H) | (simp only [hji21] at H ⊢; exact H)
            have hji21w : (IntKind.i64.wrap (t169 + 1)) = ji21 := (i64_w _).trans hji21
            by_cases c22 : 0 ≤ (ji21)
            · rw [if_pos c22] at H
              have c22b0 := eq_true c22
              have c22b1 : decide (0 ≤ (ji21)) = true := decide_eq_true c22
              clear c22
              by_cases c23 : (ji21) ≤ (t168.size : Int)
              · rw [if_pos c23] at H
                have c23b0 := eq_true c23
                have c23b1 : decide ((ji21) ≤ (t168.size : Int)) = true := decide_eq_true c23
                clear c23
                by_cases c24 : (catS (cutS t168 0 (t169 : Int).toNat) (strOfNums y170)).size + (cutS t168 ((ji21) : Int).toNat t168.size).size ≤ 9223372036854775807
                · rw [if_pos c24] at H
                  have c24b0 := eq_true c24
                  have c24b1 : decide ((catS (cutS t168 0 (t169 : Int).toNat) (strOfNums y170)).size + (cutS t168 ((ji21) : Int).toNat t168.size).size ≤ 9223372036854775807) = true := decide_eq_true c24
                  try have c24b2 : (9223372036854775807 < (catS (cutS t168 0 (t169 : Int).toNat) (strOfNums y170)).size + (cutS t168 ((ji21) : Int).toNat t168.size).size) = False := eq_false (Nat.not_lt.2 c24)
                  clear c24
                  have H' := Aside0.mk H
                  clear H
                  try go_wp2
                  (try (generalize hdn_ : World.drewN w16 _ = wdn_ at ⊢; obtain ⟨n_, hdn_⟩ : ∃ n, World.drewN w16 n = wdn_ := ⟨_, hdn_⟩; have m0_ := blk_drewN BK164.out n_; rw [hdn_] at m0_; have m0_ := Aside0.mk m0_; have m1_ := blk_drewN BK165.out n_; rw [hdn_] at m1_; have m1_ := Aside0.mk m1_; have m2_ := pw_below_drewN HB.out n_; rw [hdn_] at m2_; have m2_ := Aside0.mk m2_; clear hdn_ BK164 BK165 HB; have BK164 := m0_; have BK165 := m1_; have HB := m2_; clear m0_ m1_ m2_))
                  have n0_ := Aside0.mk (blk_drew BK164.out)
                  have n1_ := Aside0.mk (blk_drew BK165.out)
                  have n2_ := Aside0.mk (below_drew1 HB.out)
                  clear BK164
                  clear BK165
                  clear HB
                  have BK164 := n0_
                  have BK165 := n1_
                  have HB := n2_
                  clear n0_ n1_ n2_
                  refine start_ (n := 13) (S := fun w' => True) (ds := []) #[false, false, false, false, false, false, false, false, false, false, false, false, false] (by kernel_rfl) rfl rfl trivial (fun hHeld => ?_); refine with_tabW ammonitelaw3_DeltaTells.tab6 ammonitelaw3_DeltaTells.bits6 (fun HT_ HW_ => ?_)
                  (first | generalize wdn_.drew = w25 at BK164 BK165 HB hHeld ⊢ | generalize w16.drew = w25 at BK164 BK165 HB hHeld ⊢)
                  refine pure_ (i := 0) (N := some 43) (v := ?_) (a' := ?_) #[true, false, false, false, false, false, false, false, false, false, false, false, false] rfl rfl (any_of HT_.out (by kernel_rfl)) (fun _ _ _ h => h) (Or.inl ⟨by rfl, ?_⟩) ?_ ?_
                  rotate_left
                  · intro w'
                    go_simp
                    with_reducible rfl
                  rotate_left
                  · simp only [Act.put, List.setIfInBounds_toArray, List.set_cons_zero, List.set_cons_succ, i64_w, i32_w]
                    rfl
                  refine pure_ (i := 1) (N := some 44) (v := ?_) (a' := ?_) #[true, true, false, false, false, false, false, false, false, false, false, false, false] rfl rfl (any_of HT_.out (by kernel_rfl)) (fun _ _ _ h => h) (Or.inl ⟨by rfl, ?_⟩) ?_ ?_
                  rotate_left
                  · intro w'
                    go_simp
                    with_reducible rfl
                  rotate_left
                  · simp only [Act.put, List.setIfInBounds_toArray, List.set_cons_zero, List.set_cons_succ, i64_w, i32_w]
                    rfl
                  refine pure_ (i := 2) (N := some 45) (v := ?_) (a' := ?_) #[true, true, true, false, false, false, false, false, false, false, false, false, false] rfl rfl (any_of HT_.out (by kernel_rfl)) (fun _ _ _ h => h) (Or.inl ⟨by rfl, ?_⟩) ?_ ?_
                  rotate_left
                  · intro w'
                    go_simp
                    with_reducible rfl
                  rotate_left
                  · simp only [Act.put, List.setIfInBounds_toArray, List.set_cons_zero, List.set_cons_succ, i64_w, i32_w]
                    rfl
                  refine pure_ (i := 3) (N := some 46) (v := ?_) (a' := ?_) #[true, true, true, true, false, false, false, false, false, false, false, false, false] rfl rfl (any_of HT_.out (by kernel_rfl)) (fun _ _ _ h => h) (Or.inl ⟨by rfl, ?_⟩) ?_ ?_
                  rotate_left
                  · intro w'
                    go_simp
                    with_reducible rfl
                  rotate_left
                  · simp only [Act.put, List.setIfInBounds_toArray, List.set_cons_zero, List.set_cons_succ, i64_w, i32_w]
                    rfl
                  refine pure_ (i := 7) (N := some 50) (v := ?_) (a' := ?_) #[true, true, true, true, false, false, false, true, false, false, false, false, false] rfl rfl (any_of HT_.out (by kernel_rfl)) (fun _ _ _ h => h) (Or.inl ⟨by rfl, ?_⟩) ?_ ?_
                  rotate_left
                  · intro w'
                    go_simp
                    with_reducible rfl
                  rotate_left
                  · simp only [Act.put, List.setIfInBounds_toArray, List.set_cons_zero, List.set_cons_succ, i64_w, i32_w]
                    rfl
                  refine pure_ (i := 8) (N := some 51) (v := ?_) (a' := ?_) #[true, true, true, true, false, false, false, true, true, false, false, false, false] rfl rfl (any_of HT_.out (by kernel_rfl)) (fun _ _ _ h => h) (Or.inl ⟨by rfl, ?_⟩) ?_ ?_
                  rotate_left
                  · intro w'
                    go_simp
                    with_reducible rfl
                  rotate_left
                  · simp only [Act.put, List.setIfInBounds_toArray, List.set_cons_zero, List.set_cons_succ, i64_w, i32_w]
                    rfl
                  refine pure_ (i := 9) (N := some 52) (v := ?_) (a' := ?_) #[true, true, true, true, false, false, false, true, true, true, false, false, false] rfl rfl (any_of HT_.out (by kernel_rfl)) (fun _ _ _ h => h) (Or.inl ⟨by rfl, ?_⟩) ?_ ?_
                  rotate_left
                  · intro w'
                    go_simp
                    with_reducible rfl
                  rotate_left
                  · simp only [Act.put, List.setIfInBounds_toArray, List.set_cons_zero, List.set_cons_succ, i64_w, i32_w]
                    rfl
                  refine pure_ (i := 10) (N := some 53) (v := ?_) (a' := ?_) #[true, true, true, true, false, false, false, true, true, true, true, false, false] rfl rfl (any_of HT_.out (by kernel_rfl)) (fun _ _ _ h => h) (Or.inl ⟨by rfl, ?_⟩) ?_ ?_
                  rotate_left
                  · intro w'
                    go_simp
                    with_reducible rfl
                  rotate_left
                  · simp only [Act.put, List.setIfInBounds_toArray, List.set_cons_zero, List.set_cons_succ, i64_w, i32_w]
                    rfl
                  refine one_ (i := 4) (N := some 47) #[true, true, true, true, true, false, false, true, true, true, true, false, false] rfl rfl (one_of HT_.out (by kernel_rfl)) (by decide) (fun K hK => ?_)
                  refine Kd.R_lit_step (Kd.int .u8) _ 5 ?hg (N := 47) ?hd (xs := ([a4] : List Int)) (inner := [.int .u8 a4]) (ok := fun _ => True) (okp := fun _ => True) ?hr ?hp (fun _ hk => hk) trivial (Below.refl _ _) (Nat.le_refl _) (by simp) ?_; (case hd => rfl); (case hg => rfl); (case hr => first | (go_simp; done) | (go_simp; rfl)); (case hp => exact (Reps.one (show Kd.M (Kd.int .u8) _ _ _ a4 [.int .u8 a4] from rfl) (Reps.none _ _)))
                  intro v171 w26 ho27 hb hg_ hnew_
                  clear hg_ hnew_
                  (first | rw [← Ny170.out] at ho27 | (simp only [Int.reduceToNat] at ho27; rw [← Ny170.out] at ho27))
                  have n0_ := Aside0.mk (Kd.R_lower ho27 (below_size (by repeat (first | (with_reducible first | exact HB.out | apply below_alloc | apply pw_below_drewN | apply below_drew1 | refine below_set ?_ GE164.out | refine below_set ?_ GE165.out) | exact HB.out))))
                  have n1_ := Aside0.mk (blk_below (g := gb164) (o := .cells #[.int .i64 a0_0, .slice A0_1 l0_1.length c0_1] 37 (0, 0)) (by (with_reducible repeat (first | refine blk_drewN ?_ _ | refine blk_drew ?_ | refine blk_alloc ?_ _)); exact BK164.out) hb)
                  have n2_ := Aside0.mk (blk_below (g := gb165) (o := .cells #[.int .i64 a1_0, .slice A1_1 l1_1.length c1_1] 37 (0, 0)) (by (with_reducible repeat (first | refine blk_drewN ?_ _ | refine blk_drew ?_ | refine blk_alloc ?_ _)); exact BK165.out) hb)
                  have n3_ := Aside0.mk (below_step (by repeat (first | (with_reducible first | exact HB.out | apply below_alloc | apply pw_below_drewN | apply below_drew1 | refine below_set ?_ GE164.out | refine below_set ?_ GE165.out) | exact HB.out)) hb)
                  clear BK164
                  clear BK165
                  clear HB
                  have HO172 := n0_
                  have BK164 := n1_
                  have BK165 := n2_
                  have HB := n3_
                  clear n0_ n1_ n2_ n3_
                  clear hb ho27
                  refine hK.out _ _ trivial (fun hHeld => ?_)
                  clear hK K
                  refine norm_ (a' := ?_) ?_ ?_
                  rotate_left
                  · show Act.put _ (some 47) _ = _
                    simp only [Act.put, List.setIfInBounds_toArray, List.set_cons_zero, List.set_cons_succ, i64_w, i32_w]
                    rfl
                  refine one_ (i := 5) (N := some 48) #[true, true, true, true, true, true, false, true, true, true, true, false, false] rfl rfl (one_of HT_.out (by kernel_rfl)) (by decide) (fun K hK => ?_)
                  have hcv28 := own_string (P := Try.prog) Try.underlying26 Try.underlying5 Try.underlying9 (Kd.own_of_R HO172.out)
                  refine value_ (w1 := ?_) (v := ?_) (by rfl) rfl ?_ ?_
                  rotate_left 2
                  · go_simp
                    constructor
                    · rfl
                    · rfl
                  clear hcv28
                  refine hK.out _ _ trivial (fun hHeld => ?_)
                  clear hK K
                  refine norm_ (a' := ?_) ?_ ?_
                  rotate_left
                  · show Act.put _ (some 48) _ = _
                    simp only [Act.put, List.setIfInBounds_toArray, List.set_cons_zero, List.set_cons_succ, i64_w, i32_w]
                    rfl
                  refine pure_ (i := 6) (N := some 49) (v := ?_) (a' := ?_) #[true, true, true, true, true, true, true, true, true, true, true, false, false] rfl rfl (any_of HT_.out (by kernel_rfl)) (fun _ _ _ h => h) (Or.inl ⟨by rfl, ?_⟩) ?_ ?_
                  rotate_left
                  · intro w'
                    go_simp
                    with_reducible rfl
                  rotate_left
                  · simp only [Act.put, List.setIfInBounds_toArray, List.set_cons_zero, List.set_cons_succ, i64_w, i32_w]
                    rfl
                  refine pure_ (i := 11) (N := some 54) (v := ?_) (a' := ?_) #[true, true, true, true, true, true, true, true, true, true, true, true, false] rfl rfl (any_of HT_.out (by kernel_rfl)) (fun _ _ _ h => h) (Or.inl ⟨by rfl, ?_⟩) ?_ ?_
                  rotate_left
                  · intro w'
                    go_simp
                    with_reducible rfl
                  rotate_left
                  · simp only [Act.put, List.setIfInBounds_toArray, List.set_cons_zero, List.set_cons_succ, i64_w, i32_w]
                    rfl
                  refine pure_ (i := 12) (N := some 15) (v := ?_) (a' := ?_) #[true, true, true, true, true, true, true, true, true, true, true, true, true] rfl rfl (any_of HT_.out (by kernel_rfl)) (fun _ _ _ h => h) (Or.inl ⟨by rfl, ?_⟩) ?_ ?_
                  rotate_left
                  · intro w'
                    go_simp
                    with_reducible rfl
                  rotate_left
                  · simp only [Act.put, List.setIfInBounds_toArray, List.set_cons_zero, List.set_cons_succ, i64_w, i32_w]
                    rfl
                  refine done_ (done_of HT_.out (by kernel_rfl)) ?_
                  try go_wp2
                  go_meet
                  case rel => exact ⟨_, (catS (catS (cutS t168 0 (t169 : Int).toNat) (strOfNums y170)) (cutS t168 ((ji21) : Int).toNat t168.size)), (by first | rfl | (simp; done) | (simp only [← hji21] <;> (first | rfl | simp)) | (simp [*]; done)), H', ⟨by first | omega | exact Nat.le_refl _⟩, ⟨by (with_reducible repeat (first | refine blk_drewN ?_ _ | refine blk_drew ?_ | refine blk_alloc ?_ _)); exact BK164.out⟩, ⟨by (with_reducible repeat (first | refine blk_drewN ?_ _ | refine blk_drew ?_ | refine blk_alloc ?_ _)); exact BK165.out⟩, ⟨by repeat (first | (with_reducible first | exact HB.out | apply below_alloc | apply pw_below_drewN | apply below_drew1 | refine below_set ?_ GE164.out | refine below_set ?_ GE165.out) | exact HB.out)⟩⟩
                  all_goals (exfalso; (try simp only [beq_iff_eq, bne_iff_ne, ne_eq, decide_eq_true_eq, decide_eq_false_iff_not, decide_eq_decide, bne_eq_false_iff_eq, beq_eq_false_iff_ne, Bool.not_eq_true, Bool.not_eq_false, Bool.not_eq_true', Bool.not_eq_false', Bool.true_beq, Bool.false_beq, Bool.true_bne, Bool.false_bne, Bool.bne_true, Bool.bne_false] at c17b0); (try simp only [beq_iff_eq, bne_iff_ne, ne_eq, decide_eq_true_eq, decide_eq_false_iff_not, decide_eq_decide, bne_eq_false_iff_eq, beq_eq_false_iff_ne, Bool.not_eq_true, Bool.not_eq_false, Bool.not_eq_true', Bool.not_eq_false', Bool.true_beq, Bool.false_beq, Bool.true_bne, Bool.false_bne, Bool.bne_true, Bool.bne_false] at c17b1); (try simp only [beq_iff_eq, bne_iff_ne, ne_eq, decide_eq_true_eq, decide_eq_false_iff_not, decide_eq_decide, bne_eq_false_iff_eq, beq_eq_false_iff_ne, Bool.not_eq_true, Bool.not_eq_false, Bool.not_eq_true', Bool.not_eq_false', Bool.true_beq, Bool.false_beq, Bool.true_bne, Bool.false_bne, Bool.bne_true, Bool.bne_false] at c18b0); (try simp only [beq_iff_eq, bne_iff_ne, ne_eq, decide_eq_true_eq, decide_eq_false_iff_not, decide_eq_decide, bne_eq_false_iff_eq, beq_eq_false_iff_ne, Bool.not_eq_true, Bool.not_eq_false, Bool.not_eq_true', Bool.not_eq_false', Bool.true_beq, Bool.false_beq, Bool.true_bne, Bool.false_bne, Bool.bne_true, Bool.bne_false] at c18b1); (try simp only [beq_iff_eq, bne_iff_ne, ne_eq, decide_eq_true_eq, decide_eq_false_iff_not, decide_eq_decide, bne_eq_false_iff_eq, beq_eq_false_iff_ne, Bool.not_eq_true, Bool.not_eq_false, Bool.not_eq_true', Bool.not_eq_false', Bool.true_beq, Bool.false_beq, Bool.true_bne, Bool.false_bne, Bool.bne_true, Bool.bne_false] at c19b0); (try simp only [beq_iff_eq, bne_iff_ne, ne_eq, decide_eq_true_eq, decide_eq_false_iff_not, decide_eq_decide, bne_eq_false_iff_eq, beq_eq_false_iff_ne, Bool.not_eq_true, Bool.not_eq_false, Bool.not_eq_true', Bool.not_eq_false', Bool.true_beq, Bool.false_beq, Bool.true_bne, Bool.false_bne, Bool.bne_true, Bool.bne_false] at c19b1); (try simp only [beq_iff_eq, bne_iff_ne, ne_eq, decide_eq_true_eq, decide_eq_false_iff_not, decide_eq_decide, bne_eq_false_iff_eq, beq_eq_false_iff_ne, Bool.not_eq_true, Bool.not_eq_false, Bool.not_eq_true', Bool.not_eq_false', Bool.true_beq, Bool.false_beq, Bool.true_bne, Bool.false_bne, Bool.bne_true, Bool.bne_false] at c20b0); (try simp only [beq_iff_eq, bne_iff_ne, ne_eq, decide_eq_true_eq, decide_eq_false_iff_not, decide_eq_decide, bne_eq_false_iff_eq, beq_eq_false_iff_ne, Bool.not_eq_true, Bool.not_eq_false, Bool.not_eq_true', Bool.not_eq_false', Bool.true_beq, Bool.false_beq, Bool.true_bne, Bool.false_bne, Bool.bne_true, Bool.bne_false] at c20b1); (try simp only [beq_iff_eq, bne_iff_ne, ne_eq, decide_eq_true_eq, decide_eq_false_iff_not, decide_eq_decide, bne_eq_false_iff_eq, beq_eq_false_iff_ne, Bool.not_eq_true, Bool.not_eq_false, Bool.not_eq_true', Bool.not_eq_false', Bool.true_beq, Bool.false_beq, Bool.true_bne, Bool.false_bne, Bool.bne_true, Bool.bne_false] at c22b0); (try simp only [beq_iff_eq, bne_iff_ne, ne_eq, decide_eq_true_eq, decide_eq_false_iff_not, decide_eq_decide, bne_eq_false_iff_eq, beq_eq_false_iff_ne, Bool.not_eq_true, Bool.not_eq_false, Bool.not_eq_true', Bool.not_eq_false', Bool.true_beq, Bool.false_beq, Bool.true_bne, Bool.false_bne, Bool.bne_true, Bool.bne_false] at c22b1); (try simp only [beq_iff_eq, bne_iff_ne, ne_eq, decide_eq_true_eq, decide_eq_false_iff_not, decide_eq_decide, bne_eq_false_iff_eq, beq_eq_false_iff_ne, Bool.not_eq_true, Bool.not_eq_false, Bool.not_eq_true', Bool.not_eq_false', Bool.true_beq, Bool.false_beq, Bool.true_bne, Bool.false_bne, Bool.bne_true, Bool.bne_false] at c23b0); (try simp only [beq_iff_eq, bne_iff_ne, ne_eq, decide_eq_true_eq, decide_eq_false_iff_not, decide_eq_decide, bne_eq_false_iff_eq, beq_eq_false_iff_ne, Bool.not_eq_true, Bool.not_eq_false, Bool.not_eq_true', Bool.not_eq_false', Bool.true_beq, Bool.false_beq, Bool.true_bne, Bool.false_bne, Bool.bne_true, Bool.bne_false] at c23b1); (try simp only [beq_iff_eq, bne_iff_ne, ne_eq, decide_eq_true_eq, decide_eq_false_iff_not, decide_eq_decide, bne_eq_false_iff_eq, beq_eq_false_iff_ne, Bool.not_eq_true, Bool.not_eq_false, Bool.not_eq_true', Bool.not_eq_false', Bool.true_beq, Bool.false_beq, Bool.true_bne, Bool.false_bne, Bool.bne_true, Bool.bne_false] at c24b0); (try simp only [beq_iff_eq, bne_iff_ne, ne_eq, decide_eq_true_eq, decide_eq_false_iff_not, decide_eq_decide, bne_eq_false_iff_eq, beq_eq_false_iff_ne, Bool.not_eq_true, Bool.not_eq_false, Bool.not_eq_true', Bool.not_eq_false', Bool.true_beq, Bool.false_beq, Bool.true_bne, Bool.false_bne, Bool.bne_true, Bool.bne_false] at c24b1); (try unfold wrap64 at *); omega)
                · rw [if_neg c24] at H
                  exact absurd H (by simp)
              · rw [if_neg c23] at H
                exact absurd H (by simp)
            · rw [if_neg c22] at H
              exact absurd H (by simp)
          · rw [if_neg c20] at H
            exact absurd H (by simp)
        · rw [if_neg c19] at H
          exact absurd H (by simp)
      · rw [if_neg c18] at H
        exact absurd H (by simp)
    · rw [if_neg c17] at H
      have c17b0 : ((Go.bits .and .i64 a5 7) == 0) = false := beq_eq_false_iff_ne.mpr c17
      have c17b1 : ((Go.bits .and .i64 a5 7) != 0) = true := bne_iff_ne.mpr c17
      (first | rw [c17b0] | (simp only [i64_w, i32_w]; rw [c17b0]) | skip)
      by_cases c29 : (Go.bits .and .i64 a5 7) = 1
      · rw [if_pos c29] at H
        have c29b0 : ((Go.bits .and .i64 a5 7) == 1) = true := beq_iff_eq.mpr c29
        have c29b1 : ((Go.bits .and .i64 a5 7) != 1) = false := bne_eq_false_iff_eq.mpr c29
        clear c29
        by_cases c30 : 0 ≤ t169
        · rw [if_pos c30] at H
          have c30b0 := eq_true c30
          have c30b1 : decide (0 ≤ t169) = true := decide_eq_true c30
          clear c30
          by_cases c31 : t169 ≤ (t168.size : Int)
          · rw [if_pos c31] at H
            have c31b0 := eq_true c31
            have c31b1 : decide (t169 ≤ (t168.size : Int)) = true := decide_eq_true c31
            clear c31
            have H' := Aside0.mk H
            clear H
            go_wp2
            go_meet
            case rel => exact ⟨_, (cutS t168 0 (t169 : Int).toNat), (by first | rfl | (simp; done) | (simp [*]; done)), H', ⟨by first | omega | exact Nat.le_refl _⟩, ⟨by (with_reducible repeat (first | refine blk_drewN ?_ _ | refine blk_drew ?_ | refine blk_alloc ?_ _)); exact BK164.out⟩, ⟨by (with_reducible repeat (first | refine blk_drewN ?_ _ | refine blk_drew ?_ | refine blk_alloc ?_ _)); exact BK165.out⟩, ⟨by repeat (first | (with_reducible first | exact HB.out | apply below_alloc | apply pw_below_drewN | apply below_drew1 | refine below_set ?_ GE164.out | refine below_set ?_ GE165.out) | exact HB.out)⟩⟩
            all_goals (exfalso; (try simp only [beq_iff_eq, bne_iff_ne, ne_eq, decide_eq_true_eq, decide_eq_false_iff_not, decide_eq_decide, bne_eq_false_iff_eq, beq_eq_false_iff_ne, Bool.not_eq_true, Bool.not_eq_false, Bool.not_eq_true', Bool.not_eq_false', Bool.true_beq, Bool.false_beq, Bool.true_bne, Bool.false_bne, Bool.bne_true, Bool.bne_false] at c17b0); (try simp only [beq_iff_eq, bne_iff_ne, ne_eq, decide_eq_true_eq, decide_eq_false_iff_not, decide_eq_decide, bne_eq_false_iff_eq, beq_eq_false_iff_ne, Bool.not_eq_true, Bool.not_eq_false, Bool.not_eq_true', Bool.not_eq_false', Bool.true_beq, Bool.false_beq, Bool.true_bne, Bool.false_bne, Bool.bne_true, Bool.bne_false] at c17b1); (try simp only [beq_iff_eq, bne_iff_ne, ne_eq, decide_eq_true_eq, decide_eq_false_iff_not, decide_eq_decide, bne_eq_false_iff_eq, beq_eq_false_iff_ne, Bool.not_eq_true, Bool.not_eq_false, Bool.not_eq_true', Bool.not_eq_false', Bool.true_beq, Bool.false_beq, Bool.true_bne, Bool.false_bne, Bool.bne_true, Bool.bne_false] at c29b0); (try simp only [beq_iff_eq, bne_iff_ne, ne_eq, decide_eq_true_eq, decide_eq_false_iff_not, decide_eq_decide, bne_eq_false_iff_eq, beq_eq_false_iff_ne, Bool.not_eq_true, Bool.not_eq_false, Bool.not_eq_true', Bool.not_eq_false', Bool.true_beq, Bool.false_beq, Bool.true_bne, Bool.false_bne, Bool.bne_true, Bool.bne_false] at c29b1); (try simp only [beq_iff_eq, bne_iff_ne, ne_eq, decide_eq_true_eq, decide_eq_false_iff_not, decide_eq_decide, bne_eq_false_iff_eq, beq_eq_false_iff_ne, Bool.not_eq_true, Bool.not_eq_false, Bool.not_eq_true', Bool.not_eq_false', Bool.true_beq, Bool.false_beq, Bool.true_bne, Bool.false_bne, Bool.bne_true, Bool.bne_false] at c30b0); (try simp only [beq_iff_eq, bne_iff_ne, ne_eq, decide_eq_true_eq, decide_eq_false_iff_not, decide_eq_decide, bne_eq_false_iff_eq, beq_eq_false_iff_ne, Bool.not_eq_true, Bool.not_eq_false, Bool.not_eq_true', Bool.not_eq_false', Bool.true_beq, Bool.false_beq, Bool.true_bne, Bool.false_bne, Bool.bne_true, Bool.bne_false] at c30b1); (try simp only [beq_iff_eq, bne_iff_ne, ne_eq, decide_eq_true_eq, decide_eq_false_iff_not, decide_eq_decide, bne_eq_false_iff_eq, beq_eq_false_iff_ne, Bool.not_eq_true, Bool.not_eq_false, Bool.not_eq_true', Bool.not_eq_false', Bool.true_beq, Bool.false_beq, Bool.true_bne, Bool.false_bne, Bool.bne_true, Bool.bne_false] at c31b0); (try simp only [beq_iff_eq, bne_iff_ne, ne_eq, decide_eq_true_eq, decide_eq_false_iff_not, decide_eq_decide, bne_eq_false_iff_eq, beq_eq_false_iff_ne, Bool.not_eq_true, Bool.not_eq_false, Bool.not_eq_true', Bool.not_eq_false', Bool.true_beq, Bool.false_beq, Bool.true_bne, Bool.false_bne, Bool.bne_true, Bool.bne_false] at c31b1); (try unfold wrap64 at *); omega)
          · rw [if_neg c31] at H
            exact absurd H (by simp)
        · rw [if_neg c30] at H
          exact absurd H (by simp)
      · rw [if_neg c29] at H
        have c29b0 : ((Go.bits .and .i64 a5 7) == 1) = false := beq_eq_false_iff_ne.mpr c29
        have c29b1 : ((Go.bits .and .i64 a5 7) != 1) = true := bne_iff_ne.mpr c29
        by_cases c32 : (Go.bits .and .i64 a5 7) = 2
        · rw [if_pos c32] at H
          have c32b0 : ((Go.bits .and .i64 a5 7) == 2) = true := beq_iff_eq.mpr c32
          have c32b1 : ((Go.bits .and .i64 a5 7) != 2) = false := bne_eq_false_iff_eq.mpr c32
          clear c32
          by_cases c33 : 0 ≤ t169
          · rw [if_pos c33] at H
            have c33b0 := eq_true c33
            have c33b1 : decide (0 ≤ t169) = true := decide_eq_true c33
            clear c33
            by_cases c34 : t169 ≤ (t168.size : Int)
            · rw [if_pos c34] at H
              have c34b0 := eq_true c34
              have c34b1 : decide (t169 ≤ (t168.size : Int)) = true := decide_eq_true c34
              clear c34
              obtain ⟨ji35, hji35⟩ : ∃ j_ : Int, (mn (a2.size : Int) 3) = j_ := ⟨_, rfl⟩
              replace H : (if 0 ≤ (ji35) then (if (ji35) ≤ (a2.size : Int) then (if (cutS t168 0 (t169 : Int).toNat).size + (cutS a2 0 ((ji35) : Int).toNat).size ≤ 9223372036854775807 then (if (catS (cutS t168 0 (t169 : Int).toNat) (cutS a2 0 ((ji35) : Int).toNat)).size + (cutS t168 (t169 : Int).toNat t168.size).size ≤ 9223372036854775807 then (ammonitelaw3_DeltaTells.j0 k t166 (catS (catS (cutS t168 0 (t169 : Int).toNat) (cutS a2 0 ((ji35) : Int).toNat)) (cutS t168 (t169 : Int).toNat t168.size))) else (none)) else (none)) else (none)) else (none)) = some r := by first | (rw [hji35] at H; exact H) | (simp only [hji35] at H ⊢; exact H)
              (try (have hji35h : ji35 ≤ 3 := by (rw [← hji35]; unfold mn; (repeat' split) <;> omega)))
              (try (have hji35g : ji35 ≤ 64 := by omega))
              (try (have hji35l : 0 ≤ ji35 := by (rw [← hji35]; unfold mn; (repeat' split) <;> omega)))
              (try (have hji35m : 0 ≤ ji35 := by omega))
              have hji35_ : (if 3 < (a2.size : Int) then 3 else (a2.size : Int)) = ji35 := hji35
              by_cases c36 : 0 ≤ (ji35)
              · rw [if_pos c36] at H
                have c36b0 := eq_true c36
                have c36b1 : decide (0 ≤ (ji35)) = true := decide_eq_true c36
                clear c36
                by_cases c37 : (ji35) ≤ (a2.size : Int)
                · rw [if_pos c37] at H
                  have c37b0 := eq_true c37
                  have c37b1 : decide ((ji35) ≤ (a2.size : Int)) = true := decide_eq_true c37
                  clear c37
                  by_cases c38 : (cutS t168 0 (t169 : Int).toNat).size + (cutS a2 0 ((ji35) : Int).toNat).size ≤ 9223372036854775807
                  · rw [if_pos c38] at H
                    have c38b0 := eq_true c38
                    have c38b1 : decide ((cutS t168 0 (t169 : Int).toNat).size + (cutS a2 0 ((ji35) : Int).toNat).size ≤ 9223372036854775807) = true := decide_eq_true c38
                    try have c38b2 : (9223372036854775807 < (cutS t168 0 (t169 : Int).toNat).size + (cutS a2 0 ((ji35) : Int).toNat).size) = False := eq_false (Nat.not_lt.2 c38)
                    clear c38
                    have c39b0 := eq_true (of_decide_eq_true (by first | (with_reducible assumption) | assumption) : 0 ≤ t169)
                    have c40b0 := eq_true (of_decide_eq_true (by first | (with_reducible assumption) | assumption) : t169 ≤ (t168.size : Int))
                    by_cases c41 : (catS (cutS t168 0 (t169 : Int).toNat) (cutS a2 0 ((ji35) : Int).toNat)).size + (cutS t168 (t169 : Int).toNat t168.size).size ≤ 9223372036854775807
                    · rw [if_pos c41] at H
                      have c41b0 := eq_true c41
                      have c41b1 : decide ((catS (cutS t168 0 (t169 : Int).toNat) (cutS a2 0 ((ji35) : Int).toNat)).size + (cutS t168 (t169 : Int).toNat t168.size).size ≤ 9223372036854775807) = true := decide_eq_true c41
                      try have c41b2 : (9223372036854775807 < (catS (cutS t168 0 (t169 : Int).toNat) (cutS a2 0 ((ji35) : Int).toNat)).size + (cutS t168 (t169 : Int).toNat t168.size).size) = False := eq_false (Nat.not_lt.2 c41)
                      clear c41
                      have H' := Aside0.mk H
                      clear H
                      try go_wp2
                      (try (generalize hdn_ : World.drewN w16 _ = wdn_ at ⊢; obtain ⟨n_, hdn_⟩ : ∃ n, World.drewN w16 n = wdn_ := ⟨_, hdn_⟩; have m0_ := blk_drewN BK164.out n_; rw [hdn_] at m0_; have m0_ := Aside0.mk m0_; have m1_ := blk_drewN BK165.out n_; rw [hdn_] at m1_; have m1_ := Aside0.mk m1_; have m2_ := pw_below_drewN HB.out n_; rw [hdn_] at m2_; have m2_ := Aside0.mk m2_; clear hdn_ BK164 BK165 HB; have BK164 := m0_; have BK165 := m1_; have HB := m2_; clear m0_ m1_ m2_))
                      have n0_ := Aside0.mk (blk_drew BK164.out)
                      have n1_ := Aside0.mk (blk_drew BK165.out)
                      have n2_ := Aside0.mk (below_drew1 HB.out)
                      clear BK164
                      clear BK165
                      clear HB
                      have BK164 := n0_
                      have BK165 := n1_
                      have HB := n2_
                      clear n0_ n1_ n2_
                      refine start_ (n := 14) (S := fun w' => True) (ds := []) #[false, false, false, false, false, false, false, false, false, false, false, false, false, false] (by kernel_rfl) rfl rfl trivial (fun hHeld => ?_); refine with_tabW ammonitelaw3_DeltaTells.tab10 ammonitelaw3_DeltaTells.bits10 (fun HT_ HW_ => ?_)
                      (first | generalize wdn_.drew = w42 at BK164 BK165 HB hHeld ⊢ | generalize w16.drew = w42 at BK164 BK165 HB hHeld ⊢)
                      refine pure_ (i := 0) (N := some 62) (v := ?_) (a' := ?_) #[true, false, false, false, false, false, false, false, false, false, false, false, false, false] rfl rfl (any_of HT_.out (by kernel_rfl)) (fun _ _ _ h => h) (Or.inl ⟨by rfl, ?_⟩) ?_ ?_
                      rotate_left
                      · intro w'
                        go_simp
                        with_reducible rfl
                      rotate_left
                      · simp only [Act.put, List.setIfInBounds_toArray, List.set_cons_zero, List.set_cons_succ, i64_w, i32_w]
                        rfl
                      refine pure_ (i := 1) (N := some 63) (v := ?_) (a' := ?_) #[true, true, false, false, false, false, false, false, false, false, false, false, false, false] rfl rfl (any_of HT_.out (by kernel_rfl)) (fun _ _ _ h => h) (Or.inl ⟨by rfl, ?_⟩) ?_ ?_
                      rotate_left
                      · intro w'
                        go_simp
                        with_reducible rfl
                      rotate_left
                      · simp only [Act.put, List.setIfInBounds_toArray, List.set_cons_zero, List.set_cons_succ, i64_w, i32_w]
                        rfl
                      refine pure_ (i := 2) (N := some 64) (v := ?_) (a' := ?_) #[true, true, true, false, false, false, false, false, false, false, false, false, false, false] rfl rfl (any_of HT_.out (by kernel_rfl)) (fun _ _ _ h => h) (Or.inl ⟨by rfl, ?_⟩) ?_ ?_
                      rotate_left
                      · intro w'
                        go_simp
                        with_reducible rfl
                      rotate_left
                      · simp only [Act.put, List.setIfInBounds_toArray, List.set_cons_zero, List.set_cons_succ, i64_w, i32_w]
                        rfl
                      refine pure_ (i := 3) (N := some 65) (v := ?_) (a' := ?_) #[true, true, true, true, false, false, false, false, false, false, false, false, false, false] rfl rfl (any_of HT_.out (by kernel_rfl)) (fun _ _ _ h => h) (Or.inl ⟨by rfl, ?_⟩) ?_ ?_
                      rotate_left
                      · intro w'
                        go_simp
                        with_reducible rfl
                      rotate_left
                      · simp only [Act.put, List.setIfInBounds_toArray, List.set_cons_zero, List.set_cons_succ, i64_w, i32_w]
                        rfl
                      refine pure_ (i := 4) (N := some 66) (v := ?_) (a' := ?_) #[true, true, true, true, true, false, false, false, false, false, false, false, false, false] rfl rfl (any_of HT_.out (by kernel_rfl)) (fun _ _ _ h => h) (Or.inl ⟨by rfl, ?_⟩) ?_ ?_
                      rotate_left
                      · intro w'
                        go_simp
                        with_reducible rfl
                      rotate_left
                      · simp only [Act.put, List.setIfInBounds_toArray, List.set_cons_zero, List.set_cons_succ, i64_w, i32_w]
                        rfl
                      refine pure_ (i := 5) (N := some 67) (v := ?_) (a' := ?_) #[true, true, true, true, true, true, false, false, false, false, false, false, false, false] rfl rfl (any_of HT_.out (by kernel_rfl)) (fun _ _ _ h => h) (Or.inl ⟨by rfl, ?_⟩) ?_ ?_
                      rotate_left
                      · intro w'
                        go_simp
                        with_reducible rfl
                      rotate_left
                      · simp only [Act.put, List.setIfInBounds_toArray, List.set_cons_zero, List.set_cons_succ, i64_w, i32_w]
                        rfl
                      refine pure_ (i := 6) (N := some 68) (v := ?_) (a' := ?_) #[true, true, true, true, true, true, true, false, false, false, false, false, false, false] rfl rfl (any_of HT_.out (by kernel_rfl)) (fun _ _ _ h => h) (Or.inl ⟨by rfl, ?_⟩) ?_ ?_
                      rotate_left
                      · intro w'
                        go_simp
                        with_reducible rfl
                      rotate_left
                      · simp only [Act.put, List.setIfInBounds_toArray, List.set_cons_zero, List.set_cons_succ, i64_w, i32_w]
                        rfl
                      refine pure_ (i := 7) (N := some 69) (v := ?_) (a' := ?_) #[true, true, true, true, true, true, true, true, false, false, false, false, false, false] rfl rfl (any_of HT_.out (by kernel_rfl)) (fun _ _ _ h => h) (Or.inl ⟨by rfl, ?_⟩) ?_ ?_
                      rotate_left
                      · intro w'
                        go_simp
                        with_reducible rfl
                      rotate_left
                      · simp only [Act.put, List.setIfInBounds_toArray, List.set_cons_zero, List.set_cons_succ, i64_w, i32_w]
                        rfl
                      refine pure_ (i := 8) (N := some 70) (v := ?_) (a' := ?_) #[true, true, true, true, true, true, true, true, true, false, false, false, false, false] rfl rfl (any_of HT_.out (by kernel_rfl)) (fun _ _ _ h => h) (Or.inl ⟨by rfl, ?_⟩) ?_ ?_
                      rotate_left
                      · intro w'
                        go_simp
                        with_reducible rfl
                      rotate_left
                      · simp only [Act.put, List.setIfInBounds_toArray, List.set_cons_zero, List.set_cons_succ, i64_w, i32_w]
                        rfl
                      refine pure_ (i := 9) (N := some 71) (v := ?_) (a' := ?_) #[true, true, true, true, true, true, true, true, true, true, false, false, false, false] rfl rfl (any_of HT_.out (by kernel_rfl)) (fun _ _ _ h => h) (Or.inl ⟨by rfl, ?_⟩) ?_ ?_
                      rotate_left
                      · intro w'
                        go_simp
                        with_reducible rfl
                      rotate_left
                      · simp only [Act.put, List.setIfInBounds_toArray, List.set_cons_zero, List.set_cons_succ, i64_w, i32_w]
                        rfl
                      refine pure_ (i := 10) (N := some 72) (v := ?_) (a' := ?_) #[true, true, true, true, true, true, true, true, true, true, true, false, false, false] rfl rfl (any_of HT_.out (by kernel_rfl)) (fun _ _ _ h => h) (Or.inl ⟨by rfl, ?_⟩) ?_ ?_
                      rotate_left
                      · intro w'
                        go_simp
                        with_reducible rfl
                      rotate_left
                      · simp only [Act.put, List.setIfInBounds_toArray, List.set_cons_zero, List.set_cons_succ, i64_w, i32_w]
                        rfl
                      refine pure_ (i := 11) (N := some 73) (v := ?_) (a' := ?_) #[true, true, true, true, true, true, true, true, true, true, true, true, false, false] rfl rfl (any_of HT_.out (by kernel_rfl)) (fun _ _ _ h => h) (Or.inl ⟨by rfl, ?_⟩) ?_ ?_
                      rotate_left
                      · intro w'
                        go_simp
                        with_reducible rfl
                      rotate_left
                      · simp only [Act.put, List.setIfInBounds_toArray, List.set_cons_zero, List.set_cons_succ, i64_w, i32_w]
                        rfl
                      refine pure_ (i := 12) (N := some 74) (v := ?_) (a' := ?_) #[true, true, true, true, true, true, true, true, true, true, true, true, true, false] rfl rfl (any_of HT_.out (by kernel_rfl)) (fun _ _ _ h => h) (Or.inl ⟨by rfl, ?_⟩) ?_ ?_
                      rotate_left
                      · intro w'
                        go_simp
                        with_reducible rfl
                      rotate_left
                      · simp only [Act.put, List.setIfInBounds_toArray, List.set_cons_zero, List.set_cons_succ, i64_w, i32_w]
                        rfl
                      refine pure_ (i := 13) (N := some 15) (v := ?_) (a' := ?_) #[true, true, true, true, true, true, true, true, true, true, true, true, true, true] rfl rfl (any_of HT_.out (by kernel_rfl)) (fun _ _ _ h => h) (Or.inl ⟨by rfl, ?_⟩) ?_ ?_
                      rotate_left
                      · intro w'
                        go_simp
                        with_reducible rfl
                      rotate_left
                      · simp only [Act.put, List.setIfInBounds_toArray, List.set_cons_zero, List.set_cons_succ, i64_w, i32_w]
                        rfl
                      refine done_ (done_of HT_.out (by kernel_rfl)) ?_
                      try go_wp2
                      go_meet
                      case rel => exact ⟨_, (catS (catS (cutS t168 0 (t169 : Int).toNat) (cutS a2 0 ((ji35) : Int).toNat)) (cutS t168 (t169 : Int).toNat t168.size)), (by first | rfl | (simp; done) | (simp only [← hji35] <;> (first | rfl | simp)) | (simp [*]; done)), H', ⟨by first | omega | exact Nat.le_refl _⟩, ⟨by (with_reducible repeat (first | refine blk_drewN ?_ _ | refine blk_drew ?_ | refine blk_alloc ?_ _)); exact BK164.out⟩, ⟨by (with_reducible repeat (first | refine blk_drewN ?_ _ | refine blk_drew ?_ | refine blk_alloc ?_ _)); exact BK165.out⟩, ⟨by repeat (first | (with_reducible first | exact HB.out | apply below_alloc | apply pw_below_drewN | apply below_drew1 | refine below_set ?_ GE164.out | refine below_set ?_ GE165.out) | exact HB.out)⟩⟩
                      all_goals (exfalso; (try simp only [beq_iff_eq, bne_iff_ne, ne_eq, decide_eq_true_eq, decide_eq_false_iff_not, decide_eq_decide, bne_eq_false_iff_eq, beq_eq_false_iff_ne, Bool.not_eq_true, Bool.not_eq_false, Bool.not_eq_true', Bool.not_eq_false', Bool.true_beq, Bool.false_beq, Bool.true_bne, Bool.false_bne, Bool.bne_true, Bool.bne_false] at c17b0); (try simp only [beq_iff_eq, bne_iff_ne, ne_eq, decide_eq_true_eq, decide_eq_false_iff_not, decide_eq_decide, bne_eq_false_iff_eq, beq_eq_false_iff_ne, Bool.not_eq_true, Bool.not_eq_false, Bool.not_eq_true', Bool.not_eq_false', Bool.true_beq, Bool.false_beq, Bool.true_bne, Bool.false_bne, Bool.bne_true, Bool.bne_false] at c17b1); (try simp only [beq_iff_eq, bne_iff_ne, ne_eq, decide_eq_true_eq, decide_eq_false_iff_not, decide_eq_decide, bne_eq_false_iff_eq, beq_eq_false_iff_ne, Bool.not_eq_true, Bool.not_eq_false, Bool.not_eq_true', Bool.not_eq_false', Bool.true_beq, Bool.false_beq, Bool.true_bne, Bool.false_bne, Bool.bne_true, Bool.bne_false] at c29b0); (try simp only [beq_iff_eq, bne_iff_ne, ne_eq, decide_eq_true_eq, decide_eq_false_iff_not, decide_eq_decide, bne_eq_false_iff_eq, beq_eq_false_iff_ne, Bool.not_eq_true, Bool.not_eq_false, Bool.not_eq_true', Bool.not_eq_false', Bool.true_beq, Bool.false_beq, Bool.true_bne, Bool.false_bne, Bool.bne_true, Bool.bne_false] at c29b1); (try simp only [beq_iff_eq, bne_iff_ne, ne_eq, decide_eq_true_eq, decide_eq_false_iff_not, decide_eq_decide, bne_eq_false_iff_eq, beq_eq_false_iff_ne, Bool.not_eq_true, Bool.not_eq_false, Bool.not_eq_true', Bool.not_eq_false', Bool.true_beq, Bool.false_beq, Bool.true_bne, Bool.false_bne, Bool.bne_true, Bool.bne_false] at c32b0); (try simp only [beq_iff_eq, bne_iff_ne, ne_eq, decide_eq_true_eq, decide_eq_false_iff_not, decide_eq_decide, bne_eq_false_iff_eq, beq_eq_false_iff_ne, Bool.not_eq_true, Bool.not_eq_false, Bool.not_eq_true', Bool.not_eq_false', Bool.true_beq, Bool.false_beq, Bool.true_bne, Bool.false_bne, Bool.bne_true, Bool.bne_false] at c32b1); (try simp only [beq_iff_eq, bne_iff_ne, ne_eq, decide_eq_true_eq, decide_eq_false_iff_not, decide_eq_decide, bne_eq_false_iff_eq, beq_eq_false_iff_ne, Bool.not_eq_true, Bool.not_eq_false, Bool.not_eq_true', Bool.not_eq_false', Bool.true_beq, Bool.false_beq, Bool.true_bne, Bool.false_bne, Bool.bne_true, Bool.bne_false] at c33b0); (try simp only [beq_iff_eq, bne_iff_ne, ne_eq, decide_eq_true_eq, decide_eq_false_iff_not, decide_eq_decide, bne_eq_false_iff_eq, beq_eq_false_iff_ne, Bool.not_eq_true, Bool.not_eq_false, Bool.not_eq_true', Bool.not_eq_false', Bool.true_beq, Bool.false_beq, Bool.true_bne, Bool.false_bne, Bool.bne_true, Bool.bne_false] at c33b1); (try simp only [beq_iff_eq, bne_iff_ne, ne_eq, decide_eq_true_eq, decide_eq_false_iff_not, decide_eq_decide, bne_eq_false_iff_eq, beq_eq_false_iff_ne, Bool.not_eq_true, Bool.not_eq_false, Bool.not_eq_true', Bool.not_eq_false', Bool.true_beq, Bool.false_beq, Bool.true_bne, Bool.false_bne, Bool.bne_true, Bool.bne_false] at c34b0); (try simp only [beq_iff_eq, bne_iff_ne, ne_eq, decide_eq_true_eq, decide_eq_false_iff_not, decide_eq_decide, bne_eq_false_iff_eq, beq_eq_false_iff_ne, Bool.not_eq_true, Bool.not_eq_false, Bool.not_eq_true', Bool.not_eq_false', Bool.true_beq, Bool.false_beq, Bool.true_bne, Bool.false_bne, Bool.bne_true, Bool.bne_false] at c34b1); (try simp only [beq_iff_eq, bne_iff_ne, ne_eq, decide_eq_true_eq, decide_eq_false_iff_not, decide_eq_decide, bne_eq_false_iff_eq, beq_eq_false_iff_ne, Bool.not_eq_true, Bool.not_eq_false, Bool.not_eq_true', Bool.not_eq_false', Bool.true_beq, Bool.false_beq, Bool.true_bne, Bool.false_bne, Bool.bne_true, Bool.bne_false] at c36b0); (try simp only [beq_iff_eq, bne_iff_ne, ne_eq, decide_eq_true_eq, decide_eq_false_iff_not, decide_eq_decide, bne_eq_false_iff_eq, beq_eq_false_iff_ne, Bool.not_eq_true, Bool.not_eq_false, Bool.not_eq_true', Bool.not_eq_false', Bool.true_beq, Bool.false_beq, Bool.true_bne, Bool.false_bne, Bool.bne_true, Bool.bne_false] at c36b1); (try simp only [beq_iff_eq, bne_iff_ne, ne_eq, decide_eq_true_eq, decide_eq_false_iff_not, decide_eq_decide, bne_eq_false_iff_eq, beq_eq_false_iff_ne, Bool.not_eq_true, Bool.not_eq_false, Bool.not_eq_true', Bool.not_eq_false', Bool.true_beq, Bool.false_beq, Bool.true_bne, Bool.false_bne, Bool.bne_true, Bool.bne_false] at c37b0); (try simp only [beq_iff_eq, bne_iff_ne, ne_eq, decide_eq_true_eq, decide_eq_false_iff_not, decide_eq_decide, bne_eq_false_iff_eq, beq_eq_false_iff_ne, Bool.not_eq_true, Bool.not_eq_false, Bool.not_eq_true', Bool.not_eq_false', Bool.true_beq, Bool.false_beq, Bool.true_bne, Bool.false_bne, Bool.bne_true, Bool.bne_false] at c37b1); (try simp only [beq_iff_eq, bne_iff_ne, ne_eq, decide_eq_true_eq, decide_eq_false_iff_not, decide_eq_decide, bne_eq_false_iff_eq, beq_eq_false_iff_ne, Bool.not_eq_true, Bool.not_eq_false, Bool.not_eq_true', Bool.not_eq_false', Bool.true_beq, Bool.false_beq, Bool.true_bne, Bool.false_bne, Bool.bne_true, Bool.bne_false] at c38b0); (try simp only [beq_iff_eq, bne_iff_ne, ne_eq, decide_eq_true_eq, decide_eq_false_iff_not, decide_eq_decide, bne_eq_false_iff_eq, beq_eq_false_iff_ne, Bool.not_eq_true, Bool.not_eq_false, Bool.not_eq_true', Bool.not_eq_false', Bool.true_beq, Bool.false_beq, Bool.true_bne, Bool.false_bne, Bool.bne_true, Bool.bne_false] at c38b1); (try simp only [beq_iff_eq, bne_iff_ne, ne_eq, decide_eq_true_eq, decide_eq_false_iff_not, decide_eq_decide, bne_eq_false_iff_eq, beq_eq_false_iff_ne, Bool.not_eq_true, Bool.not_eq_false, Bool.not_eq_true', Bool.not_eq_false', Bool.true_beq, Bool.false_beq, Bool.true_bne, Bool.false_bne, Bool.bne_true, Bool.bne_false] at c41b0); (try simp only [beq_iff_eq, bne_iff_ne, ne_eq, decide_eq_true_eq, decide_eq_false_iff_not, decide_eq_decide, bne_eq_false_iff_eq, beq_eq_false_iff_ne, Bool.not_eq_true, Bool.not_eq_false, Bool.not_eq_true', Bool.not_eq_false', Bool.true_beq, Bool.false_beq, Bool.true_bne, Bool.false_bne, Bool.bne_true, Bool.bne_false] at c41b1); (try unfold wrap64 at *); omega)
                    · rw [if_neg c41] at H
                      exact absurd H (by simp)
                  · rw [if_neg c38] at H
                    exact absurd H (by simp)
                · rw [if_neg c37] at H
                  exact absurd H (by simp)
              · rw [if_neg c36] at H
                exact absurd H (by simp)
            · rw [if_neg c34] at H
              exact absurd H (by simp)
          · rw [if_neg c33] at H
            exact absurd H (by simp)
        · rw [if_neg c32] at H
          have c32b0 : ((Go.bits .and .i64 a5 7) == 2) = false := beq_eq_false_iff_ne.mpr c32
          have c32b1 : ((Go.bits .and .i64 a5 7) != 2) = true := bne_iff_ne.mpr c32
          by_cases c43 : (Go.bits .and .i64 a5 7) = 3
          · rw [if_pos c43] at H
            have c43b0 : ((Go.bits .and .i64 a5 7) == 3) = true := beq_iff_eq.mpr c43
            have c43b1 : ((Go.bits .and .i64 a5 7) != 3) = false := bne_eq_false_iff_eq.mpr c43
            clear c43
            obtain ⟨ji44, hji44⟩ : ∃ j_ : Int, (mn (a2.size : Int) 40) = j_ := ⟨_, rfl⟩
            replace H : (if 0 ≤ (ji44) then (if (ji44) ≤ (a2.size : Int) then (ammonitelaw3_DeltaTells.j0 k t166 (cutS a2 0 ((ji44) : Int).toNat)) else (none)) else (none)) = some r := by first | (rw [hji44] at H; exact H) | (simp only [hji44] at H ⊢; exact H)
            (try (have hji44h : ji44 ≤ 40 := by (rw [← hji44]; unfold mn; (repeat' split) <;> omega)))
            (try (have hji44g : ji44 ≤ 64 := by omega))
            (try (have hji44l : 0 ≤ ji44 := by (rw [← hji44]; unfold mn; (repeat' split) <;> omega)))
            (try (have hji44m : 0 ≤ ji44 := by omega))
            have hji44_ : (if 40 < (a2.size : Int) then 40 else (a2.size : Int)) = ji44 := hji44
            by_cases c45 : 0 ≤ (ji44)
            · rw [if_pos c45] at H
              have c45b0 := eq_true c45
              have c45b1 : decide (0 ≤ (ji44)) = true := decide_eq_true c45
              clear c45
              by_cases c46 : (ji44) ≤ (a2.size : Int)
              · rw [if_pos c46] at H
                have c46b0 := eq_true c46
                have c46b1 : decide ((ji44) ≤ (a2.size : Int)) = true := decide_eq_true c46
                clear c46
                have H' := Aside0.mk H
                clear H
                go_wp2
                go_meet
                case rel => exact ⟨_, (cutS a2 0 ((ji44) : Int).toNat), (by first | rfl | (simp; done) | (simp only [← hji44] <;> (first | rfl | simp)) | (simp [*]; done)), H', ⟨by first | omega | exact Nat.le_refl _⟩, ⟨by (with_reducible repeat (first | refine blk_drewN ?_ _ | refine blk_drew ?_ | refine blk_alloc ?_ _)); exact BK164.out⟩, ⟨by (with_reducible repeat (first | refine blk_drewN ?_ _ | refine blk_drew ?_ | refine blk_alloc ?_ _)); exact BK165.out⟩, ⟨by repeat (first | (with_reducible first | exact HB.out | apply below_alloc | apply pw_below_drewN | apply below_drew1 | refine below_set ?_ GE164.out | refine below_set ?_ GE165.out) | exact HB.out)⟩⟩
                all_goals (exfalso; (try simp only [beq_iff_eq, bne_iff_ne, ne_eq, decide_eq_true_eq, decide_eq_false_iff_not, decide_eq_decide, bne_eq_false_iff_eq, beq_eq_false_iff_ne, Bool.not_eq_true, Bool.not_eq_false, Bool.not_eq_true', Bool.not_eq_false', Bool.true_beq, Bool.false_beq, Bool.true_bne, Bool.false_bne, Bool.bne_true, Bool.bne_false] at c17b0); (try simp only [beq_iff_eq, bne_iff_ne, ne_eq, decide_eq_true_eq, decide_eq_false_iff_not, decide_eq_decide, bne_eq_false_iff_eq, beq_eq_false_iff_ne, Bool.not_eq_true, Bool.not_eq_false, Bool.not_eq_true', Bool.not_eq_false', Bool.true_beq, Bool.false_beq, Bool.true_bne, Bool.false_bne, Bool.bne_true, Bool.bne_false] at c17b1); (try simp only [beq_iff_eq, bne_iff_ne, ne_eq, decide_eq_true_eq, decide_eq_false_iff_not, decide_eq_decide, bne_eq_false_iff_eq, beq_eq_false_iff_ne, Bool.not_eq_true, Bool.not_eq_false, Bool.not_eq_true', Bool.not_eq_false', Bool.true_beq, Bool.false_beq, Bool.true_bne, Bool.false_bne, Bool.bne_true, Bool.bne_false] at c29b0); (try simp only [beq_iff_eq, bne_iff_ne, ne_eq, decide_eq_true_eq, decide_eq_false_iff_not, decide_eq_decide, bne_eq_false_iff_eq, beq_eq_false_iff_ne, Bool.not_eq_true, Bool.not_eq_false, Bool.not_eq_true', Bool.not_eq_false', Bool.true_beq, Bool.false_beq, Bool.true_bne, Bool.false_bne, Bool.bne_true, Bool.bne_false] at c29b1); (try simp only [beq_iff_eq, bne_iff_ne, ne_eq, decide_eq_true_eq, decide_eq_false_iff_not, decide_eq_decide, bne_eq_false_iff_eq, beq_eq_false_iff_ne, Bool.not_eq_true, Bool.not_eq_false, Bool.not_eq_true', Bool.not_eq_false', Bool.true_beq, Bool.false_beq, Bool.true_bne, Bool.false_bne, Bool.bne_true, Bool.bne_false] at c32b0); (try simp only [beq_iff_eq, bne_iff_ne, ne_eq, decide_eq_true_eq, decide_eq_false_iff_not, decide_eq_decide, bne_eq_false_iff_eq, beq_eq_false_iff_ne, Bool.not_eq_true, Bool.not_eq_false, Bool.not_eq_true', Bool.not_eq_false', Bool.true_beq, Bool.false_beq, Bool.true_bne, Bool.false_bne, Bool.bne_true, Bool.bne_false] at c32b1); (try simp only [beq_iff_eq, bne_iff_ne, ne_eq, decide_eq_true_eq, decide_eq_false_iff_not, decide_eq_decide, bne_eq_false_iff_eq, beq_eq_false_iff_ne, Bool.not_eq_true, Bool.not_eq_false, Bool.not_eq_true', Bool.not_eq_false', Bool.true_beq, Bool.false_beq, Bool.true_bne, Bool.false_bne, Bool.bne_true, Bool.bne_false] at c43b0); (try simp only [beq_iff_eq, bne_iff_ne, ne_eq, decide_eq_true_eq, decide_eq_false_iff_not, decide_eq_decide, bne_eq_false_iff_eq, beq_eq_false_iff_ne, Bool.not_eq_true, Bool.not_eq_false, Bool.not_eq_true', Bool.not_eq_false', Bool.true_beq, Bool.false_beq, Bool.true_bne, Bool.false_bne, Bool.bne_true, Bool.bne_false] at c43b1); (try simp only [beq_iff_eq, bne_iff_ne, ne_eq, decide_eq_true_eq, decide_eq_false_iff_not, decide_eq_decide, bne_eq_false_iff_eq, beq_eq_false_iff_ne, Bool.not_eq_true, Bool.not_eq_false, Bool.not_eq_true', Bool.not_eq_false', Bool.true_beq, Bool.false_beq, Bool.true_bne, Bool.false_bne, Bool.bne_true, Bool.bne_false] at c45b0); (try simp only [beq_iff_eq, bne_iff_ne, ne_eq, decide_eq_true_eq, decide_eq_false_iff_not, decide_eq_decide, bne_eq_false_iff_eq, beq_eq_false_iff_ne, Bool.not_eq_true, Bool.not_eq_false, Bool.not_eq_true', Bool.not_eq_false', Bool.true_beq, Bool.false_beq, Bool.true_bne, Bool.false_bne, Bool.bne_true, Bool.bne_false] at c45b1); (try simp only [beq_iff_eq, bne_iff_ne, ne_eq, decide_eq_true_eq, decide_eq_false_iff_not, decide_eq_decide, bne_eq_false_iff_eq, beq_eq_false_iff_ne, Bool.not_eq_true, Bool.not_eq_false, Bool.not_eq_true', Bool.not_eq_false', Bool.true_beq, Bool.false_beq, Bool.true_bne, Bool.false_bne, Bool.bne_true, Bool.bne_false] at c46b0); (try simp only [beq_iff_eq, bne_iff_ne, ne_eq, decide_eq_true_eq, decide_eq_false_iff_not, decide_eq_decide, bne_eq_false_iff_eq, beq_eq_false_iff_ne, Bool.not_eq_true, Bool.not_eq_false, Bool.not_eq_true', Bool.not_eq_false', Bool.true_beq, Bool.false_beq, Bool.true_bne, Bool.false_bne, Bool.bne_true, Bool.bne_false] at c46b1); (try unfold wrap64 at *); omega)
              · rw [if_neg c46] at H
                exact absurd H (by simp)
            · rw [if_neg c45] at H
              exact absurd H (by simp)
          · rw [if_neg c43] at H
            have c43b0 : ((Go.bits .and .i64 a5 7) == 3) = false := beq_eq_false_iff_ne.mpr c43
            have c43b1 : ((Go.bits .and .i64 a5 7) != 3) = true := bne_iff_ne.mpr c43
            have H' := Aside0.mk H
            clear H
            go_wp2
            go_meet
            case rel => exact ⟨_, (t168), (by first | rfl | (simp; done) | (simp [*]; done)), H', ⟨by first | omega | exact Nat.le_refl _⟩, ⟨by (with_reducible repeat (first | refine blk_drewN ?_ _ | refine blk_drew ?_ | refine blk_alloc ?_ _)); exact BK164.out⟩, ⟨by (with_reducible repeat (first | refine blk_drewN ?_ _ | refine blk_drew ?_ | refine blk_alloc ?_ _)); exact BK165.out⟩, ⟨by repeat (first | (with_reducible first | exact HB.out | apply below_alloc | apply pw_below_drewN | apply below_drew1 | refine below_set ?_ GE164.out | refine below_set ?_ GE165.out) | exact HB.out)⟩⟩
            all_goals (exfalso; (try simp only [beq_iff_eq, bne_iff_ne, ne_eq, decide_eq_true_eq, decide_eq_false_iff_not, decide_eq_decide, bne_eq_false_iff_eq, beq_eq_false_iff_ne, Bool.not_eq_true, Bool.not_eq_false, Bool.not_eq_true', Bool.not_eq_false', Bool.true_beq, Bool.false_beq, Bool.true_bne, Bool.false_bne, Bool.bne_true, Bool.bne_false] at c17b0); (try simp only [beq_iff_eq, bne_iff_ne, ne_eq, decide_eq_true_eq, decide_eq_false_iff_not, decide_eq_decide, bne_eq_false_iff_eq, beq_eq_false_iff_ne, Bool.not_eq_true, Bool.not_eq_false, Bool.not_eq_true', Bool.not_eq_false', Bool.true_beq, Bool.false_beq, Bool.true_bne, Bool.false_bne, Bool.bne_true, Bool.bne_false] at c17b1); (try simp only [beq_iff_eq, bne_iff_ne, ne_eq, decide_eq_true_eq, decide_eq_false_iff_not, decide_eq_decide, bne_eq_false_iff_eq, beq_eq_false_iff_ne, Bool.not_eq_true, Bool.not_eq_false, Bool.not_eq_true', Bool.not_eq_false', Bool.true_beq, Bool.false_beq, Bool.true_bne, Bool.false_bne, Bool.bne_true, Bool.bne_false] at c29b0); (try simp only [beq_iff_eq, bne_iff_ne, ne_eq, decide_eq_true_eq, decide_eq_false_iff_not, decide_eq_decide, bne_eq_false_iff_eq, beq_eq_false_iff_ne, Bool.not_eq_true, Bool.not_eq_false, Bool.not_eq_true', Bool.not_eq_false', Bool.true_beq, Bool.false_beq, Bool.true_bne, Bool.false_bne, Bool.bne_true, Bool.bne_false] at c29b1); (try simp only [beq_iff_eq, bne_iff_ne, ne_eq, decide_eq_true_eq, decide_eq_false_iff_not, decide_eq_decide, bne_eq_false_iff_eq, beq_eq_false_iff_ne, Bool.not_eq_true, Bool.not_eq_false, Bool.not_eq_true', Bool.not_eq_false', Bool.true_beq, Bool.false_beq, Bool.true_bne, Bool.false_bne, Bool.bne_true, Bool.bne_false] at c32b0); (try simp only [beq_iff_eq, bne_iff_ne, ne_eq, decide_eq_true_eq, decide_eq_false_iff_not, decide_eq_decide, bne_eq_false_iff_eq, beq_eq_false_iff_ne, Bool.not_eq_true, Bool.not_eq_false, Bool.not_eq_true', Bool.not_eq_false', Bool.true_beq, Bool.false_beq, Bool.true_bne, Bool.false_bne, Bool.bne_true, Bool.bne_false] at c32b1); (try simp only [beq_iff_eq, bne_iff_ne, ne_eq, decide_eq_true_eq, decide_eq_false_iff_not, decide_eq_decide, bne_eq_false_iff_eq, beq_eq_false_iff_ne, Bool.not_eq_true, Bool.not_eq_false, Bool.not_eq_true', Bool.not_eq_false', Bool.true_beq, Bool.false_beq, Bool.true_bne, Bool.false_bne, Bool.bne_true, Bool.bne_false] at c43b0); (try simp only [beq_iff_eq, bne_iff_ne, ne_eq, decide_eq_true_eq, decide_eq_false_iff_not, decide_eq_decide, bne_eq_false_iff_eq, beq_eq_false_iff_ne, Bool.not_eq_true, Bool.not_eq_false, Bool.not_eq_true', Bool.not_eq_false', Bool.true_beq, Bool.false_beq, Bool.true_bne, Bool.false_bne, Bool.bne_true, Bool.bne_false] at c43b1); (try unfold wrap64 at *); omega)
  case rest =>
    clear HC11
    try clear c1
    try clear c2
    try clear p2
    try clear hcv2
    try clear c3
    try clear c4
    try clear p6
    try clear c7
    try clear c17
    try clear c17b0
    try clear c17b1
    try clear c18
    try clear c18b0
    try clear c18b1
    try clear c19
    try clear c19b0
    try clear c19b1
    try clear c20
    try clear c20b0
    try clear c20b1
    try clear c20b2
    try clear c22
    try clear c22b0
    try clear c22b1
    try clear c23
    try clear c23b0
    try clear c23b1
    try clear c24
    try clear c24b0
    try clear c24b1
    try clear c24b2
    try clear hcv28
    try clear c29
    try clear c29b0
    try clear c29b1
    try clear c30
    try clear c30b0
    try clear c30b1
    try clear c31
    try clear c31b0
    try clear c31b1
    try clear c32
    try clear c32b0
    try clear c32b1
    try clear c33
    try clear c33b0
    try clear c33b1
    try clear c34
    try clear c34b0
    try clear c34b1
    try clear c36
    try clear c36b0
    try clear c36b1
    try clear c37
    try clear c37b0
    try clear c37b1
    try clear c38
    try clear c38b0
    try clear c38b1
    try clear c38b2
    try clear c39
    try clear c39b0
    try clear c40
    try clear c40b0
    try clear c41
    try clear c41b0
    try clear c41b1
    try clear c41b2
    try clear c43
    try clear c43b0
    try clear c43b1
    try clear c45
    try clear c45b0
    try clear c45b1
    try clear c46
    try clear c46b0
    try clear c46b1
    obtain ⟨kq, x15_10, rfl, HA, HJ10, BK164, BK165, HB⟩ := hcut
    cases kq with
    | zero => exact absurd HA.out (by simp [ammonitelaw3_DeltaTells.j0])
    | succ kj10 =>
      have H := HA.out
      clear HA
      simp only [ammonitelaw3_DeltaTells.j0] at H
      replace H := Option.bind_eq_some_iff.mp H
      obtain ⟨⟨t173, t174⟩, A470, H⟩ := H
      replace H : ((ammoniteref1_Apply.f kj10 t166 x15_10).bind fun bt175 => ((ammoniteref1_Read.f kj10 x15_10 0).bind fun bt177 => (if bt177.2 > 0 then (if bt177.2 < (x15_10.size : Int) then (if 0 ≤ bt177.2 then (ammonitelaw3_DeltaTells.j1 kj10 t166 x15_10 t173 t174 bt175.1 bt175.2 bt177.1 ((bt x15_10 bt177.2) == 10)) else (none)) else (ammonitelaw3_DeltaTells.j1 kj10 t166 x15_10 t173 t174 bt175.1 bt175.2 bt177.1 false)) else (ammonitelaw3_DeltaTells.j1 kj10 t166 x15_10 t173 t174 bt175.1 bt175.2 bt177.1 false)))) = some r := H
      have A47 := Aside0.mk A470
      clear A470
      replace H := Option.bind_eq_some_iff.mp H
      obtain ⟨⟨t175, t176⟩, A480, H⟩ := H
      replace H : ((ammoniteref1_Read.f kj10 x15_10 0).bind fun bt177 => (if bt177.2 > 0 then (if bt177.2 < (x15_10.size : Int) then (if 0 ≤ bt177.2 then (ammonitelaw3_DeltaTells.j1 kj10 t166 x15_10 t173 t174 t175 t176 bt177.1 ((bt x15_10 bt177.2) == 10)) else (none)) else (ammonitelaw3_DeltaTells.j1 kj10 t166 x15_10 t173 t174 t175 t176 bt177.1 false)) else (ammonitelaw3_DeltaTells.j1 kj10 t166 x15_10 t173 t174 t175 t176 bt177.1 false))) = some r := H
      have A48 := Aside0.mk A480
      clear A480
      replace H := Option.bind_eq_some_iff.mp H
      obtain ⟨⟨t177, t178⟩, A490, H⟩ := H
      replace H : (if t178 > 0 then (if t178 < (x15_10.size : Int) then (if 0 ≤ t178 then (ammonitelaw3_DeltaTells.j1 kj10 t166 x15_10 t173 t174 t175 t176 t177 ((bt x15_10 t178) == 10)) else (none)) else (ammonitelaw3_DeltaTells.j1 kj10 t166 x15_10 t173 t174 t175 t176 t177 false)) else (ammonitelaw3_DeltaTells.j1 kj10 t166 x15_10 t173 t174 t175 t176 t177 false)) = some r := H
      have A49 := Aside0.mk A490
      clear A490
      have HC50 := Aside0.mk H
      clear H
      go_upto_region 16 with (first | ((with_reducible refine gate_callee (f := 20) rfl ?_); refine goesL_ (some 85) rfl rfl Try.func20 (by kernel_rfl) rfl #[.string t166, .string x15_10] rfl (by (try simp only [List.map_toArray, List.map_cons, List.map_nil]); first | done | rfl | (simp only [List.length_drop, List.length_take]; rfl)) ?_; (with_reducible refine (delta_Apply.calls kj10 t166 x15_10 t173 t174 _ A47.out).mono ?_); rintro e w' ⟨rfl, ⟨nd, rfl⟩⟩; refine ⟨_, rfl, ?_⟩) | ((with_reducible refine gate_callee (f := 24) rfl ?_); refine goesL_ (some 91) rfl rfl Try.func24 (by kernel_rfl) rfl #[.string t166, .string x15_10] rfl (by (try simp only [List.map_toArray, List.map_cons, List.map_nil]); first | done | rfl | (simp only [List.length_drop, List.length_take]; rfl)) ?_; (with_reducible refine (ammoniteref1_Apply.calls kj10 t166 x15_10 t175 t176 _ A48.out).mono ?_); rintro e w' ⟨rfl, ⟨nd, rfl⟩⟩; refine ⟨_, rfl, ?_⟩) | ((with_reducible refine gate_callee (f := 25) rfl ?_); refine goesL_ (some 96) rfl rfl Try.func25 (by kernel_rfl) rfl #[.string x15_10, .int .i64 0] rfl (by (try simp only [List.map_toArray, List.map_cons, List.map_nil]); first | done | rfl | (simp only [List.length_drop, List.length_take]; rfl)) ?_; (with_reducible refine (ammoniteref1_Read.calls kj10 x15_10 0 t177 t178 _ A49.out).mono ?_); rintro e w' ⟨rfl, ⟨nd, rfl⟩⟩; refine ⟨_, rfl, ?_⟩))
      (try simp only [Act.put, List.setIfInBounds_toArray, List.set_cons_zero, List.set_cons_succ])
      go_cut [23] (fun v23 wc => ∃ (kq : Nat) (x23_49 : Bool), v23 = .bool x23_49 ∧ Aside0 (ammonitelaw3_DeltaTells.j1 kq t166 x15_10 t173 t174 t175 t176 t177 x23_49 = some r) ∧ Aside0 (kq ≤ kj10) ∧ Aside0 (wc.heap[gb164]? = some (.cells #[.int .i64 a0_0, (.slice A0_1 l0_1.length c0_1)] 37 (0, 0))) ∧ Aside0 (wc.heap[gb165]? = some (.cells #[.int .i64 a1_0, (.slice A1_1 l1_1.length c1_1)] 37 (0, 0))) ∧ Aside0 (Below w.heap.size w wc))
      case first =>
        have H := HC50.out
        clear HC50
        by_cases c51 : t178 > 0
        · rw [if_pos c51] at H
          have c51b0 : decide (0 < t178) = true := decide_eq_true c51
          clear c51
          (first | rw [c51b0] | (simp only [i64_w, i32_w]; rw [c51b0]) | skip)
          by_cases c52 : t178 < (x15_10.size : Int)
          · rw [if_pos c52] at H
            have c52b0 : decide (t178 < (x15_10.size : Int)) = true := decide_eq_true c52
            clear c52
            by_cases c53 : 0 ≤ t178
            · rw [if_pos c53] at H
              have c53b0 : decide (0 ≤ t178) = true := decide_eq_true c53
              clear c53
              have H' := Aside0.mk H
              clear H
              have p54 : 0 ≤ (t178 : Int) := of_decide_eq_true (by first | (with_reducible assumption) | assumption)
              have q54 : t178 < (x15_10.size : Int) := of_decide_eq_true (by first | (with_reducible assumption) | assumption)
              have hx54 := bt_at x15_10 t178
              replace p54 := eq_true p54
              replace q54 := eq_true q54
              go_wp2
              go_meet
              case rel => exact ⟨_, (((bt x15_10 t178) == 10)), (by first | rfl | (simp; done) | (simp [*]; done)), H', ⟨by have := HJ10.out; first | omega | exact Nat.le_refl _⟩, ⟨by (with_reducible repeat (first | refine blk_drewN ?_ _ | refine blk_drew ?_ | refine blk_alloc ?_ _)); exact BK164.out⟩, ⟨by (with_reducible repeat (first | refine blk_drewN ?_ _ | refine blk_drew ?_ | refine blk_alloc ?_ _)); exact BK165.out⟩, ⟨by repeat (first | (with_reducible first | exact HB.out | apply below_alloc | apply pw_below_drewN | apply below_drew1 | refine below_set ?_ GE164.out | refine below_set ?_ GE165.out) | exact HB.out)⟩⟩
              all_goals (exfalso; (try simp only [beq_iff_eq, bne_iff_ne, ne_eq, decide_eq_true_eq, decide_eq_false_iff_not, decide_eq_decide, bne_eq_false_iff_eq, beq_eq_false_iff_ne, Bool.not_eq_true, Bool.not_eq_false, Bool.not_eq_true', Bool.not_eq_false', Bool.true_beq, Bool.false_beq, Bool.true_bne, Bool.false_bne, Bool.bne_true, Bool.bne_false] at c51b0); (try simp only [beq_iff_eq, bne_iff_ne, ne_eq, decide_eq_true_eq, decide_eq_false_iff_not, decide_eq_decide, bne_eq_false_iff_eq, beq_eq_false_iff_ne, Bool.not_eq_true, Bool.not_eq_false, Bool.not_eq_true', Bool.not_eq_false', Bool.true_beq, Bool.false_beq, Bool.true_bne, Bool.false_bne, Bool.bne_true, Bool.bne_false] at c52b0); (try simp only [beq_iff_eq, bne_iff_ne, ne_eq, decide_eq_true_eq, decide_eq_false_iff_not, decide_eq_decide, bne_eq_false_iff_eq, beq_eq_false_iff_ne, Bool.not_eq_true, Bool.not_eq_false, Bool.not_eq_true', Bool.not_eq_false', Bool.true_beq, Bool.false_beq, Bool.true_bne, Bool.false_bne, Bool.bne_true, Bool.bne_false] at c53b0); (try unfold wrap64 at *); omega)
            · rw [if_neg c53] at H
              exact absurd H (by simp)
          · rw [if_neg c52] at H
            have c52b0 : decide (t178 < (x15_10.size : Int)) = false := decide_eq_false c52
            clear c52
            have H' := Aside0.mk H
            clear H
            go_wp2
            go_meet
            case rel => exact ⟨_, (false), (by first | rfl | (simp; done) | (simp [*]; done)), H', ⟨by have := HJ10.out; first | omega | exact Nat.le_refl _⟩, ⟨by (with_reducible repeat (first | refine blk_drewN ?_ _ | refine blk_drew ?_ | refine blk_alloc ?_ _)); exact BK164.out⟩, ⟨by (with_reducible repeat (first | refine blk_drewN ?_ _ | refine blk_drew ?_ | refine blk_alloc ?_ _)); exact BK165.out⟩, ⟨by repeat (first | (with_reducible first | exact HB.out | apply below_alloc | apply pw_below_drewN | apply below_drew1 | refine below_set ?_ GE164.out | refine below_set ?_ GE165.out) | exact HB.out)⟩⟩
            all_goals (exfalso; (try simp only [beq_iff_eq, bne_iff_ne, ne_eq, decide_eq_true_eq, decide_eq_false_iff_not, decide_eq_decide, bne_eq_false_iff_eq, beq_eq_false_iff_ne, Bool.not_eq_true, Bool.not_eq_false, Bool.not_eq_true', Bool.not_eq_false', Bool.true_beq, Bool.false_beq, Bool.true_bne, Bool.false_bne, Bool.bne_true, Bool.bne_false] at c51b0); (try simp only [beq_iff_eq, bne_iff_ne, ne_eq, decide_eq_true_eq, decide_eq_false_iff_not, decide_eq_decide, bne_eq_false_iff_eq, beq_eq_false_iff_ne, Bool.not_eq_true, Bool.not_eq_false, Bool.not_eq_true', Bool.not_eq_false', Bool.true_beq, Bool.false_beq, Bool.true_bne, Bool.false_bne, Bool.bne_true, Bool.bne_false] at c52b0); (try unfold wrap64 at *); omega)
        · rw [if_neg c51] at H
          have c51b0 : decide (0 < t178) = false := decide_eq_false c51
          clear c51
          (first | rw [c51b0] | (simp only [i64_w, i32_w]; rw [c51b0]) | skip)
          have H' := Aside0.mk H
          clear H
          go_wp2
          go_meet
          case rel => exact ⟨_, (false), (by first | rfl | (simp; done) | (simp [*]; done)), H', ⟨by have := HJ10.out; first | omega | exact Nat.le_refl _⟩, ⟨by (with_reducible repeat (first | refine blk_drewN ?_ _ | refine blk_drew ?_ | refine blk_alloc ?_ _)); exact BK164.out⟩, ⟨by (with_reducible repeat (first | refine blk_drewN ?_ _ | refine blk_drew ?_ | refine blk_alloc ?_ _)); exact BK165.out⟩, ⟨by repeat (first | (with_reducible first | exact HB.out | apply below_alloc | apply pw_below_drewN | apply below_drew1 | refine below_set ?_ GE164.out | refine below_set ?_ GE165.out) | exact HB.out)⟩⟩
          all_goals (exfalso; (try simp only [beq_iff_eq, bne_iff_ne, ne_eq, decide_eq_true_eq, decide_eq_false_iff_not, decide_eq_decide, bne_eq_false_iff_eq, beq_eq_false_iff_ne, Bool.not_eq_true, Bool.not_eq_false, Bool.not_eq_true', Bool.not_eq_false', Bool.true_beq, Bool.false_beq, Bool.true_bne, Bool.false_bne, Bool.bne_true, Bool.bne_false] at c51b0); (try unfold wrap64 at *); omega)
      case rest =>
        clear HC50
        try clear c1
        try clear c2
        try clear p2
        try clear hcv2
        try clear c3
        try clear c4
        try clear c5
        try clear p5
        try clear q5
        try clear hx5
        try clear p6
        try clear c7
        try clear c17
        try clear c17b0
        try clear c17b1
        try clear c18
        try clear c18b0
        try clear c18b1
        try clear c19
        try clear c19b0
        try clear c19b1
        try clear c20
        try clear c20b0
        try clear c20b1
        try clear c20b2
        try clear c22
        try clear c22b0
        try clear c22b1
        try clear c23
        try clear c23b0
        try clear c23b1
        try clear c24
        try clear c24b0
        try clear c24b1
        try clear c24b2
        try clear c25
        try clear hcv28
        try clear c29
        try clear c29b0
        try clear c29b1
        try clear c30
        try clear c30b0
        try clear c30b1
        try clear c31
        try clear c31b0
        try clear c31b1
        try clear c32
        try clear c32b0
        try clear c32b1
        try clear c33
        try clear c33b0
        try clear c33b1
        try clear c34
        try clear c34b0
        try clear c34b1
        try clear c36
        try clear c36b0
        try clear c36b1
        try clear c37
        try clear c37b0
        try clear c37b1
        try clear c38
        try clear c38b0
        try clear c38b1
        try clear c38b2
        try clear c39
        try clear c39b0
        try clear c40
        try clear c40b0
        try clear c41
        try clear c41b0
        try clear c41b1
        try clear c41b2
        try clear c43
        try clear c43b0
        try clear c43b1
        try clear c45
        try clear c45b0
        try clear c45b1
        try clear c46
        try clear c46b0
        try clear c46b1
        try clear c51
        try clear c51b0
        try clear c52
        try clear c52b0
        try clear c53
        try clear c53b0
        try clear p54
        try clear q54
        try clear hx54
        try clear p2
        try clear p54
        try clear p6
        try clear q54
        obtain ⟨kq, x23_49, rfl, HA, HJ49, BK164, BK165, HB⟩ := hcut
        cases kq with
        | zero => exact absurd HA.out (by simp [ammonitelaw3_DeltaTells.j1])
        | succ kj49 =>
          have H := HA.out
          clear HA
          simp only [ammonitelaw3_DeltaTells.j1] at H
          have HC55 := Aside0.mk H
          clear H
          go_upto_if 114 with (fail)
          go_cut [21] (fun v21 wc => ∃ (kq : Nat) (x21_54 : Int), v21 = .int .i64 x21_54 ∧ Aside0 (ammonitelaw3_DeltaTells.j2 kq t166 x15_10 t173 t174 t175 t176 x21_54 x23_49 = some r) ∧ Aside0 (kq ≤ kj49) ∧ Aside0 (wc.heap[gb164]? = some (.cells #[.int .i64 a0_0, (.slice A0_1 l0_1.length c0_1)] 37 (0, 0))) ∧ Aside0 (wc.heap[gb165]? = some (.cells #[.int .i64 a1_0, (.slice A1_1 l1_1.length c1_1)] 37 (0, 0))) ∧ Aside0 (Below w.heap.size w wc))
          case first =>
            have H := HC55.out
            clear HC55
            by_cases c56 : x23_49 = true
            · subst c56
              have H1 : (ammonitelaw3_DeltaTells.j2 kj49 t166 x15_10 t173 t174 t175 t176 t177 true) = some r := by rw [if_pos rfl] at H; exact H
              clear H
              have H := H1
              clear H1
              have H' := Aside0.mk H
              clear H
              go_wp2
              go_meet
              case rel => exact ⟨_, (t177), (by first | rfl | (simp; done) | (simp [*]; done)), H', ⟨by have := HJ10.out; have := HJ49.out; first | omega | exact Nat.le_refl _⟩, ⟨by (with_reducible repeat (first | refine blk_drewN ?_ _ | refine blk_drew ?_ | refine blk_alloc ?_ _)); exact BK164.out⟩, ⟨by (with_reducible repeat (first | refine blk_drewN ?_ _ | refine blk_drew ?_ | refine blk_alloc ?_ _)); exact BK165.out⟩, ⟨by repeat (first | (with_reducible first | exact HB.out | apply below_alloc | apply pw_below_drewN | apply below_drew1 | refine below_set ?_ GE164.out | refine below_set ?_ GE165.out) | exact HB.out)⟩⟩
              all_goals (exfalso; (try unfold wrap64 at *); omega)
            · replace c56 := Bool.eq_false_iff.mpr c56
              subst c56
              have H1 : (ammonitelaw3_DeltaTells.j2 kj49 t166 x15_10 t173 t174 t175 t176 0 false) = some r := by rw [if_neg (show ¬ (false = true) by decide)] at H; exact H
              clear H
              have H := H1
              clear H1
              have H' := Aside0.mk H
              clear H
              go_wp2
              go_meet
              case rel => exact ⟨_, (0), (by first | rfl | (simp; done) | (simp [*]; done)), H', ⟨by have := HJ10.out; have := HJ49.out; first | omega | exact Nat.le_refl _⟩, ⟨by (with_reducible repeat (first | refine blk_drewN ?_ _ | refine blk_drew ?_ | refine blk_alloc ?_ _)); exact BK164.out⟩, ⟨by (with_reducible repeat (first | refine blk_drewN ?_ _ | refine blk_drew ?_ | refine blk_alloc ?_ _)); exact BK165.out⟩, ⟨by repeat (first | (with_reducible first | exact HB.out | apply below_alloc | apply pw_below_drewN | apply below_drew1 | refine below_set ?_ GE164.out | refine below_set ?_ GE165.out) | exact HB.out)⟩⟩
              all_goals (exfalso; (try unfold wrap64 at *); omega)
          case rest =>
            clear HC55
            try clear c1
            try clear c2
            try clear p2
            try clear hcv2
            try clear c3
            try clear c4
            try clear c5
            try clear p5
            try clear q5
            try clear hx5
            try clear p6
            try clear c7
            try clear c17
            try clear c17b0
            try clear c17b1
            try clear c18
            try clear c18b0
            try clear c18b1
            try clear c19
            try clear c19b0
            try clear c19b1
            try clear c20
            try clear c20b0
            try clear c20b1
            try clear c20b2
            try clear c22
            try clear c22b0
            try clear c22b1
            try clear c23
            try clear c23b0
            try clear c23b1
            try clear c24
            try clear c24b0
            try clear c24b1
            try clear c24b2
            try clear c25
            try clear hcv28
            try clear c29
            try clear c29b0
            try clear c29b1
            try clear c30
            try clear c30b0
            try clear c30b1
            try clear c31
            try clear c31b0
            try clear c31b1
            try clear c32
            try clear c32b0
            try clear c32b1
            try clear c33
            try clear c33b0
            try clear c33b1
            try clear c34
            try clear c34b0
            try clear c34b1
            try clear c36
            try clear c36b0
            try clear c36b1
            try clear c37
            try clear c37b0
            try clear c37b1
            try clear c38
            try clear c38b0
            try clear c38b1
            try clear c38b2
            try clear c39
            try clear c39b0
            try clear c40
            try clear c40b0
            try clear c41
            try clear c41b0
            try clear c41b1
            try clear c41b2
            try clear c43
            try clear c43b0
            try clear c43b1
            try clear c45
            try clear c45b0
            try clear c45b1
            try clear c46
            try clear c46b0
            try clear c46b1
            try clear c51
            try clear c51b0
            try clear c52
            try clear c52b0
            try clear c53
            try clear c53b0
            try clear p54
            try clear q54
            try clear hx54
            try clear c56
            try clear p2
            try clear p5
            try clear p54
            try clear p6
            try clear q5
            try clear q54
            obtain ⟨kq, x21_54, rfl, HA, HJ54, BK164, BK165, HB⟩ := hcut
            cases kq with
            | zero => exact absurd HA.out (by simp [ammonitelaw3_DeltaTells.j2])
            | succ kj54 =>
              have H := HA.out
              clear HA
              simp only [ammonitelaw3_DeltaTells.j2] at H
              replace H := Option.bind_eq_some_iff.mp H
              obtain ⟨⟨t179, t180⟩, A570, H⟩ := H
              replace H : (if t173.toList = t175.toList then (if (t174 == t176) = true then ((delta_Check.f kj54 t166).bind fun t181 => ((ammoniteref1_Check.f kj54 t166).bind fun t182 => (if t181 = t182 then (if t179 = x21_54 then (if (t180 == x23_49) = true then ((ammonitelaw3_DeltaRuns.f kj54).bind fun t183 => (some t183)) else (some false)) else (some false)) else (some false)))) else (some false)) else (some false)) = some r := H
              have A57 := Aside0.mk A570
              clear A570
              by_cases c58 : t173.toList = t175.toList
              · rw [if_pos c58] at H
                have c58b0 : (t173.toList == t175.toList) = true := beq_iff_eq.mpr c58
                have c58b1 : (t173.toList != t175.toList) = false := bne_eq_false_iff_eq.mpr c58
                clear c58
                by_cases c59 : (t174 == t176) = true
                · rw [if_pos c59] at H
                  have c59b0 : (t174 == t176) = true := c59
                  (try (have c59b1 : decide (t174 = t176) = true := by simpa using c59))
                  (try (have c59b2 : (t174 == t176) = true := by simpa using c59))
                  clear c59
                  replace H := Option.bind_eq_some_iff.mp H
                  obtain ⟨t181, A600, H⟩ := H
                  replace H : ((ammoniteref1_Check.f kj54 t166).bind fun t182 => (if t181 = t182 then (if t179 = x21_54 then (if (t180 == x23_49) = true then ((ammonitelaw3_DeltaRuns.f kj54).bind fun t183 => (some t183)) else (some false)) else (some false)) else (some false))) = some r := H
                  have A60 := Aside0.mk A600
                  clear A600
                  replace H := Option.bind_eq_some_iff.mp H
                  obtain ⟨t182, A610, H⟩ := H
                  replace H : (if t181 = t182 then (if t179 = x21_54 then (if (t180 == x23_49) = true then ((ammonitelaw3_DeltaRuns.f kj54).bind fun t183 => (some t183)) else (some false)) else (some false)) else (some false)) = some r := H
                  have A61 := Aside0.mk A610
                  clear A610
                  by_cases c62 : t181 = t182
                  · rw [if_pos c62] at H
                    have c62b0 : (t181 == t182) = true := beq_iff_eq.mpr c62
                    have c62b1 : (t181 != t182) = false := bne_eq_false_iff_eq.mpr c62
                    clear c62
                    by_cases c63 : t179 = x21_54
                    · rw [if_pos c63] at H
                      have c63b0 : (t179 == x21_54) = true := beq_iff_eq.mpr c63
                      have c63b1 : (t179 != x21_54) = false := bne_eq_false_iff_eq.mpr c63
                      clear c63
                      by_cases c64 : (t180 == x23_49) = true
                      · rw [if_pos c64] at H
                        have c64b0 : (t180 == x23_49) = true := c64
                        (try (have c64b1 : decide (t180 = x23_49) = true := by simpa using c64))
                        (try (have c64b2 : (t180 == x23_49) = true := by simpa using c64))
                        clear c64
                        replace H := Option.bind_eq_some_iff.mp H
                        obtain ⟨t183, A650, H⟩ := H
                        replace H : (some t183) = some r := H
                        have A65 := Aside0.mk A650
                        clear A650
                        obtain rfl := Option.some.inj H
                        go_wp2_with (first | ((with_reducible refine gate_callee (f := 21) rfl ?_); refine goesL_ (some 117) rfl rfl Try.func21 (by kernel_rfl) rfl #[.string x15_10] rfl (by (try simp only [List.map_toArray, List.map_cons, List.map_nil]); first | done | rfl | (simp only [List.length_drop, List.length_take]; rfl)) ?_; (with_reducible refine (delta_Size.calls kj54 x15_10 t179 t180 _ A57.out).mono ?_); rintro e w' ⟨rfl, ⟨nd, rfl⟩⟩; refine ⟨_, rfl, ?_⟩) | (go_at_call 19; (try simp only [i64_w, i32_w]); (with_reducible refine (delta_Check.calls kj54 t166 t181 _ A60.out).mono ?_); rintro e w' ⟨rfl, ⟨nd, rfl⟩⟩) | (go_at_call 26; (try simp only [i64_w, i32_w]); (with_reducible refine (ammoniteref1_Check.calls kj54 t166 t182 _ A61.out).mono ?_); rintro e w' ⟨rfl, ⟨nd, rfl⟩⟩) | (go_at_call 6; (try simp only [i64_w, i32_w]); (with_reducible refine (ammonitelaw3_DeltaRuns.calls kj54  t183 _ A65.out).mono ?_); rintro e w' ⟨rfl, ⟨nd, rfl⟩⟩))
                        go_ret
                        exact ⟨by first | rfl | (simp [errW_none, errW_some] <;> rfl) | (simp [*, errW_none, errW_some] <;> rfl), by repeat (first | (with_reducible first | exact HB.out | apply below_alloc | apply pw_below_drewN | apply below_drew1 | refine below_set ?_ GE164.out | refine below_set ?_ GE165.out) | exact HB.out)⟩
                        all_goals (exfalso; (try simp only [beq_iff_eq, bne_iff_ne, ne_eq, decide_eq_true_eq, decide_eq_false_iff_not, decide_eq_decide, bne_eq_false_iff_eq, beq_eq_false_iff_ne, Bool.not_eq_true, Bool.not_eq_false, Bool.not_eq_true', Bool.not_eq_false', Bool.true_beq, Bool.false_beq, Bool.true_bne, Bool.false_bne, Bool.bne_true, Bool.bne_false] at c58b0); (try simp only [beq_iff_eq, bne_iff_ne, ne_eq, decide_eq_true_eq, decide_eq_false_iff_not, decide_eq_decide, bne_eq_false_iff_eq, beq_eq_false_iff_ne, Bool.not_eq_true, Bool.not_eq_false, Bool.not_eq_true', Bool.not_eq_false', Bool.true_beq, Bool.false_beq, Bool.true_bne, Bool.false_bne, Bool.bne_true, Bool.bne_false] at c58b1); (try simp only [beq_iff_eq, bne_iff_ne, ne_eq, decide_eq_true_eq, decide_eq_false_iff_not, decide_eq_decide, bne_eq_false_iff_eq, beq_eq_false_iff_ne, Bool.not_eq_true, Bool.not_eq_false, Bool.not_eq_true', Bool.not_eq_false', Bool.true_beq, Bool.false_beq, Bool.true_bne, Bool.false_bne, Bool.bne_true, Bool.bne_false] at c59b0); (try simp only [beq_iff_eq, bne_iff_ne, ne_eq, decide_eq_true_eq, decide_eq_false_iff_not, decide_eq_decide, bne_eq_false_iff_eq, beq_eq_false_iff_ne, Bool.not_eq_true, Bool.not_eq_false, Bool.not_eq_true', Bool.not_eq_false', Bool.true_beq, Bool.false_beq, Bool.true_bne, Bool.false_bne, Bool.bne_true, Bool.bne_false] at c59b1); (try simp only [beq_iff_eq, bne_iff_ne, ne_eq, decide_eq_true_eq, decide_eq_false_iff_not, decide_eq_decide, bne_eq_false_iff_eq, beq_eq_false_iff_ne, Bool.not_eq_true, Bool.not_eq_false, Bool.not_eq_true', Bool.not_eq_false', Bool.true_beq, Bool.false_beq, Bool.true_bne, Bool.false_bne, Bool.bne_true, Bool.bne_false] at c59b2); (try simp only [beq_iff_eq, bne_iff_ne, ne_eq, decide_eq_true_eq, decide_eq_false_iff_not, decide_eq_decide, bne_eq_false_iff_eq, beq_eq_false_iff_ne, Bool.not_eq_true, Bool.not_eq_false, Bool.not_eq_true', Bool.not_eq_false', Bool.true_beq, Bool.false_beq, Bool.true_bne, Bool.false_bne, Bool.bne_true, Bool.bne_false] at c62b0); (try simp only [beq_iff_eq, bne_iff_ne, ne_eq, decide_eq_true_eq, decide_eq_false_iff_not, decide_eq_decide, bne_eq_false_iff_eq, beq_eq_false_iff_ne, Bool.not_eq_true, Bool.not_eq_false, Bool.not_eq_true', Bool.not_eq_false', Bool.true_beq, Bool.false_beq, Bool.true_bne, Bool.false_bne, Bool.bne_true, Bool.bne_false] at c62b1); (try simp only [beq_iff_eq, bne_iff_ne, ne_eq, decide_eq_true_eq, decide_eq_false_iff_not, decide_eq_decide, bne_eq_false_iff_eq, beq_eq_false_iff_ne, Bool.not_eq_true, Bool.not_eq_false, Bool.not_eq_true', Bool.not_eq_false', Bool.true_beq, Bool.false_beq, Bool.true_bne, Bool.false_bne, Bool.bne_true, Bool.bne_false] at c63b0); (try simp only [beq_iff_eq, bne_iff_ne, ne_eq, decide_eq_true_eq, decide_eq_false_iff_not, decide_eq_decide, bne_eq_false_iff_eq, beq_eq_false_iff_ne, Bool.not_eq_true, Bool.not_eq_false, Bool.not_eq_true', Bool.not_eq_false', Bool.true_beq, Bool.false_beq, Bool.true_bne, Bool.false_bne, Bool.bne_true, Bool.bne_false] at c63b1); (try simp only [beq_iff_eq, bne_iff_ne, ne_eq, decide_eq_true_eq, decide_eq_false_iff_not, decide_eq_decide, bne_eq_false_iff_eq, beq_eq_false_iff_ne, Bool.not_eq_true, Bool.not_eq_false, Bool.not_eq_true', Bool.not_eq_false', Bool.true_beq, Bool.false_beq, Bool.true_bne, Bool.false_bne, Bool.bne_true, Bool.bne_false] at c64b0); (try simp only [beq_iff_eq, bne_iff_ne, ne_eq, decide_eq_true_eq, decide_eq_false_iff_not, decide_eq_decide, bne_eq_false_iff_eq, beq_eq_false_iff_ne, Bool.not_eq_true, Bool.not_eq_false, Bool.not_eq_true', Bool.not_eq_false', Bool.true_beq, Bool.false_beq, Bool.true_bne, Bool.false_bne, Bool.bne_true, Bool.bne_false] at c64b1); (try simp only [beq_iff_eq, bne_iff_ne, ne_eq, decide_eq_true_eq, decide_eq_false_iff_not, decide_eq_decide, bne_eq_false_iff_eq, beq_eq_false_iff_ne, Bool.not_eq_true, Bool.not_eq_false, Bool.not_eq_true', Bool.not_eq_false', Bool.true_beq, Bool.false_beq, Bool.true_bne, Bool.false_bne, Bool.bne_true, Bool.bne_false] at c64b2); (try unfold wrap64 at *); omega)
                      · rw [if_neg c64] at H
                        have c64b0 : (t180 == x23_49) = false := by simpa using c64
                        (try (have c64b1 : decide (t180 = x23_49) = false := by simpa using c64))
                        (try (have c64b2 : (t180 == x23_49) = false := by simpa using c64))
                        (try (have c64b3 : ¬ (t180 = x23_49) := by simpa using c64))
                        clear c64
                        exact absurd ((Option.some.inj H).trans HRT.out) Bool.false_ne_true
                    · rw [if_neg c63] at H
                      have c63b0 : (t179 == x21_54) = false := beq_eq_false_iff_ne.mpr c63
                      have c63b1 : (t179 != x21_54) = true := bne_iff_ne.mpr c63
                      exact absurd ((Option.some.inj H).trans HRT.out) Bool.false_ne_true
                  · rw [if_neg c62] at H
                    have c62b0 : (t181 == t182) = false := beq_eq_false_iff_ne.mpr c62
                    have c62b1 : (t181 != t182) = true := bne_iff_ne.mpr c62
                    exact absurd ((Option.some.inj H).trans HRT.out) Bool.false_ne_true
                · rw [if_neg c59] at H
                  have c59b0 : (t174 == t176) = false := by simpa using c59
                  (try (have c59b1 : decide (t174 = t176) = false := by simpa using c59))
                  (try (have c59b2 : (t174 == t176) = false := by simpa using c59))
                  (try (have c59b3 : ¬ (t174 = t176) := by simpa using c59))
                  clear c59
                  exact absurd ((Option.some.inj H).trans HRT.out) Bool.false_ne_true
              · rw [if_neg c58] at H
                have c58b0 : (t173.toList == t175.toList) = false := beq_eq_false_iff_ne.mpr c58
                have c58b1 : (t173.toList != t175.toList) = true := bne_iff_ne.mpr c58
                exact absurd ((Option.some.inj H).trans HRT.out) Bool.false_ne_true

/-- THE ONE PURE STATEMENT of ammonitelaw3_DeltaTells: yours. -/
def ammonitelaw3_DeltaTells.Pure : Prop := ∀ (a0_0 : Int) (l0_1 : List Int) (a1_0 : Int) (l1_1 : List Int) (a2 : ByteArray) (a3 : Int) (a4 : Int) (a5 : Int), (Lit.int .i64 a0_0).wf = true → l0_1.length ≤ maxLen → (∀ x ∈ l0_1, (Lit.int .i64 x).wf = true) → (Lit.int .i64 a1_0).wf = true → l1_1.length ≤ maxLen → (∀ x ∈ l1_1, (Lit.int .i64 x).wf = true) → a2.size ≤ 140737488351232 → (Lit.int .i64 a3).wf = true → (Lit.int .u8 a4).wf = true → (Lit.int .i64 a5).wf = true → ∃ k, ammonitelaw3_DeltaTells.f k a0_0 l0_1 a1_0 l1_1 a2 a3 a4 a5 = some true
theorem ammonitelaw3_DeltaTells.walk (P : ammonitelaw3_DeltaTells.Pure) (a0_0 : Int) (a0_1 : Option Addr) (len0_1 cap0_1 : Nat) (z0_1 : List Int) (a1_0 : Int) (a1_1 : Option Addr) (len1_1 cap1_1 : Nat) (z1_1 : List Int) (a2 : ByteArray) (a3 : Int) (a4 : Int) (a5 : Int) (w : World) (w0_0 : (Lit.int .i64 a0_0).wf = true) (w0_1 : (a0_1 = none ∧ len0_1 = 0 ∧ cap0_1 = 0 ∧ z0_1 = []) ∨ ∃ x, a0_1 = some x ∧ len0_1 ≤ cap0_1 ∧ cap0_1 ≤ maxLen ∧ z0_1.length = cap0_1 ∧ (∀ i, i < z0_1.length → w.cell? (x.add i) = some (.int .i64 (z0_1.getD i 0))) ∧ ∀ n ∈ z0_1, (Lit.int .i64 n).wf = true) (w1_0 : (Lit.int .i64 a1_0).wf = true) (w1_1 : (a1_1 = none ∧ len1_1 = 0 ∧ cap1_1 = 0 ∧ z1_1 = []) ∨ ∃ x, a1_1 = some x ∧ len1_1 ≤ cap1_1 ∧ cap1_1 ≤ maxLen ∧ z1_1.length = cap1_1 ∧ (∀ i, i < z1_1.length → w.cell? (x.add i) = some (.int .i64 (z1_1.getD i 0))) ∧ ∀ n ∈ z1_1, (Lit.int .i64 n).wf = true) (w2 : a2.size ≤ 140737488351232) (w3 : (Lit.int .i64 a3).wf = true) (w4 : (Lit.int .u8 a4).wf = true) (w5 : (Lit.int .i64 a5).wf = true) :
    Calls Try.prog 7 #[.agg #[.int .i64 a0_0, .slice a0_1 len0_1 cap0_1], .agg #[.int .i64 a1_0, .slice a1_1 len1_1 cap1_1], .string a2, .int .i64 a3, .int .u8 a4, .int .i64 a5] w fun e w' => e = .returned (.bool true) ∧ Below w.heap.size w w' := by
  obtain ⟨l0_1, rfl, hr0_1, hm0_1, hw0_1, hc0_1⟩ := ReadsInt.ofRowC w0_1
  obtain ⟨l1_1, rfl, hr1_1, hm1_1, hw1_1, hc1_1⟩ := ReadsInt.ofRowC w1_1
  obtain ⟨k, h⟩ := P a0_0 l0_1 a1_0 l1_1 a2 a3 a4 a5 w0_0 hm0_1 hw0_1 w1_0 hm1_1 hw1_1 w2 w3 w4 w5
  refine (ammonitelaw3_DeltaTells.calls k a0_0 _ _ l0_1 a1_0 _ _ l1_1 a2 a3 a4 a5 true w (Kd.C_of_reads (d := (0 : Int)) (h1 := fun _ => rfl) hr0_1) hc0_1 (Kd.C_of_reads (d := (0 : Int)) (h1 := fun _ => rfl) hr1_1) hc1_1 h rfl).mono ?_
  rintro e w' ⟨rfl, hd⟩
  exact ⟨rfl, hd⟩

end Go.Proofs.Ytcjkichimndioab.Q
