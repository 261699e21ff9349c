-- Written by a program of this session (wip/tools/ap.py) for this claim.
import Derived.Test.YtcjkichimndioabQx0
import Derived.Test.YtcjkichimndioabQx1
import Derived.Test.YtcjkichimndioabQx2
namespace Go.Proofs.Ytcjkichimndioab.Q
open Go.Proofs.Ytcjkichimndioab.Given
open Go.RowKit Go.Proofs.Ytcjkichimndioab.PW Go.Proofs.YtcjkichimndioabW.PrintWords Go.Proofs.YtcjkichimndioabW.PrintLast Go.Proofs.YtcjkichimndioabW.PrintMore
attribute [local go_sem] max2_int min2_int max_two min_two max_three min_three max_four min_four   -- for this text's walks alone
set_option linter.unnecessarySimpa false
attribute [local go_sem high] run_cut_if run_cut_from run_cut_to run_cat_if
set_option linter.unusedVariables false
set_option linter.unusedSimpArgs false

/-! ### ammonitelaw3_DeltaRuns: function 6 -/
def ammonitelaw3_DeltaRuns.f (k : Nat)  : Option (Bool) := (delta_Check.f k (⟨#[97, 98, 99, 120, 121, 122]⟩ : ByteArray)).bind fun t119 => ((digit_Put.f k t119).bind fun t120 => (if 11 + t120.size ≤ 9223372036854775807 then (if (catS (⟨#[54, 10, 51, 64, 48, 44, 51, 58, 120, 121, 122]⟩ : ByteArray) t120).size + 1 ≤ 9223372036854775807 then ((delta_Apply.f k (⟨#[97, 98, 99, 100, 101, 102]⟩ : ByteArray) (catS (catS (⟨#[54, 10, 51, 64, 48, 44, 51, 58, 120, 121, 122]⟩ : ByteArray) t120) (⟨#[59]⟩ : ByteArray))).bind fun bt121 => ((delta_Apply.f k (⟨#[97, 98]⟩ : ByteArray) (catS (catS (⟨#[54, 10, 51, 64, 48, 44, 51, 58, 120, 121, 122]⟩ : ByteArray) t120) (⟨#[59]⟩ : ByteArray))).bind fun bt123 => ((delta_Size.f k (catS (catS (⟨#[54, 10, 51, 64, 48, 44, 51, 58, 120, 121, 122]⟩ : ByteArray) t120) (⟨#[59]⟩ : ByteArray))).bind fun bt125 => (if bt121.1.toList = ([97, 98, 99, 120, 121, 122] : List UInt8) then (if bt121.2 = true then (if bt123.2 = true then (some false) else (if bt125.1 = 6 then (if bt125.2 = true then ((delta_Check.f k (⟨#[97, 98, 99]⟩ : ByteArray)).bind fun t127 => (some (t127 == 560096000))) else (some false)) else (some false))) else (some false)) else (some false))))) else (none)) else (none)))
theorem ammonitelaw3_DeltaRuns.mono : ∀ k, LeO (ammonitelaw3_DeltaRuns.f k ) (ammonitelaw3_DeltaRuns.f (k + 1) ) := by
  intro  k
  unfold ammonitelaw3_DeltaRuns.f
  repeat' first
      | (with_reducible exact delta_Apply.mono _ _ _)
      | (with_reducible exact delta_Check.mono _ _)
      | (with_reducible exact delta_Size.mono _ _)
      | (with_reducible exact digit_Put.mono _ _)
      | (with_reducible exact LeO.refl _)
      | (with_reducible exact LeO.none _)
      | (with_reducible refine LeO.ite ?_ ?_)
      | (with_reducible refine LeO.bind ?_ (fun _ => ?_))
      | exact delta_Apply.mono _ _ _
      | exact delta_Check.mono _ _
      | exact delta_Size.mono _ _
      | exact digit_Put.mono _ _
      | exact LeO.none _
      | refine LeO.ite ?_ ?_
      | refine LeO.bind ?_ (fun _ => ?_)
set_option maxHeartbeats 8000000 in
set_option maxRecDepth 100000 in
theorem ammonitelaw3_DeltaRuns.calls (k : Nat)  (r : Bool) (w : World) (h : ammonitelaw3_DeltaRuns.f k  = some r) :
    Calls Try.prog 6 #[] w fun e w' => e = .returned (.bool r) ∧ Drawn0 w w' := by
  have H : ((delta_Check.f k (⟨#[97, 98, 99, 120, 121, 122]⟩ : ByteArray)).bind fun t119 => ((digit_Put.f k t119).bind fun t120 => (if 11 + t120.size ≤ 9223372036854775807 then (if (catS (⟨#[54, 10, 51, 64, 48, 44, 51, 58, 120, 121, 122]⟩ : ByteArray) t120).size + 1 ≤ 9223372036854775807 then ((delta_Apply.f k (⟨#[97, 98, 99, 100, 101, 102]⟩ : ByteArray) (catS (catS (⟨#[54, 10, 51, 64, 48, 44, 51, 58, 120, 121, 122]⟩ : ByteArray) t120) (⟨#[59]⟩ : ByteArray))).bind fun bt121 => ((delta_Apply.f k (⟨#[97, 98]⟩ : ByteArray) (catS (catS (⟨#[54, 10, 51, 64, 48, 44, 51, 58, 120, 121, 122]⟩ : ByteArray) t120) (⟨#[59]⟩ : ByteArray))).bind fun bt123 => ((delta_Size.f k (catS (catS (⟨#[54, 10, 51, 64, 48, 44, 51, 58, 120, 121, 122]⟩ : ByteArray) t120) (⟨#[59]⟩ : ByteArray))).bind fun bt125 => (if bt121.1.toList = ([97, 98, 99, 120, 121, 122] : List UInt8) then (if bt121.2 = true then (if bt123.2 = true then (some false) else (if bt125.1 = 6 then (if bt125.2 = true then ((delta_Check.f k (⟨#[97, 98, 99]⟩ : ByteArray)).bind fun t127 => (some (t127 == 560096000))) else (some false)) else (some false))) else (some false)) else (some false))))) else (none)) else (none)))) = some r := h
  clear h
  replace H := Option.bind_eq_some_iff.mp H
  obtain ⟨t119, A10, H⟩ := H
  replace H : ((digit_Put.f k t119).bind fun t120 => (if 11 + t120.size ≤ 9223372036854775807 then (if (catS (⟨#[54, 10, 51, 64, 48, 44, 51, 58, 120, 121, 122]⟩ : ByteArray) t120).size + 1 ≤ 9223372036854775807 then ((delta_Apply.f k (⟨#[97, 98, 99, 100, 101, 102]⟩ : ByteArray) (catS (catS (⟨#[54, 10, 51, 64, 48, 44, 51, 58, 120, 121, 122]⟩ : ByteArray) t120) (⟨#[59]⟩ : ByteArray))).bind fun bt121 => ((delta_Apply.f k (⟨#[97, 98]⟩ : ByteArray) (catS (catS (⟨#[54, 10, 51, 64, 48, 44, 51, 58, 120, 121, 122]⟩ : ByteArray) t120) (⟨#[59]⟩ : ByteArray))).bind fun bt123 => ((delta_Size.f k (catS (catS (⟨#[54, 10, 51, 64, 48, 44, 51, 58, 120, 121, 122]⟩ : ByteArray) t120) (⟨#[59]⟩ : ByteArray))).bind fun bt125 => (if bt121.1.toList = ([97, 98, 99, 120, 121, 122] : List UInt8) then (if bt121.2 = true then (if bt123.2 = true then (some false) else (if bt125.1 = 6 then (if bt125.2 = true then ((delta_Check.f k (⟨#[97, 98, 99]⟩ : ByteArray)).bind fun t127 => (some (t127 == 560096000))) else (some false)) else (some false))) else (some false)) else (some false))))) else (none)) else (none))) = some r := H
  have A1 := Aside0.mk A10
  clear A10
  replace H := Option.bind_eq_some_iff.mp H
  obtain ⟨t120, A20, H⟩ := H
  replace H : (if 11 + t120.size ≤ 9223372036854775807 then (if (catS (⟨#[54, 10, 51, 64, 48, 44, 51, 58, 120, 121, 122]⟩ : ByteArray) t120).size + 1 ≤ 9223372036854775807 then ((delta_Apply.f k (⟨#[97, 98, 99, 100, 101, 102]⟩ : ByteArray) (catS (catS (⟨#[54, 10, 51, 64, 48, 44, 51, 58, 120, 121, 122]⟩ : ByteArray) t120) (⟨#[59]⟩ : ByteArray))).bind fun bt121 => ((delta_Apply.f k (⟨#[97, 98]⟩ : ByteArray) (catS (catS (⟨#[54, 10, 51, 64, 48, 44, 51, 58, 120, 121, 122]⟩ : ByteArray) t120) (⟨#[59]⟩ : ByteArray))).bind fun bt123 => ((delta_Size.f k (catS (catS (⟨#[54, 10, 51, 64, 48, 44, 51, 58, 120, 121, 122]⟩ : ByteArray) t120) (⟨#[59]⟩ : ByteArray))).bind fun bt125 => (if bt121.1.toList = ([97, 98, 99, 120, 121, 122] : List UInt8) then (if bt121.2 = true then (if bt123.2 = true then (some false) else (if bt125.1 = 6 then (if bt125.2 = true then ((delta_Check.f k (⟨#[97, 98, 99]⟩ : ByteArray)).bind fun t127 => (some (t127 == 560096000))) else (some false)) else (some false))) else (some false)) else (some false))))) else (none)) else (none)) = some r := H
  have A2 := Aside0.mk A20
  clear A20
  by_cases c3 : 11 + t120.size ≤ 9223372036854775807
  · rw [if_pos c3] at H
    have c3b0 := eq_true c3
    have c3b1 : decide (11 + t120.size ≤ 9223372036854775807) = true := decide_eq_true c3
    try have c3b2 : (9223372036854775807 < 11 + t120.size) = False := eq_false (Nat.not_lt.2 c3)
    clear c3
    by_cases c4 : (catS (⟨#[54, 10, 51, 64, 48, 44, 51, 58, 120, 121, 122]⟩ : ByteArray) t120).size + 1 ≤ 9223372036854775807
    · rw [if_pos c4] at H
      have c4b0 := eq_true c4
      have c4b1 : decide ((catS (⟨#[54, 10, 51, 64, 48, 44, 51, 58, 120, 121, 122]⟩ : ByteArray) t120).size + 1 ≤ 9223372036854775807) = true := decide_eq_true c4
      try have c4b2 : (9223372036854775807 < (catS (⟨#[54, 10, 51, 64, 48, 44, 51, 58, 120, 121, 122]⟩ : ByteArray) t120).size + 1) = False := eq_false (Nat.not_lt.2 c4)
      clear c4
      replace H := Option.bind_eq_some_iff.mp H
      obtain ⟨⟨t121, t122⟩, A50, H⟩ := H
      replace H : ((delta_Apply.f k (⟨#[97, 98]⟩ : ByteArray) (catS (catS (⟨#[54, 10, 51, 64, 48, 44, 51, 58, 120, 121, 122]⟩ : ByteArray) t120) (⟨#[59]⟩ : ByteArray))).bind fun bt123 => ((delta_Size.f k (catS (catS (⟨#[54, 10, 51, 64, 48, 44, 51, 58, 120, 121, 122]⟩ : ByteArray) t120) (⟨#[59]⟩ : ByteArray))).bind fun bt125 => (if t121.toList = ([97, 98, 99, 120, 121, 122] : List UInt8) then (if t122 = true then (if bt123.2 = true then (some false) else (if bt125.1 = 6 then (if bt125.2 = true then ((delta_Check.f k (⟨#[97, 98, 99]⟩ : ByteArray)).bind fun t127 => (some (t127 == 560096000))) else (some false)) else (some false))) else (some false)) else (some false)))) = some r := H
      have A5 := Aside0.mk A50
      clear A50
      replace H := Option.bind_eq_some_iff.mp H
      obtain ⟨⟨t123, t124⟩, A60, H⟩ := H
      replace H : ((delta_Size.f k (catS (catS (⟨#[54, 10, 51, 64, 48, 44, 51, 58, 120, 121, 122]⟩ : ByteArray) t120) (⟨#[59]⟩ : ByteArray))).bind fun bt125 => (if t121.toList = ([97, 98, 99, 120, 121, 122] : List UInt8) then (if t122 = true then (if t124 = true then (some false) else (if bt125.1 = 6 then (if bt125.2 = true then ((delta_Check.f k (⟨#[97, 98, 99]⟩ : ByteArray)).bind fun t127 => (some (t127 == 560096000))) else (some false)) else (some false))) else (some false)) else (some false))) = some r := H
      have A6 := Aside0.mk A60
      clear A60
      replace H := Option.bind_eq_some_iff.mp H
      obtain ⟨⟨t125, t126⟩, A70, H⟩ := H
      replace H : (if t121.toList = ([97, 98, 99, 120, 121, 122] : List UInt8) then (if t122 = true then (if t124 = true then (some false) else (if t125 = 6 then (if t126 = true then ((delta_Check.f k (⟨#[97, 98, 99]⟩ : ByteArray)).bind fun t127 => (some (t127 == 560096000))) else (some false)) else (some false))) else (some false)) else (some false)) = some r := H
      have A7 := Aside0.mk A70
      clear A70
      by_cases c8 : t121.toList = ([97, 98, 99, 120, 121, 122] : List UInt8)
      · rw [if_pos c8] at H
        have c8b0 : (t121.toList == ([97, 98, 99, 120, 121, 122] : List UInt8)) = true := beq_iff_eq.mpr c8
        have c8b1 : (t121.toList != ([97, 98, 99, 120, 121, 122] : List UInt8)) = false := bne_eq_false_iff_eq.mpr c8
        clear c8
        by_cases c9 : t122 = true
        · subst c9
          have H1 : (if t124 = true then (some false) else (if t125 = 6 then (if t126 = true then ((delta_Check.f k (⟨#[97, 98, 99]⟩ : ByteArray)).bind fun t127 => (some (t127 == 560096000))) else (some false)) else (some false))) = some r := by rw [if_pos rfl] at H; exact H
          clear H
          have H := H1
          clear H1
          by_cases c10 : t124 = true
          · subst c10
            have H1 : (some false) = some r := by rw [if_pos rfl] at H; exact H
            clear H
            have H := H1
            clear H1
            obtain rfl := Option.some.inj H
            go_enter Try.func6, Try.ntmps6
            go_wp2_with (first | ((with_reducible refine gate_callee (f := 19) rfl ?_); refine goesL_ (some 8) rfl rfl Try.func19 (by kernel_rfl) rfl #[.string (⟨#[97, 98, 99, 120, 121, 122]⟩ : ByteArray)] rfl (by (try simp only [List.map_toArray, List.map_cons, List.map_nil]); first | done | rfl | (simp only [List.length_drop, List.length_take]; rfl)) ?_; (with_reducible refine (delta_Check.calls k (⟨#[97, 98, 99, 120, 121, 122]⟩ : ByteArray) t119 _ A1.out).mono ?_); rintro e w' ⟨rfl, ⟨nd, rfl⟩⟩; refine ⟨_, rfl, ?_⟩) | ((with_reducible refine gate_callee (f := 18) rfl ?_); refine goesL_ (some 9) rfl rfl Try.func18 (by kernel_rfl) rfl #[.int .i64 t119] rfl (by (try simp only [List.map_toArray, List.map_cons, List.map_nil]); first | done | rfl | (simp only [List.length_drop, List.length_take]; rfl)) ?_; (with_reducible refine (digit_Put.calls k t119 t120 _ A2.out).mono ?_); rintro e w' ⟨rfl, ⟨nd, rfl⟩⟩; refine ⟨_, rfl, ?_⟩) | ((with_reducible refine gate_callee (f := 20) rfl ?_); refine goesL_ (some 14) rfl rfl Try.func20 (by kernel_rfl) rfl #[.string (⟨#[97, 98, 99, 100, 101, 102]⟩ : ByteArray), .string (catS (catS (⟨#[54, 10, 51, 64, 48, 44, 51, 58, 120, 121, 122]⟩ : ByteArray) t120) (⟨#[59]⟩ : ByteArray))] rfl (by (try simp only [List.map_toArray, List.map_cons, List.map_nil]); first | done | rfl | (simp only [List.length_drop, List.length_take]; rfl)) ?_; (with_reducible refine (delta_Apply.calls k (⟨#[97, 98, 99, 100, 101, 102]⟩ : ByteArray) (catS (catS (⟨#[54, 10, 51, 64, 48, 44, 51, 58, 120, 121, 122]⟩ : ByteArray) t120) (⟨#[59]⟩ : ByteArray)) t121 true _ A5.out).mono ?_); rintro e w' ⟨rfl, ⟨nd, rfl⟩⟩; refine ⟨_, rfl, ?_⟩) | ((with_reducible refine gate_callee (f := 20) rfl ?_); refine goesL_ (some 19) rfl rfl Try.func20 (by kernel_rfl) rfl #[.string (⟨#[97, 98]⟩ : ByteArray), .string (catS (catS (⟨#[54, 10, 51, 64, 48, 44, 51, 58, 120, 121, 122]⟩ : ByteArray) t120) (⟨#[59]⟩ : ByteArray))] rfl (by (try simp only [List.map_toArray, List.map_cons, List.map_nil]); first | done | rfl | (simp only [List.length_drop, List.length_take]; rfl)) ?_; (with_reducible refine (delta_Apply.calls k (⟨#[97, 98]⟩ : ByteArray) (catS (catS (⟨#[54, 10, 51, 64, 48, 44, 51, 58, 120, 121, 122]⟩ : ByteArray) t120) (⟨#[59]⟩ : ByteArray)) t123 true _ A6.out).mono ?_); rintro e w' ⟨rfl, ⟨nd, rfl⟩⟩; refine ⟨_, rfl, ?_⟩) | ((with_reducible refine gate_callee (f := 21) rfl ?_); refine goesL_ (some 24) rfl rfl Try.func21 (by kernel_rfl) rfl #[.string (catS (catS (⟨#[54, 10, 51, 64, 48, 44, 51, 58, 120, 121, 122]⟩ : ByteArray) t120) (⟨#[59]⟩ : ByteArray))] rfl (by (try simp only [List.map_toArray, List.map_cons, List.map_nil]); first | done | rfl | (simp only [List.length_drop, List.length_take]; rfl)) ?_; (with_reducible refine (delta_Size.calls k (catS (catS (⟨#[54, 10, 51, 64, 48, 44, 51, 58, 120, 121, 122]⟩ : ByteArray) t120) (⟨#[59]⟩ : ByteArray)) t125 t126 _ A7.out).mono ?_); rintro e w' ⟨rfl, ⟨nd, rfl⟩⟩; refine ⟨_, rfl, ?_⟩))
            go_ret
            exact ⟨by first | rfl | (simp; done) | (simp [*]; done), by repeat (first | exact Drawn0.refl _ | apply Drawn0.step)⟩
            all_goals (exfalso; (try simp only [beq_iff_eq, bne_iff_ne, ne_eq, decide_eq_true_eq, decide_eq_false_iff_not, decide_eq_decide, bne_eq_false_iff_eq, beq_eq_false_iff_ne, Bool.not_eq_true, Bool.not_eq_false, Bool.not_eq_true', Bool.not_eq_false', Bool.true_beq, Bool.false_beq, Bool.true_bne, Bool.false_bne, Bool.bne_true, Bool.bne_false] at c3b0); (try simp only [beq_iff_eq, bne_iff_ne, ne_eq, decide_eq_true_eq, decide_eq_false_iff_not, decide_eq_decide, bne_eq_false_iff_eq, beq_eq_false_iff_ne, Bool.not_eq_true, Bool.not_eq_false, Bool.not_eq_true', Bool.not_eq_false', Bool.true_beq, Bool.false_beq, Bool.true_bne, Bool.false_bne, Bool.bne_true, Bool.bne_false] at c3b1); (try simp only [beq_iff_eq, bne_iff_ne, ne_eq, decide_eq_true_eq, decide_eq_false_iff_not, decide_eq_decide, bne_eq_false_iff_eq, beq_eq_false_iff_ne, Bool.not_eq_true, Bool.not_eq_false, Bool.not_eq_true', Bool.not_eq_false', Bool.true_beq, Bool.false_beq, Bool.true_bne, Bool.false_bne, Bool.bne_true, Bool.bne_false] at c4b0); (try simp only [beq_iff_eq, bne_iff_ne, ne_eq, decide_eq_true_eq, decide_eq_false_iff_not, decide_eq_decide, bne_eq_false_iff_eq, beq_eq_false_iff_ne, Bool.not_eq_true, Bool.not_eq_false, Bool.not_eq_true', Bool.not_eq_false', Bool.true_beq, Bool.false_beq, Bool.true_bne, Bool.false_bne, Bool.bne_true, Bool.bne_false] at c4b1); (try simp only [beq_iff_eq, bne_iff_ne, ne_eq, decide_eq_true_eq, decide_eq_false_iff_not, decide_eq_decide, bne_eq_false_iff_eq, beq_eq_false_iff_ne, Bool.not_eq_true, Bool.not_eq_false, Bool.not_eq_true', Bool.not_eq_false', Bool.true_beq, Bool.false_beq, Bool.true_bne, Bool.false_bne, Bool.bne_true, Bool.bne_false] at c8b0); (try simp only [beq_iff_eq, bne_iff_ne, ne_eq, decide_eq_true_eq, decide_eq_false_iff_not, decide_eq_decide, bne_eq_false_iff_eq, beq_eq_false_iff_ne, Bool.not_eq_true, Bool.not_eq_false, Bool.not_eq_true', Bool.not_eq_false', Bool.true_beq, Bool.false_beq, Bool.true_bne, Bool.false_bne, Bool.bne_true, Bool.bne_false] at c8b1); (try unfold wrap64 at *); omega)
          · replace c10 := Bool.eq_false_iff.mpr c10
            subst c10
            have H1 : (if t125 = 6 then (if t126 = true then ((delta_Check.f k (⟨#[97, 98, 99]⟩ : ByteArray)).bind fun t127 => (some (t127 == 560096000))) else (some false)) else (some false)) = some r := by rw [if_neg (show ¬ (false = true) by decide)] at H; exact H
            clear H
            have H := H1
            clear H1
            by_cases c11 : t125 = 6
            · rw [if_pos c11] at H
              have c11b0 : (t125 == 6) = true := beq_iff_eq.mpr c11
              have c11b1 : (t125 != 6) = false := bne_eq_false_iff_eq.mpr c11
              clear c11
              by_cases c12 : t126 = true
              · subst c12
                have H1 : ((delta_Check.f k (⟨#[97, 98, 99]⟩ : ByteArray)).bind fun t127 => (some (t127 == 560096000))) = some r := by rw [if_pos rfl] at H; exact H
                clear H
                have H := H1
                clear H1
                replace H := Option.bind_eq_some_iff.mp H
                obtain ⟨t127, A130, H⟩ := H
                replace H : (some (t127 == 560096000)) = some r := H
                have A13 := Aside0.mk A130
                clear A130
                obtain rfl := Option.some.inj H
                go_enter Try.func6, Try.ntmps6
                go_wp2_with (first | ((with_reducible refine gate_callee (f := 19) rfl ?_); refine goesL_ (some 8) rfl rfl Try.func19 (by kernel_rfl) rfl #[.string (⟨#[97, 98, 99, 120, 121, 122]⟩ : ByteArray)] rfl (by (try simp only [List.map_toArray, List.map_cons, List.map_nil]); first | done | rfl | (simp only [List.length_drop, List.length_take]; rfl)) ?_; (with_reducible refine (delta_Check.calls k (⟨#[97, 98, 99, 120, 121, 122]⟩ : ByteArray) t119 _ A1.out).mono ?_); rintro e w' ⟨rfl, ⟨nd, rfl⟩⟩; refine ⟨_, rfl, ?_⟩) | ((with_reducible refine gate_callee (f := 18) rfl ?_); refine goesL_ (some 9) rfl rfl Try.func18 (by kernel_rfl) rfl #[.int .i64 t119] rfl (by (try simp only [List.map_toArray, List.map_cons, List.map_nil]); first | done | rfl | (simp only [List.length_drop, List.length_take]; rfl)) ?_; (with_reducible refine (digit_Put.calls k t119 t120 _ A2.out).mono ?_); rintro e w' ⟨rfl, ⟨nd, rfl⟩⟩; refine ⟨_, rfl, ?_⟩) | ((with_reducible refine gate_callee (f := 20) rfl ?_); refine goesL_ (some 14) rfl rfl Try.func20 (by kernel_rfl) rfl #[.string (⟨#[97, 98, 99, 100, 101, 102]⟩ : ByteArray), .string (catS (catS (⟨#[54, 10, 51, 64, 48, 44, 51, 58, 120, 121, 122]⟩ : ByteArray) t120) (⟨#[59]⟩ : ByteArray))] rfl (by (try simp only [List.map_toArray, List.map_cons, List.map_nil]); first | done | rfl | (simp only [List.length_drop, List.length_take]; rfl)) ?_; (with_reducible refine (delta_Apply.calls k (⟨#[97, 98, 99, 100, 101, 102]⟩ : ByteArray) (catS (catS (⟨#[54, 10, 51, 64, 48, 44, 51, 58, 120, 121, 122]⟩ : ByteArray) t120) (⟨#[59]⟩ : ByteArray)) t121 true _ A5.out).mono ?_); rintro e w' ⟨rfl, ⟨nd, rfl⟩⟩; refine ⟨_, rfl, ?_⟩) | ((with_reducible refine gate_callee (f := 20) rfl ?_); refine goesL_ (some 19) rfl rfl Try.func20 (by kernel_rfl) rfl #[.string (⟨#[97, 98]⟩ : ByteArray), .string (catS (catS (⟨#[54, 10, 51, 64, 48, 44, 51, 58, 120, 121, 122]⟩ : ByteArray) t120) (⟨#[59]⟩ : ByteArray))] rfl (by (try simp only [List.map_toArray, List.map_cons, List.map_nil]); first | done | rfl | (simp only [List.length_drop, List.length_take]; rfl)) ?_; (with_reducible refine (delta_Apply.calls k (⟨#[97, 98]⟩ : ByteArray) (catS (catS (⟨#[54, 10, 51, 64, 48, 44, 51, 58, 120, 121, 122]⟩ : ByteArray) t120) (⟨#[59]⟩ : ByteArray)) t123 false _ A6.out).mono ?_); rintro e w' ⟨rfl, ⟨nd, rfl⟩⟩; refine ⟨_, rfl, ?_⟩) | ((with_reducible refine gate_callee (f := 21) rfl ?_); refine goesL_ (some 24) rfl rfl Try.func21 (by kernel_rfl) rfl #[.string (catS (catS (⟨#[54, 10, 51, 64, 48, 44, 51, 58, 120, 121, 122]⟩ : ByteArray) t120) (⟨#[59]⟩ : ByteArray))] rfl (by (try simp only [List.map_toArray, List.map_cons, List.map_nil]); first | done | rfl | (simp only [List.length_drop, List.length_take]; rfl)) ?_; (with_reducible refine (delta_Size.calls k (catS (catS (⟨#[54, 10, 51, 64, 48, 44, 51, 58, 120, 121, 122]⟩ : ByteArray) t120) (⟨#[59]⟩ : ByteArray)) t125 true _ A7.out).mono ?_); rintro e w' ⟨rfl, ⟨nd, rfl⟩⟩; refine ⟨_, rfl, ?_⟩) | (go_at_call 19; (try simp only [i64_w, i32_w]); (with_reducible refine (delta_Check.calls k (⟨#[97, 98, 99]⟩ : ByteArray) t127 _ A13.out).mono ?_); rintro e w' ⟨rfl, ⟨nd, rfl⟩⟩))
                go_ret
                exact ⟨by first | rfl | (simp; done) | (simp [*]; done), by repeat (first | exact Drawn0.refl _ | apply Drawn0.step)⟩
                all_goals (exfalso; (try simp only [beq_iff_eq, bne_iff_ne, ne_eq, decide_eq_true_eq, decide_eq_false_iff_not, decide_eq_decide, bne_eq_false_iff_eq, beq_eq_false_iff_ne, Bool.not_eq_true, Bool.not_eq_false, Bool.not_eq_true', Bool.not_eq_false', Bool.true_beq, Bool.false_beq, Bool.true_bne, Bool.false_bne, Bool.bne_true, Bool.bne_false] at c3b0); (try simp only [beq_iff_eq, bne_iff_ne, ne_eq, decide_eq_true_eq, decide_eq_false_iff_not, decide_eq_decide, bne_eq_false_iff_eq, beq_eq_false_iff_ne, Bool.not_eq_true, Bool.not_eq_false, Bool.not_eq_true', Bool.not_eq_false', Bool.true_beq, Bool.false_beq, Bool.true_bne, Bool.false_bne, Bool.bne_true, Bool.bne_false] at c3b1); (try simp only [beq_iff_eq, bne_iff_ne, ne_eq, decide_eq_true_eq, decide_eq_false_iff_not, decide_eq_decide, bne_eq_false_iff_eq, beq_eq_false_iff_ne, Bool.not_eq_true, Bool.not_eq_false, Bool.not_eq_true', Bool.not_eq_false', Bool.true_beq, Bool.false_beq, Bool.true_bne, Bool.false_bne, Bool.bne_true, Bool.bne_false] at c4b0); (try simp only [beq_iff_eq, bne_iff_ne, ne_eq, decide_eq_true_eq, decide_eq_false_iff_not, decide_eq_decide, bne_eq_false_iff_eq, beq_eq_false_iff_ne, Bool.not_eq_true, Bool.not_eq_false, Bool.not_eq_true', Bool.not_eq_false', Bool.true_beq, Bool.false_beq, Bool.true_bne, Bool.false_bne, Bool.bne_true, Bool.bne_false] at c4b1); (try simp only [beq_iff_eq, bne_iff_ne, ne_eq, decide_eq_true_eq, decide_eq_false_iff_not, decide_eq_decide, bne_eq_false_iff_eq, beq_eq_false_iff_ne, Bool.not_eq_true, Bool.not_eq_false, Bool.not_eq_true', Bool.not_eq_false', Bool.true_beq, Bool.false_beq, Bool.true_bne, Bool.false_bne, Bool.bne_true, Bool.bne_false] at c8b0); (try simp only [beq_iff_eq, bne_iff_ne, ne_eq, decide_eq_true_eq, decide_eq_false_iff_not, decide_eq_decide, bne_eq_false_iff_eq, beq_eq_false_iff_ne, Bool.not_eq_true, Bool.not_eq_false, Bool.not_eq_true', Bool.not_eq_false', Bool.true_beq, Bool.false_beq, Bool.true_bne, Bool.false_bne, Bool.bne_true, Bool.bne_false] at c8b1); (try simp only [beq_iff_eq, bne_iff_ne, ne_eq, decide_eq_true_eq, decide_eq_false_iff_not, decide_eq_decide, bne_eq_false_iff_eq, beq_eq_false_iff_ne, Bool.not_eq_true, Bool.not_eq_false, Bool.not_eq_true', Bool.not_eq_false', Bool.true_beq, Bool.false_beq, Bool.true_bne, Bool.false_bne, Bool.bne_true, Bool.bne_false] at c11b0); (try simp only [beq_iff_eq, bne_iff_ne, ne_eq, decide_eq_true_eq, decide_eq_false_iff_not, decide_eq_decide, bne_eq_false_iff_eq, beq_eq_false_iff_ne, Bool.not_eq_true, Bool.not_eq_false, Bool.not_eq_true', Bool.not_eq_false', Bool.true_beq, Bool.false_beq, Bool.true_bne, Bool.false_bne, Bool.bne_true, Bool.bne_false] at c11b1); (try unfold wrap64 at *); omega)
              · replace c12 := Bool.eq_false_iff.mpr c12
                subst c12
                have H1 : (some false) = some r := by rw [if_neg (show ¬ (false = true) by decide)] at H; exact H
                clear H
                have H := H1
                clear H1
                obtain rfl := Option.some.inj H
                go_enter Try.func6, Try.ntmps6
                go_wp2_with (first | ((with_reducible refine gate_callee (f := 19) rfl ?_); refine goesL_ (some 8) rfl rfl Try.func19 (by kernel_rfl) rfl #[.string (⟨#[97, 98, 99, 120, 121, 122]⟩ : ByteArray)] rfl (by (try simp only [List.map_toArray, List.map_cons, List.map_nil]); first | done | rfl | (simp only [List.length_drop, List.length_take]; rfl)) ?_; (with_reducible refine (delta_Check.calls k (⟨#[97, 98, 99, 120, 121, 122]⟩ : ByteArray) t119 _ A1.out).mono ?_); rintro e w' ⟨rfl, ⟨nd, rfl⟩⟩; refine ⟨_, rfl, ?_⟩) | ((with_reducible refine gate_callee (f := 18) rfl ?_); refine goesL_ (some 9) rfl rfl Try.func18 (by kernel_rfl) rfl #[.int .i64 t119] rfl (by (try simp only [List.map_toArray, List.map_cons, List.map_nil]); first | done | rfl | (simp only [List.length_drop, List.length_take]; rfl)) ?_; (with_reducible refine (digit_Put.calls k t119 t120 _ A2.out).mono ?_); rintro e w' ⟨rfl, ⟨nd, rfl⟩⟩; refine ⟨_, rfl, ?_⟩) | ((with_reducible refine gate_callee (f := 20) rfl ?_); refine goesL_ (some 14) rfl rfl Try.func20 (by kernel_rfl) rfl #[.string (⟨#[97, 98, 99, 100, 101, 102]⟩ : ByteArray), .string (catS (catS (⟨#[54, 10, 51, 64, 48, 44, 51, 58, 120, 121, 122]⟩ : ByteArray) t120) (⟨#[59]⟩ : ByteArray))] rfl (by (try simp only [List.map_toArray, List.map_cons, List.map_nil]); first | done | rfl | (simp only [List.length_drop, List.length_take]; rfl)) ?_; (with_reducible refine (delta_Apply.calls k (⟨#[97, 98, 99, 100, 101, 102]⟩ : ByteArray) (catS (catS (⟨#[54, 10, 51, 64, 48, 44, 51, 58, 120, 121, 122]⟩ : ByteArray) t120) (⟨#[59]⟩ : ByteArray)) t121 true _ A5.out).mono ?_); rintro e w' ⟨rfl, ⟨nd, rfl⟩⟩; refine ⟨_, rfl, ?_⟩) | ((with_reducible refine gate_callee (f := 20) rfl ?_); refine goesL_ (some 19) rfl rfl Try.func20 (by kernel_rfl) rfl #[.string (⟨#[97, 98]⟩ : ByteArray), .string (catS (catS (⟨#[54, 10, 51, 64, 48, 44, 51, 58, 120, 121, 122]⟩ : ByteArray) t120) (⟨#[59]⟩ : ByteArray))] rfl (by (try simp only [List.map_toArray, List.map_cons, List.map_nil]); first | done | rfl | (simp only [List.length_drop, List.length_take]; rfl)) ?_; (with_reducible refine (delta_Apply.calls k (⟨#[97, 98]⟩ : ByteArray) (catS (catS (⟨#[54, 10, 51, 64, 48, 44, 51, 58, 120, 121, 122]⟩ : ByteArray) t120) (⟨#[59]⟩ : ByteArray)) t123 false _ A6.out).mono ?_); rintro e w' ⟨rfl, ⟨nd, rfl⟩⟩; refine ⟨_, rfl, ?_⟩) | ((with_reducible refine gate_callee (f := 21) rfl ?_); refine goesL_ (some 24) rfl rfl Try.func21 (by kernel_rfl) rfl #[.string (catS (catS (⟨#[54, 10, 51, 64, 48, 44, 51, 58, 120, 121, 122]⟩ : ByteArray) t120) (⟨#[59]⟩ : ByteArray))] rfl (by (try simp only [List.map_toArray, List.map_cons, List.map_nil]); first | done | rfl | (simp only [List.length_drop, List.length_take]; rfl)) ?_; (with_reducible refine (delta_Size.calls k (catS (catS (⟨#[54, 10, 51, 64, 48, 44, 51, 58, 120, 121, 122]⟩ : ByteArray) t120) (⟨#[59]⟩ : ByteArray)) t125 false _ A7.out).mono ?_); rintro e w' ⟨rfl, ⟨nd, rfl⟩⟩; refine ⟨_, rfl, ?_⟩))
                go_ret
                exact ⟨by first | rfl | (simp; done) | (simp [*]; done), by repeat (first | exact Drawn0.refl _ | apply Drawn0.step)⟩
                all_goals (exfalso; (try simp only [beq_iff_eq, bne_iff_ne, ne_eq, decide_eq_true_eq, decide_eq_false_iff_not, decide_eq_decide, bne_eq_false_iff_eq, beq_eq_false_iff_ne, Bool.not_eq_true, Bool.not_eq_false, Bool.not_eq_true', Bool.not_eq_false', Bool.true_beq, Bool.false_beq, Bool.true_bne, Bool.false_bne, Bool.bne_true, Bool.bne_false] at c3b0); (try simp only [beq_iff_eq, bne_iff_ne, ne_eq, decide_eq_true_eq, decide_eq_false_iff_not, decide_eq_decide, bne_eq_false_iff_eq, beq_eq_false_iff_ne, Bool.not_eq_true, Bool.not_eq_false, Bool.not_eq_true', Bool.not_eq_false', Bool.true_beq, Bool.false_beq, Bool.true_bne, Bool.false_bne, Bool.bne_true, Bool.bne_false] at c3b1); (try simp only [beq_iff_eq, bne_iff_ne, ne_eq, decide_eq_true_eq, decide_eq_false_iff_not, decide_eq_decide, bne_eq_false_iff_eq, beq_eq_false_iff_ne, Bool.not_eq_true, Bool.not_eq_false, Bool.not_eq_true', Bool.not_eq_false', Bool.true_beq, Bool.false_beq, Bool.true_bne, Bool.false_bne, Bool.bne_true, Bool.bne_false] at c4b0); (try simp only [beq_iff_eq, bne_iff_ne, ne_eq, decide_eq_true_eq, decide_eq_false_iff_not, decide_eq_decide, bne_eq_false_iff_eq, beq_eq_false_iff_ne, Bool.not_eq_true, Bool.not_eq_false, Bool.not_eq_true', Bool.not_eq_false', Bool.true_beq, Bool.false_beq, Bool.true_bne, Bool.false_bne, Bool.bne_true, Bool.bne_false] at c4b1); (try simp only [beq_iff_eq, bne_iff_ne, ne_eq, decide_eq_true_eq, decide_eq_false_iff_not, decide_eq_decide, bne_eq_false_iff_eq, beq_eq_false_iff_ne, Bool.not_eq_true, Bool.not_eq_false, Bool.not_eq_true', Bool.not_eq_false', Bool.true_beq, Bool.false_beq, Bool.true_bne, Bool.false_bne, Bool.bne_true, Bool.bne_false] at c8b0); (try simp only [beq_iff_eq, bne_iff_ne, ne_eq, decide_eq_true_eq, decide_eq_false_iff_not, decide_eq_decide, bne_eq_false_iff_eq, beq_eq_false_iff_ne, Bool.not_eq_true, Bool.not_eq_false, Bool.not_eq_true', Bool.not_eq_false', Bool.true_beq, Bool.false_beq, Bool.true_bne, Bool.false_bne, Bool.bne_true, Bool.bne_false] at c8b1); (try simp only [beq_iff_eq, bne_iff_ne, ne_eq, decide_eq_true_eq, decide_eq_false_iff_not, decide_eq_decide, bne_eq_false_iff_eq, beq_eq_false_iff_ne, Bool.not_eq_true, Bool.not_eq_false, Bool.not_eq_true', Bool.not_eq_false', Bool.true_beq, Bool.false_beq, Bool.true_bne, Bool.false_bne, Bool.bne_true, Bool.bne_false] at c11b0); (try simp only [beq_iff_eq, bne_iff_ne, ne_eq, decide_eq_true_eq, decide_eq_false_iff_not, decide_eq_decide, bne_eq_false_iff_eq, beq_eq_false_iff_ne, Bool.not_eq_true, Bool.not_eq_false, Bool.not_eq_true', Bool.not_eq_false', Bool.true_beq, Bool.false_beq, Bool.true_bne, Bool.false_bne, Bool.bne_true, Bool.bne_false] at c11b1); (try unfold wrap64 at *); omega)
            · rw [if_neg c11] at H
              have c11b0 : (t125 == 6) = false := beq_eq_false_iff_ne.mpr c11
              have c11b1 : (t125 != 6) = true := bne_iff_ne.mpr c11
              obtain rfl := Option.some.inj H
              go_enter Try.func6, Try.ntmps6
              go_wp2_with (first | ((with_reducible refine gate_callee (f := 19) rfl ?_); refine goesL_ (some 8) rfl rfl Try.func19 (by kernel_rfl) rfl #[.string (⟨#[97, 98, 99, 120, 121, 122]⟩ : ByteArray)] rfl (by (try simp only [List.map_toArray, List.map_cons, List.map_nil]); first | done | rfl | (simp only [List.length_drop, List.length_take]; rfl)) ?_; (with_reducible refine (delta_Check.calls k (⟨#[97, 98, 99, 120, 121, 122]⟩ : ByteArray) t119 _ A1.out).mono ?_); rintro e w' ⟨rfl, ⟨nd, rfl⟩⟩; refine ⟨_, rfl, ?_⟩) | ((with_reducible refine gate_callee (f := 18) rfl ?_); refine goesL_ (some 9) rfl rfl Try.func18 (by kernel_rfl) rfl #[.int .i64 t119] rfl (by (try simp only [List.map_toArray, List.map_cons, List.map_nil]); first | done | rfl | (simp only [List.length_drop, List.length_take]; rfl)) ?_; (with_reducible refine (digit_Put.calls k t119 t120 _ A2.out).mono ?_); rintro e w' ⟨rfl, ⟨nd, rfl⟩⟩; refine ⟨_, rfl, ?_⟩) | ((with_reducible refine gate_callee (f := 20) rfl ?_); refine goesL_ (some 14) rfl rfl Try.func20 (by kernel_rfl) rfl #[.string (⟨#[97, 98, 99, 100, 101, 102]⟩ : ByteArray), .string (catS (catS (⟨#[54, 10, 51, 64, 48, 44, 51, 58, 120, 121, 122]⟩ : ByteArray) t120) (⟨#[59]⟩ : ByteArray))] rfl (by (try simp only [List.map_toArray, List.map_cons, List.map_nil]); first | done | rfl | (simp only [List.length_drop, List.length_take]; rfl)) ?_; (with_reducible refine (delta_Apply.calls k (⟨#[97, 98, 99, 100, 101, 102]⟩ : ByteArray) (catS (catS (⟨#[54, 10, 51, 64, 48, 44, 51, 58, 120, 121, 122]⟩ : ByteArray) t120) (⟨#[59]⟩ : ByteArray)) t121 true _ A5.out).mono ?_); rintro e w' ⟨rfl, ⟨nd, rfl⟩⟩; refine ⟨_, rfl, ?_⟩) | ((with_reducible refine gate_callee (f := 20) rfl ?_); refine goesL_ (some 19) rfl rfl Try.func20 (by kernel_rfl) rfl #[.string (⟨#[97, 98]⟩ : ByteArray), .string (catS (catS (⟨#[54, 10, 51, 64, 48, 44, 51, 58, 120, 121, 122]⟩ : ByteArray) t120) (⟨#[59]⟩ : ByteArray))] rfl (by (try simp only [List.map_toArray, List.map_cons, List.map_nil]); first | done | rfl | (simp only [List.length_drop, List.length_take]; rfl)) ?_; (with_reducible refine (delta_Apply.calls k (⟨#[97, 98]⟩ : ByteArray) (catS (catS (⟨#[54, 10, 51, 64, 48, 44, 51, 58, 120, 121, 122]⟩ : ByteArray) t120) (⟨#[59]⟩ : ByteArray)) t123 false _ A6.out).mono ?_); rintro e w' ⟨rfl, ⟨nd, rfl⟩⟩; refine ⟨_, rfl, ?_⟩) | ((with_reducible refine gate_callee (f := 21) rfl ?_); refine goesL_ (some 24) rfl rfl Try.func21 (by kernel_rfl) rfl #[.string (catS (catS (⟨#[54, 10, 51, 64, 48, 44, 51, 58, 120, 121, 122]⟩ : ByteArray) t120) (⟨#[59]⟩ : ByteArray))] rfl (by (try simp only [List.map_toArray, List.map_cons, List.map_nil]); first | done | rfl | (simp only [List.length_drop, List.length_take]; rfl)) ?_; (with_reducible refine (delta_Size.calls k (catS (catS (⟨#[54, 10, 51, 64, 48, 44, 51, 58, 120, 121, 122]⟩ : ByteArray) t120) (⟨#[59]⟩ : ByteArray)) t125 t126 _ A7.out).mono ?_); rintro e w' ⟨rfl, ⟨nd, rfl⟩⟩; refine ⟨_, rfl, ?_⟩))
              go_ret
              exact ⟨by first | rfl | (simp; done) | (simp [*]; done), by repeat (first | exact Drawn0.refl _ | apply Drawn0.step)⟩
              all_goals (exfalso; (try simp only [beq_iff_eq, bne_iff_ne, ne_eq, decide_eq_true_eq, decide_eq_false_iff_not, decide_eq_decide, bne_eq_false_iff_eq, beq_eq_false_iff_ne, Bool.not_eq_true, Bool.not_eq_false, Bool.not_eq_true', Bool.not_eq_false', Bool.true_beq, Bool.false_beq, Bool.true_bne, Bool.false_bne, Bool.bne_true, Bool.bne_false] at c3b0); (try simp only [beq_iff_eq, bne_iff_ne, ne_eq, decide_eq_true_eq, decide_eq_false_iff_not, decide_eq_decide, bne_eq_false_iff_eq, beq_eq_false_iff_ne, Bool.not_eq_true, Bool.not_eq_false, Bool.not_eq_true', Bool.not_eq_false', Bool.true_beq, Bool.false_beq, Bool.true_bne, Bool.false_bne, Bool.bne_true, Bool.bne_false] at c3b1); (try simp only [beq_iff_eq, bne_iff_ne, ne_eq, decide_eq_true_eq, decide_eq_false_iff_not, decide_eq_decide, bne_eq_false_iff_eq, beq_eq_false_iff_ne, Bool.not_eq_true, Bool.not_eq_false, Bool.not_eq_true', Bool.not_eq_false', Bool.true_beq, Bool.false_beq, Bool.true_bne, Bool.false_bne, Bool.bne_true, Bool.bne_false] at c4b0); (try simp only [beq_iff_eq, bne_iff_ne, ne_eq, decide_eq_true_eq, decide_eq_false_iff_not, decide_eq_decide, bne_eq_false_iff_eq, beq_eq_false_iff_ne, Bool.not_eq_true, Bool.not_eq_false, Bool.not_eq_true', Bool.not_eq_false', Bool.true_beq, Bool.false_beq, Bool.true_bne, Bool.false_bne, Bool.bne_true, Bool.bne_false] at c4b1); (try simp only [beq_iff_eq, bne_iff_ne, ne_eq, decide_eq_true_eq, decide_eq_false_iff_not, decide_eq_decide, bne_eq_false_iff_eq, beq_eq_false_iff_ne, Bool.not_eq_true, Bool.not_eq_false, Bool.not_eq_true', Bool.not_eq_false', Bool.true_beq, Bool.false_beq, Bool.true_bne, Bool.false_bne, Bool.bne_true, Bool.bne_false] at c8b0); (try simp only [beq_iff_eq, bne_iff_ne, ne_eq, decide_eq_true_eq, decide_eq_false_iff_not, decide_eq_decide, bne_eq_false_iff_eq, beq_eq_false_iff_ne, Bool.not_eq_true, Bool.not_eq_false, Bool.not_eq_true', Bool.not_eq_false', Bool.true_beq, Bool.false_beq, Bool.true_bne, Bool.false_bne, Bool.bne_true, Bool.bne_false] at c8b1); (try simp only [beq_iff_eq, bne_iff_ne, ne_eq, decide_eq_true_eq, decide_eq_false_iff_not, decide_eq_decide, bne_eq_false_iff_eq, beq_eq_false_iff_ne, Bool.not_eq_true, Bool.not_eq_false, Bool.not_eq_true', Bool.not_eq_false', Bool.true_beq, Bool.false_beq, Bool.true_bne, Bool.false_bne, Bool.bne_true, Bool.bne_false] at c11b0); (try simp only [beq_iff_eq, bne_iff_ne, ne_eq, decide_eq_true_eq, decide_eq_false_iff_not, decide_eq_decide, bne_eq_false_iff_eq, beq_eq_false_iff_ne, Bool.not_eq_true, Bool.not_eq_false, Bool.not_eq_true', Bool.not_eq_false', Bool.true_beq, Bool.false_beq, Bool.true_bne, Bool.false_bne, Bool.bne_true, Bool.bne_false] at c11b1); (try unfold wrap64 at *); omega)
        · replace c9 := Bool.eq_false_iff.mpr c9
          subst c9
          have H1 : (some false) = some r := by rw [if_neg (show ¬ (false = true) by decide)] at H; exact H
          clear H
          have H := H1
          clear H1
          obtain rfl := Option.some.inj H
          go_enter Try.func6, Try.ntmps6
          go_wp2_with (first | ((with_reducible refine gate_callee (f := 19) rfl ?_); refine goesL_ (some 8) rfl rfl Try.func19 (by kernel_rfl) rfl #[.string (⟨#[97, 98, 99, 120, 121, 122]⟩ : ByteArray)] rfl (by (try simp only [List.map_toArray, List.map_cons, List.map_nil]); first | done | rfl | (simp only [List.length_drop, List.length_take]; rfl)) ?_; (with_reducible refine (delta_Check.calls k (⟨#[97, 98, 99, 120, 121, 122]⟩ : ByteArray) t119 _ A1.out).mono ?_); rintro e w' ⟨rfl, ⟨nd, rfl⟩⟩; refine ⟨_, rfl, ?_⟩) | ((with_reducible refine gate_callee (f := 18) rfl ?_); refine goesL_ (some 9) rfl rfl Try.func18 (by kernel_rfl) rfl #[.int .i64 t119] rfl (by (try simp only [List.map_toArray, List.map_cons, List.map_nil]); first | done | rfl | (simp only [List.length_drop, List.length_take]; rfl)) ?_; (with_reducible refine (digit_Put.calls k t119 t120 _ A2.out).mono ?_); rintro e w' ⟨rfl, ⟨nd, rfl⟩⟩; refine ⟨_, rfl, ?_⟩) | ((with_reducible refine gate_callee (f := 20) rfl ?_); refine goesL_ (some 14) rfl rfl Try.func20 (by kernel_rfl) rfl #[.string (⟨#[97, 98, 99, 100, 101, 102]⟩ : ByteArray), .string (catS (catS (⟨#[54, 10, 51, 64, 48, 44, 51, 58, 120, 121, 122]⟩ : ByteArray) t120) (⟨#[59]⟩ : ByteArray))] rfl (by (try simp only [List.map_toArray, List.map_cons, List.map_nil]); first | done | rfl | (simp only [List.length_drop, List.length_take]; rfl)) ?_; (with_reducible refine (delta_Apply.calls k (⟨#[97, 98, 99, 100, 101, 102]⟩ : ByteArray) (catS (catS (⟨#[54, 10, 51, 64, 48, 44, 51, 58, 120, 121, 122]⟩ : ByteArray) t120) (⟨#[59]⟩ : ByteArray)) t121 false _ A5.out).mono ?_); rintro e w' ⟨rfl, ⟨nd, rfl⟩⟩; refine ⟨_, rfl, ?_⟩) | ((with_reducible refine gate_callee (f := 20) rfl ?_); refine goesL_ (some 19) rfl rfl Try.func20 (by kernel_rfl) rfl #[.string (⟨#[97, 98]⟩ : ByteArray), .string (catS (catS (⟨#[54, 10, 51, 64, 48, 44, 51, 58, 120, 121, 122]⟩ : ByteArray) t120) (⟨#[59]⟩ : ByteArray))] rfl (by (try simp only [List.map_toArray, List.map_cons, List.map_nil]); first | done | rfl | (simp only [List.length_drop, List.length_take]; rfl)) ?_; (with_reducible refine (delta_Apply.calls k (⟨#[97, 98]⟩ : ByteArray) (catS (catS (⟨#[54, 10, 51, 64, 48, 44, 51, 58, 120, 121, 122]⟩ : ByteArray) t120) (⟨#[59]⟩ : ByteArray)) t123 t124 _ A6.out).mono ?_); rintro e w' ⟨rfl, ⟨nd, rfl⟩⟩; refine ⟨_, rfl, ?_⟩) | ((with_reducible refine gate_callee (f := 21) rfl ?_); refine goesL_ (some 24) rfl rfl Try.func21 (by kernel_rfl) rfl #[.string (catS (catS (⟨#[54, 10, 51, 64, 48, 44, 51, 58, 120, 121, 122]⟩ : ByteArray) t120) (⟨#[59]⟩ : ByteArray))] rfl (by (try simp only [List.map_toArray, List.map_cons, List.map_nil]); first | done | rfl | (simp only [List.length_drop, List.length_take]; rfl)) ?_; (with_reducible refine (delta_Size.calls k (catS (catS (⟨#[54, 10, 51, 64, 48, 44, 51, 58, 120, 121, 122]⟩ : ByteArray) t120) (⟨#[59]⟩ : ByteArray)) t125 t126 _ A7.out).mono ?_); rintro e w' ⟨rfl, ⟨nd, rfl⟩⟩; refine ⟨_, rfl, ?_⟩))
          go_ret
          exact ⟨by first | rfl | (simp; done) | (simp [*]; done), by repeat (first | exact Drawn0.refl _ | apply Drawn0.step)⟩
          all_goals (exfalso; (try simp only [beq_iff_eq, bne_iff_ne, ne_eq, decide_eq_true_eq, decide_eq_false_iff_not, decide_eq_decide, bne_eq_false_iff_eq, beq_eq_false_iff_ne, Bool.not_eq_true, Bool.not_eq_false, Bool.not_eq_true', Bool.not_eq_false', Bool.true_beq, Bool.false_beq, Bool.true_bne, Bool.false_bne, Bool.bne_true, Bool.bne_false] at c3b0); (try simp only [beq_iff_eq, bne_iff_ne, ne_eq, decide_eq_true_eq, decide_eq_false_iff_not, decide_eq_decide, bne_eq_false_iff_eq, beq_eq_false_iff_ne, Bool.not_eq_true, Bool.not_eq_false, Bool.not_eq_true', Bool.not_eq_false', Bool.true_beq, Bool.false_beq, Bool.true_bne, Bool.false_bne, Bool.bne_true, Bool.bne_false] at c3b1); (try simp only [beq_iff_eq, bne_iff_ne, ne_eq, decide_eq_true_eq, decide_eq_false_iff_not, decide_eq_decide, bne_eq_false_iff_eq, beq_eq_false_iff_ne, Bool.not_eq_true, Bool.not_eq_false, Bool.not_eq_true', Bool.not_eq_false', Bool.true_beq, Bool.false_beq, Bool.true_bne, Bool.false_bne, Bool.bne_true, Bool.bne_false] at c4b0); (try simp only [beq_iff_eq, bne_iff_ne, ne_eq, decide_eq_true_eq, decide_eq_false_iff_not, decide_eq_decide, bne_eq_false_iff_eq, beq_eq_false_iff_ne, Bool.not_eq_true, Bool.not_eq_false, Bool.not_eq_true', Bool.not_eq_false', Bool.true_beq, Bool.false_beq, Bool.true_bne, Bool.false_bne, Bool.bne_true, Bool.bne_false] at c4b1); (try simp only [beq_iff_eq, bne_iff_ne, ne_eq, decide_eq_true_eq, decide_eq_false_iff_not, decide_eq_decide, bne_eq_false_iff_eq, beq_eq_false_iff_ne, Bool.not_eq_true, Bool.not_eq_false, Bool.not_eq_true', Bool.not_eq_false', Bool.true_beq, Bool.false_beq, Bool.true_bne, Bool.false_bne, Bool.bne_true, Bool.bne_false] at c8b0); (try simp only [beq_iff_eq, bne_iff_ne, ne_eq, decide_eq_true_eq, decide_eq_false_iff_not, decide_eq_decide, bne_eq_false_iff_eq, beq_eq_false_iff_ne, Bool.not_eq_true, Bool.not_eq_false, Bool.not_eq_true', Bool.not_eq_false', Bool.true_beq, Bool.false_beq, Bool.true_bne, Bool.false_bne, Bool.bne_true, Bool.bne_false] at c8b1); (try unfold wrap64 at *); omega)
      · rw [if_neg c8] at H
        have c8b0 : (t121.toList == ([97, 98, 99, 120, 121, 122] : List UInt8)) = false := beq_eq_false_iff_ne.mpr c8
        have c8b1 : (t121.toList != ([97, 98, 99, 120, 121, 122] : List UInt8)) = true := bne_iff_ne.mpr c8
        obtain rfl := Option.some.inj H
        go_enter Try.func6, Try.ntmps6
        go_wp2_with (first | ((with_reducible refine gate_callee (f := 19) rfl ?_); refine goesL_ (some 8) rfl rfl Try.func19 (by kernel_rfl) rfl #[.string (⟨#[97, 98, 99, 120, 121, 122]⟩ : ByteArray)] rfl (by (try simp only [List.map_toArray, List.map_cons, List.map_nil]); first | done | rfl | (simp only [List.length_drop, List.length_take]; rfl)) ?_; (with_reducible refine (delta_Check.calls k (⟨#[97, 98, 99, 120, 121, 122]⟩ : ByteArray) t119 _ A1.out).mono ?_); rintro e w' ⟨rfl, ⟨nd, rfl⟩⟩; refine ⟨_, rfl, ?_⟩) | ((with_reducible refine gate_callee (f := 18) rfl ?_); refine goesL_ (some 9) rfl rfl Try.func18 (by kernel_rfl) rfl #[.int .i64 t119] rfl (by (try simp only [List.map_toArray, List.map_cons, List.map_nil]); first | done | rfl | (simp only [List.length_drop, List.length_take]; rfl)) ?_; (with_reducible refine (digit_Put.calls k t119 t120 _ A2.out).mono ?_); rintro e w' ⟨rfl, ⟨nd, rfl⟩⟩; refine ⟨_, rfl, ?_⟩) | ((with_reducible refine gate_callee (f := 20) rfl ?_); refine goesL_ (some 14) rfl rfl Try.func20 (by kernel_rfl) rfl #[.string (⟨#[97, 98, 99, 100, 101, 102]⟩ : ByteArray), .string (catS (catS (⟨#[54, 10, 51, 64, 48, 44, 51, 58, 120, 121, 122]⟩ : ByteArray) t120) (⟨#[59]⟩ : ByteArray))] rfl (by (try simp only [List.map_toArray, List.map_cons, List.map_nil]); first | done | rfl | (simp only [List.length_drop, List.length_take]; rfl)) ?_; (with_reducible refine (delta_Apply.calls k (⟨#[97, 98, 99, 100, 101, 102]⟩ : ByteArray) (catS (catS (⟨#[54, 10, 51, 64, 48, 44, 51, 58, 120, 121, 122]⟩ : ByteArray) t120) (⟨#[59]⟩ : ByteArray)) t121 t122 _ A5.out).mono ?_); rintro e w' ⟨rfl, ⟨nd, rfl⟩⟩; refine ⟨_, rfl, ?_⟩) | ((with_reducible refine gate_callee (f := 20) rfl ?_); refine goesL_ (some 19) rfl rfl Try.func20 (by kernel_rfl) rfl #[.string (⟨#[97, 98]⟩ : ByteArray), .string (catS (catS (⟨#[54, 10, 51, 64, 48, 44, 51, 58, 120, 121, 122]⟩ : ByteArray) t120) (⟨#[59]⟩ : ByteArray))] rfl (by (try simp only [List.map_toArray, List.map_cons, List.map_nil]); first | done | rfl | (simp only [List.length_drop, List.length_take]; rfl)) ?_; (with_reducible refine (delta_Apply.calls k (⟨#[97, 98]⟩ : ByteArray) (catS (catS (⟨#[54, 10, 51, 64, 48, 44, 51, 58, 120, 121, 122]⟩ : ByteArray) t120) (⟨#[59]⟩ : ByteArray)) t123 t124 _ A6.out).mono ?_); rintro e w' ⟨rfl, ⟨nd, rfl⟩⟩; refine ⟨_, rfl, ?_⟩) | ((with_reducible refine gate_callee (f := 21) rfl ?_); refine goesL_ (some 24) rfl rfl Try.func21 (by kernel_rfl) rfl #[.string (catS (catS (⟨#[54, 10, 51, 64, 48, 44, 51, 58, 120, 121, 122]⟩ : ByteArray) t120) (⟨#[59]⟩ : ByteArray))] rfl (by (try simp only [List.map_toArray, List.map_cons, List.map_nil]); first | done | rfl | (simp only [List.length_drop, List.length_take]; rfl)) ?_; (with_reducible refine (delta_Size.calls k (catS (catS (⟨#[54, 10, 51, 64, 48, 44, 51, 58, 120, 121, 122]⟩ : ByteArray) t120) (⟨#[59]⟩ : ByteArray)) t125 t126 _ A7.out).mono ?_); rintro e w' ⟨rfl, ⟨nd, rfl⟩⟩; refine ⟨_, rfl, ?_⟩))
        go_ret
        exact ⟨by first | rfl | (simp; done) | (simp [*]; done), by repeat (first | exact Drawn0.refl _ | apply Drawn0.step)⟩
        all_goals (exfalso; (try simp only [beq_iff_eq, bne_iff_ne, ne_eq, decide_eq_true_eq, decide_eq_false_iff_not, decide_eq_decide, bne_eq_false_iff_eq, beq_eq_false_iff_ne, Bool.not_eq_true, Bool.not_eq_false, Bool.not_eq_true', Bool.not_eq_false', Bool.true_beq, Bool.false_beq, Bool.true_bne, Bool.false_bne, Bool.bne_true, Bool.bne_false] at c3b0); (try simp only [beq_iff_eq, bne_iff_ne, ne_eq, decide_eq_true_eq, decide_eq_false_iff_not, decide_eq_decide, bne_eq_false_iff_eq, beq_eq_false_iff_ne, Bool.not_eq_true, Bool.not_eq_false, Bool.not_eq_true', Bool.not_eq_false', Bool.true_beq, Bool.false_beq, Bool.true_bne, Bool.false_bne, Bool.bne_true, Bool.bne_false] at c3b1); (try simp only [beq_iff_eq, bne_iff_ne, ne_eq, decide_eq_true_eq, decide_eq_false_iff_not, decide_eq_decide, bne_eq_false_iff_eq, beq_eq_false_iff_ne, Bool.not_eq_true, Bool.not_eq_false, Bool.not_eq_true', Bool.not_eq_false', Bool.true_beq, Bool.false_beq, Bool.true_bne, Bool.false_bne, Bool.bne_true, Bool.bne_false] at c4b0); (try simp only [beq_iff_eq, bne_iff_ne, ne_eq, decide_eq_true_eq, decide_eq_false_iff_not, decide_eq_decide, bne_eq_false_iff_eq, beq_eq_false_iff_ne, Bool.not_eq_true, Bool.not_eq_false, Bool.not_eq_true', Bool.not_eq_false', Bool.true_beq, Bool.false_beq, Bool.true_bne, Bool.false_bne, Bool.bne_true, Bool.bne_false] at c4b1); (try simp only [beq_iff_eq, bne_iff_ne, ne_eq, decide_eq_true_eq, decide_eq_false_iff_not, decide_eq_decide, bne_eq_false_iff_eq, beq_eq_false_iff_ne, Bool.not_eq_true, Bool.not_eq_false, Bool.not_eq_true', Bool.not_eq_false', Bool.true_beq, Bool.false_beq, Bool.true_bne, Bool.false_bne, Bool.bne_true, Bool.bne_false] at c8b0); (try simp only [beq_iff_eq, bne_iff_ne, ne_eq, decide_eq_true_eq, decide_eq_false_iff_not, decide_eq_decide, bne_eq_false_iff_eq, beq_eq_false_iff_ne, Bool.not_eq_true, Bool.not_eq_false, Bool.not_eq_true', Bool.not_eq_false', Bool.true_beq, Bool.false_beq, Bool.true_bne, Bool.false_bne, Bool.bne_true, Bool.bne_false] at c8b1); (try unfold wrap64 at *); omega)
    · rw [if_neg c4] at H
      exact absurd H (by simp)
  · rw [if_neg c3] at H
    exact absurd H (by simp)

/-! ### ammonitebook_Within: function 17 -/
def ammonitebook_Within.f (a0 : Int) (a1 : Int) (a2 : Int) : Option (Int) := if (wrap64 ((wrap64 (a2 - a1)) + 1)) = 0 then (none) else (if (Int.tmod a0 (wrap64 ((wrap64 (a2 - a1)) + 1))) < 0 then (some (wrap64 (a1 + (wrap64 ((wrap64 ((wrap64 ((Int.tmod a0 (wrap64 ((wrap64 (a2 - a1)) + 1))) + a2)) - a1)) + 1))))) else (some (wrap64 (a1 + (Int.tmod a0 (wrap64 ((wrap64 (a2 - a1)) + 1)))))))
set_option maxHeartbeats 8000000 in
set_option maxRecDepth 100000 in
theorem ammonitebook_Within.calls (a0 : Int) (a1 : Int) (a2 : Int) (r : Int) (w : World) (h : ammonitebook_Within.f a0 a1 a2 = some r) :
    Calls Try.prog 17 #[.int .i64 a0, .int .i64 a1, .int .i64 a2] w fun e w' => e = .returned (.int .i64 r) ∧ Drawn0 w w' := by
  have H : (if (wrap64 ((wrap64 (a2 - a1)) + 1)) = 0 then (none) else (if (Int.tmod a0 (wrap64 ((wrap64 (a2 - a1)) + 1))) < 0 then (some (wrap64 (a1 + (wrap64 ((wrap64 ((wrap64 ((Int.tmod a0 (wrap64 ((wrap64 (a2 - a1)) + 1))) + a2)) - a1)) + 1))))) else (some (wrap64 (a1 + (Int.tmod a0 (wrap64 ((wrap64 (a2 - a1)) + 1)))))))) = some r := h
  clear h
  by_cases c4 : (wrap64 ((wrap64 (a2 - a1)) + 1)) = 0
  · rw [if_pos c4] at H
    exact absurd H (by simp)
  · rw [if_neg c4] at H
    have c4b0 : ((wrap64 ((wrap64 (a2 - a1)) + 1)) == 0) = false := beq_eq_false_iff_ne.mpr c4
    have c4b1 : ((wrap64 ((wrap64 (a2 - a1)) + 1)) != 0) = true := bne_iff_ne.mpr c4
    by_cases c5 : (Int.tmod a0 (wrap64 ((wrap64 (a2 - a1)) + 1))) < 0
    · rw [if_pos c5] at H
      have c5b0 : decide ((Int.tmod a0 (wrap64 ((wrap64 (a2 - a1)) + 1))) < 0) = true := decide_eq_true c5
      clear c5
      obtain rfl := Option.some.inj H
      go_enter Try.func17, Try.ntmps17
      go_wp2
      go_ret
      exact ⟨by first | rfl | (simp; done) | (simp [*]; done), by repeat (first | exact Drawn0.refl _ | apply Drawn0.step)⟩
      all_goals (exfalso; (try simp only [beq_iff_eq, bne_iff_ne, ne_eq, decide_eq_true_eq, decide_eq_false_iff_not, decide_eq_decide, bne_eq_false_iff_eq, beq_eq_false_iff_ne, Bool.not_eq_true, Bool.not_eq_false, Bool.not_eq_true', Bool.not_eq_false', Bool.true_beq, Bool.false_beq, Bool.true_bne, Bool.false_bne, Bool.bne_true, Bool.bne_false] at c4b0); (try simp only [beq_iff_eq, bne_iff_ne, ne_eq, decide_eq_true_eq, decide_eq_false_iff_not, decide_eq_decide, bne_eq_false_iff_eq, beq_eq_false_iff_ne, Bool.not_eq_true, Bool.not_eq_false, Bool.not_eq_true', Bool.not_eq_false', Bool.true_beq, Bool.false_beq, Bool.true_bne, Bool.false_bne, Bool.bne_true, Bool.bne_false] at c4b1); (try simp only [beq_iff_eq, bne_iff_ne, ne_eq, decide_eq_true_eq, decide_eq_false_iff_not, decide_eq_decide, bne_eq_false_iff_eq, beq_eq_false_iff_ne, Bool.not_eq_true, Bool.not_eq_false, Bool.not_eq_true', Bool.not_eq_false', Bool.true_beq, Bool.false_beq, Bool.true_bne, Bool.false_bne, Bool.bne_true, Bool.bne_false] at c5b0); (try unfold wrap64 at *); omega)
    · rw [if_neg c5] at H
      have c5b0 : decide ((Int.tmod a0 (wrap64 ((wrap64 (a2 - a1)) + 1))) < 0) = false := decide_eq_false c5
      clear c5
      obtain rfl := Option.some.inj H
      go_enter Try.func17, Try.ntmps17
      go_wp2
      go_ret
      exact ⟨by first | rfl | (simp; done) | (simp [*]; done), by repeat (first | exact Drawn0.refl _ | apply Drawn0.step)⟩
      all_goals (exfalso; (try simp only [beq_iff_eq, bne_iff_ne, ne_eq, decide_eq_true_eq, decide_eq_false_iff_not, decide_eq_decide, bne_eq_false_iff_eq, beq_eq_false_iff_ne, Bool.not_eq_true, Bool.not_eq_false, Bool.not_eq_true', Bool.not_eq_false', Bool.true_beq, Bool.false_beq, Bool.true_bne, Bool.false_bne, Bool.bne_true, Bool.bne_false] at c4b0); (try simp only [beq_iff_eq, bne_iff_ne, ne_eq, decide_eq_true_eq, decide_eq_false_iff_not, decide_eq_decide, bne_eq_false_iff_eq, beq_eq_false_iff_ne, Bool.not_eq_true, Bool.not_eq_false, Bool.not_eq_true', Bool.not_eq_false', Bool.true_beq, Bool.false_beq, Bool.true_bne, Bool.false_bne, Bool.bne_true, Bool.bne_false] at c4b1); (try simp only [beq_iff_eq, bne_iff_ne, ne_eq, decide_eq_true_eq, decide_eq_false_iff_not, decide_eq_decide, bne_eq_false_iff_eq, beq_eq_false_iff_ne, Bool.not_eq_true, Bool.not_eq_false, Bool.not_eq_true', Bool.not_eq_false', Bool.true_beq, Bool.false_beq, Bool.true_bne, Bool.false_bne, Bool.bne_true, Bool.bne_false] at c5b0); (try unfold wrap64 at *); omega)

/-! ### ammonitekeep_Text_Text: function 22 -/
def ammonitekeep_Text_Text.l0 : Nat → List ByteArray → ByteArray → Int → Int → List Int → Option (ByteArray)
  | 0, _, _, _, _, _ => none
  | k + 1, x3, x4, x5, x129000, x129001 => if x5 < (x129001.length : Int) then (if (x4.size : Int) < 170 then (if 0 ≤ x5 then ((ammonitebook_Within.f (wrap64 ((rd x129001 x5) + (Go.bits .and .i64 x129000 1))) 0 (wrap64 ((x3.length : Int) - 1))).bind fun t133 => (if 0 ≤ t133 then (if t133 < (x3.length : Int) then (if x4.size + (rdOf ByteArray.empty x3 t133).size ≤ 9223372036854775807 then (ammonitekeep_Text_Text.l0 k x3 (catS x4 (rdOf ByteArray.empty x3 t133)) (wrap64 (x5 + 1)) x129000 x129001) else (none)) else (none)) else (none))) else (none)) else (some x4)) else (some x4)
def ammonitekeep_Text_Text.f (k : Nat) (a0_0 : Int) (l0_1 : List Int) : Option (ByteArray) := ammonitekeep_Text_Text.l0 k (([(⟨#[108, 105, 110, 101, 32, 111, 110, 101, 10]⟩ : ByteArray), (⟨#[116, 104, 101, 32, 115, 101, 99, 111, 110, 100, 32, 108, 105, 110, 101, 32, 105, 115, 32, 108, 111, 110, 103, 101, 114, 10]⟩ : ByteArray), (⟨#[120]⟩ : ByteArray), (⟨#[48, 59]⟩ : ByteArray), (⟨#[97, 98, 99, 97, 98, 99, 97, 98, 99]⟩ : ByteArray), (⟨#[10]⟩ : ByteArray), (⟨#[51, 58, 120, 121, 122]⟩ : ByteArray), (⟨#[116, 97, 105, 108, 32, 111, 102, 32, 105, 116, 32, 97, 108, 108]⟩ : ByteArray)] : List ByteArray)) (⟨#[]⟩ : ByteArray) 0 a0_0 l0_1
theorem ammonitekeep_Text_Text.mono_l : ∀ k, (∀ y0 y1 y2 y3 y4, LeO (ammonitekeep_Text_Text.l0 k y0 y1 y2 y3 y4) (ammonitekeep_Text_Text.l0 (k + 1) y0 y1 y2 y3 y4))
  | 0 => fun _ _ _ _ _ r h => by simp [ammonitekeep_Text_Text.l0] at h
  | k + 1 => by
    have ih0 := ammonitekeep_Text_Text.mono_l k
    · intro y0 y1 y2 y3 y4
      unfold ammonitekeep_Text_Text.l0
      repeat' first
      | (with_reducible exact ih0 _ _ _ _ _)
      | (with_reducible exact LeO.refl _)
      | (with_reducible exact LeO.none _)
      | (with_reducible refine LeO.ite ?_ ?_)
      | (with_reducible refine LeO.bind ?_ (fun _ => ?_))
      | exact ih0 _ _ _ _ _
      | exact LeO.none _
      | refine LeO.ite ?_ ?_
      | refine LeO.bind ?_ (fun _ => ?_)
theorem ammonitekeep_Text_Text.mono : ∀ a0 a1 k, LeO (ammonitekeep_Text_Text.f k a0 a1) (ammonitekeep_Text_Text.f (k + 1) a0 a1) := by
  intro a0 a1 k
  have ih0 := ammonitekeep_Text_Text.mono_l k
  unfold ammonitekeep_Text_Text.f
  repeat' first
      | (with_reducible exact ih0 _ _ _ _ _)
      | (with_reducible exact LeO.refl _)
      | (with_reducible exact LeO.none _)
      | (with_reducible refine LeO.ite ?_ ?_)
      | (with_reducible refine LeO.bind ?_ (fun _ => ?_))
      | exact ih0 _ _ _ _ _
      | exact LeO.none _
      | refine LeO.ite ?_ ?_
      | refine LeO.bind ?_ (fun _ => ?_)
set_option maxHeartbeats 8000000 in
set_option maxRecDepth 100000 in
theorem ammonitekeep_Text_Text.calls (k : Nat) (a0_0 : Int) (A0_1 : Option Addr) (c0_1 : Nat) (l0_1 : List Int) (r : ByteArray) (w : World) (hr0_1 : Kd.C (Kd.int .i64) w A0_1 l0_1.length l0_1) (hc0_1 : l0_1.length ≤ c0_1) (h : ammonitekeep_Text_Text.f k a0_0 l0_1 = some r) :
    Calls Try.prog 22 #[.agg #[.int .i64 a0_0, .slice A0_1 l0_1.length c0_1]] w fun e w' => e = .returned (.string r) ∧ Below w.heap.size w w' := by
  have hu37 := Try.underlying37
  have HR0_1 := Aside0.mk hr0_1
  have HC0_1 := Aside0.mk hc0_1
  clear hr0_1 hc0_1
  have HB := Aside0.mk (Below.refl w.heap.size w)
  have H : (ammonitekeep_Text_Text.l0 k (([(⟨#[108, 105, 110, 101, 32, 111, 110, 101, 10]⟩ : ByteArray), (⟨#[116, 104, 101, 32, 115, 101, 99, 111, 110, 100, 32, 108, 105, 110, 101, 32, 105, 115, 32, 108, 111, 110, 103, 101, 114, 10]⟩ : ByteArray), (⟨#[120]⟩ : ByteArray), (⟨#[48, 59]⟩ : ByteArray), (⟨#[97, 98, 99, 97, 98, 99, 97, 98, 99]⟩ : ByteArray), (⟨#[10]⟩ : ByteArray), (⟨#[51, 58, 120, 121, 122]⟩ : ByteArray), (⟨#[116, 97, 105, 108, 32, 111, 102, 32, 105, 116, 32, 97, 108, 108]⟩ : ByteArray)] : List ByteArray)) (⟨#[]⟩ : ByteArray) 0 a0_0 l0_1) = some r := h
  clear h
  obtain ⟨y129, hy129⟩ : ∃ y_ : List ByteArray, y_ = (([(⟨#[108, 105, 110, 101, 32, 111, 110, 101, 10]⟩ : ByteArray), (⟨#[116, 104, 101, 32, 115, 101, 99, 111, 110, 100, 32, 108, 105, 110, 101, 32, 105, 115, 32, 108, 111, 110, 103, 101, 114, 10]⟩ : ByteArray), (⟨#[120]⟩ : ByteArray), (⟨#[48, 59]⟩ : ByteArray), (⟨#[97, 98, 99, 97, 98, 99, 97, 98, 99]⟩ : ByteArray), (⟨#[10]⟩ : ByteArray), (⟨#[51, 58, 120, 121, 122]⟩ : ByteArray), (⟨#[116, 97, 105, 108, 32, 111, 102, 32, 105, 116, 32, 97, 108, 108]⟩ : ByteArray)] : List ByteArray)) := ⟨_, rfl⟩
  replace H : (ammonitekeep_Text_Text.l0 k y129 (⟨#[]⟩ : ByteArray) 0 a0_0 l0_1) = some r := by first | (rw [hy129]; with_reducible exact H) | (have H2_ := (Option.bind_some _ _).symm.trans H; rw [hy129]; with_reducible exact H2_) | (have H2_ := (Option.bind_some _ _).symm.trans H; with_reducible exact H2_) | with_reducible exact H | (rw [hy129]; exact H) | exact H
  have Ny129 := Aside0.mk hy129
  clear hy129
  have H' := Aside0.mk H
  clear H
  go_enter Try.func22, Try.ntmps22
  go_wp2_with (first | ((with_reducible refine gate_dst (N := 1) rfl ?_); (try (refine gate_guard (by rfl) ?_; dsimp only)); refine box_event ?hg (N := 1) ?hd (cs := #[.int .i64 a0_0, .slice A0_1 l0_1.length c0_1]) (t := 37) ?hr ?_; (case hd => rfl); (case hg => rfl); (case hr => first | (go_simp; done) | (go_simp; rfl)); intro gb128 hg w2 hbox hb; have n0_ := Aside0.mk (below_step (by repeat (first | (with_reducible first | exact HB.out | apply below_alloc | apply pw_below_drewN | apply below_drew1) | exact HB.out)) hb); have n1_ := Aside0.mk (hbox); have n2_ := Aside0.mk ((by rw [hg]; exact (below_size (by repeat (first | (with_reducible first | exact HB.out | apply below_alloc | apply pw_below_drewN | apply below_drew1) | exact HB.out))) : w.heap.size ≤ gb128)); have n3_ := Aside0.mk ((by rw [hg]; exact (below_size (by repeat (first | (with_reducible first | exact HB.out | apply below_alloc | apply pw_below_drewN | apply below_drew1) | exact HB.out))) : w.heap.size ≤ gb128)); clear HB; have HB := n0_; have BK128 := n1_; have GW128 := n2_; have GE128 := n3_; clear n0_ n1_ n2_ n3_; clear hb hbox hg) | ((with_reducible refine gate_dst (N := 6) rfl ?_); (try (refine gate_guard (by rfl) ?_; dsimp only)); refine Kd.R_lit Kd.string _ 9 ?hg (N := 6) ?hd (xs := ([(⟨#[108, 105, 110, 101, 32, 111, 110, 101, 10]⟩ : ByteArray), (⟨#[116, 104, 101, 32, 115, 101, 99, 111, 110, 100, 32, 108, 105, 110, 101, 32, 105, 115, 32, 108, 111, 110, 103, 101, 114, 10]⟩ : ByteArray), (⟨#[120]⟩ : ByteArray), (⟨#[48, 59]⟩ : ByteArray), (⟨#[97, 98, 99, 97, 98, 99, 97, 98, 99]⟩ : ByteArray), (⟨#[10]⟩ : ByteArray), (⟨#[51, 58, 120, 121, 122]⟩ : ByteArray), (⟨#[116, 97, 105, 108, 32, 111, 102, 32, 105, 116, 32, 97, 108, 108]⟩ : ByteArray)] : List ByteArray)) (inner := [.string (⟨#[108, 105, 110, 101, 32, 111, 110, 101, 10]⟩ : ByteArray), .string (⟨#[116, 104, 101, 32, 115, 101, 99, 111, 110, 100, 32, 108, 105, 110, 101, 32, 105, 115, 32, 108, 111, 110, 103, 101, 114, 10]⟩ : ByteArray), .string (⟨#[120]⟩ : ByteArray), .string (⟨#[48, 59]⟩ : ByteArray), .string (⟨#[97, 98, 99, 97, 98, 99, 97, 98, 99]⟩ : ByteArray), .string (⟨#[10]⟩ : ByteArray), .string (⟨#[51, 58, 120, 121, 122]⟩ : ByteArray), .string (⟨#[116, 97, 105, 108, 32, 111, 102, 32, 105, 116, 32, 97, 108, 108]⟩ : ByteArray)]) (ok := fun _ => True) (okp := fun _ => True) ?hr ?hp (fun _ hk => hk) trivial (Below.refl _ _) (Nat.le_refl _) (by simp) ?_; (case hd => rfl); (case hg => rfl); (case hr => first | (go_simp; done) | (go_simp; rfl)); (case hp => exact (Reps.one (show Kd.M Kd.string _ _ _ (⟨#[108, 105, 110, 101, 32, 111, 110, 101, 10]⟩ : ByteArray) [.string (⟨#[108, 105, 110, 101, 32, 111, 110, 101, 10]⟩ : ByteArray)] from rfl) (Reps.one (show Kd.M Kd.string _ _ _ (⟨#[116, 104, 101, 32, 115, 101, 99, 111, 110, 100, 32, 108, 105, 110, 101, 32, 105, 115, 32, 108, 111, 110, 103, 101, 114, 10]⟩ : ByteArray) [.string (⟨#[116, 104, 101, 32, 115, 101, 99, 111, 110, 100, 32, 108, 105, 110, 101, 32, 105, 115, 32, 108, 111, 110, 103, 101, 114, 10]⟩ : ByteArray)] from rfl) (Reps.one (show Kd.M Kd.string _ _ _ (⟨#[120]⟩ : ByteArray) [.string (⟨#[120]⟩ : ByteArray)] from rfl) (Reps.one (show Kd.M Kd.string _ _ _ (⟨#[48, 59]⟩ : ByteArray) [.string (⟨#[48, 59]⟩ : ByteArray)] from rfl) (Reps.one (show Kd.M Kd.string _ _ _ (⟨#[97, 98, 99, 97, 98, 99, 97, 98, 99]⟩ : ByteArray) [.string (⟨#[97, 98, 99, 97, 98, 99, 97, 98, 99]⟩ : ByteArray)] from rfl) (Reps.one (show Kd.M Kd.string _ _ _ (⟨#[10]⟩ : ByteArray) [.string (⟨#[10]⟩ : ByteArray)] from rfl) (Reps.one (show Kd.M Kd.string _ _ _ (⟨#[51, 58, 120, 121, 122]⟩ : ByteArray) [.string (⟨#[51, 58, 120, 121, 122]⟩ : ByteArray)] from rfl) (Reps.one (show Kd.M Kd.string _ _ _ (⟨#[116, 97, 105, 108, 32, 111, 102, 32, 105, 116, 32, 97, 108, 108]⟩ : ByteArray) [.string (⟨#[116, 97, 105, 108, 32, 111, 102, 32, 105, 116, 32, 97, 108, 108]⟩ : ByteArray)] from rfl) (Reps.none _ _)))))))))); intro v130 w3 ho4 hb hg_ hnew_; clear hg_ hnew_; (first | rw [← Ny129.out] at ho4 | (simp only [Int.reduceToNat] at ho4; rw [← Ny129.out] at ho4)); have n0_ := Aside0.mk (Kd.R_lower ho4 (below_size (by repeat (first | (with_reducible first | exact HB.out | apply below_alloc | apply pw_below_drewN | apply below_drew1 | refine below_set ?_ GE128.out) | exact HB.out)))); have n1_ := Aside0.mk (blk_below (g := gb128) (o := .cells #[.int .i64 a0_0, .slice A0_1 l0_1.length c0_1] 37 (0, 0)) (by (with_reducible repeat (first | refine blk_drewN ?_ _ | refine blk_drew ?_ | refine blk_alloc ?_ _)); exact BK128.out) hb); have n2_ := Aside0.mk (below_step (by repeat (first | (with_reducible first | exact HB.out | apply below_alloc | apply pw_below_drewN | apply below_drew1 | refine below_set ?_ GE128.out) | exact HB.out)) hb); clear BK128; clear HB; have HO131 := n0_; have BK128 := n1_; have HB := n2_; clear n0_ n1_ n2_; clear hb ho4))
  repeat (go_quiet (first | ((with_reducible refine gate_dst (N := 1) rfl ?_); (try (refine gate_guard (by rfl) ?_; dsimp only)); refine box_event ?hg (N := 1) ?hd (cs := #[.int .i64 a0_0, .slice A0_1 l0_1.length c0_1]) (t := 37) ?hr ?_; (case hd => rfl); (case hg => rfl); (case hr => first | (go_simp; done) | (go_simp; rfl)); intro gb128 hg w2 hbox hb; have n0_ := Aside0.mk (below_step (by repeat (first | (with_reducible first | exact HB.out | apply below_alloc | apply pw_below_drewN | apply below_drew1) | exact HB.out)) hb); have n1_ := Aside0.mk (hbox); have n2_ := Aside0.mk ((by rw [hg]; exact (below_size (by repeat (first | (with_reducible first | exact HB.out | apply below_alloc | apply pw_below_drewN | apply below_drew1) | exact HB.out))) : w.heap.size ≤ gb128)); have n3_ := Aside0.mk ((by rw [hg]; exact (below_size (by repeat (first | (with_reducible first | exact HB.out | apply below_alloc | apply pw_below_drewN | apply below_drew1) | exact HB.out))) : w.heap.size ≤ gb128)); clear HB; have HB := n0_; have BK128 := n1_; have GW128 := n2_; have GE128 := n3_; clear n0_ n1_ n2_ n3_; clear hb hbox hg) | ((with_reducible refine gate_dst (N := 6) rfl ?_); (try (refine gate_guard (by rfl) ?_; dsimp only)); refine Kd.R_lit Kd.string _ 9 ?hg (N := 6) ?hd (xs := ([(⟨#[108, 105, 110, 101, 32, 111, 110, 101, 10]⟩ : ByteArray), (⟨#[116, 104, 101, 32, 115, 101, 99, 111, 110, 100, 32, 108, 105, 110, 101, 32, 105, 115, 32, 108, 111, 110, 103, 101, 114, 10]⟩ : ByteArray), (⟨#[120]⟩ : ByteArray), (⟨#[48, 59]⟩ : ByteArray), (⟨#[97, 98, 99, 97, 98, 99, 97, 98, 99]⟩ : ByteArray), (⟨#[10]⟩ : ByteArray), (⟨#[51, 58, 120, 121, 122]⟩ : ByteArray), (⟨#[116, 97, 105, 108, 32, 111, 102, 32, 105, 116, 32, 97, 108, 108]⟩ : ByteArray)] : List ByteArray)) (inner := [.string (⟨#[108, 105, 110, 101, 32, 111, 110, 101, 10]⟩ : ByteArray), .string (⟨#[116, 104, 101, 32, 115, 101, 99, 111, 110, 100, 32, 108, 105, 110, 101, 32, 105, 115, 32, 108, 111, 110, 103, 101, 114, 10]⟩ : ByteArray), .string (⟨#[120]⟩ : ByteArray), .string (⟨#[48, 59]⟩ : ByteArray), .string (⟨#[97, 98, 99, 97, 98, 99, 97, 98, 99]⟩ : ByteArray), .string (⟨#[10]⟩ : ByteArray), .string (⟨#[51, 58, 120, 121, 122]⟩ : ByteArray), .string (⟨#[116, 97, 105, 108, 32, 111, 102, 32, 105, 116, 32, 97, 108, 108]⟩ : ByteArray)]) (ok := fun _ => True) (okp := fun _ => True) ?hr ?hp (fun _ hk => hk) trivial (Below.refl _ _) (Nat.le_refl _) (by simp) ?_; (case hd => rfl); (case hg => rfl); (case hr => first | (go_simp; done) | (go_simp; rfl)); (case hp => exact (Reps.one (show Kd.M Kd.string _ _ _ (⟨#[108, 105, 110, 101, 32, 111, 110, 101, 10]⟩ : ByteArray) [.string (⟨#[108, 105, 110, 101, 32, 111, 110, 101, 10]⟩ : ByteArray)] from rfl) (Reps.one (show Kd.M Kd.string _ _ _ (⟨#[116, 104, 101, 32, 115, 101, 99, 111, 110, 100, 32, 108, 105, 110, 101, 32, 105, 115, 32, 108, 111, 110, 103, 101, 114, 10]⟩ : ByteArray) [.string (⟨#[116, 104, 101, 32, 115, 101, 99, 111, 110, 100, 32, 108, 105, 110, 101, 32, 105, 115, 32, 108, 111, 110, 103, 101, 114, 10]⟩ : ByteArray)] from rfl) (Reps.one (show Kd.M Kd.string _ _ _ (⟨#[120]⟩ : ByteArray) [.string (⟨#[120]⟩ : ByteArray)] from rfl) (Reps.one (show Kd.M Kd.string _ _ _ (⟨#[48, 59]⟩ : ByteArray) [.string (⟨#[48, 59]⟩ : ByteArray)] from rfl) (Reps.one (show Kd.M Kd.string _ _ _ (⟨#[97, 98, 99, 97, 98, 99, 97, 98, 99]⟩ : ByteArray) [.string (⟨#[97, 98, 99, 97, 98, 99, 97, 98, 99]⟩ : ByteArray)] from rfl) (Reps.one (show Kd.M Kd.string _ _ _ (⟨#[10]⟩ : ByteArray) [.string (⟨#[10]⟩ : ByteArray)] from rfl) (Reps.one (show Kd.M Kd.string _ _ _ (⟨#[51, 58, 120, 121, 122]⟩ : ByteArray) [.string (⟨#[51, 58, 120, 121, 122]⟩ : ByteArray)] from rfl) (Reps.one (show Kd.M Kd.string _ _ _ (⟨#[116, 97, 105, 108, 32, 111, 102, 32, 105, 116, 32, 97, 108, 108]⟩ : ByteArray) [.string (⟨#[116, 97, 105, 108, 32, 111, 102, 32, 105, 116, 32, 97, 108, 108]⟩ : ByteArray)] from rfl) (Reps.none _ _)))))))))); intro v130 w3 ho4 hb hg_ hnew_; clear hg_ hnew_; (first | rw [← Ny129.out] at ho4 | (simp only [Int.reduceToNat] at ho4; rw [← Ny129.out] at ho4)); have n0_ := Aside0.mk (Kd.R_lower ho4 (below_size (by repeat (first | (with_reducible first | exact HB.out | apply below_alloc | apply pw_below_drewN | apply below_drew1 | refine below_set ?_ GE128.out) | exact HB.out)))); have n1_ := Aside0.mk (blk_below (g := gb128) (o := .cells #[.int .i64 a0_0, .slice A0_1 l0_1.length c0_1] 37 (0, 0)) (by (with_reducible repeat (first | refine blk_drewN ?_ _ | refine blk_drew ?_ | refine blk_alloc ?_ _)); exact BK128.out) hb); have n2_ := Aside0.mk (below_step (by repeat (first | (with_reducible first | exact HB.out | apply below_alloc | apply pw_below_drewN | apply below_drew1 | refine below_set ?_ GE128.out) | exact HB.out)) hb); clear BK128; clear HB; have HO131 := n0_; have BK128 := n1_; have HB := n2_; clear n0_ n1_ n2_; clear hb ho4)); try go_wp2_with (first | ((with_reducible refine gate_dst (N := 1) rfl ?_); (try (refine gate_guard (by rfl) ?_; dsimp only)); refine box_event ?hg (N := 1) ?hd (cs := #[.int .i64 a0_0, .slice A0_1 l0_1.length c0_1]) (t := 37) ?hr ?_; (case hd => rfl); (case hg => rfl); (case hr => first | (go_simp; done) | (go_simp; rfl)); intro gb128 hg w2 hbox hb; have n0_ := Aside0.mk (below_step (by repeat (first | (with_reducible first | exact HB.out | apply below_alloc | apply pw_below_drewN | apply below_drew1) | exact HB.out)) hb); have n1_ := Aside0.mk (hbox); have n2_ := Aside0.mk ((by rw [hg]; exact (below_size (by repeat (first | (with_reducible first | exact HB.out | apply below_alloc | apply pw_below_drewN | apply below_drew1) | exact HB.out))) : w.heap.size ≤ gb128)); have n3_ := Aside0.mk ((by rw [hg]; exact (below_size (by repeat (first | (with_reducible first | exact HB.out | apply below_alloc | apply pw_below_drewN | apply below_drew1) | exact HB.out))) : w.heap.size ≤ gb128)); clear HB; have HB := n0_; have BK128 := n1_; have GW128 := n2_; have GE128 := n3_; clear n0_ n1_ n2_ n3_; clear hb hbox hg) | ((with_reducible refine gate_dst (N := 6) rfl ?_); (try (refine gate_guard (by rfl) ?_; dsimp only)); refine Kd.R_lit Kd.string _ 9 ?hg (N := 6) ?hd (xs := ([(⟨#[108, 105, 110, 101, 32, 111, 110, 101, 10]⟩ : ByteArray), (⟨#[116, 104, 101, 32, 115, 101, 99, 111, 110, 100, 32, 108, 105, 110, 101, 32, 105, 115, 32, 108, 111, 110, 103, 101, 114, 10]⟩ : ByteArray), (⟨#[120]⟩ : ByteArray), (⟨#[48, 59]⟩ : ByteArray), (⟨#[97, 98, 99, 97, 98, 99, 97, 98, 99]⟩ : ByteArray), (⟨#[10]⟩ : ByteArray), (⟨#[51, 58, 120, 121, 122]⟩ : ByteArray), (⟨#[116, 97, 105, 108, 32, 111, 102, 32, 105, 116, 32, 97, 108, 108]⟩ : ByteArray)] : List ByteArray)) (inner := [.string (⟨#[108, 105, 110, 101, 32, 111, 110, 101, 10]⟩ : ByteArray), .string (⟨#[116, 104, 101, 32, 115, 101, 99, 111, 110, 100, 32, 108, 105, 110, 101, 32, 105, 115, 32, 108, 111, 110, 103, 101, 114, 10]⟩ : ByteArray), .string (⟨#[120]⟩ : ByteArray), .string (⟨#[48, 59]⟩ : ByteArray), .string (⟨#[97, 98, 99, 97, 98, 99, 97, 98, 99]⟩ : ByteArray), .string (⟨#[10]⟩ : ByteArray), .string (⟨#[51, 58, 120, 121, 122]⟩ : ByteArray), .string (⟨#[116, 97, 105, 108, 32, 111, 102, 32, 105, 116, 32, 97, 108, 108]⟩ : ByteArray)]) (ok := fun _ => True) (okp := fun _ => True) ?hr ?hp (fun _ hk => hk) trivial (Below.refl _ _) (Nat.le_refl _) (by simp) ?_; (case hd => rfl); (case hg => rfl); (case hr => first | (go_simp; done) | (go_simp; rfl)); (case hp => exact (Reps.one (show Kd.M Kd.string _ _ _ (⟨#[108, 105, 110, 101, 32, 111, 110, 101, 10]⟩ : ByteArray) [.string (⟨#[108, 105, 110, 101, 32, 111, 110, 101, 10]⟩ : ByteArray)] from rfl) (Reps.one (show Kd.M Kd.string _ _ _ (⟨#[116, 104, 101, 32, 115, 101, 99, 111, 110, 100, 32, 108, 105, 110, 101, 32, 105, 115, 32, 108, 111, 110, 103, 101, 114, 10]⟩ : ByteArray) [.string (⟨#[116, 104, 101, 32, 115, 101, 99, 111, 110, 100, 32, 108, 105, 110, 101, 32, 105, 115, 32, 108, 111, 110, 103, 101, 114, 10]⟩ : ByteArray)] from rfl) (Reps.one (show Kd.M Kd.string _ _ _ (⟨#[120]⟩ : ByteArray) [.string (⟨#[120]⟩ : ByteArray)] from rfl) (Reps.one (show Kd.M Kd.string _ _ _ (⟨#[48, 59]⟩ : ByteArray) [.string (⟨#[48, 59]⟩ : ByteArray)] from rfl) (Reps.one (show Kd.M Kd.string _ _ _ (⟨#[97, 98, 99, 97, 98, 99, 97, 98, 99]⟩ : ByteArray) [.string (⟨#[97, 98, 99, 97, 98, 99, 97, 98, 99]⟩ : ByteArray)] from rfl) (Reps.one (show Kd.M Kd.string _ _ _ (⟨#[10]⟩ : ByteArray) [.string (⟨#[10]⟩ : ByteArray)] from rfl) (Reps.one (show Kd.M Kd.string _ _ _ (⟨#[51, 58, 120, 121, 122]⟩ : ByteArray) [.string (⟨#[51, 58, 120, 121, 122]⟩ : ByteArray)] from rfl) (Reps.one (show Kd.M Kd.string _ _ _ (⟨#[116, 97, 105, 108, 32, 111, 102, 32, 105, 116, 32, 97, 108, 108]⟩ : ByteArray) [.string (⟨#[116, 97, 105, 108, 32, 111, 102, 32, 105, 116, 32, 97, 108, 108]⟩ : ByteArray)] from rfl) (Reps.none _ _)))))))))); intro v130 w3 ho4 hb hg_ hnew_; clear hg_ hnew_; (first | rw [← Ny129.out] at ho4 | (simp only [Int.reduceToNat] at ho4; rw [← Ny129.out] at ho4)); have n0_ := Aside0.mk (Kd.R_lower ho4 (below_size (by repeat (first | (with_reducible first | exact HB.out | apply below_alloc | apply pw_below_drewN | apply below_drew1 | refine below_set ?_ GE128.out) | exact HB.out)))); have n1_ := Aside0.mk (blk_below (g := gb128) (o := .cells #[.int .i64 a0_0, .slice A0_1 l0_1.length c0_1] 37 (0, 0)) (by (with_reducible repeat (first | refine blk_drewN ?_ _ | refine blk_drew ?_ | refine blk_alloc ?_ _)); exact BK128.out) hb); have n2_ := Aside0.mk (below_step (by repeat (first | (with_reducible first | exact HB.out | apply below_alloc | apply pw_below_drewN | apply below_drew1 | refine below_set ?_ GE128.out) | exact HB.out)) hb); clear BK128; clear HB; have HO131 := n0_; have BK128 := n1_; have HB := n2_; clear n0_ n1_ n2_; clear hb ho4)))
  go_loopg [4, 5] k (fun kq v4 v5 w' => ∃ (x4_1 : ByteArray) (x5_1 : Int), v4 = .string x4_1 ∧ v5 = .int .i64 x5_1 ∧ Aside0 (ammonitekeep_Text_Text.l0 kq y129 x4_1 x5_1 a0_0 l0_1 = some r) ∧ Aside0 (kq ≤ k) ∧ Aside0 (Kd.R Kd.string 9 w' w.heap.size (fun _ => True) v130 y129) ∧ Aside0 (w'.heap[gb128]? = some (.cells #[.int .i64 a0_0, (.slice A0_1 l0_1.length c0_1)] 37 (0, 0))) ∧ Aside0 (Below w.heap.size w w'))
  case atStart => exact ⟨((⟨#[]⟩ : ByteArray)), (0), (by first | rfl | (simp; done) | (simp [*]; done)), (by first | rfl | (simp; done) | (simp [*]; done)), H', ⟨Nat.le_refl _⟩, ⟨by (with_reducible repeat (first | apply Kd.R_alloc | apply Kd.R_drewN | apply Kd.R_drew)); exact HO131.out⟩, ⟨by (with_reducible repeat (first | refine blk_drewN ?_ _ | refine blk_drew ?_ | refine blk_alloc ?_ _)); exact BK128.out⟩, ⟨by repeat (first | (with_reducible first | exact HB.out | apply below_alloc | apply pw_below_drewN | apply below_drew1 | refine below_set ?_ GE128.out) | exact HB.out)⟩⟩
  case round =>
    clear H'
    try clear c2
    try clear p2
    obtain ⟨x4_1, x5_1, rfl, rfl, HA, HK1, HO_3, BK128, HB⟩ := hrel
    cases gk with
    | zero => exact absurd HA.out (by simp [ammonitekeep_Text_Text.l0])
    | succ k1 =>
      have H := HA.out
      clear HA
      simp only [ammonitekeep_Text_Text.l0] at H
      by_cases c5 : x5_1 < (l0_1.length : Int)
      · rw [if_pos c5] at H
        have c5b0 : decide (x5_1 < (l0_1.length : Int)) = true := decide_eq_true c5
        clear c5
        by_cases c6 : (x4_1.size : Int) < 170
        · rw [if_pos c6] at H
          have c6b0 : decide ((x4_1.size : Int) < 170) = true := decide_eq_true c6
          have c6b1 : decide (x4_1.size < 170) = true := decide_eq_true (by omega)
          clear c6
          by_cases c7 : 0 ≤ x5_1
          · rw [if_pos c7] at H
            have c7b0 : decide (0 ≤ x5_1) = true := decide_eq_true c7
            clear c7
            replace H := Option.bind_eq_some_iff.mp H
            obtain ⟨t133, A80, H⟩ := H
            replace H : (if 0 ≤ t133 then (if t133 < (y129.length : Int) then (if x4_1.size + (rdOf ByteArray.empty y129 t133).size ≤ 9223372036854775807 then (ammonitekeep_Text_Text.l0 k1 y129 (catS x4_1 (rdOf ByteArray.empty y129 t133)) (wrap64 (x5_1 + 1)) a0_0 l0_1) else (none)) else (none)) else (none)) = some r := H
            have A8 := Aside0.mk A80
            clear A80
            by_cases c9 : 0 ≤ t133
            · rw [if_pos c9] at H
              have c9b0 : decide (0 ≤ t133) = true := decide_eq_true c9
              clear c9
              by_cases c10 : t133 < (y129.length : Int)
              · rw [if_pos c10] at H
                have c10b0 : decide (t133 < (y129.length : Int)) = true := decide_eq_true c10
                clear c10
                by_cases c11 : x4_1.size + (rdOf ByteArray.empty y129 t133).size ≤ 9223372036854775807
                · rw [if_pos c11] at H
                  have c11b0 := eq_true c11
                  have c11b1 : decide (x4_1.size + (rdOf ByteArray.empty y129 t133).size ≤ 9223372036854775807) = true := decide_eq_true c11
                  try have c11b2 : (9223372036854775807 < x4_1.size + (rdOf ByteArray.empty y129 t133).size) = False := eq_false (Nat.not_lt.2 c11)
                  clear c11
                  have H' := Aside0.mk H
                  clear H
                  have hcz12_0 : wr.cell? ⟨gb128, 0, none⟩ = some (.int .i64 a0_0) := (blk_cell BK128.out 0).trans rfl
                  have hcz12_1 : wr.cell? ⟨gb128, 1, none⟩ = some (.slice A0_1 l0_1.length c0_1) := (blk_cell BK128.out 1).trans rfl
                  have hfz12_0 := blk_frozen BK128.out 0
                  have hfz12_1 := blk_frozen BK128.out 1
                  have p132 : 0 ≤ (x5_1 : Int) := of_decide_eq_true (by first | (with_reducible assumption) | assumption)
                  have q132 : x5_1 < (l0_1.length : Int) := of_decide_eq_true (by first | (with_reducible assumption) | assumption)
                  obtain ⟨ad132, e132, hx132_0⟩ := Kd.at_int HR0_1.out x5_1 p132 q132
                  cases e132
                  replace hx132_0 := (HB.out.cell (World.block_lt_of_cell? w _ hx132_0)).trans hx132_0
                  replace p132 := eq_true p132
                  replace q132 := eq_true q132
                  obtain ⟨Ao13, co13, eo13⟩ := Kd.R_slice HO_3.out
                  subst eo13
                  go_wp2_with (first | (go_at_call 17; (try simp only [i64_w, i32_w]); (with_reducible refine (ammonitebook_Within.calls (wrap64 ((rd l0_1 x5_1) + (Go.bits .and .i64 a0_0 1))) 0 (wrap64 ((y129.length : Int) - 1)) t133 _ A8.out).mono ?_); rintro e w' ⟨rfl, ⟨nd, rfl⟩⟩; (try first | exact ⟨rfl, _, World.drewN_drewN _ _ _⟩ | exact ⟨rfl, _, Eq.trans (World.drewN_drewN _ _ _) (congrArg (World.drewN _) (Nat.add_assoc _ _ _))⟩); have p134 : 0 ≤ (t133 : Int) := of_decide_eq_true (by first | (with_reducible assumption) | assumption); have q134 : t133 < (y129.length : Int) := of_decide_eq_true (by first | (with_reducible assumption) | assumption); obtain ⟨ad134, e134, hx134_0⟩ := Kd.at_string (Kd.R_reads' HO_3.out).2.2 t133 p134 q134; cases e134; replace p134 := eq_true p134; replace q134 := eq_true q134))
                  repeat (go_quiet (first | (go_at_call 17; (try simp only [i64_w, i32_w]); (with_reducible refine (ammonitebook_Within.calls (wrap64 ((rd l0_1 x5_1) + (Go.bits .and .i64 a0_0 1))) 0 (wrap64 ((y129.length : Int) - 1)) t133 _ A8.out).mono ?_); rintro e w' ⟨rfl, ⟨nd, rfl⟩⟩; (try first | exact ⟨rfl, _, World.drewN_drewN _ _ _⟩ | exact ⟨rfl, _, Eq.trans (World.drewN_drewN _ _ _) (congrArg (World.drewN _) (Nat.add_assoc _ _ _))⟩); have p134 : 0 ≤ (t133 : Int) := of_decide_eq_true (by first | (with_reducible assumption) | assumption); have q134 : t133 < (y129.length : Int) := of_decide_eq_true (by first | (with_reducible assumption) | assumption); obtain ⟨ad134, e134, hx134_0⟩ := Kd.at_string (Kd.R_reads' HO_3.out).2.2 t133 p134 q134; cases e134; replace p134 := eq_true p134; replace q134 := eq_true q134)); try go_wp2_with (first | (go_at_call 17; (try simp only [i64_w, i32_w]); (with_reducible refine (ammonitebook_Within.calls (wrap64 ((rd l0_1 x5_1) + (Go.bits .and .i64 a0_0 1))) 0 (wrap64 ((y129.length : Int) - 1)) t133 _ A8.out).mono ?_); rintro e w' ⟨rfl, ⟨nd, rfl⟩⟩; (try first | exact ⟨rfl, _, World.drewN_drewN _ _ _⟩ | exact ⟨rfl, _, Eq.trans (World.drewN_drewN _ _ _) (congrArg (World.drewN _) (Nat.add_assoc _ _ _))⟩); have p134 : 0 ≤ (t133 : Int) := of_decide_eq_true (by first | (with_reducible assumption) | assumption); have q134 : t133 < (y129.length : Int) := of_decide_eq_true (by first | (with_reducible assumption) | assumption); obtain ⟨ad134, e134, hx134_0⟩ := Kd.at_string (Kd.R_reads' HO_3.out).2.2 t133 p134 q134; cases e134; replace p134 := eq_true p134; replace q134 := eq_true q134)))
                  go_roundg k1
                  case measure => have := HK1.out; omega
                  case rel => exact ⟨(catS x4_1 (rdOf ByteArray.empty y129 t133)), (wrap64 (x5_1 + 1)), (by first | rfl | (simp; done) | (simp [*]; done)), (by first | rfl | (simp; done) | (simp [*]; done)), H', ⟨by have := HK1.out; omega⟩, ⟨by (with_reducible repeat (first | apply Kd.R_alloc | apply Kd.R_drewN | apply Kd.R_drew)); exact HO_3.out⟩, ⟨by (with_reducible repeat (first | refine blk_drewN ?_ _ | refine blk_drew ?_ | refine blk_alloc ?_ _)); exact BK128.out⟩, ⟨by repeat (first | (with_reducible first | exact HB.out | apply below_alloc | apply pw_below_drewN | apply below_drew1 | refine below_set ?_ GE128.out) | exact HB.out)⟩⟩
                  all_goals (exfalso; (try simp only [beq_iff_eq, bne_iff_ne, ne_eq, decide_eq_true_eq, decide_eq_false_iff_not, decide_eq_decide, bne_eq_false_iff_eq, beq_eq_false_iff_ne, Bool.not_eq_true, Bool.not_eq_false, Bool.not_eq_true', Bool.not_eq_false', Bool.true_beq, Bool.false_beq, Bool.true_bne, Bool.false_bne, Bool.bne_true, Bool.bne_false] at c5b0); (try simp only [beq_iff_eq, bne_iff_ne, ne_eq, decide_eq_true_eq, decide_eq_false_iff_not, decide_eq_decide, bne_eq_false_iff_eq, beq_eq_false_iff_ne, Bool.not_eq_true, Bool.not_eq_false, Bool.not_eq_true', Bool.not_eq_false', Bool.true_beq, Bool.false_beq, Bool.true_bne, Bool.false_bne, Bool.bne_true, Bool.bne_false] at c6b0); (try simp only [beq_iff_eq, bne_iff_ne, ne_eq, decide_eq_true_eq, decide_eq_false_iff_not, decide_eq_decide, bne_eq_false_iff_eq, beq_eq_false_iff_ne, Bool.not_eq_true, Bool.not_eq_false, Bool.not_eq_true', Bool.not_eq_false', Bool.true_beq, Bool.false_beq, Bool.true_bne, Bool.false_bne, Bool.bne_true, Bool.bne_false] at c6b1); (try simp only [beq_iff_eq, bne_iff_ne, ne_eq, decide_eq_true_eq, decide_eq_false_iff_not, decide_eq_decide, bne_eq_false_iff_eq, beq_eq_false_iff_ne, Bool.not_eq_true, Bool.not_eq_false, Bool.not_eq_true', Bool.not_eq_false', Bool.true_beq, Bool.false_beq, Bool.true_bne, Bool.false_bne, Bool.bne_true, Bool.bne_false] at c7b0); (try simp only [beq_iff_eq, bne_iff_ne, ne_eq, decide_eq_true_eq, decide_eq_false_iff_not, decide_eq_decide, bne_eq_false_iff_eq, beq_eq_false_iff_ne, Bool.not_eq_true, Bool.not_eq_false, Bool.not_eq_true', Bool.not_eq_false', Bool.true_beq, Bool.false_beq, Bool.true_bne, Bool.false_bne, Bool.bne_true, Bool.bne_false] at c9b0); (try simp only [beq_iff_eq, bne_iff_ne, ne_eq, decide_eq_true_eq, decide_eq_false_iff_not, decide_eq_decide, bne_eq_false_iff_eq, beq_eq_false_iff_ne, Bool.not_eq_true, Bool.not_eq_false, Bool.not_eq_true', Bool.not_eq_false', Bool.true_beq, Bool.false_beq, Bool.true_bne, Bool.false_bne, Bool.bne_true, Bool.bne_false] at c10b0); (try simp only [beq_iff_eq, bne_iff_ne, ne_eq, decide_eq_true_eq, decide_eq_false_iff_not, decide_eq_decide, bne_eq_false_iff_eq, beq_eq_false_iff_ne, Bool.not_eq_true, Bool.not_eq_false, Bool.not_eq_true', Bool.not_eq_false', Bool.true_beq, Bool.false_beq, Bool.true_bne, Bool.false_bne, Bool.bne_true, Bool.bne_false] at c11b0); (try simp only [beq_iff_eq, bne_iff_ne, ne_eq, decide_eq_true_eq, decide_eq_false_iff_not, decide_eq_decide, bne_eq_false_iff_eq, beq_eq_false_iff_ne, Bool.not_eq_true, Bool.not_eq_false, Bool.not_eq_true', Bool.not_eq_false', Bool.true_beq, Bool.false_beq, Bool.true_bne, Bool.false_bne, Bool.bne_true, Bool.bne_false] at c11b1); (try unfold wrap64 at *); omega)
                · rw [if_neg c11] at H
                  exact absurd H (by simp)
              · rw [if_neg c10] at H
                exact absurd H (by simp)
            · rw [if_neg c9] at H
              exact absurd H (by simp)
          · rw [if_neg c7] at H
            exact absurd H (by simp)
        · rw [if_neg c6] at H
          have c6b0 : decide ((x4_1.size : Int) < 170) = false := decide_eq_false c6
          have c6b1 : decide (x4_1.size < 170) = false := decide_eq_false (by omega)
          clear c6
          obtain rfl := Option.some.inj H
          have hcz14_0 : wr.cell? ⟨gb128, 0, none⟩ = some (.int .i64 a0_0) := (blk_cell BK128.out 0).trans rfl
          have hcz14_1 : wr.cell? ⟨gb128, 1, none⟩ = some (.slice A0_1 l0_1.length c0_1) := (blk_cell BK128.out 1).trans rfl
          have hfz14_0 := blk_frozen BK128.out 0
          have hfz14_1 := blk_frozen BK128.out 1
          go_wp2
          repeat (go_quiet (fail); try go_wp2)
          go_ret
          exact ⟨by first | rfl | (simp [errW_none, errW_some] <;> rfl) | (simp [*, errW_none, errW_some] <;> rfl), by repeat (first | (with_reducible first | exact HB.out | apply below_alloc | apply pw_below_drewN | apply below_drew1 | refine below_set ?_ GE128.out) | exact HB.out)⟩
          all_goals (exfalso; (try simp only [beq_iff_eq, bne_iff_ne, ne_eq, decide_eq_true_eq, decide_eq_false_iff_not, decide_eq_decide, bne_eq_false_iff_eq, beq_eq_false_iff_ne, Bool.not_eq_true, Bool.not_eq_false, Bool.not_eq_true', Bool.not_eq_false', Bool.true_beq, Bool.false_beq, Bool.true_bne, Bool.false_bne, Bool.bne_true, Bool.bne_false] at c5b0); (try simp only [beq_iff_eq, bne_iff_ne, ne_eq, decide_eq_true_eq, decide_eq_false_iff_not, decide_eq_decide, bne_eq_false_iff_eq, beq_eq_false_iff_ne, Bool.not_eq_true, Bool.not_eq_false, Bool.not_eq_true', Bool.not_eq_false', Bool.true_beq, Bool.false_beq, Bool.true_bne, Bool.false_bne, Bool.bne_true, Bool.bne_false] at c6b0); (try simp only [beq_iff_eq, bne_iff_ne, ne_eq, decide_eq_true_eq, decide_eq_false_iff_not, decide_eq_decide, bne_eq_false_iff_eq, beq_eq_false_iff_ne, Bool.not_eq_true, Bool.not_eq_false, Bool.not_eq_true', Bool.not_eq_false', Bool.true_beq, Bool.false_beq, Bool.true_bne, Bool.false_bne, Bool.bne_true, Bool.bne_false] at c6b1); (try unfold wrap64 at *); omega)
      · rw [if_neg c5] at H
        have c5b0 : decide (x5_1 < (l0_1.length : Int)) = false := decide_eq_false c5
        clear c5
        obtain rfl := Option.some.inj H
        have hcz15_0 : wr.cell? ⟨gb128, 0, none⟩ = some (.int .i64 a0_0) := (blk_cell BK128.out 0).trans rfl
        have hcz15_1 : wr.cell? ⟨gb128, 1, none⟩ = some (.slice A0_1 l0_1.length c0_1) := (blk_cell BK128.out 1).trans rfl
        have hfz15_0 := blk_frozen BK128.out 0
        have hfz15_1 := blk_frozen BK128.out 1
        go_wp2
        repeat (go_quiet (fail); try go_wp2)
        go_ret
        exact ⟨by first | rfl | (simp [errW_none, errW_some] <;> rfl) | (simp [*, errW_none, errW_some] <;> rfl), by repeat (first | (with_reducible first | exact HB.out | apply below_alloc | apply pw_below_drewN | apply below_drew1 | refine below_set ?_ GE128.out) | exact HB.out)⟩
        all_goals (exfalso; (try simp only [beq_iff_eq, bne_iff_ne, ne_eq, decide_eq_true_eq, decide_eq_false_iff_not, decide_eq_decide, bne_eq_false_iff_eq, beq_eq_false_iff_ne, Bool.not_eq_true, Bool.not_eq_false, Bool.not_eq_true', Bool.not_eq_false', Bool.true_beq, Bool.false_beq, Bool.true_bne, Bool.false_bne, Bool.bne_true, Bool.bne_false] at c5b0); (try unfold wrap64 at *); omega)

/-! ### ammoniteref1_digit: function 37 -/
def ammoniteref1_digit.l0 : Nat → Int → Int → Option (Int)
  | 0, _, _ => none
  | k + 1, x0, x4 => if x4 < 64 then (if 0 ≤ x4 then (if (bt (⟨#[48, 49, 50, 51, 52, 53, 54, 55, 56, 57, 65, 66, 67, 68, 69, 70, 71, 72, 73, 74, 75, 76, 77, 78, 79, 80, 81, 82, 83, 84, 85, 86, 87, 88, 89, 90, 95, 97, 98, 99, 100, 101, 102, 103, 104, 105, 106, 107, 108, 109, 110, 111, 112, 113, 114, 115, 116, 117, 118, 119, 120, 121, 122, 126]⟩ : ByteArray) x4) = x0 then (some x4) else (ammoniteref1_digit.l0 k x0 (wrap64 (x4 + 1)))) else (none)) else (some (-1))
def ammoniteref1_digit.f (k : Nat) (a0 : Int) : Option (Int) := ammoniteref1_digit.l0 k a0 0
theorem ammoniteref1_digit.mono_l : ∀ k, (∀ y0 y1, LeO (ammoniteref1_digit.l0 k y0 y1) (ammoniteref1_digit.l0 (k + 1) y0 y1))
  | 0 => fun _ _ r h => by simp [ammoniteref1_digit.l0] at h
  | k + 1 => by
    have ih0 := ammoniteref1_digit.mono_l k
    · intro y0 y1
      unfold ammoniteref1_digit.l0
      repeat' first
      | (with_reducible exact ih0 _ _)
      | (with_reducible exact LeO.refl _)
      | (with_reducible exact LeO.none _)
      | (with_reducible refine LeO.ite ?_ ?_)
      | (with_reducible refine LeO.bind ?_ (fun _ => ?_))
      | exact ih0 _ _
      | exact LeO.none _
      | refine LeO.ite ?_ ?_
      | refine LeO.bind ?_ (fun _ => ?_)
theorem ammoniteref1_digit.mono : ∀ a0 k, LeO (ammoniteref1_digit.f k a0) (ammoniteref1_digit.f (k + 1) a0) := by
  intro a0 k
  have ih0 := ammoniteref1_digit.mono_l k
  unfold ammoniteref1_digit.f
  repeat' first
      | (with_reducible exact ih0 _ _)
      | (with_reducible exact LeO.refl _)
      | (with_reducible exact LeO.none _)
      | (with_reducible refine LeO.ite ?_ ?_)
      | (with_reducible refine LeO.bind ?_ (fun _ => ?_))
      | exact ih0 _ _
      | exact LeO.none _
      | refine LeO.ite ?_ ?_
      | refine LeO.bind ?_ (fun _ => ?_)
set_option maxHeartbeats 8000000 in
set_option maxRecDepth 100000 in
theorem ammoniteref1_digit.calls (k : Nat) (a0 : Int) (r : Int) (w : World) (h : ammoniteref1_digit.f k a0 = some r) :
    Calls Try.prog 37 #[.int .u8 a0] w fun e w' => e = .returned (.int .i64 r) ∧ Drawn0 w w' := by
  have H : (ammoniteref1_digit.l0 k a0 0) = some r := h
  clear h
  have H' := Aside0.mk H
  clear H
  go_enter Try.func37, Try.ntmps37
  go_wp2
  go_loopg [4] k (fun kq v4 w' => ∃ (x4_1 : Int), v4 = .int .i64 x4_1 ∧ Aside0 (ammoniteref1_digit.l0 kq a0 x4_1 = some r) ∧ Aside0 (kq ≤ k) ∧ Drawn0 w w')
  case atStart => exact ⟨(0), (by first | rfl | (simp; done) | (simp [*]; done)), H', ⟨Nat.le_refl _⟩, by repeat (first | exact Drawn0.refl _ | apply Drawn0.step)⟩
  case round =>
    clear H'
    obtain ⟨x4_1, rfl, HA, HK1, ⟨m1, rfl⟩⟩ := hrel
    cases gk with
    | zero => exact absurd HA.out (by simp [ammoniteref1_digit.l0])
    | succ k1 =>
      have H := HA.out
      clear HA
      simp only [ammoniteref1_digit.l0] at H
      by_cases c2 : x4_1 < 64
      · rw [if_pos c2] at H
        have c2b0 : decide (x4_1 < 64) = true := decide_eq_true c2
        clear c2
        by_cases c3 : 0 ≤ x4_1
        · rw [if_pos c3] at H
          have c3b0 : decide (0 ≤ x4_1) = true := decide_eq_true c3
          clear c3
          by_cases c5 : (bt (⟨#[48, 49, 50, 51, 52, 53, 54, 55, 56, 57, 65, 66, 67, 68, 69, 70, 71, 72, 73, 74, 75, 76, 77, 78, 79, 80, 81, 82, 83, 84, 85, 86, 87, 88, 89, 90, 95, 97, 98, 99, 100, 101, 102, 103, 104, 105, 106, 107, 108, 109, 110, 111, 112, 113, 114, 115, 116, 117, 118, 119, 120, 121, 122, 126]⟩ : ByteArray) x4_1) = a0
          · rw [if_pos c5] at H
            have c5b0 : ((bt (⟨#[48, 49, 50, 51, 52, 53, 54, 55, 56, 57, 65, 66, 67, 68, 69, 70, 71, 72, 73, 74, 75, 76, 77, 78, 79, 80, 81, 82, 83, 84, 85, 86, 87, 88, 89, 90, 95, 97, 98, 99, 100, 101, 102, 103, 104, 105, 106, 107, 108, 109, 110, 111, 112, 113, 114, 115, 116, 117, 118, 119, 120, 121, 122, 126]⟩ : ByteArray) x4_1) == a0) = true := beq_iff_eq.mpr c5
            have c5b1 : ((bt (⟨#[48, 49, 50, 51, 52, 53, 54, 55, 56, 57, 65, 66, 67, 68, 69, 70, 71, 72, 73, 74, 75, 76, 77, 78, 79, 80, 81, 82, 83, 84, 85, 86, 87, 88, 89, 90, 95, 97, 98, 99, 100, 101, 102, 103, 104, 105, 106, 107, 108, 109, 110, 111, 112, 113, 114, 115, 116, 117, 118, 119, 120, 121, 122, 126]⟩ : ByteArray) x4_1) != a0) = false := bne_eq_false_iff_eq.mpr c5
            clear c5
            obtain rfl := Option.some.inj H
            have p4 : 0 ≤ (x4_1 : Int) := of_decide_eq_true (by first | (with_reducible assumption) | assumption)
            have q4 : x4_1 < (64 : Int) := of_decide_eq_true (by first | (with_reducible assumption) | assumption)
            have hx4 := bt_at (⟨#[48, 49, 50, 51, 52, 53, 54, 55, 56, 57, 65, 66, 67, 68, 69, 70, 71, 72, 73, 74, 75, 76, 77, 78, 79, 80, 81, 82, 83, 84, 85, 86, 87, 88, 89, 90, 95, 97, 98, 99, 100, 101, 102, 103, 104, 105, 106, 107, 108, 109, 110, 111, 112, 113, 114, 115, 116, 117, 118, 119, 120, 121, 122, 126]⟩ : ByteArray) x4_1
            replace p4 := eq_true p4
            replace q4 := eq_true q4
            go_wp2
            go_ret
            exact ⟨by first | rfl | (simp; done) | (simp [*]; done), by repeat (first | exact Drawn0.refl _ | apply Drawn0.step)⟩
            all_goals (exfalso; (try simp only [beq_iff_eq, bne_iff_ne, ne_eq, decide_eq_true_eq, decide_eq_false_iff_not, decide_eq_decide, bne_eq_false_iff_eq, beq_eq_false_iff_ne, Bool.not_eq_true, Bool.not_eq_false, Bool.not_eq_true', Bool.not_eq_false', Bool.true_beq, Bool.false_beq, Bool.true_bne, Bool.false_bne, Bool.bne_true, Bool.bne_false] at c2b0); (try simp only [beq_iff_eq, bne_iff_ne, ne_eq, decide_eq_true_eq, decide_eq_false_iff_not, decide_eq_decide, bne_eq_false_iff_eq, beq_eq_false_iff_ne, Bool.not_eq_true, Bool.not_eq_false, Bool.not_eq_true', Bool.not_eq_false', Bool.true_beq, Bool.false_beq, Bool.true_bne, Bool.false_bne, Bool.bne_true, Bool.bne_false] at c3b0); (try simp only [beq_iff_eq, bne_iff_ne, ne_eq, decide_eq_true_eq, decide_eq_false_iff_not, decide_eq_decide, bne_eq_false_iff_eq, beq_eq_false_iff_ne, Bool.not_eq_true, Bool.not_eq_false, Bool.not_eq_true', Bool.not_eq_false', Bool.true_beq, Bool.false_beq, Bool.true_bne, Bool.false_bne, Bool.bne_true, Bool.bne_false] at c5b0); (try simp only [beq_iff_eq, bne_iff_ne, ne_eq, decide_eq_true_eq, decide_eq_false_iff_not, decide_eq_decide, bne_eq_false_iff_eq, beq_eq_false_iff_ne, Bool.not_eq_true, Bool.not_eq_false, Bool.not_eq_true', Bool.not_eq_false', Bool.true_beq, Bool.false_beq, Bool.true_bne, Bool.false_bne, Bool.bne_true, Bool.bne_false] at c5b1); (try unfold wrap64 at *); omega)
          · rw [if_neg c5] at H
            have c5b0 : ((bt (⟨#[48, 49, 50, 51, 52, 53, 54, 55, 56, 57, 65, 66, 67, 68, 69, 70, 71, 72, 73, 74, 75, 76, 77, 78, 79, 80, 81, 82, 83, 84, 85, 86, 87, 88, 89, 90, 95, 97, 98, 99, 100, 101, 102, 103, 104, 105, 106, 107, 108, 109, 110, 111, 112, 113, 114, 115, 116, 117, 118, 119, 120, 121, 122, 126]⟩ : ByteArray) x4_1) == a0) = false := beq_eq_false_iff_ne.mpr c5
            have c5b1 : ((bt (⟨#[48, 49, 50, 51, 52, 53, 54, 55, 56, 57, 65, 66, 67, 68, 69, 70, 71, 72, 73, 74, 75, 76, 77, 78, 79, 80, 81, 82, 83, 84, 85, 86, 87, 88, 89, 90, 95, 97, 98, 99, 100, 101, 102, 103, 104, 105, 106, 107, 108, 109, 110, 111, 112, 113, 114, 115, 116, 117, 118, 119, 120, 121, 122, 126]⟩ : ByteArray) x4_1) != a0) = true := bne_iff_ne.mpr c5
            have H' := Aside0.mk H
            clear H
            have p4 : 0 ≤ (x4_1 : Int) := of_decide_eq_true (by first | (with_reducible assumption) | assumption)
            have q4 : x4_1 < (64 : Int) := of_decide_eq_true (by first | (with_reducible assumption) | assumption)
            have hx4 := bt_at (⟨#[48, 49, 50, 51, 52, 53, 54, 55, 56, 57, 65, 66, 67, 68, 69, 70, 71, 72, 73, 74, 75, 76, 77, 78, 79, 80, 81, 82, 83, 84, 85, 86, 87, 88, 89, 90, 95, 97, 98, 99, 100, 101, 102, 103, 104, 105, 106, 107, 108, 109, 110, 111, 112, 113, 114, 115, 116, 117, 118, 119, 120, 121, 122, 126]⟩ : ByteArray) x4_1
            replace p4 := eq_true p4
            replace q4 := eq_true q4
            go_wp2
            go_roundg k1
            case measure => have := HK1.out; omega
            case rel => exact ⟨(wrap64 (x4_1 + 1)), (by first | rfl | (simp; done) | (simp [*]; done)), H', ⟨by have := HK1.out; omega⟩, by repeat (first | exact Drawn0.refl _ | apply Drawn0.step)⟩
            all_goals (exfalso; (try simp only [beq_iff_eq, bne_iff_ne, ne_eq, decide_eq_true_eq, decide_eq_false_iff_not, decide_eq_decide, bne_eq_false_iff_eq, beq_eq_false_iff_ne, Bool.not_eq_true, Bool.not_eq_false, Bool.not_eq_true', Bool.not_eq_false', Bool.true_beq, Bool.false_beq, Bool.true_bne, Bool.false_bne, Bool.bne_true, Bool.bne_false] at c2b0); (try simp only [beq_iff_eq, bne_iff_ne, ne_eq, decide_eq_true_eq, decide_eq_false_iff_not, decide_eq_decide, bne_eq_false_iff_eq, beq_eq_false_iff_ne, Bool.not_eq_true, Bool.not_eq_false, Bool.not_eq_true', Bool.not_eq_false', Bool.true_beq, Bool.false_beq, Bool.true_bne, Bool.false_bne, Bool.bne_true, Bool.bne_false] at c3b0); (try simp only [beq_iff_eq, bne_iff_ne, ne_eq, decide_eq_true_eq, decide_eq_false_iff_not, decide_eq_decide, bne_eq_false_iff_eq, beq_eq_false_iff_ne, Bool.not_eq_true, Bool.not_eq_false, Bool.not_eq_true', Bool.not_eq_false', Bool.true_beq, Bool.false_beq, Bool.true_bne, Bool.false_bne, Bool.bne_true, Bool.bne_false] at c5b0); (try simp only [beq_iff_eq, bne_iff_ne, ne_eq, decide_eq_true_eq, decide_eq_false_iff_not, decide_eq_decide, bne_eq_false_iff_eq, beq_eq_false_iff_ne, Bool.not_eq_true, Bool.not_eq_false, Bool.not_eq_true', Bool.not_eq_false', Bool.true_beq, Bool.false_beq, Bool.true_bne, Bool.false_bne, Bool.bne_true, Bool.bne_false] at c5b1); (try unfold wrap64 at *); omega)
        · rw [if_neg c3] at H
          exact absurd H (by simp)
      · rw [if_neg c2] at H
        have c2b0 : decide (x4_1 < 64) = false := decide_eq_false c2
        clear c2
        obtain rfl := Option.some.inj H
        go_wp2
        go_ret
        exact ⟨by first | rfl | (simp; done) | (simp [*]; done), by repeat (first | exact Drawn0.refl _ | apply Drawn0.step)⟩
        all_goals (exfalso; (try simp only [beq_iff_eq, bne_iff_ne, ne_eq, decide_eq_true_eq, decide_eq_false_iff_not, decide_eq_decide, bne_eq_false_iff_eq, beq_eq_false_iff_ne, Bool.not_eq_true, Bool.not_eq_false, Bool.not_eq_true', Bool.not_eq_false', Bool.true_beq, Bool.false_beq, Bool.true_bne, Bool.false_bne, Bool.bne_true, Bool.bne_false] at c2b0); (try unfold wrap64 at *); omega)

/-! ### ammoniteref1_Read: function 25 -/
mutual
def ammoniteref1_Read.l0 : Nat → ByteArray → Int → Int → Int → Option (Int × Int)
  | 0, _, _, _, _ => none
  | k + 1, x0, x1, x6, x7 => if x7 < (x0.size : Int) then (if 0 ≤ x7 then ((ammoniteref1_digit.f k (bt x0 x7)).bind fun t135 => (ammoniteref1_Read.j1 k x0 x1 x6 x7 (decide (t135 ≥ 0)))) else (none)) else (ammoniteref1_Read.j1 k x0 x1 x6 x7 false)
def ammoniteref1_Read.j1 : Nat → ByteArray → Int → Int → Int → Bool → Option (Int × Int)
  | 0, _, _, _, _, _ => none
  | k + 1, x0, x1, x6, x7, x19 => if x19 = true then (if 0 ≤ x7 then (if x7 < (x0.size : Int) then ((ammoniteref1_digit.f k (bt x0 x7)).bind fun t136 => (if (wrap64 ((wrap64 (x6 * 64)) + t136)) > 1073741824 then (some (0, (-1))) else (ammoniteref1_Read.l0 k x0 x1 (wrap64 ((wrap64 (x6 * 64)) + t136)) (wrap64 (x7 + 1))))) else (none)) else (none)) else (if x7 = x1 then (some (0, (-1))) else (if x7 > (wrap64 (x1 + 1)) then (if 0 ≤ x1 then (if x1 < (x0.size : Int) then (if (bt x0 x1) = 48 then (some (0, (-1))) else (some (x6, x7))) else (none)) else (none)) else (some (x6, x7))))
end
def ammoniteref1_Read.f (k : Nat) (a0 : ByteArray) (a1 : Int) : Option (Int × Int) := ammoniteref1_Read.l0 k a0 a1 0 a1
theorem ammoniteref1_Read.mono_l : ∀ k, (∀ y0 y1 y2 y3, LeO (ammoniteref1_Read.l0 k y0 y1 y2 y3) (ammoniteref1_Read.l0 (k + 1) y0 y1 y2 y3)) ∧ (∀ y0 y1 y2 y3 y4, LeO (ammoniteref1_Read.j1 k y0 y1 y2 y3 y4) (ammoniteref1_Read.j1 (k + 1) y0 y1 y2 y3 y4))
  | 0 => ⟨fun _ _ _ _ r h => by simp [ammoniteref1_Read.l0] at h, fun _ _ _ _ _ r h => by simp [ammoniteref1_Read.j1] at h⟩
  | k + 1 => by
    obtain ⟨ih0, ih1⟩ := ammoniteref1_Read.mono_l k
    refine ⟨?_, ?_⟩
    · intro y0 y1 y2 y3
      unfold ammoniteref1_Read.l0
      repeat' first
      | (with_reducible exact ih0 _ _ _ _)
      | (with_reducible exact ih1 _ _ _ _ _)
      | (with_reducible exact ammoniteref1_digit.mono _ _)
      | (with_reducible exact LeO.refl _)
      | (with_reducible exact LeO.none _)
      | (with_reducible refine LeO.ite ?_ ?_)
      | (with_reducible refine LeO.bind ?_ (fun _ => ?_))
      | exact ih0 _ _ _ _
      | exact ih1 _ _ _ _ _
      | exact ammoniteref1_digit.mono _ _
      | exact LeO.none _
      | refine LeO.ite ?_ ?_
      | refine LeO.bind ?_ (fun _ => ?_)
    · intro y0 y1 y2 y3 y4
      unfold ammoniteref1_Read.j1
      repeat' first
      | (with_reducible exact ih0 _ _ _ _)
      | (with_reducible exact ih1 _ _ _ _ _)
      | (with_reducible exact ammoniteref1_digit.mono _ _)
      | (with_reducible exact LeO.refl _)
      | (with_reducible exact LeO.none _)
      | (with_reducible refine LeO.ite ?_ ?_)
      | (with_reducible refine LeO.bind ?_ (fun _ => ?_))
      | exact ih0 _ _ _ _
      | exact ih1 _ _ _ _ _
      | exact ammoniteref1_digit.mono _ _
      | exact LeO.none _
      | refine LeO.ite ?_ ?_
      | refine LeO.bind ?_ (fun _ => ?_)
theorem ammoniteref1_Read.mono : ∀ a0 a1 k, LeO (ammoniteref1_Read.f k a0 a1) (ammoniteref1_Read.f (k + 1) a0 a1) := by
  intro a0 a1 k
  obtain ⟨ih0, ih1⟩ := ammoniteref1_Read.mono_l k
  unfold ammoniteref1_Read.f
  repeat' first
      | (with_reducible exact ih0 _ _ _ _)
      | (with_reducible exact ih1 _ _ _ _ _)
      | (with_reducible exact ammoniteref1_digit.mono _ _)
      | (with_reducible exact LeO.refl _)
      | (with_reducible exact LeO.none _)
      | (with_reducible refine LeO.ite ?_ ?_)
      | (with_reducible refine LeO.bind ?_ (fun _ => ?_))
      | exact ih0 _ _ _ _
      | exact ih1 _ _ _ _ _
      | exact ammoniteref1_digit.mono _ _
      | exact LeO.none _
      | refine LeO.ite ?_ ?_
      | refine LeO.bind ?_ (fun _ => ?_)
set_option maxHeartbeats 8000000 in
set_option maxRecDepth 100000 in
theorem ammoniteref1_Read.calls (k : Nat) (a0 : ByteArray) (a1 : Int) (r1 : Int) (r2 : Int) (w : World) (h : ammoniteref1_Read.f k a0 a1 = some (r1, r2)) :
    Calls Try.prog 25 #[.string a0, .int .i64 a1] w fun e w' => e = .returned (.tuple #[.int .i64 r1, .int .i64 r2]) ∧ Drawn0 w w' := by
  have H : (ammoniteref1_Read.l0 k a0 a1 0 a1) = some (r1, r2) := h
  clear h
  have H' := Aside0.mk H
  clear H
  go_enter Try.func25, Try.ntmps25
  go_wp2
  go_loopg [6, 7] k (fun kq v6 v7 w' => ∃ (x6_1 : Int) (x7_1 : Int), v6 = .int .i64 x6_1 ∧ v7 = .int .i64 x7_1 ∧ Aside0 (ammoniteref1_Read.l0 kq a0 a1 x6_1 x7_1 = some (r1, r2)) ∧ Aside0 (kq ≤ k) ∧ Drawn0 w w')
  case atStart => exact ⟨(0), (a1), (by first | rfl | (simp; done) | (simp [*]; done)), (by first | rfl | (simp; done) | (simp [*]; done)), H', ⟨Nat.le_refl _⟩, by repeat (first | exact Drawn0.refl _ | apply Drawn0.step)⟩
  case round =>
    clear H'
    try clear c2
    try clear p2
    obtain ⟨x6_1, x7_1, rfl, rfl, HA, HK1, ⟨m1, rfl⟩⟩ := hrel
    cases gk with
    | zero => exact absurd HA.out (by simp [ammoniteref1_Read.l0])
    | succ k1 =>
      have H := HA.out
      clear HA
      simp only [ammoniteref1_Read.l0] at H
      have HC3 := Aside0.mk H
      clear H
      go_upto_region 2 with (fail)
      go_cut [19] (fun v19 wc => ∃ (kq : Nat) (x19_2 : Bool), v19 = .bool x19_2 ∧ Aside0 (ammoniteref1_Read.j1 kq a0 a1 x6_1 x7_1 x19_2 = some (r1, r2)) ∧ Aside0 (kq ≤ k1) ∧ Drawn0 w wc)
      case first =>
        have H := HC3.out
        clear HC3
        by_cases c4 : x7_1 < (a0.size : Int)
        · rw [if_pos c4] at H
          have c4b0 : decide (x7_1 < (a0.size : Int)) = true := decide_eq_true c4
          clear c4
          (first | rw [c4b0] | (simp only [i64_w, i32_w]; rw [c4b0]) | skip)
          by_cases c5 : 0 ≤ x7_1
          · rw [if_pos c5] at H
            have c5b0 : decide (0 ≤ x7_1) = true := decide_eq_true c5
            clear c5
            replace H := Option.bind_eq_some_iff.mp H
            obtain ⟨t135, A70, H⟩ := H
            replace H : (ammoniteref1_Read.j1 k1 a0 a1 x6_1 x7_1 (decide (t135 ≥ 0))) = some (r1, r2) := H
            have A7 := Aside0.mk A70
            clear A70
            have H' := Aside0.mk H
            clear H
            have p6 : 0 ≤ (x7_1 : Int) := of_decide_eq_true (by first | (with_reducible assumption) | assumption)
            have q6 : x7_1 < (a0.size : Int) := of_decide_eq_true (by first | (with_reducible assumption) | assumption)
            have hx6 := bt_at a0 x7_1
            replace p6 := eq_true p6
            replace q6 := eq_true q6
            go_wp2_with (first | (go_at_call 37; (try simp only [i64_w, i32_w]); (with_reducible refine (ammoniteref1_digit.calls k1 (bt a0 x7_1) t135 _ A7.out).mono ?_); rintro e w' ⟨rfl, ⟨nd, rfl⟩⟩))
            go_meet
            case rel => exact ⟨_, (decide (t135 ≥ 0)), (by first | rfl | (simp; done) | (simp [*]; done)), H', ⟨by have := HK1.out; first | omega | exact Nat.le_refl _⟩, by repeat (first | exact Drawn0.refl _ | apply Drawn0.step)⟩
            all_goals (exfalso; (try simp only [beq_iff_eq, bne_iff_ne, ne_eq, decide_eq_true_eq, decide_eq_false_iff_not, decide_eq_decide, bne_eq_false_iff_eq, beq_eq_false_iff_ne, Bool.not_eq_true, Bool.not_eq_false, Bool.not_eq_true', Bool.not_eq_false', Bool.true_beq, Bool.false_beq, Bool.true_bne, Bool.false_bne, Bool.bne_true, Bool.bne_false] at c4b0); (try simp only [beq_iff_eq, bne_iff_ne, ne_eq, decide_eq_true_eq, decide_eq_false_iff_not, decide_eq_decide, bne_eq_false_iff_eq, beq_eq_false_iff_ne, Bool.not_eq_true, Bool.not_eq_false, Bool.not_eq_true', Bool.not_eq_false', Bool.true_beq, Bool.false_beq, Bool.true_bne, Bool.false_bne, Bool.bne_true, Bool.bne_false] at c5b0); (try unfold wrap64 at *); omega)
          · rw [if_neg c5] at H
            exact absurd H (by simp)
        · rw [if_neg c4] at H
          have c4b0 : decide (x7_1 < (a0.size : Int)) = false := decide_eq_false c4
          clear c4
          (first | rw [c4b0] | (simp only [i64_w, i32_w]; rw [c4b0]) | skip)
          have H' := Aside0.mk H
          clear H
          go_wp2
          go_meet
          case rel => exact ⟨_, (false), (by first | rfl | (simp; done) | (simp [*]; done)), H', ⟨by have := HK1.out; first | omega | exact Nat.le_refl _⟩, by repeat (first | exact Drawn0.refl _ | apply Drawn0.step)⟩
          all_goals (exfalso; (try simp only [beq_iff_eq, bne_iff_ne, ne_eq, decide_eq_true_eq, decide_eq_false_iff_not, decide_eq_decide, bne_eq_false_iff_eq, beq_eq_false_iff_ne, Bool.not_eq_true, Bool.not_eq_false, Bool.not_eq_true', Bool.not_eq_false', Bool.true_beq, Bool.false_beq, Bool.true_bne, Bool.false_bne, Bool.bne_true, Bool.bne_false] at c4b0); (try unfold wrap64 at *); omega)
      case rest =>
        clear HC3
        try clear c2
        try clear p2
        try clear c4
        try clear c4b0
        try clear c5
        try clear c5b0
        try clear p6
        try clear q6
        try clear hx6
        try clear p2
        try clear p6
        try clear q6
        obtain ⟨kq, x19_2, rfl, HA, HJ2, ⟨mc2, rfl⟩⟩ := hcut
        cases kq with
        | zero => exact absurd HA.out (by simp [ammoniteref1_Read.j1])
        | succ kj2 =>
          have H := HA.out
          clear HA
          simp only [ammoniteref1_Read.j1] at H
          by_cases c8 : x19_2 = true
          · subst c8
            have H1 : (if 0 ≤ x7_1 then (if x7_1 < (a0.size : Int) then ((ammoniteref1_digit.f kj2 (bt a0 x7_1)).bind fun t136 => (if (wrap64 ((wrap64 (x6_1 * 64)) + t136)) > 1073741824 then (some (0, (-1))) else (ammoniteref1_Read.l0 kj2 a0 a1 (wrap64 ((wrap64 (x6_1 * 64)) + t136)) (wrap64 (x7_1 + 1))))) else (none)) else (none)) = some (r1, r2) := by rw [if_pos rfl] at H; exact H
            clear H
            have H := H1
            clear H1
            by_cases c9 : 0 ≤ x7_1
            · rw [if_pos c9] at H
              have c9b0 : decide (0 ≤ x7_1) = true := decide_eq_true c9
              clear c9
              by_cases c10 : x7_1 < (a0.size : Int)
              · rw [if_pos c10] at H
                have c10b0 : decide (x7_1 < (a0.size : Int)) = true := decide_eq_true c10
                clear c10
                replace H := Option.bind_eq_some_iff.mp H
                obtain ⟨t136, A120, H⟩ := H
                replace H : (if (wrap64 ((wrap64 (x6_1 * 64)) + t136)) > 1073741824 then (some (0, (-1))) else (ammoniteref1_Read.l0 kj2 a0 a1 (wrap64 ((wrap64 (x6_1 * 64)) + t136)) (wrap64 (x7_1 + 1)))) = some (r1, r2) := H
                have A12 := Aside0.mk A120
                clear A120
                by_cases c13 : (wrap64 ((wrap64 (x6_1 * 64)) + t136)) > 1073741824
                · rw [if_pos c13] at H
                  have c13b0 : decide (1073741824 < (wrap64 ((wrap64 (x6_1 * 64)) + t136))) = true := decide_eq_true c13
                  clear c13
                  simp only [Option.some.injEq, Prod.mk.injEq] at H
                  obtain ⟨rfl, rfl⟩ := H
                  have p11 : 0 ≤ (x7_1 : Int) := of_decide_eq_true (by first | (with_reducible assumption) | assumption)
                  have q11 : x7_1 < (a0.size : Int) := of_decide_eq_true (by first | (with_reducible assumption) | assumption)
                  have hx11 := bt_at a0 x7_1
                  replace p11 := eq_true p11
                  replace q11 := eq_true q11
                  go_wp2_with (first | ((with_reducible refine gate_callee (f := 37) rfl ?_); refine goesL_ (some 25) rfl rfl Try.func37 (by kernel_rfl) rfl #[.int .u8 (bt a0 x7_1)] rfl (by (try simp only [List.map_toArray, List.map_cons, List.map_nil]); first | done | rfl | (simp only [List.length_drop, List.length_take]; rfl)) ?_; (with_reducible refine (ammoniteref1_digit.calls kj2 (bt a0 x7_1) t136 _ A12.out).mono ?_); rintro e w' ⟨rfl, ⟨nd, rfl⟩⟩; refine ⟨_, rfl, ?_⟩))
                  go_ret2
                  exact ⟨by first | rfl | (simp; done) | (simp [*]; done), by repeat (first | exact Drawn0.refl _ | apply Drawn0.step)⟩
                  all_goals (exfalso; (try simp only [beq_iff_eq, bne_iff_ne, ne_eq, decide_eq_true_eq, decide_eq_false_iff_not, decide_eq_decide, bne_eq_false_iff_eq, beq_eq_false_iff_ne, Bool.not_eq_true, Bool.not_eq_false, Bool.not_eq_true', Bool.not_eq_false', Bool.true_beq, Bool.false_beq, Bool.true_bne, Bool.false_bne, Bool.bne_true, Bool.bne_false] at c9b0); (try simp only [beq_iff_eq, bne_iff_ne, ne_eq, decide_eq_true_eq, decide_eq_false_iff_not, decide_eq_decide, bne_eq_false_iff_eq, beq_eq_false_iff_ne, Bool.not_eq_true, Bool.not_eq_false, Bool.not_eq_true', Bool.not_eq_false', Bool.true_beq, Bool.false_beq, Bool.true_bne, Bool.false_bne, Bool.bne_true, Bool.bne_false] at c10b0); (try simp only [beq_iff_eq, bne_iff_ne, ne_eq, decide_eq_true_eq, decide_eq_false_iff_not, decide_eq_decide, bne_eq_false_iff_eq, beq_eq_false_iff_ne, Bool.not_eq_true, Bool.not_eq_false, Bool.not_eq_true', Bool.not_eq_false', Bool.true_beq, Bool.false_beq, Bool.true_bne, Bool.false_bne, Bool.bne_true, Bool.bne_false] at c13b0); (try unfold wrap64 at *); omega)
                · rw [if_neg c13] at H
                  have c13b0 : decide (1073741824 < (wrap64 ((wrap64 (x6_1 * 64)) + t136))) = false := decide_eq_false c13
                  clear c13
                  have H' := Aside0.mk H
                  clear H
                  have p11 : 0 ≤ (x7_1 : Int) := of_decide_eq_true (by first | (with_reducible assumption) | assumption)
                  have q11 : x7_1 < (a0.size : Int) := of_decide_eq_true (by first | (with_reducible assumption) | assumption)
                  have hx11 := bt_at a0 x7_1
                  replace p11 := eq_true p11
                  replace q11 := eq_true q11
                  go_wp2_with (first | ((with_reducible refine gate_callee (f := 37) rfl ?_); refine goesL_ (some 25) rfl rfl Try.func37 (by kernel_rfl) rfl #[.int .u8 (bt a0 x7_1)] rfl (by (try simp only [List.map_toArray, List.map_cons, List.map_nil]); first | done | rfl | (simp only [List.length_drop, List.length_take]; rfl)) ?_; (with_reducible refine (ammoniteref1_digit.calls kj2 (bt a0 x7_1) t136 _ A12.out).mono ?_); rintro e w' ⟨rfl, ⟨nd, rfl⟩⟩; refine ⟨_, rfl, ?_⟩))
                  go_roundg kj2
                  case measure => have := HK1.out; have := HJ2.out; omega
                  case rel => exact ⟨(wrap64 ((wrap64 (x6_1 * 64)) + t136)), (wrap64 (x7_1 + 1)), (by first | rfl | (simp; done) | (simp [*]; done)), (by first | rfl | (simp; done) | (simp [*]; done)), H', ⟨by have := HK1.out; have := HJ2.out; omega⟩, by repeat (first | exact Drawn0.refl _ | apply Drawn0.step)⟩
                  all_goals (exfalso; (try simp only [beq_iff_eq, bne_iff_ne, ne_eq, decide_eq_true_eq, decide_eq_false_iff_not, decide_eq_decide, bne_eq_false_iff_eq, beq_eq_false_iff_ne, Bool.not_eq_true, Bool.not_eq_false, Bool.not_eq_true', Bool.not_eq_false', Bool.true_beq, Bool.false_beq, Bool.true_bne, Bool.false_bne, Bool.bne_true, Bool.bne_false] at c9b0); (try simp only [beq_iff_eq, bne_iff_ne, ne_eq, decide_eq_true_eq, decide_eq_false_iff_not, decide_eq_decide, bne_eq_false_iff_eq, beq_eq_false_iff_ne, Bool.not_eq_true, Bool.not_eq_false, Bool.not_eq_true', Bool.not_eq_false', Bool.true_beq, Bool.false_beq, Bool.true_bne, Bool.false_bne, Bool.bne_true, Bool.bne_false] at c10b0); (try simp only [beq_iff_eq, bne_iff_ne, ne_eq, decide_eq_true_eq, decide_eq_false_iff_not, decide_eq_decide, bne_eq_false_iff_eq, beq_eq_false_iff_ne, Bool.not_eq_true, Bool.not_eq_false, Bool.not_eq_true', Bool.not_eq_false', Bool.true_beq, Bool.false_beq, Bool.true_bne, Bool.false_bne, Bool.bne_true, Bool.bne_false] at c13b0); (try unfold wrap64 at *); omega)
              · rw [if_neg c10] at H
                exact absurd H (by simp)
            · rw [if_neg c9] at H
              exact absurd H (by simp)
          · replace c8 := Bool.eq_false_iff.mpr c8
            subst c8
            have H1 : (if x7_1 = a1 then (some (0, (-1))) else (if x7_1 > (wrap64 (a1 + 1)) then (if 0 ≤ a1 then (if a1 < (a0.size : Int) then (if (bt a0 a1) = 48 then (some (0, (-1))) else (some (x6_1, x7_1))) else (none)) else (none)) else (some (x6_1, x7_1)))) = some (r1, r2) := by rw [if_neg (show ¬ (false = true) by decide)] at H; exact H
            clear H
            have H := H1
            clear H1
            by_cases c14 : x7_1 = a1
            · rw [if_pos c14] at H
              have c14b0 : (x7_1 == a1) = true := beq_iff_eq.mpr c14
              have c14b1 : (x7_1 != a1) = false := bne_eq_false_iff_eq.mpr c14
              clear c14
              simp only [Option.some.injEq, Prod.mk.injEq] at H
              obtain ⟨rfl, rfl⟩ := H
              go_wp2
              go_ret2
              exact ⟨by first | rfl | (simp; done) | (simp [*]; done), by repeat (first | exact Drawn0.refl _ | apply Drawn0.step)⟩
              all_goals (exfalso; (try simp only [beq_iff_eq, bne_iff_ne, ne_eq, decide_eq_true_eq, decide_eq_false_iff_not, decide_eq_decide, bne_eq_false_iff_eq, beq_eq_false_iff_ne, Bool.not_eq_true, Bool.not_eq_false, Bool.not_eq_true', Bool.not_eq_false', Bool.true_beq, Bool.false_beq, Bool.true_bne, Bool.false_bne, Bool.bne_true, Bool.bne_false] at c14b0); (try simp only [beq_iff_eq, bne_iff_ne, ne_eq, decide_eq_true_eq, decide_eq_false_iff_not, decide_eq_decide, bne_eq_false_iff_eq, beq_eq_false_iff_ne, Bool.not_eq_true, Bool.not_eq_false, Bool.not_eq_true', Bool.not_eq_false', Bool.true_beq, Bool.false_beq, Bool.true_bne, Bool.false_bne, Bool.bne_true, Bool.bne_false] at c14b1); (try unfold wrap64 at *); omega)
            · rw [if_neg c14] at H
              have c14b0 : (x7_1 == a1) = false := beq_eq_false_iff_ne.mpr c14
              have c14b1 : (x7_1 != a1) = true := bne_iff_ne.mpr c14
              by_cases c15 : x7_1 > (wrap64 (a1 + 1))
              · rw [if_pos c15] at H
                have c15b0 : decide ((wrap64 (a1 + 1)) < x7_1) = true := decide_eq_true c15
                clear c15
                by_cases c16 : 0 ≤ a1
                · rw [if_pos c16] at H
                  have c16b0 : decide (0 ≤ a1) = true := decide_eq_true c16
                  clear c16
                  by_cases c17 : a1 < (a0.size : Int)
                  · rw [if_pos c17] at H
                    have c17b0 : decide (a1 < (a0.size : Int)) = true := decide_eq_true c17
                    clear c17
                    by_cases c19 : (bt a0 a1) = 48
                    · rw [if_pos c19] at H
                      have c19b0 : ((bt a0 a1) == 48) = true := beq_iff_eq.mpr c19
                      have c19b1 : ((bt a0 a1) != 48) = false := bne_eq_false_iff_eq.mpr c19
                      clear c19
                      simp only [Option.some.injEq, Prod.mk.injEq] at H
                      obtain ⟨rfl, rfl⟩ := H
                      have p18 : 0 ≤ (a1 : Int) := of_decide_eq_true (by first | (with_reducible assumption) | assumption)
                      have q18 : a1 < (a0.size : Int) := of_decide_eq_true (by first | (with_reducible assumption) | assumption)
                      have hx18 := bt_at a0 a1
                      replace p18 := eq_true p18
                      replace q18 := eq_true q18
                      go_wp2
                      go_ret2
                      exact ⟨by first | rfl | (simp; done) | (simp [*]; done), by repeat (first | exact Drawn0.refl _ | apply Drawn0.step)⟩
                      all_goals (exfalso; (try simp only [beq_iff_eq, bne_iff_ne, ne_eq, decide_eq_true_eq, decide_eq_false_iff_not, decide_eq_decide, bne_eq_false_iff_eq, beq_eq_false_iff_ne, Bool.not_eq_true, Bool.not_eq_false, Bool.not_eq_true', Bool.not_eq_false', Bool.true_beq, Bool.false_beq, Bool.true_bne, Bool.false_bne, Bool.bne_true, Bool.bne_false] at c14b0); (try simp only [beq_iff_eq, bne_iff_ne, ne_eq, decide_eq_true_eq, decide_eq_false_iff_not, decide_eq_decide, bne_eq_false_iff_eq, beq_eq_false_iff_ne, Bool.not_eq_true, Bool.not_eq_false, Bool.not_eq_true', Bool.not_eq_false', Bool.true_beq, Bool.false_beq, Bool.true_bne, Bool.false_bne, Bool.bne_true, Bool.bne_false] at c14b1); (try simp only [beq_iff_eq, bne_iff_ne, ne_eq, decide_eq_true_eq, decide_eq_false_iff_not, decide_eq_decide, bne_eq_false_iff_eq, beq_eq_false_iff_ne, Bool.not_eq_true, Bool.not_eq_false, Bool.not_eq_true', Bool.not_eq_false', Bool.true_beq, Bool.false_beq, Bool.true_bne, Bool.false_bne, Bool.bne_true, Bool.bne_false] at c15b0); (try simp only [beq_iff_eq, bne_iff_ne, ne_eq, decide_eq_true_eq, decide_eq_false_iff_not, decide_eq_decide, bne_eq_false_iff_eq, beq_eq_false_iff_ne, Bool.not_eq_true, Bool.not_eq_false, Bool.not_eq_true', Bool.not_eq_false', Bool.true_beq, Bool.false_beq, Bool.true_bne, Bool.false_bne, Bool.bne_true, Bool.bne_false] at c16b0); (try simp only [beq_iff_eq, bne_iff_ne, ne_eq, decide_eq_true_eq, decide_eq_false_iff_not, decide_eq_decide, bne_eq_false_iff_eq, beq_eq_false_iff_ne, Bool.not_eq_true, Bool.not_eq_false, Bool.not_eq_true', Bool.not_eq_false', Bool.true_beq, Bool.false_beq, Bool.true_bne, Bool.false_bne, Bool.bne_true, Bool.bne_false] at c17b0); (try simp only [beq_iff_eq, bne_iff_ne, ne_eq, decide_eq_true_eq, decide_eq_false_iff_not, decide_eq_decide, bne_eq_false_iff_eq, beq_eq_false_iff_ne, Bool.not_eq_true, Bool.not_eq_false, Bool.not_eq_true', Bool.not_eq_false', Bool.true_beq, Bool.false_beq, Bool.true_bne, Bool.false_bne, Bool.bne_true, Bool.bne_false] at c19b0); (try simp only [beq_iff_eq, bne_iff_ne, ne_eq, decide_eq_true_eq, decide_eq_false_iff_not, decide_eq_decide, bne_eq_false_iff_eq, beq_eq_false_iff_ne, Bool.not_eq_true, Bool.not_eq_false, Bool.not_eq_true', Bool.not_eq_false', Bool.true_beq, Bool.false_beq, Bool.true_bne, Bool.false_bne, Bool.bne_true, Bool.bne_false] at c19b1); (try unfold wrap64 at *); omega)
                    · rw [if_neg c19] at H
                      have c19b0 : ((bt a0 a1) == 48) = false := beq_eq_false_iff_ne.mpr c19
                      have c19b1 : ((bt a0 a1) != 48) = true := bne_iff_ne.mpr c19
                      simp only [Option.some.injEq, Prod.mk.injEq] at H
                      obtain ⟨rfl, rfl⟩ := H
                      have p18 : 0 ≤ (a1 : Int) := of_decide_eq_true (by first | (with_reducible assumption) | assumption)
                      have q18 : a1 < (a0.size : Int) := of_decide_eq_true (by first | (with_reducible assumption) | assumption)
                      have hx18 := bt_at a0 a1
                      replace p18 := eq_true p18
                      replace q18 := eq_true q18
                      go_wp2
                      go_ret2
                      exact ⟨by first | rfl | (simp; done) | (simp [*]; done), by repeat (first | exact Drawn0.refl _ | apply Drawn0.step)⟩
                      all_goals (exfalso; (try simp only [beq_iff_eq, bne_iff_ne, ne_eq, decide_eq_true_eq, decide_eq_false_iff_not, decide_eq_decide, bne_eq_false_iff_eq, beq_eq_false_iff_ne, Bool.not_eq_true, Bool.not_eq_false, Bool.not_eq_true', Bool.not_eq_false', Bool.true_beq, Bool.false_beq, Bool.true_bne, Bool.false_bne, Bool.bne_true, Bool.bne_false] at c14b0); (try simp only [beq_iff_eq, bne_iff_ne, ne_eq, decide_eq_true_eq, decide_eq_false_iff_not, decide_eq_decide, bne_eq_false_iff_eq, beq_eq_false_iff_ne, Bool.not_eq_true, Bool.not_eq_false, Bool.not_eq_true', Bool.not_eq_false', Bool.true_beq, Bool.false_beq, Bool.true_bne, Bool.false_bne, Bool.bne_true, Bool.bne_false] at c14b1); (try simp only [beq_iff_eq, bne_iff_ne, ne_eq, decide_eq_true_eq, decide_eq_false_iff_not, decide_eq_decide, bne_eq_false_iff_eq, beq_eq_false_iff_ne, Bool.not_eq_true, Bool.not_eq_false, Bool.not_eq_true', Bool.not_eq_false', Bool.true_beq, Bool.false_beq, Bool.true_bne, Bool.false_bne, Bool.bne_true, Bool.bne_false] at c15b0); (try simp only [beq_iff_eq, bne_iff_ne, ne_eq, decide_eq_true_eq, decide_eq_false_iff_not, decide_eq_decide, bne_eq_false_iff_eq, beq_eq_false_iff_ne, Bool.not_eq_true, Bool.not_eq_false, Bool.not_eq_true', Bool.not_eq_false', Bool.true_beq, Bool.false_beq, Bool.true_bne, Bool.false_bne, Bool.bne_true, Bool.bne_false] at c16b0); (try simp only [beq_iff_eq, bne_iff_ne, ne_eq, decide_eq_true_eq, decide_eq_false_iff_not, decide_eq_decide, bne_eq_false_iff_eq, beq_eq_false_iff_ne, Bool.not_eq_true, Bool.not_eq_false, Bool.not_eq_true', Bool.not_eq_false', Bool.true_beq, Bool.false_beq, Bool.true_bne, Bool.false_bne, Bool.bne_true, Bool.bne_false] at c17b0); (try simp only [beq_iff_eq, bne_iff_ne, ne_eq, decide_eq_true_eq, decide_eq_false_iff_not, decide_eq_decide, bne_eq_false_iff_eq, beq_eq_false_iff_ne, Bool.not_eq_true, Bool.not_eq_false, Bool.not_eq_true', Bool.not_eq_false', Bool.true_beq, Bool.false_beq, Bool.true_bne, Bool.false_bne, Bool.bne_true, Bool.bne_false] at c19b0); (try simp only [beq_iff_eq, bne_iff_ne, ne_eq, decide_eq_true_eq, decide_eq_false_iff_not, decide_eq_decide, bne_eq_false_iff_eq, beq_eq_false_iff_ne, Bool.not_eq_true, Bool.not_eq_false, Bool.not_eq_true', Bool.not_eq_false', Bool.true_beq, Bool.false_beq, Bool.true_bne, Bool.false_bne, Bool.bne_true, Bool.bne_false] at c19b1); (try unfold wrap64 at *); omega)
                  · rw [if_neg c17] at H
                    exact absurd H (by simp)
                · rw [if_neg c16] at H
                  exact absurd H (by simp)
              · rw [if_neg c15] at H
                have c15b0 : decide ((wrap64 (a1 + 1)) < x7_1) = false := decide_eq_false c15
                clear c15
                simp only [Option.some.injEq, Prod.mk.injEq] at H
                obtain ⟨rfl, rfl⟩ := H
                go_wp2
                go_ret2
                exact ⟨by first | rfl | (simp; done) | (simp [*]; done), by repeat (first | exact Drawn0.refl _ | apply Drawn0.step)⟩
                all_goals (exfalso; (try simp only [beq_iff_eq, bne_iff_ne, ne_eq, decide_eq_true_eq, decide_eq_false_iff_not, decide_eq_decide, bne_eq_false_iff_eq, beq_eq_false_iff_ne, Bool.not_eq_true, Bool.not_eq_false, Bool.not_eq_true', Bool.not_eq_false', Bool.true_beq, Bool.false_beq, Bool.true_bne, Bool.false_bne, Bool.bne_true, Bool.bne_false] at c14b0); (try simp only [beq_iff_eq, bne_iff_ne, ne_eq, decide_eq_true_eq, decide_eq_false_iff_not, decide_eq_decide, bne_eq_false_iff_eq, beq_eq_false_iff_ne, Bool.not_eq_true, Bool.not_eq_false, Bool.not_eq_true', Bool.not_eq_false', Bool.true_beq, Bool.false_beq, Bool.true_bne, Bool.false_bne, Bool.bne_true, Bool.bne_false] at c14b1); (try simp only [beq_iff_eq, bne_iff_ne, ne_eq, decide_eq_true_eq, decide_eq_false_iff_not, decide_eq_decide, bne_eq_false_iff_eq, beq_eq_false_iff_ne, Bool.not_eq_true, Bool.not_eq_false, Bool.not_eq_true', Bool.not_eq_false', Bool.true_beq, Bool.false_beq, Bool.true_bne, Bool.false_bne, Bool.bne_true, Bool.bne_false] at c15b0); (try unfold wrap64 at *); omega)

/-! ### ammoniteref1_Check: function 26 -/
mutual
def ammoniteref1_Check.l0 : Nat → ByteArray → Int → Int → Option (Int)
  | 0, _, _, _ => none
  | k + 1, x0, x3, x4 => if x4 < (x0.size : Int) then (ammoniteref1_Check.l1 k x0 x3 x4 0 0) else (some (wrap64 (Go.bits .and .u32 x3 1073741823)))
def ammoniteref1_Check.l1 : Nat → ByteArray → Int → Int → Int → Int → Option (Int)
  | 0, _, _, _, _, _ => none
  | k + 1, x0, x3, x4, x5, x13 => if x13 < 4 then (if (wrap64 (x4 + x13)) < (x0.size : Int) then (if 0 ≤ (wrap64 (x4 + x13)) then (ammoniteref1_Check.l1 k x0 x3 x4 (Go.bits .or .u32 ((x5 * 256) % 4294967296) ((bt x0 (wrap64 (x4 + x13))) % 4294967296)) (wrap64 (x13 + 1))) else (none)) else (ammoniteref1_Check.l1 k x0 x3 x4 ((x5 * 256) % 4294967296) (wrap64 (x13 + 1)))) else (ammoniteref1_Check.l0 k x0 ((x3 + x5) % 4294967296) (wrap64 (x4 + 4)))
end
def ammoniteref1_Check.f (k : Nat) (a0 : ByteArray) : Option (Int) := ammoniteref1_Check.l0 k a0 0 0
theorem ammoniteref1_Check.mono_l : ∀ k, (∀ y0 y1 y2, LeO (ammoniteref1_Check.l0 k y0 y1 y2) (ammoniteref1_Check.l0 (k + 1) y0 y1 y2)) ∧ (∀ y0 y1 y2 y3 y4, LeO (ammoniteref1_Check.l1 k y0 y1 y2 y3 y4) (ammoniteref1_Check.l1 (k + 1) y0 y1 y2 y3 y4))
  | 0 => ⟨fun _ _ _ r h => by simp [ammoniteref1_Check.l0] at h, fun _ _ _ _ _ r h => by simp [ammoniteref1_Check.l1] at h⟩
  | k + 1 => by
    obtain ⟨ih0, ih1⟩ := ammoniteref1_Check.mono_l k
    refine ⟨?_, ?_⟩
    · intro y0 y1 y2
      unfold ammoniteref1_Check.l0
      repeat' first
      | (with_reducible exact ih0 _ _ _)
      | (with_reducible exact ih1 _ _ _ _ _)
      | (with_reducible exact LeO.refl _)
      | (with_reducible exact LeO.none _)
      | (with_reducible refine LeO.ite ?_ ?_)
      | (with_reducible refine LeO.bind ?_ (fun _ => ?_))
      | exact ih0 _ _ _
      | exact ih1 _ _ _ _ _
      | exact LeO.none _
      | refine LeO.ite ?_ ?_
      | refine LeO.bind ?_ (fun _ => ?_)
    · intro y0 y1 y2 y3 y4
      unfold ammoniteref1_Check.l1
      repeat' first
      | (with_reducible exact ih0 _ _ _)
      | (with_reducible exact ih1 _ _ _ _ _)
      | (with_reducible exact LeO.refl _)
      | (with_reducible exact LeO.none _)
      | (with_reducible refine LeO.ite ?_ ?_)
      | (with_reducible refine LeO.bind ?_ (fun _ => ?_))
      | exact ih0 _ _ _
      | exact ih1 _ _ _ _ _
      | exact LeO.none _
      | refine LeO.ite ?_ ?_
      | refine LeO.bind ?_ (fun _ => ?_)
theorem ammoniteref1_Check.mono : ∀ a0 k, LeO (ammoniteref1_Check.f k a0) (ammoniteref1_Check.f (k + 1) a0) := by
  intro a0 k
  obtain ⟨ih0, ih1⟩ := ammoniteref1_Check.mono_l k
  unfold ammoniteref1_Check.f
  repeat' first
      | (with_reducible exact ih0 _ _ _)
      | (with_reducible exact ih1 _ _ _ _ _)
      | (with_reducible exact LeO.refl _)
      | (with_reducible exact LeO.none _)
      | (with_reducible refine LeO.ite ?_ ?_)
      | (with_reducible refine LeO.bind ?_ (fun _ => ?_))
      | exact ih0 _ _ _
      | exact ih1 _ _ _ _ _
      | exact LeO.none _
      | refine LeO.ite ?_ ?_
      | refine LeO.bind ?_ (fun _ => ?_)
set_option maxHeartbeats 8000000 in
set_option maxRecDepth 100000 in
theorem ammoniteref1_Check.calls (k : Nat) (a0 : ByteArray) (r : Int) (w : World) (h : ammoniteref1_Check.f k a0 = some r) :
    Calls Try.prog 26 #[.string a0] w fun e w' => e = .returned (.int .i64 r) ∧ Drawn0 w w' := by
  have H : (ammoniteref1_Check.l0 k a0 0 0) = some r := h
  clear h
  have H' := Aside0.mk H
  clear H
  go_enter Try.func26, Try.ntmps26
  go_wp2
  go_loopg [3, 4] k (fun kq v3 v4 w' => ∃ (x3_1 : Int) (x4_1 : Int), v3 = .int .u32 x3_1 ∧ v4 = .int .i64 x4_1 ∧ Aside0 (ammoniteref1_Check.l0 kq a0 x3_1 x4_1 = some r) ∧ Aside0 (kq ≤ k) ∧ Drawn0 w w')
  case atStart => exact ⟨(0), (0), (by first | rfl | (simp; done) | (simp [*]; done)), (by first | rfl | (simp; done) | (simp [*]; done)), H', ⟨Nat.le_refl _⟩, by repeat (first | exact Drawn0.refl _ | apply Drawn0.step)⟩
  case round =>
    clear H'
    obtain ⟨x3_1, x4_1, rfl, rfl, HA, HK1, ⟨m1, rfl⟩⟩ := hrel
    cases gk with
    | zero => exact absurd HA.out (by simp [ammoniteref1_Check.l0])
    | succ k1 =>
      have H := HA.out
      clear HA
      simp only [ammoniteref1_Check.l0] at H
      by_cases c2 : x4_1 < (a0.size : Int)
      · rw [if_pos c2] at H
        have c2b0 : decide (x4_1 < (a0.size : Int)) = true := decide_eq_true c2
        clear c2
        have H' := Aside0.mk H
        clear H
        go_wp2
        go_loopg [5, 13] k1 (fun kq v5 v13 w' => ∃ (x5_2 : Int) (x13_2 : Int), v5 = .int .u32 x5_2 ∧ v13 = .int .i64 x13_2 ∧ Aside0 (ammoniteref1_Check.l1 kq a0 x3_1 x4_1 x5_2 x13_2 = some r) ∧ Aside0 (kq ≤ k1) ∧ Drawn0 w w')
        case atStart => exact ⟨(0), (0), (by first | rfl | (simp; done) | (simp [*]; done)), (by first | rfl | (simp; done) | (simp [*]; done)), H', ⟨Nat.le_refl _⟩, by repeat (first | exact Drawn0.refl _ | apply Drawn0.step)⟩
        case round =>
          clear H'
          try clear c2
          try clear c2b0
          try clear p2
          obtain ⟨x5_2, x13_2, rfl, rfl, HA, HK2, ⟨m2, rfl⟩⟩ := hrel
          cases gk with
          | zero => exact absurd HA.out (by simp [ammoniteref1_Check.l1])
          | succ k2 =>
            have H := HA.out
            clear HA
            simp only [ammoniteref1_Check.l1] at H
            by_cases c3 : x13_2 < 4
            · rw [if_pos c3] at H
              have c3b0 : decide (x13_2 < 4) = true := decide_eq_true c3
              clear c3
              by_cases c4 : (wrap64 (x4_1 + x13_2)) < (a0.size : Int)
              · rw [if_pos c4] at H
                have c4b0 : decide ((wrap64 (x4_1 + x13_2)) < (a0.size : Int)) = true := decide_eq_true c4
                clear c4
                obtain ⟨ji5, hji5⟩ : ∃ j_ : Int, (wrap64 (x4_1 + x13_2)) = j_ := ⟨_, rfl⟩
                replace H : (if 0 ≤ (ji5) then (ammoniteref1_Check.l1 k2 a0 x3_1 x4_1 (Go.bits .or .u32 ((x5_2 * 256) % 4294967296) ((bt a0 (ji5)) % 4294967296)) (wrap64 (x13_2 + 1))) else (none)) = some r := by first | (rw [hji5] at H; exact H) | (simp only [hji5] at H ⊢; exact H)
                (try rw [hji5] at c4b0)
                have hji5w : (IntKind.i64.wrap (x4_1 + x13_2)) = ji5 := (i64_w _).trans hji5
                by_cases c6 : 0 ≤ (ji5)
                · rw [if_pos c6] at H
                  have c6b0 : decide (0 ≤ (ji5)) = true := decide_eq_true c6
                  clear c6
                  have H' := Aside0.mk H
                  clear H
                  have p7 : 0 ≤ ((ji5) : Int) := of_decide_eq_true (by first | (with_reducible assumption) | assumption)
                  have q7 : (ji5) < (a0.size : Int) := of_decide_eq_true (by first | (with_reducible assumption) | assumption)
                  have hx7 := bt_at a0 (ji5)
                  replace p7 := eq_true p7
                  replace q7 := eq_true q7
                  go_wp2
                  go_roundg k2
                  case measure => have := HK1.out; have := HK2.out; omega
                  case rel => exact ⟨(Go.bits .or .u32 ((x5_2 * 256) % 4294967296) ((bt a0 (ji5)) % 4294967296)), (wrap64 (x13_2 + 1)), (by first | rfl | (simp; done) | (simp only [← hji5] <;> (first | rfl | simp)) | (simp [*]; done)), (by first | rfl | (simp; done) | (simp [*]; done)), H', ⟨by have := HK1.out; have := HK2.out; omega⟩, by repeat (first | exact Drawn0.refl _ | apply Drawn0.step)⟩
                  all_goals (exfalso; (try simp only [beq_iff_eq, bne_iff_ne, ne_eq, decide_eq_true_eq, decide_eq_false_iff_not, decide_eq_decide, bne_eq_false_iff_eq, beq_eq_false_iff_ne, Bool.not_eq_true, Bool.not_eq_false, Bool.not_eq_true', Bool.not_eq_false', Bool.true_beq, Bool.false_beq, Bool.true_bne, Bool.false_bne, Bool.bne_true, Bool.bne_false] at c2b0); (try simp only [beq_iff_eq, bne_iff_ne, ne_eq, decide_eq_true_eq, decide_eq_false_iff_not, decide_eq_decide, bne_eq_false_iff_eq, beq_eq_false_iff_ne, Bool.not_eq_true, Bool.not_eq_false, Bool.not_eq_true', Bool.not_eq_false', Bool.true_beq, Bool.false_beq, Bool.true_bne, Bool.false_bne, Bool.bne_true, Bool.bne_false] at c3b0); (try simp only [beq_iff_eq, bne_iff_ne, ne_eq, decide_eq_true_eq, decide_eq_false_iff_not, decide_eq_decide, bne_eq_false_iff_eq, beq_eq_false_iff_ne, Bool.not_eq_true, Bool.not_eq_false, Bool.not_eq_true', Bool.not_eq_false', Bool.true_beq, Bool.false_beq, Bool.true_bne, Bool.false_bne, Bool.bne_true, Bool.bne_false] at c4b0); (try simp only [beq_iff_eq, bne_iff_ne, ne_eq, decide_eq_true_eq, decide_eq_false_iff_not, decide_eq_decide, bne_eq_false_iff_eq, beq_eq_false_iff_ne, Bool.not_eq_true, Bool.not_eq_false, Bool.not_eq_true', Bool.not_eq_false', Bool.true_beq, Bool.false_beq, Bool.true_bne, Bool.false_bne, Bool.bne_true, Bool.bne_false] at c6b0); (try unfold wrap64 at *); omega)
                · rw [if_neg c6] at H
                  exact absurd H (by simp)
              · rw [if_neg c4] at H
                have c4b0 : decide ((wrap64 (x4_1 + x13_2)) < (a0.size : Int)) = false := decide_eq_false c4
                clear c4
                have H' := Aside0.mk H
                clear H
                go_wp2
                go_roundg k2
                case measure => have := HK1.out; have := HK2.out; omega
                case rel => exact ⟨((x5_2 * 256) % 4294967296), (wrap64 (x13_2 + 1)), (by first | rfl | (simp; done) | (simp [*]; done)), (by first | rfl | (simp; done) | (simp [*]; done)), H', ⟨by have := HK1.out; have := HK2.out; omega⟩, by repeat (first | exact Drawn0.refl _ | apply Drawn0.step)⟩
                all_goals (exfalso; (try simp only [beq_iff_eq, bne_iff_ne, ne_eq, decide_eq_true_eq, decide_eq_false_iff_not, decide_eq_decide, bne_eq_false_iff_eq, beq_eq_false_iff_ne, Bool.not_eq_true, Bool.not_eq_false, Bool.not_eq_true', Bool.not_eq_false', Bool.true_beq, Bool.false_beq, Bool.true_bne, Bool.false_bne, Bool.bne_true, Bool.bne_false] at c2b0); (try simp only [beq_iff_eq, bne_iff_ne, ne_eq, decide_eq_true_eq, decide_eq_false_iff_not, decide_eq_decide, bne_eq_false_iff_eq, beq_eq_false_iff_ne, Bool.not_eq_true, Bool.not_eq_false, Bool.not_eq_true', Bool.not_eq_false', Bool.true_beq, Bool.false_beq, Bool.true_bne, Bool.false_bne, Bool.bne_true, Bool.bne_false] at c3b0); (try simp only [beq_iff_eq, bne_iff_ne, ne_eq, decide_eq_true_eq, decide_eq_false_iff_not, decide_eq_decide, bne_eq_false_iff_eq, beq_eq_false_iff_ne, Bool.not_eq_true, Bool.not_eq_false, Bool.not_eq_true', Bool.not_eq_false', Bool.true_beq, Bool.false_beq, Bool.true_bne, Bool.false_bne, Bool.bne_true, Bool.bne_false] at c4b0); (try unfold wrap64 at *); omega)
            · rw [if_neg c3] at H
              have c3b0 : decide (x13_2 < 4) = false := decide_eq_false c3
              clear c3
              have H' := Aside0.mk H
              clear H
              go_wp2
              go_roundg k2
              case measure => have := HK1.out; have := HK2.out; omega
              case rel => exact ⟨((x3_1 + x5_2) % 4294967296), (wrap64 (x4_1 + 4)), (by first | rfl | (simp; done) | (simp [*]; done)), (by first | rfl | (simp; done) | (simp [*]; done)), H', ⟨by have := HK1.out; have := HK2.out; omega⟩, by repeat (first | exact Drawn0.refl _ | apply Drawn0.step)⟩
              all_goals (exfalso; (try simp only [beq_iff_eq, bne_iff_ne, ne_eq, decide_eq_true_eq, decide_eq_false_iff_not, decide_eq_decide, bne_eq_false_iff_eq, beq_eq_false_iff_ne, Bool.not_eq_true, Bool.not_eq_false, Bool.not_eq_true', Bool.not_eq_false', Bool.true_beq, Bool.false_beq, Bool.true_bne, Bool.false_bne, Bool.bne_true, Bool.bne_false] at c2b0); (try simp only [beq_iff_eq, bne_iff_ne, ne_eq, decide_eq_true_eq, decide_eq_false_iff_not, decide_eq_decide, bne_eq_false_iff_eq, beq_eq_false_iff_ne, Bool.not_eq_true, Bool.not_eq_false, Bool.not_eq_true', Bool.not_eq_false', Bool.true_beq, Bool.false_beq, Bool.true_bne, Bool.false_bne, Bool.bne_true, Bool.bne_false] at c3b0); (try unfold wrap64 at *); omega)
      · rw [if_neg c2] at H
        have c2b0 : decide (x4_1 < (a0.size : Int)) = false := decide_eq_false c2
        clear c2
        obtain rfl := Option.some.inj H
        go_wp2
        go_ret
        exact ⟨by first | rfl | (simp; done) | (simp [*]; done), by repeat (first | exact Drawn0.refl _ | apply Drawn0.step)⟩
        all_goals (exfalso; (try simp only [beq_iff_eq, bne_iff_ne, ne_eq, decide_eq_true_eq, decide_eq_false_iff_not, decide_eq_decide, bne_eq_false_iff_eq, beq_eq_false_iff_ne, Bool.not_eq_true, Bool.not_eq_false, Bool.not_eq_true', Bool.not_eq_false', Bool.true_beq, Bool.false_beq, Bool.true_bne, Bool.false_bne, Bool.bne_true, Bool.bne_false] at c2b0); (try unfold wrap64 at *); omega)

end Go.Proofs.Ytcjkichimndioab.Q
