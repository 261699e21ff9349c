-- Written by a program of this session (wip/tools/ap.py) for this claim.
import Derived.Test.YtcjkichimndioaaQx0
import Derived.Test.YtcjkichimndioaaQx1
import Derived.Test.YtcjkichimndioaaQx2
namespace Go.Proofs.Ytcjkichimndioaa.Q
open Go.Proofs.Ytcjkichimndioaa.Given
open Go.RowKit Go.Proofs.Ytcjkichimndioaa.PW Go.Proofs.YtcjkichimndioaaW.PrintWords Go.Proofs.YtcjkichimndioaaW.PrintLast Go.Proofs.YtcjkichimndioaaW.PrintMore
attribute [local go_sem] max2_int min2_int max_two min_two max_three min_three max_four min_four   -- for this text's walks alone
set_option linter.unnecessarySimpa false
attribute [local go_sem high] run_cut_if run_cut_from run_cut_to run_cat_if
set_option linter.unusedVariables false
set_option linter.unusedSimpArgs false

/-! ### ammonitelaw2_DigitStops: function 7 -/
mutual
def ammonitelaw2_DigitStops.l0 : Nat → Int → Int → Int → ByteArray → Bool → Int → Option (Bool)
  | 0, _, _, _, _, _, _ => none
  | k + 1, x1, x2, x7, x8, x9, x30 => if x30 < 64 then (if x9 = true then (ammonitelaw2_DigitStops.l0 k x1 x2 x7 x8 true (wrap64 (x30 + 1))) else (if 0 ≤ x30 then (ammonitelaw2_DigitStops.l0 k x1 x2 x7 x8 ((bt (⟨#[48, 49, 50, 51, 52, 53, 54, 55, 56, 57, 65, 66, 67, 68, 69, 70, 71, 72, 73, 74, 75, 76, 77, 78, 79, 80, 81, 82, 83, 84, 85, 86, 87, 88, 89, 90, 95, 97, 98, 99, 100, 101, 102, 103, 104, 105, 106, 107, 108, 109, 110, 111, 112, 113, 114, 115, 116, 117, 118, 119, 120, 121, 122, 126]⟩ : ByteArray) x30) == x1) (wrap64 (x30 + 1))) else (none))) else ((some (([x1] : List Int) : List Int)).bind fun y190 => (if x8.size + (strOfNums y190).size ≤ 9223372036854775807 then (if (catS x8 (strOfNums y190)).size + 1 ≤ 9223372036854775807 then ((digit_Read.f k (catS (catS x8 (strOfNums y190)) (⟨#[46]⟩ : ByteArray)) 0).bind fun bt193 => ((ammonitebook_Within.f x2 0 5).bind fun t196 => ((digit_Read.f k x8 (wrap64 ((x8.size : Int) + t196))).bind fun bt197 => ((ammonitebook_Within.f x2 0 5).bind fun t200 => ((digit_Read.f k x8 (wrap64 ((-1) - t200))).bind fun bt201 => ((digit_Read.f k (⟨#[48, 48]⟩ : ByteArray) 0).bind fun bt204 => ((digit_Read.f k (⟨#[48, 59]⟩ : ByteArray) 0).bind fun bt207 => (if bt204.2.2 = true then (ammonitelaw2_DigitStops.j1 k x7 x8 x9 bt193.1 bt193.2.1 bt193.2.2 true) else (if bt197.2.2 = true then (ammonitelaw2_DigitStops.j1 k x7 x8 x9 bt193.1 bt193.2.1 bt193.2.2 true) else (if bt201.2.2 = true then (ammonitelaw2_DigitStops.j1 k x7 x8 x9 bt193.1 bt193.2.1 bt193.2.2 true) else (if bt207.1 = 0 then (if bt207.2.1 = 1 then (ammonitelaw2_DigitStops.j1 k x7 x8 x9 bt193.1 bt193.2.1 bt193.2.2 (!bt207.2.2)) else (ammonitelaw2_DigitStops.j1 k x7 x8 x9 bt193.1 bt193.2.1 bt193.2.2 true)) else (ammonitelaw2_DigitStops.j1 k x7 x8 x9 bt193.1 bt193.2.1 bt193.2.2 true)))))))))))) else (none)) else (none)))
def ammonitelaw2_DigitStops.j1 : Nat → Int → ByteArray → Bool → Int → Int → Bool → Bool → Option (Bool)
  | 0, _, _, _, _, _, _, _ => none
  | k + 1, x7, x8, x9, x11, x12, x13, x100 => if x100 = true then (some false) else (if x9 = true then (ammonitelaw2_DigitStops.j2 k x7 x8 x9 x11 x12 x13 (decide (x7 > 0))) else (ammonitelaw2_DigitStops.j2 k x7 x8 x9 x11 x12 x13 false))
def ammonitelaw2_DigitStops.j2 : Nat → Int → ByteArray → Bool → Int → Int → Bool → Bool → Option (Bool)
  | 0, _, _, _, _, _, _, _ => none
  | k + 1, x7, x8, x9, x11, x12, x13, x105 => if x105 = true then (if x13 = true then (if x12 = (wrap64 ((x8.size : Int) + 1)) then (if (wrap64 (Int.tdiv x11 64)) = x7 then ((ammonitelaw2_DigitRuns.f k).bind fun t210 => (some t210)) else (some false)) else (some false)) else (some false)) else (if x9 = true then (if (x13 == (decide (x7 > 0))) = true then ((ammonitelaw2_DigitRuns.f k).bind fun t211 => (some t211)) else (some false)) else (if x13 = true then (if x11 = x7 then (if x12 = (x8.size : Int) then (if (x13 == true) = true then ((ammonitelaw2_DigitRuns.f k).bind fun t212 => (some t212)) else (some false)) else (some false)) else (some false)) else (some false)))
end
def ammonitelaw2_DigitStops.f (k : Nat) (a0 : Int) (a1 : Int) (a2 : Int) : Option (Bool) := (ammonitebook_Within.f a0 0 16777215).bind fun t188 => ((digit_Put.f k t188).bind fun t189 => (ammonitelaw2_DigitStops.l0 k a1 a2 t188 t189 false 0))
theorem ammonitelaw2_DigitStops.mono_l : ∀ k, (∀ y0 y1 y2 y3 y4 y5, LeO (ammonitelaw2_DigitStops.l0 k y0 y1 y2 y3 y4 y5) (ammonitelaw2_DigitStops.l0 (k + 1) y0 y1 y2 y3 y4 y5)) ∧ (∀ y0 y1 y2 y3 y4 y5 y6, LeO (ammonitelaw2_DigitStops.j1 k y0 y1 y2 y3 y4 y5 y6) (ammonitelaw2_DigitStops.j1 (k + 1) y0 y1 y2 y3 y4 y5 y6)) ∧ (∀ y0 y1 y2 y3 y4 y5 y6, LeO (ammonitelaw2_DigitStops.j2 k y0 y1 y2 y3 y4 y5 y6) (ammonitelaw2_DigitStops.j2 (k + 1) y0 y1 y2 y3 y4 y5 y6))
  | 0 => ⟨fun _ _ _ _ _ _ r h => by simp [ammonitelaw2_DigitStops.l0] at h, fun _ _ _ _ _ _ _ r h => by simp [ammonitelaw2_DigitStops.j1] at h, fun _ _ _ _ _ _ _ r h => by simp [ammonitelaw2_DigitStops.j2] at h⟩
  | k + 1 => by
    obtain ⟨ih0, ih1, ih2⟩ := ammonitelaw2_DigitStops.mono_l k
    refine ⟨?_, ?_, ?_⟩
    · intro y0 y1 y2 y3 y4 y5
      unfold ammonitelaw2_DigitStops.l0
      repeat' first
      | (with_reducible exact ih0 _ _ _ _ _ _)
      | (with_reducible exact ih1 _ _ _ _ _ _ _)
      | (with_reducible exact ih2 _ _ _ _ _ _ _)
      | (with_reducible exact ammonitelaw2_DigitRuns.mono _)
      | (with_reducible exact digit_Put.mono _ _)
      | (with_reducible exact digit_Read.mono _ _ _)
      | (with_reducible exact LeO.refl _)
      | (with_reducible exact LeO.none _)
      | (with_reducible refine LeO.ite ?_ ?_)
      | (with_reducible refine LeO.bind ?_ (fun _ => ?_))
      | exact ih0 _ _ _ _ _ _
      | exact ih1 _ _ _ _ _ _ _
      | exact ih2 _ _ _ _ _ _ _
      | exact ammonitelaw2_DigitRuns.mono _
      | exact digit_Put.mono _ _
      | exact digit_Read.mono _ _ _
      | exact LeO.none _
      | refine LeO.ite ?_ ?_
      | refine LeO.bind ?_ (fun _ => ?_)
    · intro y0 y1 y2 y3 y4 y5 y6
      unfold ammonitelaw2_DigitStops.j1
      repeat' first
      | (with_reducible exact ih0 _ _ _ _ _ _)
      | (with_reducible exact ih1 _ _ _ _ _ _ _)
      | (with_reducible exact ih2 _ _ _ _ _ _ _)
      | (with_reducible exact ammonitelaw2_DigitRuns.mono _)
      | (with_reducible exact digit_Put.mono _ _)
      | (with_reducible exact digit_Read.mono _ _ _)
      | (with_reducible exact LeO.refl _)
      | (with_reducible exact LeO.none _)
      | (with_reducible refine LeO.ite ?_ ?_)
      | (with_reducible refine LeO.bind ?_ (fun _ => ?_))
      | exact ih0 _ _ _ _ _ _
      | exact ih1 _ _ _ _ _ _ _
      | exact ih2 _ _ _ _ _ _ _
      | exact ammonitelaw2_DigitRuns.mono _
      | exact digit_Put.mono _ _
      | exact digit_Read.mono _ _ _
      | exact LeO.none _
      | refine LeO.ite ?_ ?_
      | refine LeO.bind ?_ (fun _ => ?_)
    · intro y0 y1 y2 y3 y4 y5 y6
      unfold ammonitelaw2_DigitStops.j2
      repeat' first
      | (with_reducible exact ih0 _ _ _ _ _ _)
      | (with_reducible exact ih1 _ _ _ _ _ _ _)
      | (with_reducible exact ih2 _ _ _ _ _ _ _)
      | (with_reducible exact ammonitelaw2_DigitRuns.mono _)
      | (with_reducible exact digit_Put.mono _ _)
      | (with_reducible exact digit_Read.mono _ _ _)
      | (with_reducible exact LeO.refl _)
      | (with_reducible exact LeO.none _)
      | (with_reducible refine LeO.ite ?_ ?_)
      | (with_reducible refine LeO.bind ?_ (fun _ => ?_))
      | exact ih0 _ _ _ _ _ _
      | exact ih1 _ _ _ _ _ _ _
      | exact ih2 _ _ _ _ _ _ _
      | exact ammonitelaw2_DigitRuns.mono _
      | exact digit_Put.mono _ _
      | exact digit_Read.mono _ _ _
      | exact LeO.none _
      | refine LeO.ite ?_ ?_
      | refine LeO.bind ?_ (fun _ => ?_)
theorem ammonitelaw2_DigitStops.mono : ∀ a0 a1 a2 k, LeO (ammonitelaw2_DigitStops.f k a0 a1 a2) (ammonitelaw2_DigitStops.f (k + 1) a0 a1 a2) := by
  intro a0 a1 a2 k
  obtain ⟨ih0, ih1, ih2⟩ := ammonitelaw2_DigitStops.mono_l k
  unfold ammonitelaw2_DigitStops.f
  repeat' first
      | (with_reducible exact ih0 _ _ _ _ _ _)
      | (with_reducible exact ih1 _ _ _ _ _ _ _)
      | (with_reducible exact ih2 _ _ _ _ _ _ _)
      | (with_reducible exact ammonitelaw2_DigitRuns.mono _)
      | (with_reducible exact digit_Put.mono _ _)
      | (with_reducible exact digit_Read.mono _ _ _)
      | (with_reducible exact LeO.refl _)
      | (with_reducible exact LeO.none _)
      | (with_reducible refine LeO.ite ?_ ?_)
      | (with_reducible refine LeO.bind ?_ (fun _ => ?_))
      | exact ih0 _ _ _ _ _ _
      | exact ih1 _ _ _ _ _ _ _
      | exact ih2 _ _ _ _ _ _ _
      | exact ammonitelaw2_DigitRuns.mono _
      | exact digit_Put.mono _ _
      | exact digit_Read.mono _ _ _
      | exact LeO.none _
      | refine LeO.ite ?_ ?_
      | refine LeO.bind ?_ (fun _ => ?_)
set_option maxHeartbeats 8000000 in
set_option maxRecDepth 100000 in
theorem ammonitelaw2_DigitStops.calls (k : Nat) (a0 : Int) (a1 : Int) (a2 : Int) (r : Bool) (w : World) (h : ammonitelaw2_DigitStops.f k a0 a1 a2 = some r) (hrt : r = true) :
    Calls Try.prog 7 #[.int .i64 a0, .int .u8 a1, .int .i64 a2] w fun e w' => e = .returned (.bool r) ∧ Below w.heap.size w w' := by
  have HRT := Aside0.mk hrt
  clear hrt
  have HB := Aside0.mk (Below.refl w.heap.size w)
  have H : ((ammonitebook_Within.f a0 0 16777215).bind fun t188 => ((digit_Put.f k t188).bind fun t189 => (ammonitelaw2_DigitStops.l0 k a1 a2 t188 t189 false 0))) = some r := h
  clear h
  replace H := Option.bind_eq_some_iff.mp H
  obtain ⟨t188, A40, H⟩ := H
  replace H : ((digit_Put.f k t188).bind fun t189 => (ammonitelaw2_DigitStops.l0 k a1 a2 t188 t189 false 0)) = some r := H
  have A4 := Aside0.mk A40
  clear A40
  replace H := Option.bind_eq_some_iff.mp H
  obtain ⟨t189, A50, H⟩ := H
  replace H : (ammonitelaw2_DigitStops.l0 k a1 a2 t188 t189 false 0) = some r := H
  have A5 := Aside0.mk A50
  clear A50
  have H' := Aside0.mk H
  clear H
  go_enter Try.func7, Try.ntmps7
  go_wp2_with (first | ((with_reducible refine gate_callee (f := 17) rfl ?_); refine goesL_ (some 27) rfl rfl Try.func17 (by kernel_rfl) rfl #[.int .i64 a0, .int .i64 0, .int .i64 16777215] rfl (by (try simp only [List.map_toArray, List.map_cons, List.map_nil]); first | done | rfl | (simp only [List.length_drop, List.length_take]; rfl)) ?_; (with_reducible refine (ammonitebook_Within.calls a0 0 16777215 t188 _ A4.out).mono ?_); rintro e w' ⟨rfl, ⟨nd, rfl⟩⟩; refine ⟨_, rfl, ?_⟩) | ((with_reducible refine gate_callee (f := 15) rfl ?_); refine goesL_ (some 29) rfl rfl Try.func15 (by kernel_rfl) rfl #[.int .i64 t188] rfl (by (try simp only [List.map_toArray, List.map_cons, List.map_nil]); first | done | rfl | (simp only [List.length_drop, List.length_take]; rfl)) ?_; (with_reducible refine (digit_Put.calls k t188 t189 _ A5.out).mono ?_); rintro e w' ⟨rfl, ⟨nd, rfl⟩⟩; refine ⟨_, rfl, ?_⟩))
  go_loopg [9, 30] k (fun kq v9 v30 w' => ∃ (x9_1 : Bool) (x30_1 : Int), v9 = .bool x9_1 ∧ v30 = .int .i64 x30_1 ∧ Aside0 (ammonitelaw2_DigitStops.l0 kq a1 a2 t188 t189 x9_1 x30_1 = some r) ∧ Aside0 (kq ≤ k) ∧ Aside0 (Below w.heap.size w w'))
  case atStart => exact ⟨(false), (0), (by first | rfl | (simp; done) | (simp [*]; done)), (by first | rfl | (simp; done) | (simp [*]; done)), H', ⟨Nat.le_refl _⟩, ⟨by repeat (first | (with_reducible first | exact HB.out | apply below_alloc | apply pw_below_drewN | apply below_drew1) | exact HB.out)⟩⟩
  case round =>
    clear H'
    try clear c1
    try clear p2
    obtain ⟨x9_1, x30_1, rfl, rfl, HA, HK1, HB⟩ := hrel
    cases gk with
    | zero => exact absurd HA.out (by simp [ammonitelaw2_DigitStops.l0])
    | succ k1 =>
      have H := HA.out
      clear HA
      simp only [ammonitelaw2_DigitStops.l0] at H
      by_cases c6 : x30_1 < 64
      · rw [if_pos c6] at H
        have c6b0 : decide (x30_1 < 64) = true := decide_eq_true c6
        clear c6
        by_cases c7 : x9_1 = true
        · subst c7
          have H1 : (ammonitelaw2_DigitStops.l0 k1 a1 a2 t188 t189 true (wrap64 (x30_1 + 1))) = some r := by rw [if_pos rfl] at H; exact H
          clear H
          have H := H1
          clear H1
          have H' := Aside0.mk H
          clear H
          go_wp2
          go_roundg k1
          case measure => have := HK1.out; omega
          case rel => exact ⟨(true), (wrap64 (x30_1 + 1)), (by first | rfl | (simp; done) | (simp [*]; done)), (by first | rfl | (simp; done) | (simp [*]; done)), H', ⟨by have := HK1.out; omega⟩, ⟨by repeat (first | (with_reducible first | exact HB.out | apply below_alloc | apply pw_below_drewN | apply below_drew1) | exact HB.out)⟩⟩
          all_goals (exfalso; (try simp only [beq_iff_eq, bne_iff_ne, ne_eq, decide_eq_true_eq, decide_eq_false_iff_not, decide_eq_decide, bne_eq_false_iff_eq, beq_eq_false_iff_ne, Bool.not_eq_true, Bool.not_eq_false, Bool.not_eq_true', Bool.not_eq_false', Bool.true_beq, Bool.false_beq, Bool.true_bne, Bool.false_bne, Bool.bne_true, Bool.bne_false] at c6b0); (try unfold wrap64 at *); omega)
        · replace c7 := Bool.eq_false_iff.mpr c7
          subst c7
          have H1 : (if 0 ≤ x30_1 then (ammonitelaw2_DigitStops.l0 k1 a1 a2 t188 t189 ((bt (⟨#[48, 49, 50, 51, 52, 53, 54, 55, 56, 57, 65, 66, 67, 68, 69, 70, 71, 72, 73, 74, 75, 76, 77, 78, 79, 80, 81, 82, 83, 84, 85, 86, 87, 88, 89, 90, 95, 97, 98, 99, 100, 101, 102, 103, 104, 105, 106, 107, 108, 109, 110, 111, 112, 113, 114, 115, 116, 117, 118, 119, 120, 121, 122, 126]⟩ : ByteArray) x30_1) == a1) (wrap64 (x30_1 + 1))) else (none)) = some r := by rw [if_neg (show ¬ (false = true) by decide)] at H; exact H
          clear H
          have H := H1
          clear H1
          by_cases c8 : 0 ≤ x30_1
          · rw [if_pos c8] at H
            have c8b0 : decide (0 ≤ x30_1) = true := decide_eq_true c8
            clear c8
            have H' := Aside0.mk H
            clear H
            have p9 : 0 ≤ (x30_1 : Int) := of_decide_eq_true (by first | (with_reducible assumption) | assumption)
            have q9 : x30_1 < (64 : Int) := of_decide_eq_true (by first | (with_reducible assumption) | assumption)
            have hx9 := bt_at (⟨#[48, 49, 50, 51, 52, 53, 54, 55, 56, 57, 65, 66, 67, 68, 69, 70, 71, 72, 73, 74, 75, 76, 77, 78, 79, 80, 81, 82, 83, 84, 85, 86, 87, 88, 89, 90, 95, 97, 98, 99, 100, 101, 102, 103, 104, 105, 106, 107, 108, 109, 110, 111, 112, 113, 114, 115, 116, 117, 118, 119, 120, 121, 122, 126]⟩ : ByteArray) x30_1
            replace p9 := eq_true p9
            replace q9 := eq_true q9
            go_wp2
            go_roundg k1
            case measure => have := HK1.out; omega
            case rel => exact ⟨(((bt (⟨#[48, 49, 50, 51, 52, 53, 54, 55, 56, 57, 65, 66, 67, 68, 69, 70, 71, 72, 73, 74, 75, 76, 77, 78, 79, 80, 81, 82, 83, 84, 85, 86, 87, 88, 89, 90, 95, 97, 98, 99, 100, 101, 102, 103, 104, 105, 106, 107, 108, 109, 110, 111, 112, 113, 114, 115, 116, 117, 118, 119, 120, 121, 122, 126]⟩ : ByteArray) x30_1) == a1)), (wrap64 (x30_1 + 1)), (by first | rfl | (simp; done) | (simp [*]; done)), (by first | rfl | (simp; done) | (simp [*]; done)), H', ⟨by have := HK1.out; omega⟩, ⟨by repeat (first | (with_reducible first | exact HB.out | apply below_alloc | apply pw_below_drewN | apply below_drew1) | exact HB.out)⟩⟩
            all_goals (exfalso; (try simp only [beq_iff_eq, bne_iff_ne, ne_eq, decide_eq_true_eq, decide_eq_false_iff_not, decide_eq_decide, bne_eq_false_iff_eq, beq_eq_false_iff_ne, Bool.not_eq_true, Bool.not_eq_false, Bool.not_eq_true', Bool.not_eq_false', Bool.true_beq, Bool.false_beq, Bool.true_bne, Bool.false_bne, Bool.bne_true, Bool.bne_false] at c6b0); (try simp only [beq_iff_eq, bne_iff_ne, ne_eq, decide_eq_true_eq, decide_eq_false_iff_not, decide_eq_decide, bne_eq_false_iff_eq, beq_eq_false_iff_ne, Bool.not_eq_true, Bool.not_eq_false, Bool.not_eq_true', Bool.not_eq_false', Bool.true_beq, Bool.false_beq, Bool.true_bne, Bool.false_bne, Bool.bne_true, Bool.bne_false] at c8b0); (try unfold wrap64 at *); omega)
          · rw [if_neg c8] at H
            exact absurd H (by simp)
      · rw [if_neg c6] at H
        have c6b0 : decide (x30_1 < 64) = false := decide_eq_false c6
        clear c6
        obtain ⟨y190, hy190⟩ : ∃ y_ : List Int, y_ = (([a1] : List Int)) := ⟨_, rfl⟩
        replace H : (if t189.size + (strOfNums y190).size ≤ 9223372036854775807 then (if (catS t189 (strOfNums y190)).size + 1 ≤ 9223372036854775807 then ((digit_Read.f k1 (catS (catS t189 (strOfNums y190)) (⟨#[46]⟩ : ByteArray)) 0).bind fun bt193 => ((ammonitebook_Within.f a2 0 5).bind fun t196 => ((digit_Read.f k1 t189 (wrap64 ((t189.size : Int) + t196))).bind fun bt197 => ((ammonitebook_Within.f a2 0 5).bind fun t200 => ((digit_Read.f k1 t189 (wrap64 ((-1) - t200))).bind fun bt201 => ((digit_Read.f k1 (⟨#[48, 48]⟩ : ByteArray) 0).bind fun bt204 => ((digit_Read.f k1 (⟨#[48, 59]⟩ : ByteArray) 0).bind fun bt207 => (if bt204.2.2 = true then (ammonitelaw2_DigitStops.j1 k1 t188 t189 x9_1 bt193.1 bt193.2.1 bt193.2.2 true) else (if bt197.2.2 = true then (ammonitelaw2_DigitStops.j1 k1 t188 t189 x9_1 bt193.1 bt193.2.1 bt193.2.2 true) else (if bt201.2.2 = true then (ammonitelaw2_DigitStops.j1 k1 t188 t189 x9_1 bt193.1 bt193.2.1 bt193.2.2 true) else (if bt207.1 = 0 then (if bt207.2.1 = 1 then (ammonitelaw2_DigitStops.j1 k1 t188 t189 x9_1 bt193.1 bt193.2.1 bt193.2.2 (!bt207.2.2)) else (ammonitelaw2_DigitStops.j1 k1 t188 t189 x9_1 bt193.1 bt193.2.1 bt193.2.2 true)) else (ammonitelaw2_DigitStops.j1 k1 t188 t189 x9_1 bt193.1 bt193.2.1 bt193.2.2 true)))))))))))) else (none)) else (none)) = some r := by first | (rw [hy190]; with_reducible exact H) | (have H2_ := (Option.bind_some _ _).symm.trans H; rw [hy190]; with_reducible exact H2_) | (have H2_ := (Option.bind_some _ _).symm.trans H; with_reducible exact H2_) | with_reducible exact H | (rw [hy190]; exact H) | exact H
        have Ny190 := Aside0.mk hy190
        clear hy190
        by_cases c10 : t189.size + (strOfNums y190).size ≤ 9223372036854775807
        · rw [if_pos c10] at H
          have c10b0 := eq_true c10
          have c10b1 : decide (t189.size + (strOfNums y190).size ≤ 9223372036854775807) = true := decide_eq_true c10
          try have c10b2 : (9223372036854775807 < t189.size + (strOfNums y190).size) = False := eq_false (Nat.not_lt.2 c10)
          clear c10
          by_cases c11 : (catS t189 (strOfNums y190)).size + 1 ≤ 9223372036854775807
          · rw [if_pos c11] at H
            have c11b0 := eq_true c11
            have c11b1 : decide ((catS t189 (strOfNums y190)).size + 1 ≤ 9223372036854775807) = true := decide_eq_true c11
            try have c11b2 : (9223372036854775807 < (catS t189 (strOfNums y190)).size + 1) = False := eq_false (Nat.not_lt.2 c11)
            clear c11
            replace H := Option.bind_eq_some_iff.mp H
            obtain ⟨⟨t193, t194, t195⟩, A120, H⟩ := H
            replace H : ((ammonitebook_Within.f a2 0 5).bind fun t196 => ((digit_Read.f k1 t189 (wrap64 ((t189.size : Int) + t196))).bind fun bt197 => ((ammonitebook_Within.f a2 0 5).bind fun t200 => ((digit_Read.f k1 t189 (wrap64 ((-1) - t200))).bind fun bt201 => ((digit_Read.f k1 (⟨#[48, 48]⟩ : ByteArray) 0).bind fun bt204 => ((digit_Read.f k1 (⟨#[48, 59]⟩ : ByteArray) 0).bind fun bt207 => (if bt204.2.2 = true then (ammonitelaw2_DigitStops.j1 k1 t188 t189 x9_1 t193 t194 t195 true) else (if bt197.2.2 = true then (ammonitelaw2_DigitStops.j1 k1 t188 t189 x9_1 t193 t194 t195 true) else (if bt201.2.2 = true then (ammonitelaw2_DigitStops.j1 k1 t188 t189 x9_1 t193 t194 t195 true) else (if bt207.1 = 0 then (if bt207.2.1 = 1 then (ammonitelaw2_DigitStops.j1 k1 t188 t189 x9_1 t193 t194 t195 (!bt207.2.2)) else (ammonitelaw2_DigitStops.j1 k1 t188 t189 x9_1 t193 t194 t195 true)) else (ammonitelaw2_DigitStops.j1 k1 t188 t189 x9_1 t193 t194 t195 true))))))))))) = some r := H
            have A12 := Aside0.mk A120
            clear A120
            replace H := Option.bind_eq_some_iff.mp H
            obtain ⟨t196, A130, H⟩ := H
            replace H : ((digit_Read.f k1 t189 (wrap64 ((t189.size : Int) + t196))).bind fun bt197 => ((ammonitebook_Within.f a2 0 5).bind fun t200 => ((digit_Read.f k1 t189 (wrap64 ((-1) - t200))).bind fun bt201 => ((digit_Read.f k1 (⟨#[48, 48]⟩ : ByteArray) 0).bind fun bt204 => ((digit_Read.f k1 (⟨#[48, 59]⟩ : ByteArray) 0).bind fun bt207 => (if bt204.2.2 = true then (ammonitelaw2_DigitStops.j1 k1 t188 t189 x9_1 t193 t194 t195 true) else (if bt197.2.2 = true then (ammonitelaw2_DigitStops.j1 k1 t188 t189 x9_1 t193 t194 t195 true) else (if bt201.2.2 = true then (ammonitelaw2_DigitStops.j1 k1 t188 t189 x9_1 t193 t194 t195 true) else (if bt207.1 = 0 then (if bt207.2.1 = 1 then (ammonitelaw2_DigitStops.j1 k1 t188 t189 x9_1 t193 t194 t195 (!bt207.2.2)) else (ammonitelaw2_DigitStops.j1 k1 t188 t189 x9_1 t193 t194 t195 true)) else (ammonitelaw2_DigitStops.j1 k1 t188 t189 x9_1 t193 t194 t195 true)))))))))) = some r := H
            have A13 := Aside0.mk A130
            clear A130
            replace H := Option.bind_eq_some_iff.mp H
            obtain ⟨⟨t197, t198, t199⟩, A140, H⟩ := H
            replace H : ((ammonitebook_Within.f a2 0 5).bind fun t200 => ((digit_Read.f k1 t189 (wrap64 ((-1) - t200))).bind fun bt201 => ((digit_Read.f k1 (⟨#[48, 48]⟩ : ByteArray) 0).bind fun bt204 => ((digit_Read.f k1 (⟨#[48, 59]⟩ : ByteArray) 0).bind fun bt207 => (if bt204.2.2 = true then (ammonitelaw2_DigitStops.j1 k1 t188 t189 x9_1 t193 t194 t195 true) else (if t199 = true then (ammonitelaw2_DigitStops.j1 k1 t188 t189 x9_1 t193 t194 t195 true) else (if bt201.2.2 = true then (ammonitelaw2_DigitStops.j1 k1 t188 t189 x9_1 t193 t194 t195 true) else (if bt207.1 = 0 then (if bt207.2.1 = 1 then (ammonitelaw2_DigitStops.j1 k1 t188 t189 x9_1 t193 t194 t195 (!bt207.2.2)) else (ammonitelaw2_DigitStops.j1 k1 t188 t189 x9_1 t193 t194 t195 true)) else (ammonitelaw2_DigitStops.j1 k1 t188 t189 x9_1 t193 t194 t195 true))))))))) = some r := H
            have A14 := Aside0.mk A140
            clear A140
            replace H := Option.bind_eq_some_iff.mp H
            obtain ⟨t200, A150, H⟩ := H
            replace H : ((digit_Read.f k1 t189 (wrap64 ((-1) - t200))).bind fun bt201 => ((digit_Read.f k1 (⟨#[48, 48]⟩ : ByteArray) 0).bind fun bt204 => ((digit_Read.f k1 (⟨#[48, 59]⟩ : ByteArray) 0).bind fun bt207 => (if bt204.2.2 = true then (ammonitelaw2_DigitStops.j1 k1 t188 t189 x9_1 t193 t194 t195 true) else (if t199 = true then (ammonitelaw2_DigitStops.j1 k1 t188 t189 x9_1 t193 t194 t195 true) else (if bt201.2.2 = true then (ammonitelaw2_DigitStops.j1 k1 t188 t189 x9_1 t193 t194 t195 true) else (if bt207.1 = 0 then (if bt207.2.1 = 1 then (ammonitelaw2_DigitStops.j1 k1 t188 t189 x9_1 t193 t194 t195 (!bt207.2.2)) else (ammonitelaw2_DigitStops.j1 k1 t188 t189 x9_1 t193 t194 t195 true)) else (ammonitelaw2_DigitStops.j1 k1 t188 t189 x9_1 t193 t194 t195 true)))))))) = some r := H
            have A15 := Aside0.mk A150
            clear A150
            replace H := Option.bind_eq_some_iff.mp H
            obtain ⟨⟨t201, t202, t203⟩, A160, H⟩ := H
            replace H : ((digit_Read.f k1 (⟨#[48, 48]⟩ : ByteArray) 0).bind fun bt204 => ((digit_Read.f k1 (⟨#[48, 59]⟩ : ByteArray) 0).bind fun bt207 => (if bt204.2.2 = true then (ammonitelaw2_DigitStops.j1 k1 t188 t189 x9_1 t193 t194 t195 true) else (if t199 = true then (ammonitelaw2_DigitStops.j1 k1 t188 t189 x9_1 t193 t194 t195 true) else (if t203 = true then (ammonitelaw2_DigitStops.j1 k1 t188 t189 x9_1 t193 t194 t195 true) else (if bt207.1 = 0 then (if bt207.2.1 = 1 then (ammonitelaw2_DigitStops.j1 k1 t188 t189 x9_1 t193 t194 t195 (!bt207.2.2)) else (ammonitelaw2_DigitStops.j1 k1 t188 t189 x9_1 t193 t194 t195 true)) else (ammonitelaw2_DigitStops.j1 k1 t188 t189 x9_1 t193 t194 t195 true))))))) = some r := H
            have A16 := Aside0.mk A160
            clear A160
            replace H := Option.bind_eq_some_iff.mp H
            obtain ⟨⟨t204, t205, t206⟩, A170, H⟩ := H
            replace H : ((digit_Read.f k1 (⟨#[48, 59]⟩ : ByteArray) 0).bind fun bt207 => (if t206 = true then (ammonitelaw2_DigitStops.j1 k1 t188 t189 x9_1 t193 t194 t195 true) else (if t199 = true then (ammonitelaw2_DigitStops.j1 k1 t188 t189 x9_1 t193 t194 t195 true) else (if t203 = true then (ammonitelaw2_DigitStops.j1 k1 t188 t189 x9_1 t193 t194 t195 true) else (if bt207.1 = 0 then (if bt207.2.1 = 1 then (ammonitelaw2_DigitStops.j1 k1 t188 t189 x9_1 t193 t194 t195 (!bt207.2.2)) else (ammonitelaw2_DigitStops.j1 k1 t188 t189 x9_1 t193 t194 t195 true)) else (ammonitelaw2_DigitStops.j1 k1 t188 t189 x9_1 t193 t194 t195 true)))))) = some r := H
            have A17 := Aside0.mk A170
            clear A170
            replace H := Option.bind_eq_some_iff.mp H
            obtain ⟨⟨t207, t208, t209⟩, A180, H⟩ := H
            replace H : (if t206 = true then (ammonitelaw2_DigitStops.j1 k1 t188 t189 x9_1 t193 t194 t195 true) else (if t199 = true then (ammonitelaw2_DigitStops.j1 k1 t188 t189 x9_1 t193 t194 t195 true) else (if t203 = true then (ammonitelaw2_DigitStops.j1 k1 t188 t189 x9_1 t193 t194 t195 true) else (if t207 = 0 then (if t208 = 1 then (ammonitelaw2_DigitStops.j1 k1 t188 t189 x9_1 t193 t194 t195 (!t209)) else (ammonitelaw2_DigitStops.j1 k1 t188 t189 x9_1 t193 t194 t195 true)) else (ammonitelaw2_DigitStops.j1 k1 t188 t189 x9_1 t193 t194 t195 true))))) = some r := H
            have A18 := Aside0.mk A180
            clear A180
            have HC19 := Aside0.mk H
            clear H
            go_upto_region 14 with (first | ((with_reducible refine gate_dst (N := 44) rfl ?_); (try (refine gate_guard (by rfl) ?_; dsimp only)); refine Kd.R_lit (Kd.int .u8) _ 5 ?hg (N := 44) ?hd (xs := ([a1] : List Int)) (inner := [.int .u8 a1]) (ok := fun _ => True) (okp := fun _ => True) ?hr ?hp (fun _ hk => hk) trivial (Below.refl _ _) (Nat.le_refl _) (by simp) ?_; (case hd => rfl); (case hg => rfl); (case hr => first | (go_simp; done) | (go_simp; rfl)); (case hp => exact (Reps.one (show Kd.M (Kd.int .u8) _ _ _ a1 [.int .u8 a1] from rfl) (Reps.none _ _))); intro v191 w20 ho21 hb hg_ hnew_; clear hg_ hnew_; (first | rw [← Ny190.out] at ho21 | (simp only [Int.reduceToNat] at ho21; rw [← Ny190.out] at ho21)); have n0_ := Aside0.mk (Kd.R_lower ho21 (below_size (by repeat (first | (with_reducible first | exact HB.out | apply below_alloc | apply pw_below_drewN | apply below_drew1) | exact HB.out)))); have n1_ := Aside0.mk (below_step (by repeat (first | (with_reducible first | exact HB.out | apply below_alloc | apply pw_below_drewN | apply below_drew1) | exact HB.out)) hb); clear HB; have HO192 := n0_; have HB := n1_; clear n0_ n1_; clear hb ho21; have hcv22 := own_string (P := Try.prog) Try.underlying36 Try.underlying5 Try.underlying9 (Kd.own_of_R HO192.out)) | ((with_reducible refine gate_callee (f := 13) rfl ?_); refine goesL_ (some 48) rfl rfl Try.func13 (by kernel_rfl) rfl #[.string (catS (catS t189 (strOfNums y190)) (⟨#[46]⟩ : ByteArray)), .int .i64 0] rfl (by (try simp only [List.map_toArray, List.map_cons, List.map_nil]); first | done | rfl | (simp only [List.length_drop, List.length_take]; rfl)) ?_; (with_reducible refine (digit_Read.calls k1 (catS (catS t189 (strOfNums y190)) (⟨#[46]⟩ : ByteArray)) 0 t193 t194 t195 _ A12.out).mono ?_); rintro e w' ⟨rfl, ⟨nd, rfl⟩⟩; refine ⟨_, rfl, ?_⟩) | ((with_reducible refine gate_callee (f := 17) rfl ?_); refine goesL_ (some 57) rfl rfl Try.func17 (by kernel_rfl) rfl #[.int .i64 a2, .int .i64 0, .int .i64 5] rfl (by (try simp only [List.map_toArray, List.map_cons, List.map_nil]); first | done | rfl | (simp only [List.length_drop, List.length_take]; rfl)) ?_; (with_reducible refine (ammonitebook_Within.calls a2 0 5 t196 _ A13.out).mono ?_); rintro e w' ⟨rfl, ⟨nd, rfl⟩⟩; refine ⟨_, rfl, ?_⟩) | ((with_reducible refine gate_callee (f := 13) rfl ?_); refine goesL_ (some 59) rfl rfl Try.func13 (by kernel_rfl) rfl #[.string t189, .int .i64 (wrap64 ((t189.size : Int) + t196))] rfl (by (try simp only [List.map_toArray, List.map_cons, List.map_nil]); first | done | rfl | (simp only [List.length_drop, List.length_take]; rfl)) ?_; (with_reducible refine (digit_Read.calls k1 t189 (wrap64 ((t189.size : Int) + t196)) t197 t198 t199 _ A14.out).mono ?_); rintro e w' ⟨rfl, ⟨nd, rfl⟩⟩; refine ⟨_, rfl, ?_⟩) | ((with_reducible refine gate_callee (f := 17) rfl ?_); refine goesL_ (some 66) rfl rfl Try.func17 (by kernel_rfl) rfl #[.int .i64 a2, .int .i64 0, .int .i64 5] rfl (by (try simp only [List.map_toArray, List.map_cons, List.map_nil]); first | done | rfl | (simp only [List.length_drop, List.length_take]; rfl)) ?_; (with_reducible refine (ammonitebook_Within.calls a2 0 5 t200 _ A15.out).mono ?_); rintro e w' ⟨rfl, ⟨nd, rfl⟩⟩; refine ⟨_, rfl, ?_⟩) | ((with_reducible refine gate_callee (f := 13) rfl ?_); refine goesL_ (some 68) rfl rfl Try.func13 (by kernel_rfl) rfl #[.string t189, .int .i64 (wrap64 ((-1) - t200))] rfl (by (try simp only [List.map_toArray, List.map_cons, List.map_nil]); first | done | rfl | (simp only [List.length_drop, List.length_take]; rfl)) ?_; (with_reducible refine (digit_Read.calls k1 t189 (wrap64 ((-1) - t200)) t201 t202 t203 _ A16.out).mono ?_); rintro e w' ⟨rfl, ⟨nd, rfl⟩⟩; refine ⟨_, rfl, ?_⟩) | ((with_reducible refine gate_callee (f := 13) rfl ?_); refine goesL_ (some 73) rfl rfl Try.func13 (by kernel_rfl) rfl #[.string (⟨#[48, 48]⟩ : ByteArray), .int .i64 0] rfl (by (try simp only [List.map_toArray, List.map_cons, List.map_nil]); first | done | rfl | (simp only [List.length_drop, List.length_take]; rfl)) ?_; (with_reducible refine (digit_Read.calls k1 (⟨#[48, 48]⟩ : ByteArray) 0 t204 t205 t206 _ A17.out).mono ?_); rintro e w' ⟨rfl, ⟨nd, rfl⟩⟩; refine ⟨_, rfl, ?_⟩) | ((with_reducible refine gate_callee (f := 13) rfl ?_); refine goesL_ (some 78) rfl rfl Try.func13 (by kernel_rfl) rfl #[.string (⟨#[48, 59]⟩ : ByteArray), .int .i64 0] rfl (by (try simp only [List.map_toArray, List.map_cons, List.map_nil]); first | done | rfl | (simp only [List.length_drop, List.length_take]; rfl)) ?_; (with_reducible refine (digit_Read.calls k1 (⟨#[48, 59]⟩ : ByteArray) 0 t207 t208 t209 _ A18.out).mono ?_); rintro e w' ⟨rfl, ⟨nd, rfl⟩⟩; refine ⟨_, rfl, ?_⟩))
            (try simp only [Act.put, List.setIfInBounds_toArray, List.set_cons_zero, List.set_cons_succ])
            go_cut [100] (fun v100 wc => ∃ (kq : Nat) (x100_18 : Bool), v100 = .bool x100_18 ∧ Aside0 (ammonitelaw2_DigitStops.j1 kq t188 t189 x9_1 t193 t194 t195 x100_18 = some r) ∧ Aside0 (kq ≤ k1) ∧ Aside0 (Below w.heap.size w wc))
            case first =>
              have H := HC19.out
              clear HC19
              by_cases c23 : t206 = true
              · subst c23
                have H1 : (ammonitelaw2_DigitStops.j1 k1 t188 t189 x9_1 t193 t194 t195 true) = some r := by rw [if_pos rfl] at H; exact H
                clear H
                have H := H1
                clear H1
                have H' := Aside0.mk H
                clear H
                go_wp2
                go_meet
                case rel => exact ⟨_, (true), (by first | rfl | (simp; done) | (simp [*]; done)), H', ⟨by have := HK1.out; first | omega | exact Nat.le_refl _⟩, ⟨by repeat (first | (with_reducible first | exact HB.out | apply below_alloc | apply pw_below_drewN | apply below_drew1) | exact HB.out)⟩⟩
                all_goals (exfalso; (try simp only [beq_iff_eq, bne_iff_ne, ne_eq, decide_eq_true_eq, decide_eq_false_iff_not, decide_eq_decide, bne_eq_false_iff_eq, beq_eq_false_iff_ne, Bool.not_eq_true, Bool.not_eq_false, Bool.not_eq_true', Bool.not_eq_false', Bool.true_beq, Bool.false_beq, Bool.true_bne, Bool.false_bne, Bool.bne_true, Bool.bne_false] at c6b0); (try simp only [beq_iff_eq, bne_iff_ne, ne_eq, decide_eq_true_eq, decide_eq_false_iff_not, decide_eq_decide, bne_eq_false_iff_eq, beq_eq_false_iff_ne, Bool.not_eq_true, Bool.not_eq_false, Bool.not_eq_true', Bool.not_eq_false', Bool.true_beq, Bool.false_beq, Bool.true_bne, Bool.false_bne, Bool.bne_true, Bool.bne_false] at c10b0); (try simp only [beq_iff_eq, bne_iff_ne, ne_eq, decide_eq_true_eq, decide_eq_false_iff_not, decide_eq_decide, bne_eq_false_iff_eq, beq_eq_false_iff_ne, Bool.not_eq_true, Bool.not_eq_false, Bool.not_eq_true', Bool.not_eq_false', Bool.true_beq, Bool.false_beq, Bool.true_bne, Bool.false_bne, Bool.bne_true, Bool.bne_false] at c10b1); (try simp only [beq_iff_eq, bne_iff_ne, ne_eq, decide_eq_true_eq, decide_eq_false_iff_not, decide_eq_decide, bne_eq_false_iff_eq, beq_eq_false_iff_ne, Bool.not_eq_true, Bool.not_eq_false, Bool.not_eq_true', Bool.not_eq_false', Bool.true_beq, Bool.false_beq, Bool.true_bne, Bool.false_bne, Bool.bne_true, Bool.bne_false] at c11b0); (try simp only [beq_iff_eq, bne_iff_ne, ne_eq, decide_eq_true_eq, decide_eq_false_iff_not, decide_eq_decide, bne_eq_false_iff_eq, beq_eq_false_iff_ne, Bool.not_eq_true, Bool.not_eq_false, Bool.not_eq_true', Bool.not_eq_false', Bool.true_beq, Bool.false_beq, Bool.true_bne, Bool.false_bne, Bool.bne_true, Bool.bne_false] at c11b1); (try unfold wrap64 at *); omega)
              · replace c23 := Bool.eq_false_iff.mpr c23
                subst c23
                have H1 : (if t199 = true then (ammonitelaw2_DigitStops.j1 k1 t188 t189 x9_1 t193 t194 t195 true) else (if t203 = true then (ammonitelaw2_DigitStops.j1 k1 t188 t189 x9_1 t193 t194 t195 true) else (if t207 = 0 then (if t208 = 1 then (ammonitelaw2_DigitStops.j1 k1 t188 t189 x9_1 t193 t194 t195 (!t209)) else (ammonitelaw2_DigitStops.j1 k1 t188 t189 x9_1 t193 t194 t195 true)) else (ammonitelaw2_DigitStops.j1 k1 t188 t189 x9_1 t193 t194 t195 true)))) = some r := by rw [if_neg (show ¬ (false = true) by decide)] at H; exact H
                clear H
                have H := H1
                clear H1
                by_cases c24 : t199 = true
                · subst c24
                  have H1 : (ammonitelaw2_DigitStops.j1 k1 t188 t189 x9_1 t193 t194 t195 true) = some r := by rw [if_pos rfl] at H; exact H
                  clear H
                  have H := H1
                  clear H1
                  have H' := Aside0.mk H
                  clear H
                  go_wp2
                  go_meet
                  case rel => exact ⟨_, (true), (by first | rfl | (simp; done) | (simp [*]; done)), H', ⟨by have := HK1.out; first | omega | exact Nat.le_refl _⟩, ⟨by repeat (first | (with_reducible first | exact HB.out | apply below_alloc | apply pw_below_drewN | apply below_drew1) | exact HB.out)⟩⟩
                  all_goals (exfalso; (try simp only [beq_iff_eq, bne_iff_ne, ne_eq, decide_eq_true_eq, decide_eq_false_iff_not, decide_eq_decide, bne_eq_false_iff_eq, beq_eq_false_iff_ne, Bool.not_eq_true, Bool.not_eq_false, Bool.not_eq_true', Bool.not_eq_false', Bool.true_beq, Bool.false_beq, Bool.true_bne, Bool.false_bne, Bool.bne_true, Bool.bne_false] at c6b0); (try simp only [beq_iff_eq, bne_iff_ne, ne_eq, decide_eq_true_eq, decide_eq_false_iff_not, decide_eq_decide, bne_eq_false_iff_eq, beq_eq_false_iff_ne, Bool.not_eq_true, Bool.not_eq_false, Bool.not_eq_true', Bool.not_eq_false', Bool.true_beq, Bool.false_beq, Bool.true_bne, Bool.false_bne, Bool.bne_true, Bool.bne_false] at c10b0); (try simp only [beq_iff_eq, bne_iff_ne, ne_eq, decide_eq_true_eq, decide_eq_false_iff_not, decide_eq_decide, bne_eq_false_iff_eq, beq_eq_false_iff_ne, Bool.not_eq_true, Bool.not_eq_false, Bool.not_eq_true', Bool.not_eq_false', Bool.true_beq, Bool.false_beq, Bool.true_bne, Bool.false_bne, Bool.bne_true, Bool.bne_false] at c10b1); (try simp only [beq_iff_eq, bne_iff_ne, ne_eq, decide_eq_true_eq, decide_eq_false_iff_not, decide_eq_decide, bne_eq_false_iff_eq, beq_eq_false_iff_ne, Bool.not_eq_true, Bool.not_eq_false, Bool.not_eq_true', Bool.not_eq_false', Bool.true_beq, Bool.false_beq, Bool.true_bne, Bool.false_bne, Bool.bne_true, Bool.bne_false] at c11b0); (try simp only [beq_iff_eq, bne_iff_ne, ne_eq, decide_eq_true_eq, decide_eq_false_iff_not, decide_eq_decide, bne_eq_false_iff_eq, beq_eq_false_iff_ne, Bool.not_eq_true, Bool.not_eq_false, Bool.not_eq_true', Bool.not_eq_false', Bool.true_beq, Bool.false_beq, Bool.true_bne, Bool.false_bne, Bool.bne_true, Bool.bne_false] at c11b1); (try unfold wrap64 at *); omega)
                · replace c24 := Bool.eq_false_iff.mpr c24
                  subst c24
                  have H1 : (if t203 = true then (ammonitelaw2_DigitStops.j1 k1 t188 t189 x9_1 t193 t194 t195 true) else (if t207 = 0 then (if t208 = 1 then (ammonitelaw2_DigitStops.j1 k1 t188 t189 x9_1 t193 t194 t195 (!t209)) else (ammonitelaw2_DigitStops.j1 k1 t188 t189 x9_1 t193 t194 t195 true)) else (ammonitelaw2_DigitStops.j1 k1 t188 t189 x9_1 t193 t194 t195 true))) = some r := by rw [if_neg (show ¬ (false = true) by decide)] at H; exact H
                  clear H
                  have H := H1
                  clear H1
                  by_cases c25 : t203 = true
                  · subst c25
                    have H1 : (ammonitelaw2_DigitStops.j1 k1 t188 t189 x9_1 t193 t194 t195 true) = some r := by rw [if_pos rfl] at H; exact H
                    clear H
                    have H := H1
                    clear H1
                    have H' := Aside0.mk H
                    clear H
                    go_wp2
                    go_meet
                    case rel => exact ⟨_, (true), (by first | rfl | (simp; done) | (simp [*]; done)), H', ⟨by have := HK1.out; first | omega | exact Nat.le_refl _⟩, ⟨by repeat (first | (with_reducible first | exact HB.out | apply below_alloc | apply pw_below_drewN | apply below_drew1) | exact HB.out)⟩⟩
                    all_goals (exfalso; (try simp only [beq_iff_eq, bne_iff_ne, ne_eq, decide_eq_true_eq, decide_eq_false_iff_not, decide_eq_decide, bne_eq_false_iff_eq, beq_eq_false_iff_ne, Bool.not_eq_true, Bool.not_eq_false, Bool.not_eq_true', Bool.not_eq_false', Bool.true_beq, Bool.false_beq, Bool.true_bne, Bool.false_bne, Bool.bne_true, Bool.bne_false] at c6b0); (try simp only [beq_iff_eq, bne_iff_ne, ne_eq, decide_eq_true_eq, decide_eq_false_iff_not, decide_eq_decide, bne_eq_false_iff_eq, beq_eq_false_iff_ne, Bool.not_eq_true, Bool.not_eq_false, Bool.not_eq_true', Bool.not_eq_false', Bool.true_beq, Bool.false_beq, Bool.true_bne, Bool.false_bne, Bool.bne_true, Bool.bne_false] at c10b0); (try simp only [beq_iff_eq, bne_iff_ne, ne_eq, decide_eq_true_eq, decide_eq_false_iff_not, decide_eq_decide, bne_eq_false_iff_eq, beq_eq_false_iff_ne, Bool.not_eq_true, Bool.not_eq_false, Bool.not_eq_true', Bool.not_eq_false', Bool.true_beq, Bool.false_beq, Bool.true_bne, Bool.false_bne, Bool.bne_true, Bool.bne_false] at c10b1); (try simp only [beq_iff_eq, bne_iff_ne, ne_eq, decide_eq_true_eq, decide_eq_false_iff_not, decide_eq_decide, bne_eq_false_iff_eq, beq_eq_false_iff_ne, Bool.not_eq_true, Bool.not_eq_false, Bool.not_eq_true', Bool.not_eq_false', Bool.true_beq, Bool.false_beq, Bool.true_bne, Bool.false_bne, Bool.bne_true, Bool.bne_false] at c11b0); (try simp only [beq_iff_eq, bne_iff_ne, ne_eq, decide_eq_true_eq, decide_eq_false_iff_not, decide_eq_decide, bne_eq_false_iff_eq, beq_eq_false_iff_ne, Bool.not_eq_true, Bool.not_eq_false, Bool.not_eq_true', Bool.not_eq_false', Bool.true_beq, Bool.false_beq, Bool.true_bne, Bool.false_bne, Bool.bne_true, Bool.bne_false] at c11b1); (try unfold wrap64 at *); omega)
                  · replace c25 := Bool.eq_false_iff.mpr c25
                    subst c25
                    have H1 : (if t207 = 0 then (if t208 = 1 then (ammonitelaw2_DigitStops.j1 k1 t188 t189 x9_1 t193 t194 t195 (!t209)) else (ammonitelaw2_DigitStops.j1 k1 t188 t189 x9_1 t193 t194 t195 true)) else (ammonitelaw2_DigitStops.j1 k1 t188 t189 x9_1 t193 t194 t195 true)) = some r := by rw [if_neg (show ¬ (false = true) by decide)] at H; exact H
                    clear H
                    have H := H1
                    clear H1
                    by_cases c26 : t207 = 0
                    · rw [if_pos c26] at H
                      have c26b0 : (t207 == 0) = true := beq_iff_eq.mpr c26
                      have c26b1 : (t207 != 0) = false := bne_eq_false_iff_eq.mpr c26
                      clear c26
                      (first | rw [c26b0] | (simp only [i64_w, i32_w]; rw [c26b0]) | skip)
                      by_cases c27 : t208 = 1
                      · rw [if_pos c27] at H
                        have c27b0 : (t208 == 1) = true := beq_iff_eq.mpr c27
                        have c27b1 : (t208 != 1) = false := bne_eq_false_iff_eq.mpr c27
                        clear c27
                        have H' := Aside0.mk H
                        clear H
                        go_wp2
                        go_meet
                        case rel => exact ⟨_, (!t209), (by first | rfl | (simp; done) | (simp [*]; done)), H', ⟨by have := HK1.out; first | omega | exact Nat.le_refl _⟩, ⟨by repeat (first | (with_reducible first | exact HB.out | apply below_alloc | apply pw_below_drewN | apply below_drew1) | exact HB.out)⟩⟩
                        all_goals (exfalso; (try simp only [beq_iff_eq, bne_iff_ne, ne_eq, decide_eq_true_eq, decide_eq_false_iff_not, decide_eq_decide, bne_eq_false_iff_eq, beq_eq_false_iff_ne, Bool.not_eq_true, Bool.not_eq_false, Bool.not_eq_true', Bool.not_eq_false', Bool.true_beq, Bool.false_beq, Bool.true_bne, Bool.false_bne, Bool.bne_true, Bool.bne_false] at c6b0); (try simp only [beq_iff_eq, bne_iff_ne, ne_eq, decide_eq_true_eq, decide_eq_false_iff_not, decide_eq_decide, bne_eq_false_iff_eq, beq_eq_false_iff_ne, Bool.not_eq_true, Bool.not_eq_false, Bool.not_eq_true', Bool.not_eq_false', Bool.true_beq, Bool.false_beq, Bool.true_bne, Bool.false_bne, Bool.bne_true, Bool.bne_false] at c10b0); (try simp only [beq_iff_eq, bne_iff_ne, ne_eq, decide_eq_true_eq, decide_eq_false_iff_not, decide_eq_decide, bne_eq_false_iff_eq, beq_eq_false_iff_ne, Bool.not_eq_true, Bool.not_eq_false, Bool.not_eq_true', Bool.not_eq_false', Bool.true_beq, Bool.false_beq, Bool.true_bne, Bool.false_bne, Bool.bne_true, Bool.bne_false] at c10b1); (try simp only [beq_iff_eq, bne_iff_ne, ne_eq, decide_eq_true_eq, decide_eq_false_iff_not, decide_eq_decide, bne_eq_false_iff_eq, beq_eq_false_iff_ne, Bool.not_eq_true, Bool.not_eq_false, Bool.not_eq_true', Bool.not_eq_false', Bool.true_beq, Bool.false_beq, Bool.true_bne, Bool.false_bne, Bool.bne_true, Bool.bne_false] at c11b0); (try simp only [beq_iff_eq, bne_iff_ne, ne_eq, decide_eq_true_eq, decide_eq_false_iff_not, decide_eq_decide, bne_eq_false_iff_eq, beq_eq_false_iff_ne, Bool.not_eq_true, Bool.not_eq_false, Bool.not_eq_true', Bool.not_eq_false', Bool.true_beq, Bool.false_beq, Bool.true_bne, Bool.false_bne, Bool.bne_true, Bool.bne_false] at c11b1); (try simp only [beq_iff_eq, bne_iff_ne, ne_eq, decide_eq_true_eq, decide_eq_false_iff_not, decide_eq_decide, bne_eq_false_iff_eq, beq_eq_false_iff_ne, Bool.not_eq_true, Bool.not_eq_false, Bool.not_eq_true', Bool.not_eq_false', Bool.true_beq, Bool.false_beq, Bool.true_bne, Bool.false_bne, Bool.bne_true, Bool.bne_false] at c26b0); (try simp only [beq_iff_eq, bne_iff_ne, ne_eq, decide_eq_true_eq, decide_eq_false_iff_not, decide_eq_decide, bne_eq_false_iff_eq, beq_eq_false_iff_ne, Bool.not_eq_true, Bool.not_eq_false, Bool.not_eq_true', Bool.not_eq_false', Bool.true_beq, Bool.false_beq, Bool.true_bne, Bool.false_bne, Bool.bne_true, Bool.bne_false] at c26b1); (try simp only [beq_iff_eq, bne_iff_ne, ne_eq, decide_eq_true_eq, decide_eq_false_iff_not, decide_eq_decide, bne_eq_false_iff_eq, beq_eq_false_iff_ne, Bool.not_eq_true, Bool.not_eq_false, Bool.not_eq_true', Bool.not_eq_false', Bool.true_beq, Bool.false_beq, Bool.true_bne, Bool.false_bne, Bool.bne_true, Bool.bne_false] at c27b0); (try simp only [beq_iff_eq, bne_iff_ne, ne_eq, decide_eq_true_eq, decide_eq_false_iff_not, decide_eq_decide, bne_eq_false_iff_eq, beq_eq_false_iff_ne, Bool.not_eq_true, Bool.not_eq_false, Bool.not_eq_true', Bool.not_eq_false', Bool.true_beq, Bool.false_beq, Bool.true_bne, Bool.false_bne, Bool.bne_true, Bool.bne_false] at c27b1); (try unfold wrap64 at *); omega)
                      · rw [if_neg c27] at H
                        have c27b0 : (t208 == 1) = false := beq_eq_false_iff_ne.mpr c27
                        have c27b1 : (t208 != 1) = true := bne_iff_ne.mpr c27
                        have H' := Aside0.mk H
                        clear H
                        go_wp2
                        go_meet
                        case rel => exact ⟨_, (true), (by first | rfl | (simp; done) | (simp [*]; done)), H', ⟨by have := HK1.out; first | omega | exact Nat.le_refl _⟩, ⟨by repeat (first | (with_reducible first | exact HB.out | apply below_alloc | apply pw_below_drewN | apply below_drew1) | exact HB.out)⟩⟩
                        all_goals (exfalso; (try simp only [beq_iff_eq, bne_iff_ne, ne_eq, decide_eq_true_eq, decide_eq_false_iff_not, decide_eq_decide, bne_eq_false_iff_eq, beq_eq_false_iff_ne, Bool.not_eq_true, Bool.not_eq_false, Bool.not_eq_true', Bool.not_eq_false', Bool.true_beq, Bool.false_beq, Bool.true_bne, Bool.false_bne, Bool.bne_true, Bool.bne_false] at c6b0); (try simp only [beq_iff_eq, bne_iff_ne, ne_eq, decide_eq_true_eq, decide_eq_false_iff_not, decide_eq_decide, bne_eq_false_iff_eq, beq_eq_false_iff_ne, Bool.not_eq_true, Bool.not_eq_false, Bool.not_eq_true', Bool.not_eq_false', Bool.true_beq, Bool.false_beq, Bool.true_bne, Bool.false_bne, Bool.bne_true, Bool.bne_false] at c10b0); (try simp only [beq_iff_eq, bne_iff_ne, ne_eq, decide_eq_true_eq, decide_eq_false_iff_not, decide_eq_decide, bne_eq_false_iff_eq, beq_eq_false_iff_ne, Bool.not_eq_true, Bool.not_eq_false, Bool.not_eq_true', Bool.not_eq_false', Bool.true_beq, Bool.false_beq, Bool.true_bne, Bool.false_bne, Bool.bne_true, Bool.bne_false] at c10b1); (try simp only [beq_iff_eq, bne_iff_ne, ne_eq, decide_eq_true_eq, decide_eq_false_iff_not, decide_eq_decide, bne_eq_false_iff_eq, beq_eq_false_iff_ne, Bool.not_eq_true, Bool.not_eq_false, Bool.not_eq_true', Bool.not_eq_false', Bool.true_beq, Bool.false_beq, Bool.true_bne, Bool.false_bne, Bool.bne_true, Bool.bne_false] at c11b0); (try simp only [beq_iff_eq, bne_iff_ne, ne_eq, decide_eq_true_eq, decide_eq_false_iff_not, decide_eq_decide, bne_eq_false_iff_eq, beq_eq_false_iff_ne, Bool.not_eq_true, Bool.not_eq_false, Bool.not_eq_true', Bool.not_eq_false', Bool.true_beq, Bool.false_beq, Bool.true_bne, Bool.false_bne, Bool.bne_true, Bool.bne_false] at c11b1); (try simp only [beq_iff_eq, bne_iff_ne, ne_eq, decide_eq_true_eq, decide_eq_false_iff_not, decide_eq_decide, bne_eq_false_iff_eq, beq_eq_false_iff_ne, Bool.not_eq_true, Bool.not_eq_false, Bool.not_eq_true', Bool.not_eq_false', Bool.true_beq, Bool.false_beq, Bool.true_bne, Bool.false_bne, Bool.bne_true, Bool.bne_false] at c26b0); (try simp only [beq_iff_eq, bne_iff_ne, ne_eq, decide_eq_true_eq, decide_eq_false_iff_not, decide_eq_decide, bne_eq_false_iff_eq, beq_eq_false_iff_ne, Bool.not_eq_true, Bool.not_eq_false, Bool.not_eq_true', Bool.not_eq_false', Bool.true_beq, Bool.false_beq, Bool.true_bne, Bool.false_bne, Bool.bne_true, Bool.bne_false] at c26b1); (try simp only [beq_iff_eq, bne_iff_ne, ne_eq, decide_eq_true_eq, decide_eq_false_iff_not, decide_eq_decide, bne_eq_false_iff_eq, beq_eq_false_iff_ne, Bool.not_eq_true, Bool.not_eq_false, Bool.not_eq_true', Bool.not_eq_false', Bool.true_beq, Bool.false_beq, Bool.true_bne, Bool.false_bne, Bool.bne_true, Bool.bne_false] at c27b0); (try simp only [beq_iff_eq, bne_iff_ne, ne_eq, decide_eq_true_eq, decide_eq_false_iff_not, decide_eq_decide, bne_eq_false_iff_eq, beq_eq_false_iff_ne, Bool.not_eq_true, Bool.not_eq_false, Bool.not_eq_true', Bool.not_eq_false', Bool.true_beq, Bool.false_beq, Bool.true_bne, Bool.false_bne, Bool.bne_true, Bool.bne_false] at c27b1); (try unfold wrap64 at *); omega)
                    · rw [if_neg c26] at H
                      have c26b0 : (t207 == 0) = false := beq_eq_false_iff_ne.mpr c26
                      have c26b1 : (t207 != 0) = true := bne_iff_ne.mpr c26
                      (first | rw [c26b0] | (simp only [i64_w, i32_w]; rw [c26b0]) | skip)
                      have H' := Aside0.mk H
                      clear H
                      go_wp2
                      go_meet
                      case rel => exact ⟨_, (true), (by first | rfl | (simp; done) | (simp [*]; done)), H', ⟨by have := HK1.out; first | omega | exact Nat.le_refl _⟩, ⟨by repeat (first | (with_reducible first | exact HB.out | apply below_alloc | apply pw_below_drewN | apply below_drew1) | exact HB.out)⟩⟩
                      all_goals (exfalso; (try simp only [beq_iff_eq, bne_iff_ne, ne_eq, decide_eq_true_eq, decide_eq_false_iff_not, decide_eq_decide, bne_eq_false_iff_eq, beq_eq_false_iff_ne, Bool.not_eq_true, Bool.not_eq_false, Bool.not_eq_true', Bool.not_eq_false', Bool.true_beq, Bool.false_beq, Bool.true_bne, Bool.false_bne, Bool.bne_true, Bool.bne_false] at c6b0); (try simp only [beq_iff_eq, bne_iff_ne, ne_eq, decide_eq_true_eq, decide_eq_false_iff_not, decide_eq_decide, bne_eq_false_iff_eq, beq_eq_false_iff_ne, Bool.not_eq_true, Bool.not_eq_false, Bool.not_eq_true', Bool.not_eq_false', Bool.true_beq, Bool.false_beq, Bool.true_bne, Bool.false_bne, Bool.bne_true, Bool.bne_false] at c10b0); (try simp only [beq_iff_eq, bne_iff_ne, ne_eq, decide_eq_true_eq, decide_eq_false_iff_not, decide_eq_decide, bne_eq_false_iff_eq, beq_eq_false_iff_ne, Bool.not_eq_true, Bool.not_eq_false, Bool.not_eq_true', Bool.not_eq_false', Bool.true_beq, Bool.false_beq, Bool.true_bne, Bool.false_bne, Bool.bne_true, Bool.bne_false] at c10b1); (try simp only [beq_iff_eq, bne_iff_ne, ne_eq, decide_eq_true_eq, decide_eq_false_iff_not, decide_eq_decide, bne_eq_false_iff_eq, beq_eq_false_iff_ne, Bool.not_eq_true, Bool.not_eq_false, Bool.not_eq_true', Bool.not_eq_false', Bool.true_beq, Bool.false_beq, Bool.true_bne, Bool.false_bne, Bool.bne_true, Bool.bne_false] at c11b0); (try simp only [beq_iff_eq, bne_iff_ne, ne_eq, decide_eq_true_eq, decide_eq_false_iff_not, decide_eq_decide, bne_eq_false_iff_eq, beq_eq_false_iff_ne, Bool.not_eq_true, Bool.not_eq_false, Bool.not_eq_true', Bool.not_eq_false', Bool.true_beq, Bool.false_beq, Bool.true_bne, Bool.false_bne, Bool.bne_true, Bool.bne_false] at c11b1); (try simp only [beq_iff_eq, bne_iff_ne, ne_eq, decide_eq_true_eq, decide_eq_false_iff_not, decide_eq_decide, bne_eq_false_iff_eq, beq_eq_false_iff_ne, Bool.not_eq_true, Bool.not_eq_false, Bool.not_eq_true', Bool.not_eq_false', Bool.true_beq, Bool.false_beq, Bool.true_bne, Bool.false_bne, Bool.bne_true, Bool.bne_false] at c26b0); (try simp only [beq_iff_eq, bne_iff_ne, ne_eq, decide_eq_true_eq, decide_eq_false_iff_not, decide_eq_decide, bne_eq_false_iff_eq, beq_eq_false_iff_ne, Bool.not_eq_true, Bool.not_eq_false, Bool.not_eq_true', Bool.not_eq_false', Bool.true_beq, Bool.false_beq, Bool.true_bne, Bool.false_bne, Bool.bne_true, Bool.bne_false] at c26b1); (try unfold wrap64 at *); omega)
            case rest =>
              clear HC19
              try clear c1
              try clear c2
              try clear p2
              try clear hcv2
              try clear c6
              try clear c6b0
              try clear p6
              try clear c7
              try clear c8
              try clear c8b0
              try clear p9
              try clear q9
              try clear hx9
              try clear c10
              try clear c10b0
              try clear c10b1
              try clear c10b2
              try clear c11
              try clear c11b0
              try clear c11b1
              try clear c11b2
              try clear c13
              try clear c15
              try clear c17
              try clear hcv22
              try clear c23
              try clear c24
              try clear c25
              try clear c26
              try clear c26b0
              try clear c26b1
              try clear c27
              try clear c27b0
              try clear c27b1
              try clear p2
              try clear p9
              try clear q9
              obtain ⟨kq, x100_18, rfl, HA, HJ18, HB⟩ := hcut
              cases kq with
              | zero => exact absurd HA.out (by simp [ammonitelaw2_DigitStops.j1])
              | succ kj18 =>
                have H := HA.out
                clear HA
                simp only [ammonitelaw2_DigitStops.j1] at H
                by_cases c28 : x100_18 = true
                · subst c28
                  have H1 : (some false) = some r := by rw [if_pos rfl] at H; exact H
                  clear H
                  have H := H1
                  clear H1
                  exact absurd ((Option.some.inj H).trans HRT.out) Bool.false_ne_true
                · replace c28 := Bool.eq_false_iff.mpr c28
                  subst c28
                  have H1 : (if x9_1 = true then (ammonitelaw2_DigitStops.j2 kj18 t188 t189 x9_1 t193 t194 t195 (decide (t188 > 0))) else (ammonitelaw2_DigitStops.j2 kj18 t188 t189 x9_1 t193 t194 t195 false)) = some r := by rw [if_neg (show ¬ (false = true) by decide)] at H; exact H
                  clear H
                  have H := H1
                  clear H1
                  have HC29 := Aside0.mk H
                  clear H
                  go_upto_region 16 with (fail)
                  go_cut [105] (fun v105 wc => ∃ (kq : Nat) (x105_28 : Bool), v105 = .bool x105_28 ∧ Aside0 (ammonitelaw2_DigitStops.j2 kq t188 t189 x9_1 t193 t194 t195 x105_28 = some r) ∧ Aside0 (kq ≤ kj18) ∧ Aside0 (Below w.heap.size w wc))
                  case first =>
                    have H := HC29.out
                    clear HC29
                    by_cases c30 : x9_1 = true
                    · subst c30
                      have H1 : (ammonitelaw2_DigitStops.j2 kj18 t188 t189 true t193 t194 t195 (decide (t188 > 0))) = some r := by rw [if_pos rfl] at H; exact H
                      clear H
                      have H := H1
                      clear H1
                      have H' := Aside0.mk H
                      clear H
                      go_wp2
                      go_meet
                      case rel => exact ⟨_, (decide (t188 > 0)), (by first | rfl | (simp; done) | (simp [*]; done)), H', ⟨by have := HK1.out; have := HJ18.out; first | omega | exact Nat.le_refl _⟩, ⟨by repeat (first | (with_reducible first | exact HB.out | apply below_alloc | apply pw_below_drewN | apply below_drew1) | exact HB.out)⟩⟩
                      all_goals (exfalso; (try simp only [beq_iff_eq, bne_iff_ne, ne_eq, decide_eq_true_eq, decide_eq_false_iff_not, decide_eq_decide, bne_eq_false_iff_eq, beq_eq_false_iff_ne, Bool.not_eq_true, Bool.not_eq_false, Bool.not_eq_true', Bool.not_eq_false', Bool.true_beq, Bool.false_beq, Bool.true_bne, Bool.false_bne, Bool.bne_true, Bool.bne_false] at c6b0); (try simp only [beq_iff_eq, bne_iff_ne, ne_eq, decide_eq_true_eq, decide_eq_false_iff_not, decide_eq_decide, bne_eq_false_iff_eq, beq_eq_false_iff_ne, Bool.not_eq_true, Bool.not_eq_false, Bool.not_eq_true', Bool.not_eq_false', Bool.true_beq, Bool.false_beq, Bool.true_bne, Bool.false_bne, Bool.bne_true, Bool.bne_false] at c10b0); (try simp only [beq_iff_eq, bne_iff_ne, ne_eq, decide_eq_true_eq, decide_eq_false_iff_not, decide_eq_decide, bne_eq_false_iff_eq, beq_eq_false_iff_ne, Bool.not_eq_true, Bool.not_eq_false, Bool.not_eq_true', Bool.not_eq_false', Bool.true_beq, Bool.false_beq, Bool.true_bne, Bool.false_bne, Bool.bne_true, Bool.bne_false] at c10b1); (try simp only [beq_iff_eq, bne_iff_ne, ne_eq, decide_eq_true_eq, decide_eq_false_iff_not, decide_eq_decide, bne_eq_false_iff_eq, beq_eq_false_iff_ne, Bool.not_eq_true, Bool.not_eq_false, Bool.not_eq_true', Bool.not_eq_false', Bool.true_beq, Bool.false_beq, Bool.true_bne, Bool.false_bne, Bool.bne_true, Bool.bne_false] at c11b0); (try simp only [beq_iff_eq, bne_iff_ne, ne_eq, decide_eq_true_eq, decide_eq_false_iff_not, decide_eq_decide, bne_eq_false_iff_eq, beq_eq_false_iff_ne, Bool.not_eq_true, Bool.not_eq_false, Bool.not_eq_true', Bool.not_eq_false', Bool.true_beq, Bool.false_beq, Bool.true_bne, Bool.false_bne, Bool.bne_true, Bool.bne_false] at c11b1); (try unfold wrap64 at *); omega)
                    · replace c30 := Bool.eq_false_iff.mpr c30
                      subst c30
                      have H1 : (ammonitelaw2_DigitStops.j2 kj18 t188 t189 false t193 t194 t195 false) = some r := by rw [if_neg (show ¬ (false = true) by decide)] at H; exact H
                      clear H
                      have H := H1
                      clear H1
                      have H' := Aside0.mk H
                      clear H
                      go_wp2
                      go_meet
                      case rel => exact ⟨_, (false), (by first | rfl | (simp; done) | (simp [*]; done)), H', ⟨by have := HK1.out; have := HJ18.out; first | omega | exact Nat.le_refl _⟩, ⟨by repeat (first | (with_reducible first | exact HB.out | apply below_alloc | apply pw_below_drewN | apply below_drew1) | exact HB.out)⟩⟩
                      all_goals (exfalso; (try simp only [beq_iff_eq, bne_iff_ne, ne_eq, decide_eq_true_eq, decide_eq_false_iff_not, decide_eq_decide, bne_eq_false_iff_eq, beq_eq_false_iff_ne, Bool.not_eq_true, Bool.not_eq_false, Bool.not_eq_true', Bool.not_eq_false', Bool.true_beq, Bool.false_beq, Bool.true_bne, Bool.false_bne, Bool.bne_true, Bool.bne_false] at c6b0); (try simp only [beq_iff_eq, bne_iff_ne, ne_eq, decide_eq_true_eq, decide_eq_false_iff_not, decide_eq_decide, bne_eq_false_iff_eq, beq_eq_false_iff_ne, Bool.not_eq_true, Bool.not_eq_false, Bool.not_eq_true', Bool.not_eq_false', Bool.true_beq, Bool.false_beq, Bool.true_bne, Bool.false_bne, Bool.bne_true, Bool.bne_false] at c10b0); (try simp only [beq_iff_eq, bne_iff_ne, ne_eq, decide_eq_true_eq, decide_eq_false_iff_not, decide_eq_decide, bne_eq_false_iff_eq, beq_eq_false_iff_ne, Bool.not_eq_true, Bool.not_eq_false, Bool.not_eq_true', Bool.not_eq_false', Bool.true_beq, Bool.false_beq, Bool.true_bne, Bool.false_bne, Bool.bne_true, Bool.bne_false] at c10b1); (try simp only [beq_iff_eq, bne_iff_ne, ne_eq, decide_eq_true_eq, decide_eq_false_iff_not, decide_eq_decide, bne_eq_false_iff_eq, beq_eq_false_iff_ne, Bool.not_eq_true, Bool.not_eq_false, Bool.not_eq_true', Bool.not_eq_false', Bool.true_beq, Bool.false_beq, Bool.true_bne, Bool.false_bne, Bool.bne_true, Bool.bne_false] at c11b0); (try simp only [beq_iff_eq, bne_iff_ne, ne_eq, decide_eq_true_eq, decide_eq_false_iff_not, decide_eq_decide, bne_eq_false_iff_eq, beq_eq_false_iff_ne, Bool.not_eq_true, Bool.not_eq_false, Bool.not_eq_true', Bool.not_eq_false', Bool.true_beq, Bool.false_beq, Bool.true_bne, Bool.false_bne, Bool.bne_true, Bool.bne_false] at c11b1); (try unfold wrap64 at *); omega)
                  case rest =>
                    clear HC29
                    try clear c1
                    try clear c2
                    try clear p2
                    try clear hcv2
                    try clear c3
                    try clear c6
                    try clear c6b0
                    try clear p6
                    try clear c7
                    try clear c8
                    try clear c8b0
                    try clear p9
                    try clear q9
                    try clear hx9
                    try clear c10
                    try clear c10b0
                    try clear c10b1
                    try clear c10b2
                    try clear c11
                    try clear c11b0
                    try clear c11b1
                    try clear c11b2
                    try clear c13
                    try clear c15
                    try clear c17
                    try clear hcv22
                    try clear c23
                    try clear c24
                    try clear c25
                    try clear c26
                    try clear c26b0
                    try clear c26b1
                    try clear c27
                    try clear c27b0
                    try clear c27b1
                    try clear c28
                    try clear c30
                    try clear p2
                    try clear p6
                    try clear p9
                    try clear q9
                    obtain ⟨kq, x105_28, rfl, HA, HJ28, HB⟩ := hcut
                    cases kq with
                    | zero => exact absurd HA.out (by simp [ammonitelaw2_DigitStops.j2])
                    | succ kj28 =>
                      have H := HA.out
                      clear HA
                      simp only [ammonitelaw2_DigitStops.j2] at H
                      by_cases c31 : x105_28 = true
                      · subst c31
                        have H1 : (if t195 = true then (if t194 = (wrap64 ((t189.size : Int) + 1)) then (if (wrap64 (Int.tdiv t193 64)) = t188 then ((ammonitelaw2_DigitRuns.f kj28).bind fun t210 => (some t210)) else (some false)) else (some false)) else (some false)) = some r := by rw [if_pos rfl] at H; exact H
                        clear H
                        have H := H1
                        clear H1
                        by_cases c32 : t195 = true
                        · subst c32
                          have H1 : (if t194 = (wrap64 ((t189.size : Int) + 1)) then (if (wrap64 (Int.tdiv t193 64)) = t188 then ((ammonitelaw2_DigitRuns.f kj28).bind fun t210 => (some t210)) else (some false)) else (some false)) = some r := by rw [if_pos rfl] at H; exact H
                          clear H
                          have H := H1
                          clear H1
                          by_cases c33 : t194 = (wrap64 ((t189.size : Int) + 1))
                          · rw [if_pos c33] at H
                            have c33b0 : (t194 == (wrap64 ((t189.size : Int) + 1))) = true := beq_iff_eq.mpr c33
                            have c33b1 : (t194 != (wrap64 ((t189.size : Int) + 1))) = false := bne_eq_false_iff_eq.mpr c33
                            clear c33
                            by_cases c34 : (wrap64 (Int.tdiv t193 64)) = t188
                            · rw [if_pos c34] at H
                              have c34b0 : ((wrap64 (Int.tdiv t193 64)) == t188) = true := beq_iff_eq.mpr c34
                              have c34b1 : ((wrap64 (Int.tdiv t193 64)) != t188) = false := bne_eq_false_iff_eq.mpr c34
                              clear c34
                              replace H := Option.bind_eq_some_iff.mp H
                              obtain ⟨t210, A350, H⟩ := H
                              replace H : (some t210) = some r := H
                              have A35 := Aside0.mk A350
                              clear A350
                              obtain rfl := Option.some.inj H
                              go_wp2_with (first | (go_at_call 3; (with_reducible refine (ammonitelaw2_DigitRuns.calls kj28  t210 _ A35.out).mono ?_); rintro e w36 ⟨rfl, hb⟩; have n0_ := Aside0.mk (below_step (by repeat (first | (with_reducible first | exact HB.out | apply below_alloc | apply pw_below_drewN | apply below_drew1) | exact HB.out)) hb); clear HB; have HB := n0_; clear n0_; (try clear hb); (try clear hb2); (try clear hk); (try clear hi)))
                              go_ret
                              exact ⟨by first | rfl | (simp [errW_none, errW_some] <;> rfl) | (simp [*, errW_none, errW_some] <;> rfl), by repeat (first | (with_reducible first | exact HB.out | apply below_alloc | apply pw_below_drewN | apply below_drew1) | exact HB.out)⟩
                              all_goals (exfalso; (try simp only [beq_iff_eq, bne_iff_ne, ne_eq, decide_eq_true_eq, decide_eq_false_iff_not, decide_eq_decide, bne_eq_false_iff_eq, beq_eq_false_iff_ne, Bool.not_eq_true, Bool.not_eq_false, Bool.not_eq_true', Bool.not_eq_false', Bool.true_beq, Bool.false_beq, Bool.true_bne, Bool.false_bne, Bool.bne_true, Bool.bne_false] at c6b0); (try simp only [beq_iff_eq, bne_iff_ne, ne_eq, decide_eq_true_eq, decide_eq_false_iff_not, decide_eq_decide, bne_eq_false_iff_eq, beq_eq_false_iff_ne, Bool.not_eq_true, Bool.not_eq_false, Bool.not_eq_true', Bool.not_eq_false', Bool.true_beq, Bool.false_beq, Bool.true_bne, Bool.false_bne, Bool.bne_true, Bool.bne_false] at c10b0); (try simp only [beq_iff_eq, bne_iff_ne, ne_eq, decide_eq_true_eq, decide_eq_false_iff_not, decide_eq_decide, bne_eq_false_iff_eq, beq_eq_false_iff_ne, Bool.not_eq_true, Bool.not_eq_false, Bool.not_eq_true', Bool.not_eq_false', Bool.true_beq, Bool.false_beq, Bool.true_bne, Bool.false_bne, Bool.bne_true, Bool.bne_false] at c10b1); (try simp only [beq_iff_eq, bne_iff_ne, ne_eq, decide_eq_true_eq, decide_eq_false_iff_not, decide_eq_decide, bne_eq_false_iff_eq, beq_eq_false_iff_ne, Bool.not_eq_true, Bool.not_eq_false, Bool.not_eq_true', Bool.not_eq_false', Bool.true_beq, Bool.false_beq, Bool.true_bne, Bool.false_bne, Bool.bne_true, Bool.bne_false] at c11b0); (try simp only [beq_iff_eq, bne_iff_ne, ne_eq, decide_eq_true_eq, decide_eq_false_iff_not, decide_eq_decide, bne_eq_false_iff_eq, beq_eq_false_iff_ne, Bool.not_eq_true, Bool.not_eq_false, Bool.not_eq_true', Bool.not_eq_false', Bool.true_beq, Bool.false_beq, Bool.true_bne, Bool.false_bne, Bool.bne_true, Bool.bne_false] at c11b1); (try simp only [beq_iff_eq, bne_iff_ne, ne_eq, decide_eq_true_eq, decide_eq_false_iff_not, decide_eq_decide, bne_eq_false_iff_eq, beq_eq_false_iff_ne, Bool.not_eq_true, Bool.not_eq_false, Bool.not_eq_true', Bool.not_eq_false', Bool.true_beq, Bool.false_beq, Bool.true_bne, Bool.false_bne, Bool.bne_true, Bool.bne_false] at c33b0); (try simp only [beq_iff_eq, bne_iff_ne, ne_eq, decide_eq_true_eq, decide_eq_false_iff_not, decide_eq_decide, bne_eq_false_iff_eq, beq_eq_false_iff_ne, Bool.not_eq_true, Bool.not_eq_false, Bool.not_eq_true', Bool.not_eq_false', Bool.true_beq, Bool.false_beq, Bool.true_bne, Bool.false_bne, Bool.bne_true, Bool.bne_false] at c33b1); (try simp only [beq_iff_eq, bne_iff_ne, ne_eq, decide_eq_true_eq, decide_eq_false_iff_not, decide_eq_decide, bne_eq_false_iff_eq, beq_eq_false_iff_ne, Bool.not_eq_true, Bool.not_eq_false, Bool.not_eq_true', Bool.not_eq_false', Bool.true_beq, Bool.false_beq, Bool.true_bne, Bool.false_bne, Bool.bne_true, Bool.bne_false] at c34b0); (try simp only [beq_iff_eq, bne_iff_ne, ne_eq, decide_eq_true_eq, decide_eq_false_iff_not, decide_eq_decide, bne_eq_false_iff_eq, beq_eq_false_iff_ne, Bool.not_eq_true, Bool.not_eq_false, Bool.not_eq_true', Bool.not_eq_false', Bool.true_beq, Bool.false_beq, Bool.true_bne, Bool.false_bne, Bool.bne_true, Bool.bne_false] at c34b1); (try unfold wrap64 at *); omega)
                            · rw [if_neg c34] at H
                              have c34b0 : ((wrap64 (Int.tdiv t193 64)) == t188) = false := beq_eq_false_iff_ne.mpr c34
                              have c34b1 : ((wrap64 (Int.tdiv t193 64)) != t188) = true := bne_iff_ne.mpr c34
                              exact absurd ((Option.some.inj H).trans HRT.out) Bool.false_ne_true
                          · rw [if_neg c33] at H
                            have c33b0 : (t194 == (wrap64 ((t189.size : Int) + 1))) = false := beq_eq_false_iff_ne.mpr c33
                            have c33b1 : (t194 != (wrap64 ((t189.size : Int) + 1))) = true := bne_iff_ne.mpr c33
                            exact absurd ((Option.some.inj H).trans HRT.out) Bool.false_ne_true
                        · replace c32 := Bool.eq_false_iff.mpr c32
                          subst c32
                          have H1 : (some false) = some r := by rw [if_neg (show ¬ (false = true) by decide)] at H; exact H
                          clear H
                          have H := H1
                          clear H1
                          exact absurd ((Option.some.inj H).trans HRT.out) Bool.false_ne_true
                      · replace c31 := Bool.eq_false_iff.mpr c31
                        subst c31
                        have H1 : (if x9_1 = true then (if (t195 == (decide (t188 > 0))) = true then ((ammonitelaw2_DigitRuns.f kj28).bind fun t211 => (some t211)) else (some false)) else (if t195 = true then (if t193 = t188 then (if t194 = (t189.size : Int) then (if (t195 == true) = true then ((ammonitelaw2_DigitRuns.f kj28).bind fun t212 => (some t212)) else (some false)) else (some false)) else (some false)) else (some false))) = some r := by rw [if_neg (show ¬ (false = true) by decide)] at H; exact H
                        clear H
                        have H := H1
                        clear H1
                        by_cases c37 : x9_1 = true
                        · subst c37
                          have H1 : (if (t195 == (decide (t188 > 0))) = true then ((ammonitelaw2_DigitRuns.f kj28).bind fun t211 => (some t211)) else (some false)) = some r := by rw [if_pos rfl] at H; exact H
                          clear H
                          have H := H1
                          clear H1
                          by_cases c38 : (t195 == (decide (t188 > 0))) = true
                          · rw [if_pos c38] at H
                            have c38b0 : (t195 == (decide (t188 > 0))) = true := c38
                            (try (have c38b1 : decide (t195 = (decide (t188 > 0))) = true := by simpa using c38))
                            (try (have c38b2 : (t195 == (decide (t188 > 0))) = true := by simpa using c38))
                            clear c38
                            replace H := Option.bind_eq_some_iff.mp H
                            obtain ⟨t211, A390, H⟩ := H
                            replace H : (some t211) = some r := H
                            have A39 := Aside0.mk A390
                            clear A390
                            obtain rfl := Option.some.inj H
                            go_wp2_with (first | (go_at_call 3; (with_reducible refine (ammonitelaw2_DigitRuns.calls kj28  t211 _ A39.out).mono ?_); rintro e w40 ⟨rfl, hb⟩; have n0_ := Aside0.mk (below_step (by repeat (first | (with_reducible first | exact HB.out | apply below_alloc | apply pw_below_drewN | apply below_drew1) | exact HB.out)) hb); clear HB; have HB := n0_; clear n0_; (try clear hb); (try clear hb2); (try clear hk); (try clear hi)))
                            go_ret
                            exact ⟨by first | rfl | (simp [errW_none, errW_some] <;> rfl) | (simp [*, errW_none, errW_some] <;> rfl), by repeat (first | (with_reducible first | exact HB.out | apply below_alloc | apply pw_below_drewN | apply below_drew1) | exact HB.out)⟩
                            all_goals (exfalso; (try simp only [beq_iff_eq, bne_iff_ne, ne_eq, decide_eq_true_eq, decide_eq_false_iff_not, decide_eq_decide, bne_eq_false_iff_eq, beq_eq_false_iff_ne, Bool.not_eq_true, Bool.not_eq_false, Bool.not_eq_true', Bool.not_eq_false', Bool.true_beq, Bool.false_beq, Bool.true_bne, Bool.false_bne, Bool.bne_true, Bool.bne_false] at c6b0); (try simp only [beq_iff_eq, bne_iff_ne, ne_eq, decide_eq_true_eq, decide_eq_false_iff_not, decide_eq_decide, bne_eq_false_iff_eq, beq_eq_false_iff_ne, Bool.not_eq_true, Bool.not_eq_false, Bool.not_eq_true', Bool.not_eq_false', Bool.true_beq, Bool.false_beq, Bool.true_bne, Bool.false_bne, Bool.bne_true, Bool.bne_false] at c10b0); (try simp only [beq_iff_eq, bne_iff_ne, ne_eq, decide_eq_true_eq, decide_eq_false_iff_not, decide_eq_decide, bne_eq_false_iff_eq, beq_eq_false_iff_ne, Bool.not_eq_true, Bool.not_eq_false, Bool.not_eq_true', Bool.not_eq_false', Bool.true_beq, Bool.false_beq, Bool.true_bne, Bool.false_bne, Bool.bne_true, Bool.bne_false] at c10b1); (try simp only [beq_iff_eq, bne_iff_ne, ne_eq, decide_eq_true_eq, decide_eq_false_iff_not, decide_eq_decide, bne_eq_false_iff_eq, beq_eq_false_iff_ne, Bool.not_eq_true, Bool.not_eq_false, Bool.not_eq_true', Bool.not_eq_false', Bool.true_beq, Bool.false_beq, Bool.true_bne, Bool.false_bne, Bool.bne_true, Bool.bne_false] at c11b0); (try simp only [beq_iff_eq, bne_iff_ne, ne_eq, decide_eq_true_eq, decide_eq_false_iff_not, decide_eq_decide, bne_eq_false_iff_eq, beq_eq_false_iff_ne, Bool.not_eq_true, Bool.not_eq_false, Bool.not_eq_true', Bool.not_eq_false', Bool.true_beq, Bool.false_beq, Bool.true_bne, Bool.false_bne, Bool.bne_true, Bool.bne_false] at c11b1); (try simp only [beq_iff_eq, bne_iff_ne, ne_eq, decide_eq_true_eq, decide_eq_false_iff_not, decide_eq_decide, bne_eq_false_iff_eq, beq_eq_false_iff_ne, Bool.not_eq_true, Bool.not_eq_false, Bool.not_eq_true', Bool.not_eq_false', Bool.true_beq, Bool.false_beq, Bool.true_bne, Bool.false_bne, Bool.bne_true, Bool.bne_false] at c38b0); (try simp only [beq_iff_eq, bne_iff_ne, ne_eq, decide_eq_true_eq, decide_eq_false_iff_not, decide_eq_decide, bne_eq_false_iff_eq, beq_eq_false_iff_ne, Bool.not_eq_true, Bool.not_eq_false, Bool.not_eq_true', Bool.not_eq_false', Bool.true_beq, Bool.false_beq, Bool.true_bne, Bool.false_bne, Bool.bne_true, Bool.bne_false] at c38b1); (try simp only [beq_iff_eq, bne_iff_ne, ne_eq, decide_eq_true_eq, decide_eq_false_iff_not, decide_eq_decide, bne_eq_false_iff_eq, beq_eq_false_iff_ne, Bool.not_eq_true, Bool.not_eq_false, Bool.not_eq_true', Bool.not_eq_false', Bool.true_beq, Bool.false_beq, Bool.true_bne, Bool.false_bne, Bool.bne_true, Bool.bne_false] at c38b2); (try unfold wrap64 at *); omega)
                          · rw [if_neg c38] at H
                            have c38b0 : (t195 == (decide (t188 > 0))) = false := by simpa using c38
                            (try (have c38b1 : decide (t195 = (decide (t188 > 0))) = false := by simpa using c38))
                            (try (have c38b2 : (t195 == (decide (t188 > 0))) = false := by simpa using c38))
                            (try (have c38b3 : ¬ (t195 = (decide (t188 > 0))) := by simpa using c38))
                            clear c38
                            exact absurd ((Option.some.inj H).trans HRT.out) Bool.false_ne_true
                        · replace c37 := Bool.eq_false_iff.mpr c37
                          subst c37
                          have H1 : (if t195 = true then (if t193 = t188 then (if t194 = (t189.size : Int) then (if (t195 == true) = true then ((ammonitelaw2_DigitRuns.f kj28).bind fun t212 => (some t212)) else (some false)) else (some false)) else (some false)) else (some false)) = some r := by rw [if_neg (show ¬ (false = true) by decide)] at H; exact H
                          clear H
                          have H := H1
                          clear H1
                          by_cases c41 : t195 = true
                          · subst c41
                            have H1 : (if t193 = t188 then (if t194 = (t189.size : Int) then (if (true == true) = true then ((ammonitelaw2_DigitRuns.f kj28).bind fun t212 => (some t212)) else (some false)) else (some false)) else (some false)) = some r := by rw [if_pos rfl] at H; exact H
                            clear H
                            have H := H1
                            clear H1
                            by_cases c42 : t193 = t188
                            · rw [if_pos c42] at H
                              have c42b0 : (t193 == t188) = true := beq_iff_eq.mpr c42
                              have c42b1 : (t193 != t188) = false := bne_eq_false_iff_eq.mpr c42
                              clear c42
                              by_cases c43 : t194 = (t189.size : Int)
                              · rw [if_pos c43] at H
                                have c43b0 : (t194 == (t189.size : Int)) = true := beq_iff_eq.mpr c43
                                have c43b1 : (t194 != (t189.size : Int)) = false := bne_eq_false_iff_eq.mpr c43
                                clear c43
                                by_cases c44 : (true == true) = true
                                · rw [if_pos c44] at H
                                  have c44b0 : (true == true) = true := c44
                                  (try (have c44b1 : decide (true = true) = true := by simpa using c44))
                                  (try (have c44b2 : (true == true) = true := by simpa using c44))
                                  clear c44
                                  replace H := Option.bind_eq_some_iff.mp H
                                  obtain ⟨t212, A450, H⟩ := H
                                  replace H : (some t212) = some r := H
                                  have A45 := Aside0.mk A450
                                  clear A450
                                  obtain rfl := Option.some.inj H
                                  go_wp2_with (first | (go_at_call 3; (with_reducible refine (ammonitelaw2_DigitRuns.calls kj28  t212 _ A45.out).mono ?_); rintro e w46 ⟨rfl, hb⟩; have n0_ := Aside0.mk (below_step (by repeat (first | (with_reducible first | exact HB.out | apply below_alloc | apply pw_below_drewN | apply below_drew1) | exact HB.out)) hb); clear HB; have HB := n0_; clear n0_; (try clear hb); (try clear hb2); (try clear hk); (try clear hi)))
                                  go_ret
                                  exact ⟨by first | rfl | (simp [errW_none, errW_some] <;> rfl) | (simp [*, errW_none, errW_some] <;> rfl), by repeat (first | (with_reducible first | exact HB.out | apply below_alloc | apply pw_below_drewN | apply below_drew1) | exact HB.out)⟩
                                  all_goals (exfalso; (try simp only [beq_iff_eq, bne_iff_ne, ne_eq, decide_eq_true_eq, decide_eq_false_iff_not, decide_eq_decide, bne_eq_false_iff_eq, beq_eq_false_iff_ne, Bool.not_eq_true, Bool.not_eq_false, Bool.not_eq_true', Bool.not_eq_false', Bool.true_beq, Bool.false_beq, Bool.true_bne, Bool.false_bne, Bool.bne_true, Bool.bne_false] at c6b0); (try simp only [beq_iff_eq, bne_iff_ne, ne_eq, decide_eq_true_eq, decide_eq_false_iff_not, decide_eq_decide, bne_eq_false_iff_eq, beq_eq_false_iff_ne, Bool.not_eq_true, Bool.not_eq_false, Bool.not_eq_true', Bool.not_eq_false', Bool.true_beq, Bool.false_beq, Bool.true_bne, Bool.false_bne, Bool.bne_true, Bool.bne_false] at c10b0); (try simp only [beq_iff_eq, bne_iff_ne, ne_eq, decide_eq_true_eq, decide_eq_false_iff_not, decide_eq_decide, bne_eq_false_iff_eq, beq_eq_false_iff_ne, Bool.not_eq_true, Bool.not_eq_false, Bool.not_eq_true', Bool.not_eq_false', Bool.true_beq, Bool.false_beq, Bool.true_bne, Bool.false_bne, Bool.bne_true, Bool.bne_false] at c10b1); (try simp only [beq_iff_eq, bne_iff_ne, ne_eq, decide_eq_true_eq, decide_eq_false_iff_not, decide_eq_decide, bne_eq_false_iff_eq, beq_eq_false_iff_ne, Bool.not_eq_true, Bool.not_eq_false, Bool.not_eq_true', Bool.not_eq_false', Bool.true_beq, Bool.false_beq, Bool.true_bne, Bool.false_bne, Bool.bne_true, Bool.bne_false] at c11b0); (try simp only [beq_iff_eq, bne_iff_ne, ne_eq, decide_eq_true_eq, decide_eq_false_iff_not, decide_eq_decide, bne_eq_false_iff_eq, beq_eq_false_iff_ne, Bool.not_eq_true, Bool.not_eq_false, Bool.not_eq_true', Bool.not_eq_false', Bool.true_beq, Bool.false_beq, Bool.true_bne, Bool.false_bne, Bool.bne_true, Bool.bne_false] at c11b1); (try simp only [beq_iff_eq, bne_iff_ne, ne_eq, decide_eq_true_eq, decide_eq_false_iff_not, decide_eq_decide, bne_eq_false_iff_eq, beq_eq_false_iff_ne, Bool.not_eq_true, Bool.not_eq_false, Bool.not_eq_true', Bool.not_eq_false', Bool.true_beq, Bool.false_beq, Bool.true_bne, Bool.false_bne, Bool.bne_true, Bool.bne_false] at c42b0); (try simp only [beq_iff_eq, bne_iff_ne, ne_eq, decide_eq_true_eq, decide_eq_false_iff_not, decide_eq_decide, bne_eq_false_iff_eq, beq_eq_false_iff_ne, Bool.not_eq_true, Bool.not_eq_false, Bool.not_eq_true', Bool.not_eq_false', Bool.true_beq, Bool.false_beq, Bool.true_bne, Bool.false_bne, Bool.bne_true, Bool.bne_false] at c42b1); (try simp only [beq_iff_eq, bne_iff_ne, ne_eq, decide_eq_true_eq, decide_eq_false_iff_not, decide_eq_decide, bne_eq_false_iff_eq, beq_eq_false_iff_ne, Bool.not_eq_true, Bool.not_eq_false, Bool.not_eq_true', Bool.not_eq_false', Bool.true_beq, Bool.false_beq, Bool.true_bne, Bool.false_bne, Bool.bne_true, Bool.bne_false] at c43b0); (try simp only [beq_iff_eq, bne_iff_ne, ne_eq, decide_eq_true_eq, decide_eq_false_iff_not, decide_eq_decide, bne_eq_false_iff_eq, beq_eq_false_iff_ne, Bool.not_eq_true, Bool.not_eq_false, Bool.not_eq_true', Bool.not_eq_false', Bool.true_beq, Bool.false_beq, Bool.true_bne, Bool.false_bne, Bool.bne_true, Bool.bne_false] at c43b1); (try simp only [beq_iff_eq, bne_iff_ne, ne_eq, decide_eq_true_eq, decide_eq_false_iff_not, decide_eq_decide, bne_eq_false_iff_eq, beq_eq_false_iff_ne, Bool.not_eq_true, Bool.not_eq_false, Bool.not_eq_true', Bool.not_eq_false', Bool.true_beq, Bool.false_beq, Bool.true_bne, Bool.false_bne, Bool.bne_true, Bool.bne_false] at c44b0); (try simp only [beq_iff_eq, bne_iff_ne, ne_eq, decide_eq_true_eq, decide_eq_false_iff_not, decide_eq_decide, bne_eq_false_iff_eq, beq_eq_false_iff_ne, Bool.not_eq_true, Bool.not_eq_false, Bool.not_eq_true', Bool.not_eq_false', Bool.true_beq, Bool.false_beq, Bool.true_bne, Bool.false_bne, Bool.bne_true, Bool.bne_false] at c44b1); (try simp only [beq_iff_eq, bne_iff_ne, ne_eq, decide_eq_true_eq, decide_eq_false_iff_not, decide_eq_decide, bne_eq_false_iff_eq, beq_eq_false_iff_ne, Bool.not_eq_true, Bool.not_eq_false, Bool.not_eq_true', Bool.not_eq_false', Bool.true_beq, Bool.false_beq, Bool.true_bne, Bool.false_bne, Bool.bne_true, Bool.bne_false] at c44b2); (try unfold wrap64 at *); omega)
                                · rw [if_neg c44] at H
                                  have c44b0 : (true == true) = false := by simpa using c44
                                  (try (have c44b1 : decide (true = true) = false := by simpa using c44))
                                  (try (have c44b2 : (true == true) = false := by simpa using c44))
                                  (try (have c44b3 : ¬ (true = true) := by simpa using c44))
                                  clear c44
                                  exact absurd ((Option.some.inj H).trans HRT.out) Bool.false_ne_true
                              · rw [if_neg c43] at H
                                have c43b0 : (t194 == (t189.size : Int)) = false := beq_eq_false_iff_ne.mpr c43
                                have c43b1 : (t194 != (t189.size : Int)) = true := bne_iff_ne.mpr c43
                                exact absurd ((Option.some.inj H).trans HRT.out) Bool.false_ne_true
                            · rw [if_neg c42] at H
                              have c42b0 : (t193 == t188) = false := beq_eq_false_iff_ne.mpr c42
                              have c42b1 : (t193 != t188) = true := bne_iff_ne.mpr c42
                              exact absurd ((Option.some.inj H).trans HRT.out) Bool.false_ne_true
                          · replace c41 := Bool.eq_false_iff.mpr c41
                            subst c41
                            have H1 : (some false) = some r := by rw [if_neg (show ¬ (false = true) by decide)] at H; exact H
                            clear H
                            have H := H1
                            clear H1
                            exact absurd ((Option.some.inj H).trans HRT.out) Bool.false_ne_true
          · rw [if_neg c11] at H
            exact absurd H (by simp)
        · rw [if_neg c10] at H
          exact absurd H (by simp)

/-- THE ONE PURE STATEMENT of ammonitelaw2_DigitStops: yours. -/
def ammonitelaw2_DigitStops.Pure : Prop := ∀ (a0 : Int) (a1 : Int) (a2 : Int), (Lit.int .i64 a0).wf = true → (Lit.int .u8 a1).wf = true → (Lit.int .i64 a2).wf = true → ∃ k, ammonitelaw2_DigitStops.f k a0 a1 a2 = some true
theorem ammonitelaw2_DigitStops.walk (P : ammonitelaw2_DigitStops.Pure) (a0 : Int) (a1 : Int) (a2 : Int) (w : World) (w0 : (Lit.int .i64 a0).wf = true) (w1 : (Lit.int .u8 a1).wf = true) (w2 : (Lit.int .i64 a2).wf = true) :
    Calls Try.prog 7 #[.int .i64 a0, .int .u8 a1, .int .i64 a2] w fun e w' => e = .returned (.bool true) ∧ Below w.heap.size w w' := by
  obtain ⟨k, h⟩ := P a0 a1 a2 w0 w1 w2
  refine (ammonitelaw2_DigitStops.calls k a0 a1 a2 true w h rfl).mono ?_
  rintro e w' ⟨rfl, hd⟩
  exact ⟨rfl, hd⟩

end Go.Proofs.Ytcjkichimndioaa.Q
