-- Written by a program of this session (wip/tools/ap.py) for this claim.
import Derived.Test.YtkfjaijjkbadfaaQx0
namespace Go.Proofs.Ytkfjaijjkbadfaa.Q
open Go.Proofs.Ytkfjaijjkbadfaa.Given
open Go.RowKit Go.Proofs.Ytkfjaijjkbadfaa.PW Go.Proofs.YtkfjaijjkbadfaaW.PrintWords Go.Proofs.YtkfjaijjkbadfaaW.PrintLast Go.Proofs.YtkfjaijjkbadfaaW.PrintMore
attribute [local go_sem] max2_int min2_int max_two min_two max_three min_three max_four min_four   -- for this text's walks alone
set_option linter.unnecessarySimpa false
attribute [local go_sem high] run_cut_if run_cut_from run_cut_to run_cat_if
set_option linter.unusedVariables false
set_option linter.unusedSimpArgs false

/-! ### ammoniteref10_Word: function 14 -/
def ammoniteref10_Word.l0 : Nat → ByteArray → Int → Option (Bool)
  | 0, _, _ => none
  | k + 1, x0, x3 => if x3 < (x0.size : Int) then (if 0 ≤ x3 then (if (bt x0 x3) ≤ 32 then (some false) else (if (bt x0 x3) > 126 then (some false) else (if (bt x0 x3) = 92 then (some false) else (ammoniteref10_Word.l0 k x0 (wrap64 (x3 + 1)))))) else (none)) else (if (x0.size : Int) ≥ 1 then (some (decide ((x0.size : Int) ≤ 12))) else (some false))
def ammoniteref10_Word.f (k : Nat) (a0 : ByteArray) : Option (Bool) := ammoniteref10_Word.l0 k a0 0
theorem ammoniteref10_Word.mono_l : ∀ k, (∀ y0 y1, LeO (ammoniteref10_Word.l0 k y0 y1) (ammoniteref10_Word.l0 (k + 1) y0 y1))
  | 0 => fun _ _ r h => by simp [ammoniteref10_Word.l0] at h
  | k + 1 => by
    have ih0 := ammoniteref10_Word.mono_l k
    · intro y0 y1
      unfold ammoniteref10_Word.l0
      repeat' first
      | (with_reducible exact ih0 _ _)
      | (with_reducible exact LeO.refl _)
      | (with_reducible exact LeO.none _)
      | (with_reducible refine LeO.ite ?_ ?_)
      | (with_reducible refine LeO.bind ?_ (fun _ => ?_))
      | exact ih0 _ _
      | exact LeO.none _
      | refine LeO.ite ?_ ?_
      | refine LeO.bind ?_ (fun _ => ?_)
theorem ammoniteref10_Word.mono : ∀ a0 k, LeO (ammoniteref10_Word.f k a0) (ammoniteref10_Word.f (k + 1) a0) := by
  intro a0 k
  have ih0 := ammoniteref10_Word.mono_l k
  unfold ammoniteref10_Word.f
  repeat' first
      | (with_reducible exact ih0 _ _)
      | (with_reducible exact LeO.refl _)
      | (with_reducible exact LeO.none _)
      | (with_reducible refine LeO.ite ?_ ?_)
      | (with_reducible refine LeO.bind ?_ (fun _ => ?_))
      | exact ih0 _ _
      | exact LeO.none _
      | refine LeO.ite ?_ ?_
      | refine LeO.bind ?_ (fun _ => ?_)
set_option maxHeartbeats 8000000 in
set_option maxRecDepth 100000 in
theorem ammoniteref10_Word.calls (k : Nat) (a0 : ByteArray) (r : Bool) (w : World) (h : ammoniteref10_Word.f k a0 = some r) :
    Calls Try.prog 14 #[.string a0] w fun e w' => e = .returned (.bool r) ∧ Drawn0 w w' := by
  have H : (ammoniteref10_Word.l0 k a0 0) = some r := h
  clear h
  have H' := Aside0.mk H
  clear H
  go_enter Try.func14, Try.ntmps14
  go_wp2
  go_loopg [3] k (fun kq v3 w' => ∃ (x3_1 : Int), v3 = .int .i64 x3_1 ∧ Aside0 (ammoniteref10_Word.l0 kq a0 x3_1 = some r) ∧ Aside0 (kq ≤ k) ∧ Drawn0 w w')
  case atStart => exact ⟨(0), (by first | rfl | (simp; done) | (simp [*]; done)), H', ⟨Nat.le_refl _⟩, by repeat (first | exact Drawn0.refl _ | apply Drawn0.step)⟩
  case round =>
    clear H'
    try clear c1
    obtain ⟨x3_1, rfl, HA, HK1, ⟨m1, rfl⟩⟩ := hrel
    cases gk with
    | zero => exact absurd HA.out (by simp [ammoniteref10_Word.l0])
    | succ k1 =>
      have H := HA.out
      clear HA
      simp only [ammoniteref10_Word.l0] at H
      by_cases c2 : x3_1 < (a0.size : Int)
      · rw [if_pos c2] at H
        have c2b0 : decide (x3_1 < (a0.size : Int)) = true := decide_eq_true c2
        clear c2
        by_cases c3 : 0 ≤ x3_1
        · rw [if_pos c3] at H
          have c3b0 : decide (0 ≤ x3_1) = true := decide_eq_true c3
          clear c3
          by_cases c5 : (bt a0 x3_1) ≤ 32
          · rw [if_pos c5] at H
            have c5b0 : decide ((bt a0 x3_1) ≤ 32) = true := decide_eq_true c5
            clear c5
            obtain rfl := Option.some.inj H
            have p4 : 0 ≤ (x3_1 : Int) := of_decide_eq_true (by first | (with_reducible assumption) | assumption)
            have q4 : x3_1 < (a0.size : Int) := of_decide_eq_true (by first | (with_reducible assumption) | assumption)
            have hx4 := bt_at a0 x3_1
            replace p4 := eq_true p4
            replace q4 := eq_true q4
            go_wp2
            go_ret
            exact ⟨by first | rfl | (simp; done) | (simp [*]; done), by repeat (first | exact Drawn0.refl _ | apply Drawn0.step)⟩
            all_goals (exfalso; (try simp only [pwB, pwD, pwN] at c2b0); (try simp only [pwB, pwD, pwN] at c3b0); (try simp only [pwB, pwD, pwN] at c5b0); (try unfold wrap64 at *); omega)
          · rw [if_neg c5] at H
            have c5b0 : decide ((bt a0 x3_1) ≤ 32) = false := decide_eq_false c5
            clear c5
            by_cases c7 : (bt a0 x3_1) > 126
            · rw [if_pos c7] at H
              have c7b0 : decide (126 < (bt a0 x3_1)) = true := decide_eq_true c7
              clear c7
              obtain rfl := Option.some.inj H
              have p4 : 0 ≤ (x3_1 : Int) := of_decide_eq_true (by first | (with_reducible assumption) | assumption)
              have q4 : x3_1 < (a0.size : Int) := of_decide_eq_true (by first | (with_reducible assumption) | assumption)
              have hx4 := bt_at a0 x3_1
              replace p4 := eq_true p4
              replace q4 := eq_true q4
              have p6 : 0 ≤ (x3_1 : Int) := of_decide_eq_true (by first | (with_reducible assumption) | assumption)
              have q6 : x3_1 < (a0.size : Int) := of_decide_eq_true (by first | (with_reducible assumption) | assumption)
              have hx6 := bt_at a0 x3_1
              replace p6 := eq_true p6
              replace q6 := eq_true q6
              go_wp2
              go_ret
              exact ⟨by first | rfl | (simp; done) | (simp [*]; done), by repeat (first | exact Drawn0.refl _ | apply Drawn0.step)⟩
              all_goals (exfalso; (try simp only [pwB, pwD, pwN] at c2b0); (try simp only [pwB, pwD, pwN] at c3b0); (try simp only [pwB, pwD, pwN] at c5b0); (try simp only [pwB, pwD, pwN] at c7b0); (try unfold wrap64 at *); omega)
            · rw [if_neg c7] at H
              have c7b0 : decide (126 < (bt a0 x3_1)) = false := decide_eq_false c7
              clear c7
              by_cases c9 : (bt a0 x3_1) = 92
              · rw [if_pos c9] at H
                have c9b0 : ((bt a0 x3_1) == 92) = true := beq_iff_eq.mpr c9
                have c9b1 : ((bt a0 x3_1) != 92) = false := bne_eq_false_iff_eq.mpr c9
                clear c9
                obtain rfl := Option.some.inj H
                have p4 : 0 ≤ (x3_1 : Int) := of_decide_eq_true (by first | (with_reducible assumption) | assumption)
                have q4 : x3_1 < (a0.size : Int) := of_decide_eq_true (by first | (with_reducible assumption) | assumption)
                have hx4 := bt_at a0 x3_1
                replace p4 := eq_true p4
                replace q4 := eq_true q4
                have p6 : 0 ≤ (x3_1 : Int) := of_decide_eq_true (by first | (with_reducible assumption) | assumption)
                have q6 : x3_1 < (a0.size : Int) := of_decide_eq_true (by first | (with_reducible assumption) | assumption)
                have hx6 := bt_at a0 x3_1
                replace p6 := eq_true p6
                replace q6 := eq_true q6
                have p8 : 0 ≤ (x3_1 : Int) := of_decide_eq_true (by first | (with_reducible assumption) | assumption)
                have q8 : x3_1 < (a0.size : Int) := of_decide_eq_true (by first | (with_reducible assumption) | assumption)
                have hx8 := bt_at a0 x3_1
                replace p8 := eq_true p8
                replace q8 := eq_true q8
                go_wp2
                go_ret
                exact ⟨by first | rfl | (simp; done) | (simp [*]; done), by repeat (first | exact Drawn0.refl _ | apply Drawn0.step)⟩
                all_goals (exfalso; (try simp only [pwB, pwD, pwN] at c2b0); (try simp only [pwB, pwD, pwN] at c3b0); (try simp only [pwB, pwD, pwN] at c5b0); (try simp only [pwB, pwD, pwN] at c7b0); (try simp only [pwB, pwD, pwN] at c9b0); (try simp only [pwB, pwD, pwN] at c9b1); (try unfold wrap64 at *); omega)
              · rw [if_neg c9] at H
                have c9b0 : ((bt a0 x3_1) == 92) = false := beq_eq_false_iff_ne.mpr c9
                have c9b1 : ((bt a0 x3_1) != 92) = true := bne_iff_ne.mpr c9
                have H' := Aside0.mk H
                clear H
                have p4 : 0 ≤ (x3_1 : Int) := of_decide_eq_true (by first | (with_reducible assumption) | assumption)
                have q4 : x3_1 < (a0.size : Int) := of_decide_eq_true (by first | (with_reducible assumption) | assumption)
                have hx4 := bt_at a0 x3_1
                replace p4 := eq_true p4
                replace q4 := eq_true q4
                have p6 : 0 ≤ (x3_1 : Int) := of_decide_eq_true (by first | (with_reducible assumption) | assumption)
                have q6 : x3_1 < (a0.size : Int) := of_decide_eq_true (by first | (with_reducible assumption) | assumption)
                have hx6 := bt_at a0 x3_1
                replace p6 := eq_true p6
                replace q6 := eq_true q6
                have p8 : 0 ≤ (x3_1 : Int) := of_decide_eq_true (by first | (with_reducible assumption) | assumption)
                have q8 : x3_1 < (a0.size : Int) := of_decide_eq_true (by first | (with_reducible assumption) | assumption)
                have hx8 := bt_at a0 x3_1
                replace p8 := eq_true p8
                replace q8 := eq_true q8
                go_wp2
                go_roundg k1
                case measure => have := HK1.out; omega
                case rel => exact ⟨(wrap64 (x3_1 + 1)), (by first | rfl | (simp; done) | (simp [*]; done)), H', ⟨by have := HK1.out; omega⟩, by repeat (first | exact Drawn0.refl _ | apply Drawn0.step)⟩
                all_goals (exfalso; (try simp only [pwB, pwD, pwN] at c2b0); (try simp only [pwB, pwD, pwN] at c3b0); (try simp only [pwB, pwD, pwN] at c5b0); (try simp only [pwB, pwD, pwN] at c7b0); (try simp only [pwB, pwD, pwN] at c9b0); (try simp only [pwB, pwD, pwN] at c9b1); (try unfold wrap64 at *); omega)
        · rw [if_neg c3] at H
          exact absurd H (by simp)
      · rw [if_neg c2] at H
        have c2b0 : decide (x3_1 < (a0.size : Int)) = false := decide_eq_false c2
        clear c2
        by_cases c10 : (a0.size : Int) ≥ 1
        · rw [if_pos c10] at H
          have c10b0 : decide (1 ≤ (a0.size : Int)) = true := decide_eq_true c10
          have c10b1 : decide (1 ≤ a0.size) = true := decide_eq_true (by omega)
          clear c10
          obtain rfl := Option.some.inj H
          go_wp2
          go_ret
          exact ⟨by first | rfl | (simp; done) | (simp [*]; done), by repeat (first | exact Drawn0.refl _ | apply Drawn0.step)⟩
          all_goals (exfalso; (try simp only [pwB, pwD, pwN] at c2b0); (try simp only [pwB, pwD, pwN] at c10b0); (try simp only [pwB, pwD, pwN] at c10b1); (try unfold wrap64 at *); omega)
        · rw [if_neg c10] at H
          have c10b0 : decide (1 ≤ (a0.size : Int)) = false := decide_eq_false c10
          have c10b1 : decide (1 ≤ a0.size) = false := decide_eq_false (by omega)
          clear c10
          obtain rfl := Option.some.inj H
          go_wp2
          go_ret
          exact ⟨by first | rfl | (simp; done) | (simp [*]; done), by repeat (first | exact Drawn0.refl _ | apply Drawn0.step)⟩
          all_goals (exfalso; (try simp only [pwB, pwD, pwN] at c2b0); (try simp only [pwB, pwD, pwN] at c10b0); (try simp only [pwB, pwD, pwN] at c10b1); (try unfold wrap64 at *); omega)

-- NOT PRINTED: function 4 (ammonitelaw10_EscapeTells)

-- NOT PRINTED: function 5 (ammonitelaw10_EscapeBack)

-- NOT PRINTED: function 6 (ammonitelaw10_EscapeWords)

end Go.Proofs.Ytkfjaijjkbadfaa.Q
