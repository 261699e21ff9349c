-- Written by a program of this session (wip/tools/ap.py) for this claim.
import Derived.Test.YtkfjaijjkbadfaaQx0
namespace Go.Proofs.Ytkfjaijjkbadfaa.Q
open Go.Proofs.Ytkfjaijjkbadfaa.Given
open Go.RowKit Go.Proofs.Ytkfjaijjkbadfaa.PW Go.Proofs.YtkfjaijjkbadfaaW.PrintWords Go.Proofs.YtkfjaijjkbadfaaW.PrintLast Go.Proofs.YtkfjaijjkbadfaaW.PrintMore
attribute [local go_sem] max2_int min2_int max_two min_two max_three min_three max_four min_four   -- for this text's walks alone
set_option linter.unnecessarySimpa false
attribute [local go_sem high] run_cut_if run_cut_from run_cut_to run_cat_if
set_option linter.unusedVariables false
set_option linter.unusedSimpArgs false

/-! ### escape_Word: function 7 -/
def escape_Word.l0 : Nat → ByteArray → Int → Int → Option (Bool)
  | 0, _, _, _ => none
  | k + 1, x0, x5, x6 => if x6 < x5 then (if 0 ≤ x6 then (if x6 < (x0.size : Int) then (if (bt x0 x6) ≤ 32 then (some false) else (if (bt x0 x6) > 126 then (some false) else (if (bt x0 x6) = 92 then (some false) else (escape_Word.l0 k x0 x5 (wrap64 (x6 + 1)))))) else (none)) else (none)) else (if x0.toList = ([] : List UInt8) then (some false) else (some (decide ((x0.size : Int) ≤ 12))))
def escape_Word.f (k : Nat) (a0 : ByteArray) : Option (Bool) := escape_Word.l0 k a0 (a0.size : Int) 0
theorem escape_Word.mono_l : ∀ k, (∀ y0 y1 y2, LeO (escape_Word.l0 k y0 y1 y2) (escape_Word.l0 (k + 1) y0 y1 y2))
  | 0 => fun _ _ _ r h => by simp [escape_Word.l0] at h
  | k + 1 => by
    have ih0 := escape_Word.mono_l k
    · intro y0 y1 y2
      unfold escape_Word.l0
      repeat' first
      | (with_reducible exact ih0 _ _ _)
      | (with_reducible exact LeO.refl _)
      | (with_reducible exact LeO.none _)
      | (with_reducible refine LeO.ite ?_ ?_)
      | (with_reducible refine LeO.bind ?_ (fun _ => ?_))
      | exact ih0 _ _ _
      | exact LeO.none _
      | refine LeO.ite ?_ ?_
      | refine LeO.bind ?_ (fun _ => ?_)
theorem escape_Word.mono : ∀ a0 k, LeO (escape_Word.f k a0) (escape_Word.f (k + 1) a0) := by
  intro a0 k
  have ih0 := escape_Word.mono_l k
  unfold escape_Word.f
  repeat' first
      | (with_reducible exact ih0 _ _ _)
      | (with_reducible exact LeO.refl _)
      | (with_reducible exact LeO.none _)
      | (with_reducible refine LeO.ite ?_ ?_)
      | (with_reducible refine LeO.bind ?_ (fun _ => ?_))
      | exact ih0 _ _ _
      | exact LeO.none _
      | refine LeO.ite ?_ ?_
      | refine LeO.bind ?_ (fun _ => ?_)
set_option maxHeartbeats 8000000 in
set_option maxRecDepth 100000 in
theorem escape_Word.calls (k : Nat) (a0 : ByteArray) (r : Bool) (w : World) (h : escape_Word.f k a0 = some r) :
    Calls Try.prog 7 #[.string a0] w fun e w' => e = .returned (.bool r) ∧ Drawn0 w w' := by
  have H : (escape_Word.l0 k a0 (a0.size : Int) 0) = some r := h
  clear h
  have H' := Aside0.mk H
  clear H
  go_enter Try.func7, Try.ntmps7
  go_wp2
  go_loopg [6] k (fun kq v6 w' => ∃ (x6_1 : Int), v6 = .int .i64 x6_1 ∧ Aside0 (escape_Word.l0 kq a0 (a0.size : Int) x6_1 = some r) ∧ Aside0 (kq ≤ k) ∧ Drawn0 w w')
  case atStart => exact ⟨(0), (by first | rfl | (simp; done) | (simp [*]; done)), H', ⟨Nat.le_refl _⟩, by repeat (first | exact Drawn0.refl _ | apply Drawn0.step)⟩
  case round =>
    clear H'
    obtain ⟨x6_1, rfl, HA, HK1, ⟨m1, rfl⟩⟩ := hrel
    cases gk with
    | zero => exact absurd HA.out (by simp [escape_Word.l0])
    | succ k1 =>
      have H := HA.out
      clear HA
      simp only [escape_Word.l0] at H
      by_cases c2 : x6_1 < (a0.size : Int)
      · rw [if_pos c2] at H
        have c2b0 : decide (x6_1 < (a0.size : Int)) = true := decide_eq_true c2
        clear c2
        by_cases c3 : 0 ≤ x6_1
        · rw [if_pos c3] at H
          have c3b0 : decide (0 ≤ x6_1) = true := decide_eq_true c3
          clear c3
          by_cases c4 : x6_1 < (a0.size : Int)
          · rw [if_pos c4] at H
            have c4b0 : decide (x6_1 < (a0.size : Int)) = true := decide_eq_true c4
            clear c4
            by_cases c6 : (bt a0 x6_1) ≤ 32
            · rw [if_pos c6] at H
              have c6b0 : decide ((bt a0 x6_1) ≤ 32) = true := decide_eq_true c6
              clear c6
              obtain rfl := Option.some.inj H
              have p5 : 0 ≤ (x6_1 : Int) := of_decide_eq_true (by first | (with_reducible assumption) | assumption)
              have q5 : x6_1 < (a0.size : Int) := of_decide_eq_true (by first | (with_reducible assumption) | assumption)
              have hx5 := bt_at a0 x6_1
              replace p5 := eq_true p5
              replace q5 := eq_true q5
              go_wp2
              go_ret
              exact ⟨by first | rfl | (simp; done) | (simp [*]; done), by repeat (first | exact Drawn0.refl _ | apply Drawn0.step)⟩
              all_goals (exfalso; (try simp only [pwB, pwD, pwN] at c2b0); (try simp only [pwB, pwD, pwN] at c3b0); (try simp only [pwB, pwD, pwN] at c4b0); (try simp only [pwB, pwD, pwN] at c6b0); (try unfold wrap64 at *); omega)
            · rw [if_neg c6] at H
              have c6b0 : decide ((bt a0 x6_1) ≤ 32) = false := decide_eq_false c6
              clear c6
              by_cases c8 : (bt a0 x6_1) > 126
              · rw [if_pos c8] at H
                have c8b0 : decide (126 < (bt a0 x6_1)) = true := decide_eq_true c8
                clear c8
                obtain rfl := Option.some.inj H
                have p5 : 0 ≤ (x6_1 : Int) := of_decide_eq_true (by first | (with_reducible assumption) | assumption)
                have q5 : x6_1 < (a0.size : Int) := of_decide_eq_true (by first | (with_reducible assumption) | assumption)
                have hx5 := bt_at a0 x6_1
                replace p5 := eq_true p5
                replace q5 := eq_true q5
                have p7 : 0 ≤ (x6_1 : Int) := of_decide_eq_true (by first | (with_reducible assumption) | assumption)
                have q7 : x6_1 < (a0.size : Int) := of_decide_eq_true (by first | (with_reducible assumption) | assumption)
                have hx7 := bt_at a0 x6_1
                replace p7 := eq_true p7
                replace q7 := eq_true q7
                go_wp2
                go_ret
                exact ⟨by first | rfl | (simp; done) | (simp [*]; done), by repeat (first | exact Drawn0.refl _ | apply Drawn0.step)⟩
                all_goals (exfalso; (try simp only [pwB, pwD, pwN] at c2b0); (try simp only [pwB, pwD, pwN] at c3b0); (try simp only [pwB, pwD, pwN] at c4b0); (try simp only [pwB, pwD, pwN] at c6b0); (try simp only [pwB, pwD, pwN] at c8b0); (try unfold wrap64 at *); omega)
              · rw [if_neg c8] at H
                have c8b0 : decide (126 < (bt a0 x6_1)) = false := decide_eq_false c8
                clear c8
                by_cases c10 : (bt a0 x6_1) = 92
                · rw [if_pos c10] at H
                  have c10b0 : ((bt a0 x6_1) == 92) = true := beq_iff_eq.mpr c10
                  have c10b1 : ((bt a0 x6_1) != 92) = false := bne_eq_false_iff_eq.mpr c10
                  clear c10
                  obtain rfl := Option.some.inj H
                  have p5 : 0 ≤ (x6_1 : Int) := of_decide_eq_true (by first | (with_reducible assumption) | assumption)
                  have q5 : x6_1 < (a0.size : Int) := of_decide_eq_true (by first | (with_reducible assumption) | assumption)
                  have hx5 := bt_at a0 x6_1
                  replace p5 := eq_true p5
                  replace q5 := eq_true q5
                  have p7 : 0 ≤ (x6_1 : Int) := of_decide_eq_true (by first | (with_reducible assumption) | assumption)
                  have q7 : x6_1 < (a0.size : Int) := of_decide_eq_true (by first | (with_reducible assumption) | assumption)
                  have hx7 := bt_at a0 x6_1
                  replace p7 := eq_true p7
                  replace q7 := eq_true q7
                  have p9 : 0 ≤ (x6_1 : Int) := of_decide_eq_true (by first | (with_reducible assumption) | assumption)
                  have q9 : x6_1 < (a0.size : Int) := of_decide_eq_true (by first | (with_reducible assumption) | assumption)
                  have hx9 := bt_at a0 x6_1
                  replace p9 := eq_true p9
                  replace q9 := eq_true q9
                  go_wp2
                  go_ret
                  exact ⟨by first | rfl | (simp; done) | (simp [*]; done), by repeat (first | exact Drawn0.refl _ | apply Drawn0.step)⟩
                  all_goals (exfalso; (try simp only [pwB, pwD, pwN] at c2b0); (try simp only [pwB, pwD, pwN] at c3b0); (try simp only [pwB, pwD, pwN] at c4b0); (try simp only [pwB, pwD, pwN] at c6b0); (try simp only [pwB, pwD, pwN] at c8b0); (try simp only [pwB, pwD, pwN] at c10b0); (try simp only [pwB, pwD, pwN] at c10b1); (try unfold wrap64 at *); omega)
                · rw [if_neg c10] at H
                  have c10b0 : ((bt a0 x6_1) == 92) = false := beq_eq_false_iff_ne.mpr c10
                  have c10b1 : ((bt a0 x6_1) != 92) = true := bne_iff_ne.mpr c10
                  have H' := Aside0.mk H
                  clear H
                  have p5 : 0 ≤ (x6_1 : Int) := of_decide_eq_true (by first | (with_reducible assumption) | assumption)
                  have q5 : x6_1 < (a0.size : Int) := of_decide_eq_true (by first | (with_reducible assumption) | assumption)
                  have hx5 := bt_at a0 x6_1
                  replace p5 := eq_true p5
                  replace q5 := eq_true q5
                  have p7 : 0 ≤ (x6_1 : Int) := of_decide_eq_true (by first | (with_reducible assumption) | assumption)
                  have q7 : x6_1 < (a0.size : Int) := of_decide_eq_true (by first | (with_reducible assumption) | assumption)
                  have hx7 := bt_at a0 x6_1
                  replace p7 := eq_true p7
                  replace q7 := eq_true q7
                  have p9 : 0 ≤ (x6_1 : Int) := of_decide_eq_true (by first | (with_reducible assumption) | assumption)
                  have q9 : x6_1 < (a0.size : Int) := of_decide_eq_true (by first | (with_reducible assumption) | assumption)
                  have hx9 := bt_at a0 x6_1
                  replace p9 := eq_true p9
                  replace q9 := eq_true q9
                  go_wp2
                  go_roundg k1
                  case measure => have := HK1.out; omega
                  case rel => exact ⟨(wrap64 (x6_1 + 1)), (by first | rfl | (simp; done) | (simp [*]; done)), H', ⟨by have := HK1.out; omega⟩, by repeat (first | exact Drawn0.refl _ | apply Drawn0.step)⟩
                  all_goals (exfalso; (try simp only [pwB, pwD, pwN] at c2b0); (try simp only [pwB, pwD, pwN] at c3b0); (try simp only [pwB, pwD, pwN] at c4b0); (try simp only [pwB, pwD, pwN] at c6b0); (try simp only [pwB, pwD, pwN] at c8b0); (try simp only [pwB, pwD, pwN] at c10b0); (try simp only [pwB, pwD, pwN] at c10b1); (try unfold wrap64 at *); omega)
          · rw [if_neg c4] at H
            exact absurd H (by simp)
        · rw [if_neg c3] at H
          exact absurd H (by simp)
      · rw [if_neg c2] at H
        have c2b0 : decide (x6_1 < (a0.size : Int)) = false := decide_eq_false c2
        clear c2
        by_cases c11 : a0.toList = ([] : List UInt8)
        · rw [if_pos c11] at H
          have c11b0 : (a0.toList == ([] : List UInt8)) = true := beq_iff_eq.mpr c11
          have c11b1 : (a0.toList != ([] : List UInt8)) = false := bne_eq_false_iff_eq.mpr c11
          clear c11
          obtain rfl := Option.some.inj H
          go_wp2
          go_ret
          exact ⟨by first | rfl | (simp; done) | (simp [*]; done), by repeat (first | exact Drawn0.refl _ | apply Drawn0.step)⟩
          all_goals (exfalso; (try simp only [pwB, pwD, pwN] at c2b0); (try simp only [pwB, pwD, pwN] at c11b0); (try simp only [pwB, pwD, pwN] at c11b1); (try unfold wrap64 at *); omega)
        · rw [if_neg c11] at H
          have c11b0 : (a0.toList == ([] : List UInt8)) = false := beq_eq_false_iff_ne.mpr c11
          have c11b1 : (a0.toList != ([] : List UInt8)) = true := bne_iff_ne.mpr c11
          obtain rfl := Option.some.inj H
          go_wp2
          go_ret
          exact ⟨by first | rfl | (simp; done) | (simp [*]; done), by repeat (first | exact Drawn0.refl _ | apply Drawn0.step)⟩
          all_goals (exfalso; (try simp only [pwB, pwD, pwN] at c2b0); (try simp only [pwB, pwD, pwN] at c11b0); (try simp only [pwB, pwD, pwN] at c11b1); (try unfold wrap64 at *); omega)

-- NOT PRINTED: function 8 (escape_Words)

-- NOT PRINTED: function 24 (abi_NoEscape)

-- NOT PRINTED: function 22 (strings_Builder_copyCheck)

-- NOT PRINTED: function 18 (strings_Builder_WriteByte)

-- NOT PRINTED: function 19 (strings_Builder_String)

-- NOT PRINTED: function 20 (strings_Builder_WriteString)

-- NOT PRINTED: function 3 (ammonitelaw10_EscapeRuns)

/-! ### ammoniteref10_Unescape: function 11 -/
mutual
def ammoniteref10_Unescape.l0 : Nat → ByteArray → ByteArray → Int → Option (ByteArray × Bool)
  | 0, _, _, _ => none
  | k + 1, x0, x4, x5 => if x5 < (x0.size : Int) then (if 0 ≤ x5 then (if (bt x0 x5) = 32 then (ammoniteref10_Unescape.j1 k x0 x4 x5 (bt x0 x5) true) else (ammoniteref10_Unescape.j1 k x0 x4 x5 (bt x0 x5) ((bt x0 x5) == 10))) else (none)) else (some (x4, true))
def ammoniteref10_Unescape.j1 : Nat → ByteArray → ByteArray → Int → Int → Bool → Option (ByteArray × Bool)
  | 0, _, _, _, _, _ => none
  | k + 1, x0, x4, x5, x6, x21 => if x21 = true then (some ((⟨#[]⟩ : ByteArray), false)) else (if x6 = 92 then (if (wrap64 (x5 + 1)) ≥ (x0.size : Int) then (some ((⟨#[]⟩ : ByteArray), false)) else (if 0 ≤ (wrap64 (x5 + 1)) then (if (wrap64 (x5 + 1)) < (x0.size : Int) then (if (bt x0 (wrap64 (x5 + 1))) = 115 then (if x4.size + 1 ≤ 9223372036854775807 then (ammoniteref10_Unescape.l0 k x0 (catS x4 (⟨#[32]⟩ : ByteArray)) (wrap64 ((wrap64 (x5 + 1)) + 1))) else (none)) else (if (bt x0 (wrap64 (x5 + 1))) = 110 then (if x4.size + 1 ≤ 9223372036854775807 then (ammoniteref10_Unescape.l0 k x0 (catS x4 (⟨#[10]⟩ : ByteArray)) (wrap64 ((wrap64 (x5 + 1)) + 1))) else (none)) else (if (bt x0 (wrap64 (x5 + 1))) = 92 then (if x4.size + 1 ≤ 9223372036854775807 then (ammoniteref10_Unescape.l0 k x0 (catS x4 (⟨#[92]⟩ : ByteArray)) (wrap64 ((wrap64 (x5 + 1)) + 1))) else (none)) else (some ((⟨#[]⟩ : ByteArray), false))))) else (none)) else (none))) else (if 0 ≤ x5 then (if x5 ≤ (wrap64 (x5 + 1)) then (if (wrap64 (x5 + 1)) ≤ (x0.size : Int) then (if x4.size + (cutS x0 (x5 : Int).toNat ((wrap64 (x5 + 1)) : Int).toNat).size ≤ 9223372036854775807 then (ammoniteref10_Unescape.l0 k x0 (catS x4 (cutS x0 (x5 : Int).toNat ((wrap64 (x5 + 1)) : Int).toNat)) (wrap64 (x5 + 1))) else (none)) else (none)) else (none)) else (none)))
end
def ammoniteref10_Unescape.f (k : Nat) (a0 : ByteArray) : Option (ByteArray × Bool) := ammoniteref10_Unescape.l0 k a0 (⟨#[]⟩ : ByteArray) 0
theorem ammoniteref10_Unescape.mono_l : ∀ k, (∀ y0 y1 y2, LeO (ammoniteref10_Unescape.l0 k y0 y1 y2) (ammoniteref10_Unescape.l0 (k + 1) y0 y1 y2)) ∧ (∀ y0 y1 y2 y3 y4, LeO (ammoniteref10_Unescape.j1 k y0 y1 y2 y3 y4) (ammoniteref10_Unescape.j1 (k + 1) y0 y1 y2 y3 y4))
  | 0 => ⟨fun _ _ _ r h => by simp [ammoniteref10_Unescape.l0] at h, fun _ _ _ _ _ r h => by simp [ammoniteref10_Unescape.j1] at h⟩
  | k + 1 => by
    obtain ⟨ih0, ih1⟩ := ammoniteref10_Unescape.mono_l k
    refine ⟨?_, ?_⟩
    · intro y0 y1 y2
      unfold ammoniteref10_Unescape.l0
      repeat' first
      | (with_reducible exact ih0 _ _ _)
      | (with_reducible exact ih1 _ _ _ _ _)
      | (with_reducible exact LeO.refl _)
      | (with_reducible exact LeO.none _)
      | (with_reducible refine LeO.ite ?_ ?_)
      | (with_reducible refine LeO.bind ?_ (fun _ => ?_))
      | exact ih0 _ _ _
      | exact ih1 _ _ _ _ _
      | exact LeO.none _
      | refine LeO.ite ?_ ?_
      | refine LeO.bind ?_ (fun _ => ?_)
    · intro y0 y1 y2 y3 y4
      unfold ammoniteref10_Unescape.j1
      repeat' first
      | (with_reducible exact ih0 _ _ _)
      | (with_reducible exact ih1 _ _ _ _ _)
      | (with_reducible exact LeO.refl _)
      | (with_reducible exact LeO.none _)
      | (with_reducible refine LeO.ite ?_ ?_)
      | (with_reducible refine LeO.bind ?_ (fun _ => ?_))
      | exact ih0 _ _ _
      | exact ih1 _ _ _ _ _
      | exact LeO.none _
      | refine LeO.ite ?_ ?_
      | refine LeO.bind ?_ (fun _ => ?_)
theorem ammoniteref10_Unescape.mono : ∀ a0 k, LeO (ammoniteref10_Unescape.f k a0) (ammoniteref10_Unescape.f (k + 1) a0) := by
  intro a0 k
  obtain ⟨ih0, ih1⟩ := ammoniteref10_Unescape.mono_l k
  unfold ammoniteref10_Unescape.f
  repeat' first
      | (with_reducible exact ih0 _ _ _)
      | (with_reducible exact ih1 _ _ _ _ _)
      | (with_reducible exact LeO.refl _)
      | (with_reducible exact LeO.none _)
      | (with_reducible refine LeO.ite ?_ ?_)
      | (with_reducible refine LeO.bind ?_ (fun _ => ?_))
      | exact ih0 _ _ _
      | exact ih1 _ _ _ _ _
      | exact LeO.none _
      | refine LeO.ite ?_ ?_
      | refine LeO.bind ?_ (fun _ => ?_)
set_option maxHeartbeats 8000000 in
set_option maxRecDepth 100000 in
theorem ammoniteref10_Unescape.calls (k : Nat) (a0 : ByteArray) (r1 : ByteArray) (r2 : Bool) (w : World) (h : ammoniteref10_Unescape.f k a0 = some (r1, r2)) :
    Calls Try.prog 11 #[.string a0] w fun e w' => e = .returned (.tuple #[.string r1, .bool r2]) ∧ Drawn0 w w' := by
  have H : (ammoniteref10_Unescape.l0 k a0 (⟨#[]⟩ : ByteArray) 0) = some (r1, r2) := h
  clear h
  have H' := Aside0.mk H
  clear H
  go_enter Try.func11, Try.ntmps11
  go_wp2
  go_loopg [4, 5] k (fun kq v4 v5 w' => ∃ (x4_1 : ByteArray) (x5_1 : Int), v4 = .string x4_1 ∧ v5 = .int .i64 x5_1 ∧ Aside0 (ammoniteref10_Unescape.l0 kq a0 x4_1 x5_1 = some (r1, r2)) ∧ Aside0 (kq ≤ k) ∧ Drawn0 w w')
  case atStart => exact ⟨((⟨#[]⟩ : ByteArray)), (0), (by first | rfl | (simp; done) | (simp [*]; done)), (by first | rfl | (simp; done) | (simp [*]; done)), H', ⟨Nat.le_refl _⟩, by repeat (first | exact Drawn0.refl _ | apply Drawn0.step)⟩
  case round =>
    clear H'
    try clear c1
    obtain ⟨x4_1, x5_1, rfl, rfl, HA, HK1, ⟨m1, rfl⟩⟩ := hrel
    cases gk with
    | zero => exact absurd HA.out (by simp [ammoniteref10_Unescape.l0])
    | succ k1 =>
      have H := HA.out
      clear HA
      simp only [ammoniteref10_Unescape.l0] at H
      by_cases c2 : x5_1 < (a0.size : Int)
      · rw [if_pos c2] at H
        have c2b0 : decide (x5_1 < (a0.size : Int)) = true := decide_eq_true c2
        clear c2
        by_cases c3 : 0 ≤ x5_1
        · rw [if_pos c3] at H
          have c3b0 : decide (0 ≤ x5_1) = true := decide_eq_true c3
          clear c3
          have HC5 := Aside0.mk H
          clear H
          have p4 : 0 ≤ (x5_1 : Int) := of_decide_eq_true (by first | (with_reducible assumption) | assumption)
          have q4 : x5_1 < (a0.size : Int) := of_decide_eq_true (by first | (with_reducible assumption) | assumption)
          have hx4 := bt_at a0 x5_1
          replace p4 := eq_true p4
          replace q4 := eq_true q4
          go_upto_region 6 with (fail)
          go_cut [21] (fun v21 wc => ∃ (kq : Nat) (x21_4 : Bool), v21 = .bool x21_4 ∧ Aside0 (ammoniteref10_Unescape.j1 kq a0 x4_1 x5_1 (bt a0 x5_1) x21_4 = some (r1, r2)) ∧ Aside0 (kq ≤ k1) ∧ Drawn0 w wc)
          case first =>
            have H := HC5.out
            clear HC5
            by_cases c6 : (bt a0 x5_1) = 32
            · rw [if_pos c6] at H
              have c6b0 : ((bt a0 x5_1) == 32) = true := beq_iff_eq.mpr c6
              have c6b1 : ((bt a0 x5_1) != 32) = false := bne_eq_false_iff_eq.mpr c6
              clear c6
              (first | rw [c6b0] | (simp only [i64_w, i32_w]; rw [c6b0]) | skip)
              have H' := Aside0.mk H
              clear H
              go_wp2
              go_meet
              case rel => exact ⟨_, (true), (by first | rfl | (simp; done) | (simp [*]; done)), H', ⟨by have := HK1.out; first | omega | exact Nat.le_refl _⟩, by repeat (first | exact Drawn0.refl _ | apply Drawn0.step)⟩
              all_goals (exfalso; (try simp only [pwB, pwD, pwN] at c2b0); (try simp only [pwB, pwD, pwN] at c3b0); (try simp only [pwB, pwD, pwN] at c6b0); (try simp only [pwB, pwD, pwN] at c6b1); (try unfold wrap64 at *); omega)
            · rw [if_neg c6] at H
              have c6b0 : ((bt a0 x5_1) == 32) = false := beq_eq_false_iff_ne.mpr c6
              have c6b1 : ((bt a0 x5_1) != 32) = true := bne_iff_ne.mpr c6
              (first | rw [c6b0] | (simp only [i64_w, i32_w]; rw [c6b0]) | skip)
              have H' := Aside0.mk H
              clear H
              go_wp2
              go_meet
              case rel => exact ⟨_, (((bt a0 x5_1) == 10)), (by first | rfl | (simp; done) | (simp [*]; done)), H', ⟨by have := HK1.out; first | omega | exact Nat.le_refl _⟩, by repeat (first | exact Drawn0.refl _ | apply Drawn0.step)⟩
              all_goals (exfalso; (try simp only [pwB, pwD, pwN] at c2b0); (try simp only [pwB, pwD, pwN] at c3b0); (try simp only [pwB, pwD, pwN] at c6b0); (try simp only [pwB, pwD, pwN] at c6b1); (try unfold wrap64 at *); omega)
          case rest =>
            clear HC5
            try clear c1
            try clear c2
            try clear c2b0
            try clear p2
            try clear c3
            try clear c3b0
            try clear p4
            try clear q4
            try clear hx4
            try clear c6
            try clear c6b0
            try clear c6b1
            try clear p6
            try clear p4
            try clear q4
            obtain ⟨kq, x21_4, rfl, HA, HJ4, ⟨mc4, rfl⟩⟩ := hcut
            cases kq with
            | zero => exact absurd HA.out (by simp [ammoniteref10_Unescape.j1])
            | succ kj4 =>
              have H := HA.out
              clear HA
              simp only [ammoniteref10_Unescape.j1] at H
              by_cases c7 : x21_4 = true
              · subst c7
                have H1 : (some ((⟨#[]⟩ : ByteArray), false)) = some (r1, r2) := by rw [if_pos rfl] at H; exact H
                clear H
                have H := H1
                clear H1
                simp only [Option.some.injEq, Prod.mk.injEq] at H
                obtain ⟨rfl, rfl⟩ := H
                go_wp2
                go_ret2
                exact ⟨by first | rfl | (simp; done) | (simp [*]; done), by repeat (first | exact Drawn0.refl _ | apply Drawn0.step)⟩
                all_goals (exfalso; (try simp only [pwB, pwD, pwN] at c2b0); (try simp only [pwB, pwD, pwN] at c3b0); (try unfold wrap64 at *); omega)
              · replace c7 := Bool.eq_false_iff.mpr c7
                subst c7
                have H1 : (if (bt a0 x5_1) = 92 then (if (wrap64 (x5_1 + 1)) ≥ (a0.size : Int) then (some ((⟨#[]⟩ : ByteArray), false)) else (if 0 ≤ (wrap64 (x5_1 + 1)) then (if (wrap64 (x5_1 + 1)) < (a0.size : Int) then (if (bt a0 (wrap64 (x5_1 + 1))) = 115 then (if x4_1.size + 1 ≤ 9223372036854775807 then (ammoniteref10_Unescape.l0 kj4 a0 (catS x4_1 (⟨#[32]⟩ : ByteArray)) (wrap64 ((wrap64 (x5_1 + 1)) + 1))) else (none)) else (if (bt a0 (wrap64 (x5_1 + 1))) = 110 then (if x4_1.size + 1 ≤ 9223372036854775807 then (ammoniteref10_Unescape.l0 kj4 a0 (catS x4_1 (⟨#[10]⟩ : ByteArray)) (wrap64 ((wrap64 (x5_1 + 1)) + 1))) else (none)) else (if (bt a0 (wrap64 (x5_1 + 1))) = 92 then (if x4_1.size + 1 ≤ 9223372036854775807 then (ammoniteref10_Unescape.l0 kj4 a0 (catS x4_1 (⟨#[92]⟩ : ByteArray)) (wrap64 ((wrap64 (x5_1 + 1)) + 1))) else (none)) else (some ((⟨#[]⟩ : ByteArray), false))))) else (none)) else (none))) else (if 0 ≤ x5_1 then (if x5_1 ≤ (wrap64 (x5_1 + 1)) then (if (wrap64 (x5_1 + 1)) ≤ (a0.size : Int) then (if x4_1.size + (cutS a0 (x5_1 : Int).toNat ((wrap64 (x5_1 + 1)) : Int).toNat).size ≤ 9223372036854775807 then (ammoniteref10_Unescape.l0 kj4 a0 (catS x4_1 (cutS a0 (x5_1 : Int).toNat ((wrap64 (x5_1 + 1)) : Int).toNat)) (wrap64 (x5_1 + 1))) else (none)) else (none)) else (none)) else (none))) = some (r1, r2) := by rw [if_neg (show ¬ (false = true) by decide)] at H; exact H
                clear H
                have H := H1
                clear H1
                by_cases c8 : (bt a0 x5_1) = 92
                · rw [if_pos c8] at H
                  have c8b0 : ((bt a0 x5_1) == 92) = true := beq_iff_eq.mpr c8
                  have c8b1 : ((bt a0 x5_1) != 92) = false := bne_eq_false_iff_eq.mpr c8
                  clear c8
                  by_cases c9 : (wrap64 (x5_1 + 1)) ≥ (a0.size : Int)
                  · rw [if_pos c9] at H
                    have c9b0 : decide ((a0.size : Int) ≤ (wrap64 (x5_1 + 1))) = true := decide_eq_true c9
                    clear c9
                    simp only [Option.some.injEq, Prod.mk.injEq] at H
                    obtain ⟨rfl, rfl⟩ := H
                    go_wp2
                    go_ret2
                    exact ⟨by first | rfl | (simp; done) | (simp [*]; done), by repeat (first | exact Drawn0.refl _ | apply Drawn0.step)⟩
                    all_goals (exfalso; (try simp only [pwB, pwD, pwN] at c2b0); (try simp only [pwB, pwD, pwN] at c3b0); (try simp only [pwB, pwD, pwN] at c8b0); (try simp only [pwB, pwD, pwN] at c8b1); (try simp only [pwB, pwD, pwN] at c9b0); (try unfold wrap64 at *); omega)
                  · rw [if_neg c9] at H
                    have c9b0 : decide ((a0.size : Int) ≤ (wrap64 (x5_1 + 1))) = false := decide_eq_false c9
                    clear c9
                    obtain ⟨ji10, hji10⟩ : ∃ j_ : Int, (wrap64 (x5_1 + 1)) = j_ := ⟨_, rfl⟩
                    replace H : (if 0 ≤ (ji10) then (if (ji10) < (a0.size : Int) then (if (bt a0 (ji10)) = 115 then (if x4_1.size + 1 ≤ 9223372036854775807 then (ammoniteref10_Unescape.l0 kj4 a0 (catS x4_1 (⟨#[32]⟩ : ByteArray)) (wrap64 ((ji10) + 1))) else (none)) else (if (bt a0 (ji10)) = 110 then (if x4_1.size + 1 ≤ 9223372036854775807 then (ammoniteref10_Unescape.l0 kj4 a0 (catS x4_1 (⟨#[10]⟩ : ByteArray)) (wrap64 ((ji10) + 1))) else (none)) else (if (bt a0 (ji10)) = 92 then (if x4_1.size + 1 ≤ 9223372036854775807 then (ammoniteref10_Unescape.l0 kj4 a0 (catS x4_1 (⟨#[92]⟩ : ByteArray)) (wrap64 ((ji10) + 1))) else (none)) else (some ((⟨#[]⟩ : ByteArray), false))))) else (none)) else (none)) = some (r1, r2) := by first | (rw [hji10] at H; exact H) | (simp only [hji10] at H ⊢; exact H)
                    (try rw [hji10] at c9b0)
                    have hji10w : (IntKind.i64.wrap (x5_1 + 1)) = ji10 := (i64_w _).trans hji10
                    by_cases c11 : 0 ≤ (ji10)
                    · rw [if_pos c11] at H
                      have c11b0 : decide (0 ≤ (ji10)) = true := decide_eq_true c11
                      clear c11
                      by_cases c12 : (ji10) < (a0.size : Int)
                      · rw [if_pos c12] at H
                        have c12b0 : decide ((ji10) < (a0.size : Int)) = true := decide_eq_true c12
                        clear c12
                        by_cases c14 : (bt a0 (ji10)) = 115
                        · rw [if_pos c14] at H
                          have c14b0 : ((bt a0 (ji10)) == 115) = true := beq_iff_eq.mpr c14
                          have c14b1 : ((bt a0 (ji10)) != 115) = false := bne_eq_false_iff_eq.mpr c14
                          clear c14
                          by_cases c15 : x4_1.size + 1 ≤ 9223372036854775807
                          · rw [if_pos c15] at H
                            have c15b0 := eq_true c15
                            have c15b1 : decide (x4_1.size + 1 ≤ 9223372036854775807) = true := decide_eq_true c15
                            try have c15b2 : (9223372036854775807 < x4_1.size + 1) = False := eq_false (Nat.not_lt.2 c15)
                            clear c15
                            have H' := Aside0.mk H
                            clear H
                            have p13 : 0 ≤ ((ji10) : Int) := of_decide_eq_true (by first | (with_reducible assumption) | assumption)
                            have q13 : (ji10) < (a0.size : Int) := of_decide_eq_true (by first | (with_reducible assumption) | assumption)
                            have hx13 := bt_at a0 (ji10)
                            replace p13 := eq_true p13
                            replace q13 := eq_true q13
                            go_wp2
                            go_roundg kj4
                            case measure => have := HK1.out; have := HJ4.out; omega
                            case rel => exact ⟨(catS x4_1 (⟨#[32]⟩ : ByteArray)), (wrap64 ((ji10) + 1)), (by first | rfl | (simp; done) | (simp [*]; done)), (by first | rfl | (simp; done) | (simp only [← hji10] <;> (first | rfl | simp)) | (simp [*]; done)), H', ⟨by have := HK1.out; have := HJ4.out; omega⟩, by repeat (first | exact Drawn0.refl _ | apply Drawn0.step)⟩
                            all_goals (exfalso; (try simp only [pwB, pwD, pwN] at c2b0); (try simp only [pwB, pwD, pwN] at c3b0); (try simp only [pwB, pwD, pwN] at c8b0); (try simp only [pwB, pwD, pwN] at c8b1); (try simp only [pwB, pwD, pwN] at c9b0); (try simp only [pwB, pwD, pwN] at c11b0); (try simp only [pwB, pwD, pwN] at c12b0); (try simp only [pwB, pwD, pwN] at c14b0); (try simp only [pwB, pwD, pwN] at c14b1); (try simp only [pwB, pwD, pwN] at c15b0); (try simp only [pwB, pwD, pwN] at c15b1); (try unfold wrap64 at *); omega)
                          · rw [if_neg c15] at H
                            exact absurd H (by simp)
                        · rw [if_neg c14] at H
                          have c14b0 : ((bt a0 (ji10)) == 115) = false := beq_eq_false_iff_ne.mpr c14
                          have c14b1 : ((bt a0 (ji10)) != 115) = true := bne_iff_ne.mpr c14
                          by_cases c16 : (bt a0 (ji10)) = 110
                          · rw [if_pos c16] at H
                            have c16b0 : ((bt a0 (ji10)) == 110) = true := beq_iff_eq.mpr c16
                            have c16b1 : ((bt a0 (ji10)) != 110) = false := bne_eq_false_iff_eq.mpr c16
                            clear c16
                            by_cases c17 : x4_1.size + 1 ≤ 9223372036854775807
                            · rw [if_pos c17] at H
                              have c17b0 := eq_true c17
                              have c17b1 : decide (x4_1.size + 1 ≤ 9223372036854775807) = true := decide_eq_true c17
                              try have c17b2 : (9223372036854775807 < x4_1.size + 1) = False := eq_false (Nat.not_lt.2 c17)
                              clear c17
                              have H' := Aside0.mk H
                              clear H
                              have p13 : 0 ≤ ((ji10) : Int) := of_decide_eq_true (by first | (with_reducible assumption) | assumption)
                              have q13 : (ji10) < (a0.size : Int) := of_decide_eq_true (by first | (with_reducible assumption) | assumption)
                              have hx13 := bt_at a0 (ji10)
                              replace p13 := eq_true p13
                              replace q13 := eq_true q13
                              go_wp2
                              go_roundg kj4
                              case measure => have := HK1.out; have := HJ4.out; omega
                              case rel => exact ⟨(catS x4_1 (⟨#[10]⟩ : ByteArray)), (wrap64 ((ji10) + 1)), (by first | rfl | (simp; done) | (simp [*]; done)), (by first | rfl | (simp; done) | (simp only [← hji10] <;> (first | rfl | simp)) | (simp [*]; done)), H', ⟨by have := HK1.out; have := HJ4.out; omega⟩, by repeat (first | exact Drawn0.refl _ | apply Drawn0.step)⟩
                              all_goals (exfalso; (try simp only [pwB, pwD, pwN] at c2b0); (try simp only [pwB, pwD, pwN] at c3b0); (try simp only [pwB, pwD, pwN] at c8b0); (try simp only [pwB, pwD, pwN] at c8b1); (try simp only [pwB, pwD, pwN] at c9b0); (try simp only [pwB, pwD, pwN] at c11b0); (try simp only [pwB, pwD, pwN] at c12b0); (try simp only [pwB, pwD, pwN] at c14b0); (try simp only [pwB, pwD, pwN] at c14b1); (try simp only [pwB, pwD, pwN] at c16b0); (try simp only [pwB, pwD, pwN] at c16b1); (try simp only [pwB, pwD, pwN] at c17b0); (try simp only [pwB, pwD, pwN] at c17b1); (try unfold wrap64 at *); omega)
                            · rw [if_neg c17] at H
                              exact absurd H (by simp)
                          · rw [if_neg c16] at H
                            have c16b0 : ((bt a0 (ji10)) == 110) = false := beq_eq_false_iff_ne.mpr c16
                            have c16b1 : ((bt a0 (ji10)) != 110) = true := bne_iff_ne.mpr c16
                            by_cases c18 : (bt a0 (ji10)) = 92
                            · rw [if_pos c18] at H
                              have c18b0 : ((bt a0 (ji10)) == 92) = true := beq_iff_eq.mpr c18
                              have c18b1 : ((bt a0 (ji10)) != 92) = false := bne_eq_false_iff_eq.mpr c18
                              clear c18
                              by_cases c19 : x4_1.size + 1 ≤ 9223372036854775807
                              · rw [if_pos c19] at H
                                have c19b0 := eq_true c19
                                have c19b1 : decide (x4_1.size + 1 ≤ 9223372036854775807) = true := decide_eq_true c19
                                try have c19b2 : (9223372036854775807 < x4_1.size + 1) = False := eq_false (Nat.not_lt.2 c19)
                                clear c19
                                have H' := Aside0.mk H
                                clear H
                                have p13 : 0 ≤ ((ji10) : Int) := of_decide_eq_true (by first | (with_reducible assumption) | assumption)
                                have q13 : (ji10) < (a0.size : Int) := of_decide_eq_true (by first | (with_reducible assumption) | assumption)
                                have hx13 := bt_at a0 (ji10)
                                replace p13 := eq_true p13
                                replace q13 := eq_true q13
                                go_wp2
                                go_roundg kj4
                                case measure => have := HK1.out; have := HJ4.out; omega
                                case rel => exact ⟨(catS x4_1 (⟨#[92]⟩ : ByteArray)), (wrap64 ((ji10) + 1)), (by first | rfl | (simp; done) | (simp [*]; done)), (by first | rfl | (simp; done) | (simp only [← hji10] <;> (first | rfl | simp)) | (simp [*]; done)), H', ⟨by have := HK1.out; have := HJ4.out; omega⟩, by repeat (first | exact Drawn0.refl _ | apply Drawn0.step)⟩
                                all_goals (exfalso; (try simp only [pwB, pwD, pwN] at c2b0); (try simp only [pwB, pwD, pwN] at c3b0); (try simp only [pwB, pwD, pwN] at c8b0); (try simp only [pwB, pwD, pwN] at c8b1); (try simp only [pwB, pwD, pwN] at c9b0); (try simp only [pwB, pwD, pwN] at c11b0); (try simp only [pwB, pwD, pwN] at c12b0); (try simp only [pwB, pwD, pwN] at c14b0); (try simp only [pwB, pwD, pwN] at c14b1); (try simp only [pwB, pwD, pwN] at c16b0); (try simp only [pwB, pwD, pwN] at c16b1); (try simp only [pwB, pwD, pwN] at c18b0); (try simp only [pwB, pwD, pwN] at c18b1); (try simp only [pwB, pwD, pwN] at c19b0); (try simp only [pwB, pwD, pwN] at c19b1); (try unfold wrap64 at *); omega)
                              · rw [if_neg c19] at H
                                exact absurd H (by simp)
                            · rw [if_neg c18] at H
                              have c18b0 : ((bt a0 (ji10)) == 92) = false := beq_eq_false_iff_ne.mpr c18
                              have c18b1 : ((bt a0 (ji10)) != 92) = true := bne_iff_ne.mpr c18
                              simp only [Option.some.injEq, Prod.mk.injEq] at H
                              obtain ⟨rfl, rfl⟩ := H
                              have p13 : 0 ≤ ((ji10) : Int) := of_decide_eq_true (by first | (with_reducible assumption) | assumption)
                              have q13 : (ji10) < (a0.size : Int) := of_decide_eq_true (by first | (with_reducible assumption) | assumption)
                              have hx13 := bt_at a0 (ji10)
                              replace p13 := eq_true p13
                              replace q13 := eq_true q13
                              go_wp2
                              go_ret2
                              exact ⟨by first | rfl | (simp; done) | (simp only [← hji10] <;> (first | rfl | simp)) | (simp [*]; done), by repeat (first | exact Drawn0.refl _ | apply Drawn0.step)⟩
                              all_goals (exfalso; (try simp only [pwB, pwD, pwN] at c2b0); (try simp only [pwB, pwD, pwN] at c3b0); (try simp only [pwB, pwD, pwN] at c8b0); (try simp only [pwB, pwD, pwN] at c8b1); (try simp only [pwB, pwD, pwN] at c9b0); (try simp only [pwB, pwD, pwN] at c11b0); (try simp only [pwB, pwD, pwN] at c12b0); (try simp only [pwB, pwD, pwN] at c14b0); (try simp only [pwB, pwD, pwN] at c14b1); (try simp only [pwB, pwD, pwN] at c16b0); (try simp only [pwB, pwD, pwN] at c16b1); (try simp only [pwB, pwD, pwN] at c18b0); (try simp only [pwB, pwD, pwN] at c18b1); (try unfold wrap64 at *); omega)
                      · rw [if_neg c12] at H
                        exact absurd H (by simp)
                    · rw [if_neg c11] at H
                      exact absurd H (by simp)
                · rw [if_neg c8] at H
                  have c8b0 : ((bt a0 x5_1) == 92) = false := beq_eq_false_iff_ne.mpr c8
                  have c8b1 : ((bt a0 x5_1) != 92) = true := bne_iff_ne.mpr c8
                  by_cases c20 : 0 ≤ x5_1
                  · rw [if_pos c20] at H
                    have c20b0 := eq_true c20
                    have c20b1 : decide (0 ≤ x5_1) = true := decide_eq_true c20
                    clear c20
                    by_cases c21 : x5_1 ≤ (wrap64 (x5_1 + 1))
                    · rw [if_pos c21] at H
                      have c21b0 := eq_true c21
                      have c21b1 : decide (x5_1 ≤ (wrap64 (x5_1 + 1))) = true := decide_eq_true c21
                      by_cases c22 : (wrap64 (x5_1 + 1)) ≤ (a0.size : Int)
                      · rw [if_pos c22] at H
                        have c22b0 := eq_true c22
                        have c22b1 : decide ((wrap64 (x5_1 + 1)) ≤ (a0.size : Int)) = true := decide_eq_true c22
                        by_cases c23 : x4_1.size + (cutS a0 (x5_1 : Int).toNat ((wrap64 (x5_1 + 1)) : Int).toNat).size ≤ 9223372036854775807
                        · rw [if_pos c23] at H
                          have c23b0 := eq_true c23
                          have c23b1 : decide (x4_1.size + (cutS a0 (x5_1 : Int).toNat ((wrap64 (x5_1 + 1)) : Int).toNat).size ≤ 9223372036854775807) = true := decide_eq_true c23
                          try have c23b2 : (9223372036854775807 < x4_1.size + (cutS a0 (x5_1 : Int).toNat ((wrap64 (x5_1 + 1)) : Int).toNat).size) = False := eq_false (Nat.not_lt.2 c23)
                          clear c23
                          have H' := Aside0.mk H
                          clear H
                          go_wp2
                          go_roundg kj4
                          case measure => have := HK1.out; have := HJ4.out; omega
                          case rel => exact ⟨(catS x4_1 (cutS a0 (x5_1 : Int).toNat ((wrap64 (x5_1 + 1)) : Int).toNat)), (wrap64 (x5_1 + 1)), (by first | rfl | (simp; done) | (simp [*]; done)), (by first | rfl | (simp; done) | (simp [*]; done)), H', ⟨by have := HK1.out; have := HJ4.out; omega⟩, by repeat (first | exact Drawn0.refl _ | apply Drawn0.step)⟩
                          all_goals (exfalso; (try simp only [pwB, pwD, pwN] at c2b0); (try simp only [pwB, pwD, pwN] at c3b0); (try simp only [pwB, pwD, pwN] at c8b0); (try simp only [pwB, pwD, pwN] at c8b1); (try simp only [pwB, pwD, pwN] at c20b0); (try simp only [pwB, pwD, pwN] at c20b1); (try simp only [pwB, pwD, pwN] at c21b0); (try simp only [pwB, pwD, pwN] at c21b1); (try simp only [pwB, pwD, pwN] at c21); (try simp only [pwB, pwD, pwN] at c22b0); (try simp only [pwB, pwD, pwN] at c22b1); (try simp only [pwB, pwD, pwN] at c22); (try simp only [pwB, pwD, pwN] at c23b0); (try simp only [pwB, pwD, pwN] at c23b1); (try unfold wrap64 at *); omega)
                        · rw [if_neg c23] at H
                          exact absurd H (by simp)
                      · rw [if_neg c22] at H
                        exact absurd H (by simp)
                    · rw [if_neg c21] at H
                      exact absurd H (by simp)
                  · rw [if_neg c20] at H
                    exact absurd H (by simp)
        · rw [if_neg c3] at H
          exact absurd H (by simp)
      · rw [if_neg c2] at H
        have c2b0 : decide (x5_1 < (a0.size : Int)) = false := decide_eq_false c2
        clear c2
        simp only [Option.some.injEq, Prod.mk.injEq] at H
        obtain ⟨rfl, rfl⟩ := H
        go_wp2
        go_ret2
        exact ⟨by first | rfl | (simp; done) | (simp [*]; done), by repeat (first | exact Drawn0.refl _ | apply Drawn0.step)⟩
        all_goals (exfalso; (try simp only [pwB, pwD, pwN] at c2b0); (try unfold wrap64 at *); omega)

/-! ### ammonitebook_Within: function 12 -/
def ammonitebook_Within.f (a0 : Int) (a1 : Int) (a2 : Int) : Option (Int) := if (wrap64 ((wrap64 (a2 - a1)) + 1)) = 0 then (none) else (if (Int.tmod a0 (wrap64 ((wrap64 (a2 - a1)) + 1))) < 0 then (some (wrap64 (a1 + (wrap64 ((wrap64 ((wrap64 ((Int.tmod a0 (wrap64 ((wrap64 (a2 - a1)) + 1))) + a2)) - a1)) + 1))))) else (some (wrap64 (a1 + (Int.tmod a0 (wrap64 ((wrap64 (a2 - a1)) + 1)))))))
set_option maxHeartbeats 8000000 in
set_option maxRecDepth 100000 in
theorem ammonitebook_Within.calls (a0 : Int) (a1 : Int) (a2 : Int) (r : Int) (w : World) (h : ammonitebook_Within.f a0 a1 a2 = some r) :
    Calls Try.prog 12 #[.int .i64 a0, .int .i64 a1, .int .i64 a2] w fun e w' => e = .returned (.int .i64 r) ∧ Drawn0 w w' := by
  have H : (if (wrap64 ((wrap64 (a2 - a1)) + 1)) = 0 then (none) else (if (Int.tmod a0 (wrap64 ((wrap64 (a2 - a1)) + 1))) < 0 then (some (wrap64 (a1 + (wrap64 ((wrap64 ((wrap64 ((Int.tmod a0 (wrap64 ((wrap64 (a2 - a1)) + 1))) + a2)) - a1)) + 1))))) else (some (wrap64 (a1 + (Int.tmod a0 (wrap64 ((wrap64 (a2 - a1)) + 1)))))))) = some r := h
  clear h
  by_cases c4 : (wrap64 ((wrap64 (a2 - a1)) + 1)) = 0
  · rw [if_pos c4] at H
    exact absurd H (by simp)
  · rw [if_neg c4] at H
    have c4b0 : ((wrap64 ((wrap64 (a2 - a1)) + 1)) == 0) = false := beq_eq_false_iff_ne.mpr c4
    have c4b1 : ((wrap64 ((wrap64 (a2 - a1)) + 1)) != 0) = true := bne_iff_ne.mpr c4
    by_cases c5 : (Int.tmod a0 (wrap64 ((wrap64 (a2 - a1)) + 1))) < 0
    · rw [if_pos c5] at H
      have c5b0 : decide ((Int.tmod a0 (wrap64 ((wrap64 (a2 - a1)) + 1))) < 0) = true := decide_eq_true c5
      clear c5
      obtain rfl := Option.some.inj H
      go_enter Try.func12, Try.ntmps12
      go_wp2
      go_ret
      exact ⟨by first | rfl | (simp; done) | (simp [*]; done), by repeat (first | exact Drawn0.refl _ | apply Drawn0.step)⟩
      all_goals (exfalso; (try simp only [pwB, pwD, pwN] at c4b0); (try simp only [pwB, pwD, pwN] at c4b1); (try simp only [pwB, pwD, pwN] at c5b0); (try unfold wrap64 at *); omega)
    · rw [if_neg c5] at H
      have c5b0 : decide ((Int.tmod a0 (wrap64 ((wrap64 (a2 - a1)) + 1))) < 0) = false := decide_eq_false c5
      clear c5
      obtain rfl := Option.some.inj H
      go_enter Try.func12, Try.ntmps12
      go_wp2
      go_ret
      exact ⟨by first | rfl | (simp; done) | (simp [*]; done), by repeat (first | exact Drawn0.refl _ | apply Drawn0.step)⟩
      all_goals (exfalso; (try simp only [pwB, pwD, pwN] at c4b0); (try simp only [pwB, pwD, pwN] at c4b1); (try simp only [pwB, pwD, pwN] at c5b0); (try unfold wrap64 at *); omega)

/-! ### ammoniteref10_Escape: function 13 -/
def ammoniteref10_Escape.l0 : Nat → ByteArray → ByteArray → Int → Option (ByteArray)
  | 0, _, _, _ => none
  | k + 1, x0, x3, x4 => if x4 < (x0.size : Int) then (if 0 ≤ x4 then (if (bt x0 x4) = 32 then (if x3.size + 2 ≤ 9223372036854775807 then (ammoniteref10_Escape.l0 k x0 (catS x3 (⟨#[92, 115]⟩ : ByteArray)) (wrap64 (x4 + 1))) else (none)) else (if (bt x0 x4) = 10 then (if x3.size + 2 ≤ 9223372036854775807 then (ammoniteref10_Escape.l0 k x0 (catS x3 (⟨#[92, 110]⟩ : ByteArray)) (wrap64 (x4 + 1))) else (none)) else (if (bt x0 x4) = 92 then (if x3.size + 2 ≤ 9223372036854775807 then (ammoniteref10_Escape.l0 k x0 (catS x3 (⟨#[92, 92]⟩ : ByteArray)) (wrap64 (x4 + 1))) else (none)) else (if x4 ≤ (wrap64 (x4 + 1)) then (if (wrap64 (x4 + 1)) ≤ (x0.size : Int) then (if x3.size + (cutS x0 (x4 : Int).toNat ((wrap64 (x4 + 1)) : Int).toNat).size ≤ 9223372036854775807 then (ammoniteref10_Escape.l0 k x0 (catS x3 (cutS x0 (x4 : Int).toNat ((wrap64 (x4 + 1)) : Int).toNat)) (wrap64 (x4 + 1))) else (none)) else (none)) else (none))))) else (none)) else (some x3)
def ammoniteref10_Escape.f (k : Nat) (a0 : ByteArray) : Option (ByteArray) := ammoniteref10_Escape.l0 k a0 (⟨#[]⟩ : ByteArray) 0
theorem ammoniteref10_Escape.mono_l : ∀ k, (∀ y0 y1 y2, LeO (ammoniteref10_Escape.l0 k y0 y1 y2) (ammoniteref10_Escape.l0 (k + 1) y0 y1 y2))
  | 0 => fun _ _ _ r h => by simp [ammoniteref10_Escape.l0] at h
  | k + 1 => by
    have ih0 := ammoniteref10_Escape.mono_l k
    · intro y0 y1 y2
      unfold ammoniteref10_Escape.l0
      repeat' first
      | (with_reducible exact ih0 _ _ _)
      | (with_reducible exact LeO.refl _)
      | (with_reducible exact LeO.none _)
      | (with_reducible refine LeO.ite ?_ ?_)
      | (with_reducible refine LeO.bind ?_ (fun _ => ?_))
      | exact ih0 _ _ _
      | exact LeO.none _
      | refine LeO.ite ?_ ?_
      | refine LeO.bind ?_ (fun _ => ?_)
theorem ammoniteref10_Escape.mono : ∀ a0 k, LeO (ammoniteref10_Escape.f k a0) (ammoniteref10_Escape.f (k + 1) a0) := by
  intro a0 k
  have ih0 := ammoniteref10_Escape.mono_l k
  unfold ammoniteref10_Escape.f
  repeat' first
      | (with_reducible exact ih0 _ _ _)
      | (with_reducible exact LeO.refl _)
      | (with_reducible exact LeO.none _)
      | (with_reducible refine LeO.ite ?_ ?_)
      | (with_reducible refine LeO.bind ?_ (fun _ => ?_))
      | exact ih0 _ _ _
      | exact LeO.none _
      | refine LeO.ite ?_ ?_
      | refine LeO.bind ?_ (fun _ => ?_)
set_option maxHeartbeats 8000000 in
set_option maxRecDepth 100000 in
theorem ammoniteref10_Escape.calls (k : Nat) (a0 : ByteArray) (r : ByteArray) (w : World) (h : ammoniteref10_Escape.f k a0 = some r) :
    Calls Try.prog 13 #[.string a0] w fun e w' => e = .returned (.string r) ∧ Drawn0 w w' := by
  have H : (ammoniteref10_Escape.l0 k a0 (⟨#[]⟩ : ByteArray) 0) = some r := h
  clear h
  have H' := Aside0.mk H
  clear H
  go_enter Try.func13, Try.ntmps13
  go_wp2
  go_loopg [3, 4] k (fun kq v3 v4 w' => ∃ (x3_1 : ByteArray) (x4_1 : Int), v3 = .string x3_1 ∧ v4 = .int .i64 x4_1 ∧ Aside0 (ammoniteref10_Escape.l0 kq a0 x3_1 x4_1 = some r) ∧ Aside0 (kq ≤ k) ∧ Drawn0 w w')
  case atStart => exact ⟨((⟨#[]⟩ : ByteArray)), (0), (by first | rfl | (simp; done) | (simp [*]; done)), (by first | rfl | (simp; done) | (simp [*]; done)), H', ⟨Nat.le_refl _⟩, by repeat (first | exact Drawn0.refl _ | apply Drawn0.step)⟩
  case round =>
    clear H'
    try clear c1
    obtain ⟨x3_1, x4_1, rfl, rfl, HA, HK1, ⟨m1, rfl⟩⟩ := hrel
    cases gk with
    | zero => exact absurd HA.out (by simp [ammoniteref10_Escape.l0])
    | succ k1 =>
      have H := HA.out
      clear HA
      simp only [ammoniteref10_Escape.l0] at H
      by_cases c2 : x4_1 < (a0.size : Int)
      · rw [if_pos c2] at H
        have c2b0 : decide (x4_1 < (a0.size : Int)) = true := decide_eq_true c2
        clear c2
        by_cases c3 : 0 ≤ x4_1
        · rw [if_pos c3] at H
          have c3b0 : decide (0 ≤ x4_1) = true := decide_eq_true c3
          clear c3
          by_cases c5 : (bt a0 x4_1) = 32
          · rw [if_pos c5] at H
            have c5b0 : ((bt a0 x4_1) == 32) = true := beq_iff_eq.mpr c5
            have c5b1 : ((bt a0 x4_1) != 32) = false := bne_eq_false_iff_eq.mpr c5
            clear c5
            by_cases c6 : x3_1.size + 2 ≤ 9223372036854775807
            · rw [if_pos c6] at H
              have c6b0 := eq_true c6
              have c6b1 : decide (x3_1.size + 2 ≤ 9223372036854775807) = true := decide_eq_true c6
              try have c6b2 : (9223372036854775807 < x3_1.size + 2) = False := eq_false (Nat.not_lt.2 c6)
              clear c6
              have H' := Aside0.mk H
              clear H
              have p4 : 0 ≤ (x4_1 : Int) := of_decide_eq_true (by first | (with_reducible assumption) | assumption)
              have q4 : x4_1 < (a0.size : Int) := of_decide_eq_true (by first | (with_reducible assumption) | assumption)
              have hx4 := bt_at a0 x4_1
              replace p4 := eq_true p4
              replace q4 := eq_true q4
              go_wp2
              go_roundg k1
              case measure => have := HK1.out; omega
              case rel => exact ⟨(catS x3_1 (⟨#[92, 115]⟩ : ByteArray)), (wrap64 (x4_1 + 1)), (by first | rfl | (simp; done) | (simp [*]; done)), (by first | rfl | (simp; done) | (simp [*]; done)), H', ⟨by have := HK1.out; omega⟩, by repeat (first | exact Drawn0.refl _ | apply Drawn0.step)⟩
              all_goals (exfalso; (try simp only [pwB, pwD, pwN] at c2b0); (try simp only [pwB, pwD, pwN] at c3b0); (try simp only [pwB, pwD, pwN] at c5b0); (try simp only [pwB, pwD, pwN] at c5b1); (try simp only [pwB, pwD, pwN] at c6b0); (try simp only [pwB, pwD, pwN] at c6b1); (try unfold wrap64 at *); omega)
            · rw [if_neg c6] at H
              exact absurd H (by simp)
          · rw [if_neg c5] at H
            have c5b0 : ((bt a0 x4_1) == 32) = false := beq_eq_false_iff_ne.mpr c5
            have c5b1 : ((bt a0 x4_1) != 32) = true := bne_iff_ne.mpr c5
            by_cases c7 : (bt a0 x4_1) = 10
            · rw [if_pos c7] at H
              have c7b0 : ((bt a0 x4_1) == 10) = true := beq_iff_eq.mpr c7
              have c7b1 : ((bt a0 x4_1) != 10) = false := bne_eq_false_iff_eq.mpr c7
              clear c7
              by_cases c8 : x3_1.size + 2 ≤ 9223372036854775807
              · rw [if_pos c8] at H
                have c8b0 := eq_true c8
                have c8b1 : decide (x3_1.size + 2 ≤ 9223372036854775807) = true := decide_eq_true c8
                try have c8b2 : (9223372036854775807 < x3_1.size + 2) = False := eq_false (Nat.not_lt.2 c8)
                clear c8
                have H' := Aside0.mk H
                clear H
                have p4 : 0 ≤ (x4_1 : Int) := of_decide_eq_true (by first | (with_reducible assumption) | assumption)
                have q4 : x4_1 < (a0.size : Int) := of_decide_eq_true (by first | (with_reducible assumption) | assumption)
                have hx4 := bt_at a0 x4_1
                replace p4 := eq_true p4
                replace q4 := eq_true q4
                go_wp2
                go_roundg k1
                case measure => have := HK1.out; omega
                case rel => exact ⟨(catS x3_1 (⟨#[92, 110]⟩ : ByteArray)), (wrap64 (x4_1 + 1)), (by first | rfl | (simp; done) | (simp [*]; done)), (by first | rfl | (simp; done) | (simp [*]; done)), H', ⟨by have := HK1.out; omega⟩, by repeat (first | exact Drawn0.refl _ | apply Drawn0.step)⟩
                all_goals (exfalso; (try simp only [pwB, pwD, pwN] at c2b0); (try simp only [pwB, pwD, pwN] at c3b0); (try simp only [pwB, pwD, pwN] at c5b0); (try simp only [pwB, pwD, pwN] at c5b1); (try simp only [pwB, pwD, pwN] at c7b0); (try simp only [pwB, pwD, pwN] at c7b1); (try simp only [pwB, pwD, pwN] at c8b0); (try simp only [pwB, pwD, pwN] at c8b1); (try unfold wrap64 at *); omega)
              · rw [if_neg c8] at H
                exact absurd H (by simp)
            · rw [if_neg c7] at H
              have c7b0 : ((bt a0 x4_1) == 10) = false := beq_eq_false_iff_ne.mpr c7
              have c7b1 : ((bt a0 x4_1) != 10) = true := bne_iff_ne.mpr c7
              by_cases c9 : (bt a0 x4_1) = 92
              · rw [if_pos c9] at H
                have c9b0 : ((bt a0 x4_1) == 92) = true := beq_iff_eq.mpr c9
                have c9b1 : ((bt a0 x4_1) != 92) = false := bne_eq_false_iff_eq.mpr c9
                clear c9
                by_cases c10 : x3_1.size + 2 ≤ 9223372036854775807
                · rw [if_pos c10] at H
                  have c10b0 := eq_true c10
                  have c10b1 : decide (x3_1.size + 2 ≤ 9223372036854775807) = true := decide_eq_true c10
                  try have c10b2 : (9223372036854775807 < x3_1.size + 2) = False := eq_false (Nat.not_lt.2 c10)
                  clear c10
                  have H' := Aside0.mk H
                  clear H
                  have p4 : 0 ≤ (x4_1 : Int) := of_decide_eq_true (by first | (with_reducible assumption) | assumption)
                  have q4 : x4_1 < (a0.size : Int) := of_decide_eq_true (by first | (with_reducible assumption) | assumption)
                  have hx4 := bt_at a0 x4_1
                  replace p4 := eq_true p4
                  replace q4 := eq_true q4
                  go_wp2
                  go_roundg k1
                  case measure => have := HK1.out; omega
                  case rel => exact ⟨(catS x3_1 (⟨#[92, 92]⟩ : ByteArray)), (wrap64 (x4_1 + 1)), (by first | rfl | (simp; done) | (simp [*]; done)), (by first | rfl | (simp; done) | (simp [*]; done)), H', ⟨by have := HK1.out; omega⟩, by repeat (first | exact Drawn0.refl _ | apply Drawn0.step)⟩
                  all_goals (exfalso; (try simp only [pwB, pwD, pwN] at c2b0); (try simp only [pwB, pwD, pwN] at c3b0); (try simp only [pwB, pwD, pwN] at c5b0); (try simp only [pwB, pwD, pwN] at c5b1); (try simp only [pwB, pwD, pwN] at c7b0); (try simp only [pwB, pwD, pwN] at c7b1); (try simp only [pwB, pwD, pwN] at c9b0); (try simp only [pwB, pwD, pwN] at c9b1); (try simp only [pwB, pwD, pwN] at c10b0); (try simp only [pwB, pwD, pwN] at c10b1); (try unfold wrap64 at *); omega)
                · rw [if_neg c10] at H
                  exact absurd H (by simp)
              · rw [if_neg c9] at H
                have c9b0 : ((bt a0 x4_1) == 92) = false := beq_eq_false_iff_ne.mpr c9
                have c9b1 : ((bt a0 x4_1) != 92) = true := bne_iff_ne.mpr c9
                have c11b0 := eq_true (of_decide_eq_true (by first | (with_reducible assumption) | assumption) : 0 ≤ x4_1)
                by_cases c12 : x4_1 ≤ (wrap64 (x4_1 + 1))
                · rw [if_pos c12] at H
                  have c12b0 := eq_true c12
                  have c12b1 : decide (x4_1 ≤ (wrap64 (x4_1 + 1))) = true := decide_eq_true c12
                  by_cases c13 : (wrap64 (x4_1 + 1)) ≤ (a0.size : Int)
                  · rw [if_pos c13] at H
                    have c13b0 := eq_true c13
                    have c13b1 : decide ((wrap64 (x4_1 + 1)) ≤ (a0.size : Int)) = true := decide_eq_true c13
                    by_cases c14 : x3_1.size + (cutS a0 (x4_1 : Int).toNat ((wrap64 (x4_1 + 1)) : Int).toNat).size ≤ 9223372036854775807
                    · rw [if_pos c14] at H
                      have c14b0 := eq_true c14
                      have c14b1 : decide (x3_1.size + (cutS a0 (x4_1 : Int).toNat ((wrap64 (x4_1 + 1)) : Int).toNat).size ≤ 9223372036854775807) = true := decide_eq_true c14
                      try have c14b2 : (9223372036854775807 < x3_1.size + (cutS a0 (x4_1 : Int).toNat ((wrap64 (x4_1 + 1)) : Int).toNat).size) = False := eq_false (Nat.not_lt.2 c14)
                      clear c14
                      have H' := Aside0.mk H
                      clear H
                      have p4 : 0 ≤ (x4_1 : Int) := of_decide_eq_true (by first | (with_reducible assumption) | assumption)
                      have q4 : x4_1 < (a0.size : Int) := of_decide_eq_true (by first | (with_reducible assumption) | assumption)
                      have hx4 := bt_at a0 x4_1
                      replace p4 := eq_true p4
                      replace q4 := eq_true q4
                      go_wp2
                      go_roundg k1
                      case measure => have := HK1.out; omega
                      case rel => exact ⟨(catS x3_1 (cutS a0 (x4_1 : Int).toNat ((wrap64 (x4_1 + 1)) : Int).toNat)), (wrap64 (x4_1 + 1)), (by first | rfl | (simp; done) | (simp [*]; done)), (by first | rfl | (simp; done) | (simp [*]; done)), H', ⟨by have := HK1.out; omega⟩, by repeat (first | exact Drawn0.refl _ | apply Drawn0.step)⟩
                      all_goals (exfalso; (try simp only [pwB, pwD, pwN] at c2b0); (try simp only [pwB, pwD, pwN] at c3b0); (try simp only [pwB, pwD, pwN] at c5b0); (try simp only [pwB, pwD, pwN] at c5b1); (try simp only [pwB, pwD, pwN] at c7b0); (try simp only [pwB, pwD, pwN] at c7b1); (try simp only [pwB, pwD, pwN] at c9b0); (try simp only [pwB, pwD, pwN] at c9b1); (try simp only [pwB, pwD, pwN] at c12b0); (try simp only [pwB, pwD, pwN] at c12b1); (try simp only [pwB, pwD, pwN] at c12); (try simp only [pwB, pwD, pwN] at c13b0); (try simp only [pwB, pwD, pwN] at c13b1); (try simp only [pwB, pwD, pwN] at c13); (try simp only [pwB, pwD, pwN] at c14b0); (try simp only [pwB, pwD, pwN] at c14b1); (try unfold wrap64 at *); omega)
                    · rw [if_neg c14] at H
                      exact absurd H (by simp)
                  · rw [if_neg c13] at H
                    exact absurd H (by simp)
                · rw [if_neg c12] at H
                  exact absurd H (by simp)
        · rw [if_neg c3] at H
          exact absurd H (by simp)
      · rw [if_neg c2] at H
        have c2b0 : decide (x4_1 < (a0.size : Int)) = false := decide_eq_false c2
        clear c2
        obtain rfl := Option.some.inj H
        go_wp2
        go_ret
        exact ⟨by first | rfl | (simp; done) | (simp [*]; done), by repeat (first | exact Drawn0.refl _ | apply Drawn0.step)⟩
        all_goals (exfalso; (try simp only [pwB, pwD, pwN] at c2b0); (try unfold wrap64 at *); omega)

end Go.Proofs.Ytkfjaijjkbadfaa.Q
