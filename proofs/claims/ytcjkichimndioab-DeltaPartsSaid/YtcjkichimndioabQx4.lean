-- Written by a program of this session (wip/tools/ap.py) for this claim.
import Derived.Test.YtcjkichimndioabQx0
namespace Go.Proofs.Ytcjkichimndioab.Q
open Go.Proofs.Ytcjkichimndioab.Given
open Go.RowKit Go.Proofs.Ytcjkichimndioab.PW Go.Proofs.YtcjkichimndioabW.PrintWords Go.Proofs.YtcjkichimndioabW.PrintLast Go.Proofs.YtcjkichimndioabW.PrintMore
attribute [local go_sem] max2_int min2_int max_two min_two max_three min_three max_four min_four   -- for this text's walks alone
set_option linter.unnecessarySimpa false
attribute [local go_sem high] run_cut_if run_cut_from run_cut_to run_cat_if
set_option linter.unusedVariables false
set_option linter.unusedSimpArgs false

/-! ### ammoniteref1_Check: function 26 -/
mutual
def ammoniteref1_Check.l0 : Nat → ByteArray → Int → Int → Option (Int)
  | 0, _, _, _ => none
  | k + 1, x0, x3, x4 => if x4 < (x0.size : Int) then (ammoniteref1_Check.l1 k x0 x3 x4 0 0) else (some (wrap64 (Go.bits .and .u32 x3 1073741823)))
def ammoniteref1_Check.l1 : Nat → ByteArray → Int → Int → Int → Int → Option (Int)
  | 0, _, _, _, _, _ => none
  | k + 1, x0, x3, x4, x5, x13 => if x13 < 4 then (if (wrap64 (x4 + x13)) < (x0.size : Int) then (if 0 ≤ (wrap64 (x4 + x13)) then (ammoniteref1_Check.l1 k x0 x3 x4 (Go.bits .or .u32 ((x5 * 256) % 4294967296) ((bt x0 (wrap64 (x4 + x13))) % 4294967296)) (wrap64 (x13 + 1))) else (none)) else (ammoniteref1_Check.l1 k x0 x3 x4 ((x5 * 256) % 4294967296) (wrap64 (x13 + 1)))) else (ammoniteref1_Check.l0 k x0 ((x3 + x5) % 4294967296) (wrap64 (x4 + 4)))
end
def ammoniteref1_Check.f (k : Nat) (a0 : ByteArray) : Option (Int) := ammoniteref1_Check.l0 k a0 0 0
theorem ammoniteref1_Check.mono_l : ∀ k, (∀ y0 y1 y2, LeO (ammoniteref1_Check.l0 k y0 y1 y2) (ammoniteref1_Check.l0 (k + 1) y0 y1 y2)) ∧ (∀ y0 y1 y2 y3 y4, LeO (ammoniteref1_Check.l1 k y0 y1 y2 y3 y4) (ammoniteref1_Check.l1 (k + 1) y0 y1 y2 y3 y4))
  | 0 => ⟨fun _ _ _ r h => by simp [ammoniteref1_Check.l0] at h, fun _ _ _ _ _ r h => by simp [ammoniteref1_Check.l1] at h⟩
  | k + 1 => by
    obtain ⟨ih0, ih1⟩ := ammoniteref1_Check.mono_l k
    refine ⟨?_, ?_⟩
    · intro y0 y1 y2
      unfold ammoniteref1_Check.l0
      repeat' first
      | (with_reducible exact ih0 _ _ _)
      | (with_reducible exact ih1 _ _ _ _ _)
      | (with_reducible exact LeO.refl _)
      | (with_reducible exact LeO.none _)
      | (with_reducible refine LeO.ite ?_ ?_)
      | (with_reducible refine LeO.bind ?_ (fun _ => ?_))
      | exact ih0 _ _ _
      | exact ih1 _ _ _ _ _
      | exact LeO.none _
      | refine LeO.ite ?_ ?_
      | refine LeO.bind ?_ (fun _ => ?_)
    · intro y0 y1 y2 y3 y4
      unfold ammoniteref1_Check.l1
      repeat' first
      | (with_reducible exact ih0 _ _ _)
      | (with_reducible exact ih1 _ _ _ _ _)
      | (with_reducible exact LeO.refl _)
      | (with_reducible exact LeO.none _)
      | (with_reducible refine LeO.ite ?_ ?_)
      | (with_reducible refine LeO.bind ?_ (fun _ => ?_))
      | exact ih0 _ _ _
      | exact ih1 _ _ _ _ _
      | exact LeO.none _
      | refine LeO.ite ?_ ?_
      | refine LeO.bind ?_ (fun _ => ?_)
theorem ammoniteref1_Check.mono : ∀ a0 k, LeO (ammoniteref1_Check.f k a0) (ammoniteref1_Check.f (k + 1) a0) := by
  intro a0 k
  obtain ⟨ih0, ih1⟩ := ammoniteref1_Check.mono_l k
  unfold ammoniteref1_Check.f
  repeat' first
      | (with_reducible exact ih0 _ _ _)
      | (with_reducible exact ih1 _ _ _ _ _)
      | (with_reducible exact LeO.refl _)
      | (with_reducible exact LeO.none _)
      | (with_reducible refine LeO.ite ?_ ?_)
      | (with_reducible refine LeO.bind ?_ (fun _ => ?_))
      | exact ih0 _ _ _
      | exact ih1 _ _ _ _ _
      | exact LeO.none _
      | refine LeO.ite ?_ ?_
      | refine LeO.bind ?_ (fun _ => ?_)
set_option maxHeartbeats 8000000 in
set_option maxRecDepth 100000 in
theorem ammoniteref1_Check.calls (k : Nat) (a0 : ByteArray) (r : Int) (w : World) (h : ammoniteref1_Check.f k a0 = some r) :
    Calls Try.prog 26 #[.string a0] w fun e w' => e = .returned (.int .i64 r) ∧ Drawn0 w w' := by
  have H : (ammoniteref1_Check.l0 k a0 0 0) = some r := h
  clear h
  have H' := Aside0.mk H
  clear H
  go_enter Try.func26, Try.ntmps26
  go_wp2
  go_loopg [3, 4] k (fun kq v3 v4 w' => ∃ (x3_1 : Int) (x4_1 : Int), v3 = .int .u32 x3_1 ∧ v4 = .int .i64 x4_1 ∧ Aside0 (ammoniteref1_Check.l0 kq a0 x3_1 x4_1 = some r) ∧ Aside0 (kq ≤ k) ∧ Drawn0 w w')
  case atStart => exact ⟨(0), (0), (by first | rfl | (simp; done) | (simp [*]; done)), (by first | rfl | (simp; done) | (simp [*]; done)), H', ⟨Nat.le_refl _⟩, by repeat (first | exact Drawn0.refl _ | apply Drawn0.step)⟩
  case round =>
    clear H'
    obtain ⟨x3_1, x4_1, rfl, rfl, HA, HK1, ⟨m1, rfl⟩⟩ := hrel
    cases gk with
    | zero => exact absurd HA.out (by simp [ammoniteref1_Check.l0])
    | succ k1 =>
      have H := HA.out
      clear HA
      simp only [ammoniteref1_Check.l0] at H
      by_cases c2 : x4_1 < (a0.size : Int)
      · rw [if_pos c2] at H
        have c2b0 : decide (x4_1 < (a0.size : Int)) = true := decide_eq_true c2
        clear c2
        have H' := Aside0.mk H
        clear H
        go_wp2
        go_loopg [5, 13] k1 (fun kq v5 v13 w' => ∃ (x5_2 : Int) (x13_2 : Int), v5 = .int .u32 x5_2 ∧ v13 = .int .i64 x13_2 ∧ Aside0 (ammoniteref1_Check.l1 kq a0 x3_1 x4_1 x5_2 x13_2 = some r) ∧ Aside0 (kq ≤ k1) ∧ Drawn0 w w')
        case atStart => exact ⟨(0), (0), (by first | rfl | (simp; done) | (simp [*]; done)), (by first | rfl | (simp; done) | (simp [*]; done)), H', ⟨Nat.le_refl _⟩, by repeat (first | exact Drawn0.refl _ | apply Drawn0.step)⟩
        case round =>
          clear H'
          try clear c2
          try clear c2b0
          try clear p2
          obtain ⟨x5_2, x13_2, rfl, rfl, HA, HK2, ⟨m2, rfl⟩⟩ := hrel
          cases gk with
          | zero => exact absurd HA.out (by simp [ammoniteref1_Check.l1])
          | succ k2 =>
            have H := HA.out
            clear HA
            simp only [ammoniteref1_Check.l1] at H
            by_cases c3 : x13_2 < 4
            · rw [if_pos c3] at H
              have c3b0 : decide (x13_2 < 4) = true := decide_eq_true c3
              clear c3
              by_cases c4 : (wrap64 (x4_1 + x13_2)) < (a0.size : Int)
              · rw [if_pos c4] at H
                have c4b0 : decide ((wrap64 (x4_1 + x13_2)) < (a0.size : Int)) = true := decide_eq_true c4
                clear c4
                obtain ⟨ji5, hji5⟩ : ∃ j_ : Int, (wrap64 (x4_1 + x13_2)) = j_ := ⟨_, rfl⟩
                replace H : (if 0 ≤ (ji5) then (ammoniteref1_Check.l1 k2 a0 x3_1 x4_1 (Go.bits .or .u32 ((x5_2 * 256) % 4294967296) ((bt a0 (ji5)) % 4294967296)) (wrap64 (x13_2 + 1))) else (none)) = some r := by first | (rw [hji5] at H; exact H) | (simp only [hji5] at H ⊢; exact H)
                (try rw [hji5] at c4b0)
                have hji5w : (IntKind.i64.wrap (x4_1 + x13_2)) = ji5 := (i64_w _).trans hji5
                by_cases c6 : 0 ≤ (ji5)
                · rw [if_pos c6] at H
                  have c6b0 : decide (0 ≤ (ji5)) = true := decide_eq_true c6
                  clear c6
                  have H' := Aside0.mk H
                  clear H
                  have p7 : 0 ≤ ((ji5) : Int) := of_decide_eq_true (by first | (with_reducible assumption) | assumption)
                  have q7 : (ji5) < (a0.size : Int) := of_decide_eq_true (by first | (with_reducible assumption) | assumption)
                  have hx7 := bt_at a0 (ji5)
                  replace p7 := eq_true p7
                  replace q7 := eq_true q7
                  go_wp2
                  go_roundg k2
                  case measure => have := HK1.out; have := HK2.out; omega
                  case rel => exact ⟨(Go.bits .or .u32 ((x5_2 * 256) % 4294967296) ((bt a0 (ji5)) % 4294967296)), (wrap64 (x13_2 + 1)), (by first | rfl | (simp; done) | (simp only [← hji5] <;> (first | rfl | simp)) | (simp [*]; done)), (by first | rfl | (simp; done) | (simp [*]; done)), H', ⟨by have := HK1.out; have := HK2.out; omega⟩, by repeat (first | exact Drawn0.refl _ | apply Drawn0.step)⟩
                  all_goals (exfalso; (try simp only [beq_iff_eq, bne_iff_ne, ne_eq, decide_eq_true_eq, decide_eq_false_iff_not, decide_eq_decide, bne_eq_false_iff_eq, beq_eq_false_iff_ne, Bool.not_eq_true, Bool.not_eq_false, Bool.not_eq_true', Bool.not_eq_false', Bool.true_beq, Bool.false_beq, Bool.true_bne, Bool.false_bne, Bool.bne_true, Bool.bne_false] at c2b0); (try simp only [beq_iff_eq, bne_iff_ne, ne_eq, decide_eq_true_eq, decide_eq_false_iff_not, decide_eq_decide, bne_eq_false_iff_eq, beq_eq_false_iff_ne, Bool.not_eq_true, Bool.not_eq_false, Bool.not_eq_true', Bool.not_eq_false', Bool.true_beq, Bool.false_beq, Bool.true_bne, Bool.false_bne, Bool.bne_true, Bool.bne_false] at c3b0); (try simp only [beq_iff_eq, bne_iff_ne, ne_eq, decide_eq_true_eq, decide_eq_false_iff_not, decide_eq_decide, bne_eq_false_iff_eq, beq_eq_false_iff_ne, Bool.not_eq_true, Bool.not_eq_false, Bool.not_eq_true', Bool.not_eq_false', Bool.true_beq, Bool.false_beq, Bool.true_bne, Bool.false_bne, Bool.bne_true, Bool.bne_false] at c4b0); (try simp only [beq_iff_eq, bne_iff_ne, ne_eq, decide_eq_true_eq, decide_eq_false_iff_not, decide_eq_decide, bne_eq_false_iff_eq, beq_eq_false_iff_ne, Bool.not_eq_true, Bool.not_eq_false, Bool.not_eq_true', Bool.not_eq_false', Bool.true_beq, Bool.false_beq, Bool.true_bne, Bool.false_bne, Bool.bne_true, Bool.bne_false] at c6b0); (try unfold wrap64 at *); omega)
                · rw [if_neg c6] at H
                  exact absurd H (by simp)
              · rw [if_neg c4] at H
                have c4b0 : decide ((wrap64 (x4_1 + x13_2)) < (a0.size : Int)) = false := decide_eq_false c4
                clear c4
                have H' := Aside0.mk H
                clear H
                go_wp2
                go_roundg k2
                case measure => have := HK1.out; have := HK2.out; omega
                case rel => exact ⟨((x5_2 * 256) % 4294967296), (wrap64 (x13_2 + 1)), (by first | rfl | (simp; done) | (simp [*]; done)), (by first | rfl | (simp; done) | (simp [*]; done)), H', ⟨by have := HK1.out; have := HK2.out; omega⟩, by repeat (first | exact Drawn0.refl _ | apply Drawn0.step)⟩
                all_goals (exfalso; (try simp only [beq_iff_eq, bne_iff_ne, ne_eq, decide_eq_true_eq, decide_eq_false_iff_not, decide_eq_decide, bne_eq_false_iff_eq, beq_eq_false_iff_ne, Bool.not_eq_true, Bool.not_eq_false, Bool.not_eq_true', Bool.not_eq_false', Bool.true_beq, Bool.false_beq, Bool.true_bne, Bool.false_bne, Bool.bne_true, Bool.bne_false] at c2b0); (try simp only [beq_iff_eq, bne_iff_ne, ne_eq, decide_eq_true_eq, decide_eq_false_iff_not, decide_eq_decide, bne_eq_false_iff_eq, beq_eq_false_iff_ne, Bool.not_eq_true, Bool.not_eq_false, Bool.not_eq_true', Bool.not_eq_false', Bool.true_beq, Bool.false_beq, Bool.true_bne, Bool.false_bne, Bool.bne_true, Bool.bne_false] at c3b0); (try simp only [beq_iff_eq, bne_iff_ne, ne_eq, decide_eq_true_eq, decide_eq_false_iff_not, decide_eq_decide, bne_eq_false_iff_eq, beq_eq_false_iff_ne, Bool.not_eq_true, Bool.not_eq_false, Bool.not_eq_true', Bool.not_eq_false', Bool.true_beq, Bool.false_beq, Bool.true_bne, Bool.false_bne, Bool.bne_true, Bool.bne_false] at c4b0); (try unfold wrap64 at *); omega)
            · rw [if_neg c3] at H
              have c3b0 : decide (x13_2 < 4) = false := decide_eq_false c3
              clear c3
              have H' := Aside0.mk H
              clear H
              go_wp2
              go_roundg k2
              case measure => have := HK1.out; have := HK2.out; omega
              case rel => exact ⟨((x3_1 + x5_2) % 4294967296), (wrap64 (x4_1 + 4)), (by first | rfl | (simp; done) | (simp [*]; done)), (by first | rfl | (simp; done) | (simp [*]; done)), H', ⟨by have := HK1.out; have := HK2.out; omega⟩, by repeat (first | exact Drawn0.refl _ | apply Drawn0.step)⟩
              all_goals (exfalso; (try simp only [beq_iff_eq, bne_iff_ne, ne_eq, decide_eq_true_eq, decide_eq_false_iff_not, decide_eq_decide, bne_eq_false_iff_eq, beq_eq_false_iff_ne, Bool.not_eq_true, Bool.not_eq_false, Bool.not_eq_true', Bool.not_eq_false', Bool.true_beq, Bool.false_beq, Bool.true_bne, Bool.false_bne, Bool.bne_true, Bool.bne_false] at c2b0); (try simp only [beq_iff_eq, bne_iff_ne, ne_eq, decide_eq_true_eq, decide_eq_false_iff_not, decide_eq_decide, bne_eq_false_iff_eq, beq_eq_false_iff_ne, Bool.not_eq_true, Bool.not_eq_false, Bool.not_eq_true', Bool.not_eq_false', Bool.true_beq, Bool.false_beq, Bool.true_bne, Bool.false_bne, Bool.bne_true, Bool.bne_false] at c3b0); (try unfold wrap64 at *); omega)
      · rw [if_neg c2] at H
        have c2b0 : decide (x4_1 < (a0.size : Int)) = false := decide_eq_false c2
        clear c2
        obtain rfl := Option.some.inj H
        go_wp2
        go_ret
        exact ⟨by first | rfl | (simp; done) | (simp [*]; done), by repeat (first | exact Drawn0.refl _ | apply Drawn0.step)⟩
        all_goals (exfalso; (try simp only [beq_iff_eq, bne_iff_ne, ne_eq, decide_eq_true_eq, decide_eq_false_iff_not, decide_eq_decide, bne_eq_false_iff_eq, beq_eq_false_iff_ne, Bool.not_eq_true, Bool.not_eq_false, Bool.not_eq_true', Bool.not_eq_false', Bool.true_beq, Bool.false_beq, Bool.true_bne, Bool.false_bne, Bool.bne_true, Bool.bne_false] at c2b0); (try unfold wrap64 at *); omega)

/-! ### ammoniteref1_Put: function 36 -/
mutual
def ammoniteref1_Put.j0 : Nat → Int → Bool → Option (ByteArray)
  | 0, _, _ => none
  | k + 1, x0, x9 => if x9 = true then (some (⟨#[]⟩ : ByteArray)) else (if 0 ≤ (Go.bits .and .i64 x0 63) then (if (Go.bits .and .i64 x0 63) ≤ (wrap64 ((Go.bits .and .i64 x0 63) + 1)) then (if (wrap64 ((Go.bits .and .i64 x0 63) + 1)) ≤ 64 then (if x0 < 64 then (some (cutS (⟨#[48, 49, 50, 51, 52, 53, 54, 55, 56, 57, 65, 66, 67, 68, 69, 70, 71, 72, 73, 74, 75, 76, 77, 78, 79, 80, 81, 82, 83, 84, 85, 86, 87, 88, 89, 90, 95, 97, 98, 99, 100, 101, 102, 103, 104, 105, 106, 107, 108, 109, 110, 111, 112, 113, 114, 115, 116, 117, 118, 119, 120, 121, 122, 126]⟩ : ByteArray) ((Go.bits .and .i64 x0 63) : Int).toNat ((wrap64 ((Go.bits .and .i64 x0 63) + 1)) : Int).toNat)) else ((ammoniteref1_Put.f k (x0 / 64)).bind fun t143 => (if t143.size + (cutS (⟨#[48, 49, 50, 51, 52, 53, 54, 55, 56, 57, 65, 66, 67, 68, 69, 70, 71, 72, 73, 74, 75, 76, 77, 78, 79, 80, 81, 82, 83, 84, 85, 86, 87, 88, 89, 90, 95, 97, 98, 99, 100, 101, 102, 103, 104, 105, 106, 107, 108, 109, 110, 111, 112, 113, 114, 115, 116, 117, 118, 119, 120, 121, 122, 126]⟩ : ByteArray) ((Go.bits .and .i64 x0 63) : Int).toNat ((wrap64 ((Go.bits .and .i64 x0 63) + 1)) : Int).toNat).size ≤ 9223372036854775807 then (some (catS t143 (cutS (⟨#[48, 49, 50, 51, 52, 53, 54, 55, 56, 57, 65, 66, 67, 68, 69, 70, 71, 72, 73, 74, 75, 76, 77, 78, 79, 80, 81, 82, 83, 84, 85, 86, 87, 88, 89, 90, 95, 97, 98, 99, 100, 101, 102, 103, 104, 105, 106, 107, 108, 109, 110, 111, 112, 113, 114, 115, 116, 117, 118, 119, 120, 121, 122, 126]⟩ : ByteArray) ((Go.bits .and .i64 x0 63) : Int).toNat ((wrap64 ((Go.bits .and .i64 x0 63) + 1)) : Int).toNat))) else (none)))) else (none)) else (none)) else (none))
def ammoniteref1_Put.f : Nat → Int → Option (ByteArray)
  | 0, _ => none
  | k + 1, a0 => if a0 < 0 then (ammoniteref1_Put.j0 k a0 true) else (ammoniteref1_Put.j0 k a0 (decide (a0 > 1073741824)))
end
theorem ammoniteref1_Put.mono_l : ∀ k, (∀ y0, LeO (ammoniteref1_Put.f k y0) (ammoniteref1_Put.f (k + 1) y0)) ∧ (∀ y0 y1, LeO (ammoniteref1_Put.j0 k y0 y1) (ammoniteref1_Put.j0 (k + 1) y0 y1))
  | 0 => ⟨fun _ r h => by simp [ammoniteref1_Put.f] at h, fun _ _ r h => by simp [ammoniteref1_Put.j0] at h⟩
  | k + 1 => by
    obtain ⟨ih0, ih1⟩ := ammoniteref1_Put.mono_l k
    refine ⟨?_, ?_⟩
    · intro y0
      unfold ammoniteref1_Put.f
      repeat' first
      | (with_reducible exact ih0 _)
      | (with_reducible exact ih1 _ _)
      | (with_reducible exact LeO.refl _)
      | (with_reducible exact LeO.none _)
      | (with_reducible refine LeO.ite ?_ ?_)
      | (with_reducible refine LeO.bind ?_ (fun _ => ?_))
      | exact ih0 _
      | exact ih1 _ _
      | exact LeO.none _
      | refine LeO.ite ?_ ?_
      | refine LeO.bind ?_ (fun _ => ?_)
    · intro y0 y1
      unfold ammoniteref1_Put.j0
      repeat' first
      | (with_reducible exact ih0 _)
      | (with_reducible exact ih1 _ _)
      | (with_reducible exact LeO.refl _)
      | (with_reducible exact LeO.none _)
      | (with_reducible refine LeO.ite ?_ ?_)
      | (with_reducible refine LeO.bind ?_ (fun _ => ?_))
      | exact ih0 _
      | exact ih1 _ _
      | exact LeO.none _
      | refine LeO.ite ?_ ?_
      | refine LeO.bind ?_ (fun _ => ?_)
theorem ammoniteref1_Put.mono : ∀ a0 k, LeO (ammoniteref1_Put.f k a0) (ammoniteref1_Put.f (k + 1) a0) := by
  intro a0 k
  obtain ⟨ih0, ih1⟩ := ammoniteref1_Put.mono_l k
  exact ih0 a0
set_option maxHeartbeats 8000000 in
set_option maxRecDepth 100000 in
theorem ammoniteref1_Put.calls (k : Nat) : ∀ (a0 : Int) (r : ByteArray) (w : World) (h : ammoniteref1_Put.f k a0 = some r),
    Calls Try.prog 36 #[.int .i64 a0] w fun e w' => e = .returned (.string r) ∧ Drawn0 w w' := by
  induction k using Nat.strongRecOn with
  | _ k ih =>
  intro a0 r w h
  cases k with
  | zero => exact absurd h (by simp [ammoniteref1_Put.f])
  | succ k =>
  simp only [ammoniteref1_Put.f] at h
  have H : (if a0 < 0 then (ammoniteref1_Put.j0 k a0 true) else (ammoniteref1_Put.j0 k a0 (decide (a0 > 1073741824)))) = some r := h
  clear h
  have HC2 := Aside0.mk H
  clear H
  go_enter Try.func36, Try.ntmps36
  go_upto_region 1 with (fail)
  go_cut [9] (fun v9 wc => ∃ (kq : Nat) (x9_1 : Bool), v9 = .bool x9_1 ∧ Aside0 (ammoniteref1_Put.j0 kq a0 x9_1 = some r) ∧ Aside0 (kq ≤ k) ∧ Drawn0 w wc)
  case first =>
    have H := HC2.out
    clear HC2
    by_cases c3 : a0 < 0
    · rw [if_pos c3] at H
      have c3b0 : decide (a0 < 0) = true := decide_eq_true c3
      clear c3
      (first | rw [c3b0] | (simp only [i64_w, i32_w]; rw [c3b0]) | skip)
      have H' := Aside0.mk H
      clear H
      go_wp2
      go_meet
      case rel => exact ⟨_, (true), (by first | rfl | (simp; done) | (simp [*]; done)), H', ⟨by first | omega | exact Nat.le_refl _⟩, by repeat (first | exact Drawn0.refl _ | apply Drawn0.step)⟩
      all_goals (exfalso; (try simp only [beq_iff_eq, bne_iff_ne, ne_eq, decide_eq_true_eq, decide_eq_false_iff_not, decide_eq_decide, bne_eq_false_iff_eq, beq_eq_false_iff_ne, Bool.not_eq_true, Bool.not_eq_false, Bool.not_eq_true', Bool.not_eq_false', Bool.true_beq, Bool.false_beq, Bool.true_bne, Bool.false_bne, Bool.bne_true, Bool.bne_false] at c3b0); (try unfold wrap64 at *); omega)
    · rw [if_neg c3] at H
      have c3b0 : decide (a0 < 0) = false := decide_eq_false c3
      clear c3
      (first | rw [c3b0] | (simp only [i64_w, i32_w]; rw [c3b0]) | skip)
      have H' := Aside0.mk H
      clear H
      go_wp2
      go_meet
      case rel => exact ⟨_, (decide (a0 > 1073741824)), (by first | rfl | (simp; done) | (simp [*]; done)), H', ⟨by first | omega | exact Nat.le_refl _⟩, by repeat (first | exact Drawn0.refl _ | apply Drawn0.step)⟩
      all_goals (exfalso; (try simp only [beq_iff_eq, bne_iff_ne, ne_eq, decide_eq_true_eq, decide_eq_false_iff_not, decide_eq_decide, bne_eq_false_iff_eq, beq_eq_false_iff_ne, Bool.not_eq_true, Bool.not_eq_false, Bool.not_eq_true', Bool.not_eq_false', Bool.true_beq, Bool.false_beq, Bool.true_bne, Bool.false_bne, Bool.bne_true, Bool.bne_false] at c3b0); (try unfold wrap64 at *); omega)
  case rest =>
    clear HC2
    try clear p2
    try clear c3
    try clear c3b0
    obtain ⟨kq, x9_1, rfl, HA, HJ1, ⟨mc1, rfl⟩⟩ := hcut
    cases kq with
    | zero => exact absurd HA.out (by simp [ammoniteref1_Put.j0])
    | succ kj1 =>
      have H := HA.out
      clear HA
      simp only [ammoniteref1_Put.j0] at H
      by_cases c4 : x9_1 = true
      · subst c4
        have H1 : (some (⟨#[]⟩ : ByteArray)) = some r := by rw [if_pos rfl] at H; exact H
        clear H
        have H := H1
        clear H1
        obtain rfl := Option.some.inj H
        go_wp2
        go_ret
        exact ⟨by first | rfl | (simp; done) | (simp [*]; done), by repeat (first | exact Drawn0.refl _ | apply Drawn0.step)⟩
        all_goals (exfalso; (try unfold wrap64 at *); omega)
      · replace c4 := Bool.eq_false_iff.mpr c4
        subst c4
        have H1 : (if 0 ≤ (Go.bits .and .i64 a0 63) then (if (Go.bits .and .i64 a0 63) ≤ (wrap64 ((Go.bits .and .i64 a0 63) + 1)) then (if (wrap64 ((Go.bits .and .i64 a0 63) + 1)) ≤ 64 then (if a0 < 64 then (some (cutS (⟨#[48, 49, 50, 51, 52, 53, 54, 55, 56, 57, 65, 66, 67, 68, 69, 70, 71, 72, 73, 74, 75, 76, 77, 78, 79, 80, 81, 82, 83, 84, 85, 86, 87, 88, 89, 90, 95, 97, 98, 99, 100, 101, 102, 103, 104, 105, 106, 107, 108, 109, 110, 111, 112, 113, 114, 115, 116, 117, 118, 119, 120, 121, 122, 126]⟩ : ByteArray) ((Go.bits .and .i64 a0 63) : Int).toNat ((wrap64 ((Go.bits .and .i64 a0 63) + 1)) : Int).toNat)) else ((ammoniteref1_Put.f kj1 (a0 / 64)).bind fun t143 => (if t143.size + (cutS (⟨#[48, 49, 50, 51, 52, 53, 54, 55, 56, 57, 65, 66, 67, 68, 69, 70, 71, 72, 73, 74, 75, 76, 77, 78, 79, 80, 81, 82, 83, 84, 85, 86, 87, 88, 89, 90, 95, 97, 98, 99, 100, 101, 102, 103, 104, 105, 106, 107, 108, 109, 110, 111, 112, 113, 114, 115, 116, 117, 118, 119, 120, 121, 122, 126]⟩ : ByteArray) ((Go.bits .and .i64 a0 63) : Int).toNat ((wrap64 ((Go.bits .and .i64 a0 63) + 1)) : Int).toNat).size ≤ 9223372036854775807 then (some (catS t143 (cutS (⟨#[48, 49, 50, 51, 52, 53, 54, 55, 56, 57, 65, 66, 67, 68, 69, 70, 71, 72, 73, 74, 75, 76, 77, 78, 79, 80, 81, 82, 83, 84, 85, 86, 87, 88, 89, 90, 95, 97, 98, 99, 100, 101, 102, 103, 104, 105, 106, 107, 108, 109, 110, 111, 112, 113, 114, 115, 116, 117, 118, 119, 120, 121, 122, 126]⟩ : ByteArray) ((Go.bits .and .i64 a0 63) : Int).toNat ((wrap64 ((Go.bits .and .i64 a0 63) + 1)) : Int).toNat))) else (none)))) else (none)) else (none)) else (none)) = some r := by rw [if_neg (show ¬ (false = true) by decide)] at H; exact H
        clear H
        have H := H1
        clear H1
        by_cases c5 : 0 ≤ (Go.bits .and .i64 a0 63)
        · rw [if_pos c5] at H
          have c5b0 := eq_true c5
          have c5b1 : decide (0 ≤ (Go.bits .and .i64 a0 63)) = true := decide_eq_true c5
          clear c5
          by_cases c6 : (Go.bits .and .i64 a0 63) ≤ (wrap64 ((Go.bits .and .i64 a0 63) + 1))
          · rw [if_pos c6] at H
            have c6b0 := eq_true c6
            have c6b1 : decide ((Go.bits .and .i64 a0 63) ≤ (wrap64 ((Go.bits .and .i64 a0 63) + 1))) = true := decide_eq_true c6
            by_cases c7 : (wrap64 ((Go.bits .and .i64 a0 63) + 1)) ≤ 64
            · rw [if_pos c7] at H
              have c7b0 := eq_true c7
              have c7b1 : decide ((wrap64 ((Go.bits .and .i64 a0 63) + 1)) ≤ 64) = true := decide_eq_true c7
              by_cases c8 : a0 < 64
              · rw [if_pos c8] at H
                have c8b0 : decide (a0 < 64) = true := decide_eq_true c8
                clear c8
                obtain rfl := Option.some.inj H
                go_wp2
                go_ret
                exact ⟨by first | rfl | (simp; done) | (simp [*]; done), by repeat (first | exact Drawn0.refl _ | apply Drawn0.step)⟩
                all_goals (exfalso; (try simp only [beq_iff_eq, bne_iff_ne, ne_eq, decide_eq_true_eq, decide_eq_false_iff_not, decide_eq_decide, bne_eq_false_iff_eq, beq_eq_false_iff_ne, Bool.not_eq_true, Bool.not_eq_false, Bool.not_eq_true', Bool.not_eq_false', Bool.true_beq, Bool.false_beq, Bool.true_bne, Bool.false_bne, Bool.bne_true, Bool.bne_false] at c5b0); (try simp only [beq_iff_eq, bne_iff_ne, ne_eq, decide_eq_true_eq, decide_eq_false_iff_not, decide_eq_decide, bne_eq_false_iff_eq, beq_eq_false_iff_ne, Bool.not_eq_true, Bool.not_eq_false, Bool.not_eq_true', Bool.not_eq_false', Bool.true_beq, Bool.false_beq, Bool.true_bne, Bool.false_bne, Bool.bne_true, Bool.bne_false] at c5b1); (try simp only [beq_iff_eq, bne_iff_ne, ne_eq, decide_eq_true_eq, decide_eq_false_iff_not, decide_eq_decide, bne_eq_false_iff_eq, beq_eq_false_iff_ne, Bool.not_eq_true, Bool.not_eq_false, Bool.not_eq_true', Bool.not_eq_false', Bool.true_beq, Bool.false_beq, Bool.true_bne, Bool.false_bne, Bool.bne_true, Bool.bne_false] at c6b0); (try simp only [beq_iff_eq, bne_iff_ne, ne_eq, decide_eq_true_eq, decide_eq_false_iff_not, decide_eq_decide, bne_eq_false_iff_eq, beq_eq_false_iff_ne, Bool.not_eq_true, Bool.not_eq_false, Bool.not_eq_true', Bool.not_eq_false', Bool.true_beq, Bool.false_beq, Bool.true_bne, Bool.false_bne, Bool.bne_true, Bool.bne_false] at c6b1); (try simp only [beq_iff_eq, bne_iff_ne, ne_eq, decide_eq_true_eq, decide_eq_false_iff_not, decide_eq_decide, bne_eq_false_iff_eq, beq_eq_false_iff_ne, Bool.not_eq_true, Bool.not_eq_false, Bool.not_eq_true', Bool.not_eq_false', Bool.true_beq, Bool.false_beq, Bool.true_bne, Bool.false_bne, Bool.bne_true, Bool.bne_false] at c6); (try simp only [beq_iff_eq, bne_iff_ne, ne_eq, decide_eq_true_eq, decide_eq_false_iff_not, decide_eq_decide, bne_eq_false_iff_eq, beq_eq_false_iff_ne, Bool.not_eq_true, Bool.not_eq_false, Bool.not_eq_true', Bool.not_eq_false', Bool.true_beq, Bool.false_beq, Bool.true_bne, Bool.false_bne, Bool.bne_true, Bool.bne_false] at c7b0); (try simp only [beq_iff_eq, bne_iff_ne, ne_eq, decide_eq_true_eq, decide_eq_false_iff_not, decide_eq_decide, bne_eq_false_iff_eq, beq_eq_false_iff_ne, Bool.not_eq_true, Bool.not_eq_false, Bool.not_eq_true', Bool.not_eq_false', Bool.true_beq, Bool.false_beq, Bool.true_bne, Bool.false_bne, Bool.bne_true, Bool.bne_false] at c7b1); (try simp only [beq_iff_eq, bne_iff_ne, ne_eq, decide_eq_true_eq, decide_eq_false_iff_not, decide_eq_decide, bne_eq_false_iff_eq, beq_eq_false_iff_ne, Bool.not_eq_true, Bool.not_eq_false, Bool.not_eq_true', Bool.not_eq_false', Bool.true_beq, Bool.false_beq, Bool.true_bne, Bool.false_bne, Bool.bne_true, Bool.bne_false] at c7); (try simp only [beq_iff_eq, bne_iff_ne, ne_eq, decide_eq_true_eq, decide_eq_false_iff_not, decide_eq_decide, bne_eq_false_iff_eq, beq_eq_false_iff_ne, Bool.not_eq_true, Bool.not_eq_false, Bool.not_eq_true', Bool.not_eq_false', Bool.true_beq, Bool.false_beq, Bool.true_bne, Bool.false_bne, Bool.bne_true, Bool.bne_false] at c8b0); (try unfold wrap64 at *); omega)
              · rw [if_neg c8] at H
                have c8b0 : decide (a0 < 64) = false := decide_eq_false c8
                clear c8
                replace H := Option.bind_eq_some_iff.mp H
                obtain ⟨t143, A90, H⟩ := H
                replace H : (if t143.size + (cutS (⟨#[48, 49, 50, 51, 52, 53, 54, 55, 56, 57, 65, 66, 67, 68, 69, 70, 71, 72, 73, 74, 75, 76, 77, 78, 79, 80, 81, 82, 83, 84, 85, 86, 87, 88, 89, 90, 95, 97, 98, 99, 100, 101, 102, 103, 104, 105, 106, 107, 108, 109, 110, 111, 112, 113, 114, 115, 116, 117, 118, 119, 120, 121, 122, 126]⟩ : ByteArray) ((Go.bits .and .i64 a0 63) : Int).toNat ((wrap64 ((Go.bits .and .i64 a0 63) + 1)) : Int).toNat).size ≤ 9223372036854775807 then (some (catS t143 (cutS (⟨#[48, 49, 50, 51, 52, 53, 54, 55, 56, 57, 65, 66, 67, 68, 69, 70, 71, 72, 73, 74, 75, 76, 77, 78, 79, 80, 81, 82, 83, 84, 85, 86, 87, 88, 89, 90, 95, 97, 98, 99, 100, 101, 102, 103, 104, 105, 106, 107, 108, 109, 110, 111, 112, 113, 114, 115, 116, 117, 118, 119, 120, 121, 122, 126]⟩ : ByteArray) ((Go.bits .and .i64 a0 63) : Int).toNat ((wrap64 ((Go.bits .and .i64 a0 63) + 1)) : Int).toNat))) else (none)) = some r := H
                have A9 := Aside0.mk A90
                clear A90
                by_cases c10 : t143.size + (cutS (⟨#[48, 49, 50, 51, 52, 53, 54, 55, 56, 57, 65, 66, 67, 68, 69, 70, 71, 72, 73, 74, 75, 76, 77, 78, 79, 80, 81, 82, 83, 84, 85, 86, 87, 88, 89, 90, 95, 97, 98, 99, 100, 101, 102, 103, 104, 105, 106, 107, 108, 109, 110, 111, 112, 113, 114, 115, 116, 117, 118, 119, 120, 121, 122, 126]⟩ : ByteArray) ((Go.bits .and .i64 a0 63) : Int).toNat ((wrap64 ((Go.bits .and .i64 a0 63) + 1)) : Int).toNat).size ≤ 9223372036854775807
                · rw [if_pos c10] at H
                  have c10b0 := eq_true c10
                  have c10b1 : decide (t143.size + (cutS (⟨#[48, 49, 50, 51, 52, 53, 54, 55, 56, 57, 65, 66, 67, 68, 69, 70, 71, 72, 73, 74, 75, 76, 77, 78, 79, 80, 81, 82, 83, 84, 85, 86, 87, 88, 89, 90, 95, 97, 98, 99, 100, 101, 102, 103, 104, 105, 106, 107, 108, 109, 110, 111, 112, 113, 114, 115, 116, 117, 118, 119, 120, 121, 122, 126]⟩ : ByteArray) ((Go.bits .and .i64 a0 63) : Int).toNat ((wrap64 ((Go.bits .and .i64 a0 63) + 1)) : Int).toNat).size ≤ 9223372036854775807) = true := decide_eq_true c10
                  try have c10b2 : (9223372036854775807 < t143.size + (cutS (⟨#[48, 49, 50, 51, 52, 53, 54, 55, 56, 57, 65, 66, 67, 68, 69, 70, 71, 72, 73, 74, 75, 76, 77, 78, 79, 80, 81, 82, 83, 84, 85, 86, 87, 88, 89, 90, 95, 97, 98, 99, 100, 101, 102, 103, 104, 105, 106, 107, 108, 109, 110, 111, 112, 113, 114, 115, 116, 117, 118, 119, 120, 121, 122, 126]⟩ : ByteArray) ((Go.bits .and .i64 a0 63) : Int).toNat ((wrap64 ((Go.bits .and .i64 a0 63) + 1)) : Int).toNat).size) = False := eq_false (Nat.not_lt.2 c10)
                  clear c10
                  obtain rfl := Option.some.inj H
                  go_wp2_with (first | ((with_reducible refine gate_callee (f := 36) rfl ?_); refine goesL_ (some 21) rfl rfl Try.func36 (by kernel_rfl) rfl #[.int .i64 (a0 / 64)] rfl (by (try simp only [List.map_toArray, List.map_cons, List.map_nil]); first | done | rfl | (simp only [List.length_drop, List.length_take]; rfl)) ?_; (with_reducible refine (ih kj1 (by have := HJ1.out; omega) (a0 / 64) t143 _ A9.out).mono ?_); rintro e w' ⟨rfl, ⟨nd, rfl⟩⟩; refine ⟨_, rfl, ?_⟩))
                  go_ret
                  exact ⟨by first | rfl | (simp; done) | (simp [*]; done), by repeat (first | exact Drawn0.refl _ | apply Drawn0.step)⟩
                  all_goals (exfalso; (try simp only [beq_iff_eq, bne_iff_ne, ne_eq, decide_eq_true_eq, decide_eq_false_iff_not, decide_eq_decide, bne_eq_false_iff_eq, beq_eq_false_iff_ne, Bool.not_eq_true, Bool.not_eq_false, Bool.not_eq_true', Bool.not_eq_false', Bool.true_beq, Bool.false_beq, Bool.true_bne, Bool.false_bne, Bool.bne_true, Bool.bne_false] at c5b0); (try simp only [beq_iff_eq, bne_iff_ne, ne_eq, decide_eq_true_eq, decide_eq_false_iff_not, decide_eq_decide, bne_eq_false_iff_eq, beq_eq_false_iff_ne, Bool.not_eq_true, Bool.not_eq_false, Bool.not_eq_true', Bool.not_eq_false', Bool.true_beq, Bool.false_beq, Bool.true_bne, Bool.false_bne, Bool.bne_true, Bool.bne_false] at c5b1); (try simp only [beq_iff_eq, bne_iff_ne, ne_eq, decide_eq_true_eq, decide_eq_false_iff_not, decide_eq_decide, bne_eq_false_iff_eq, beq_eq_false_iff_ne, Bool.not_eq_true, Bool.not_eq_false, Bool.not_eq_true', Bool.not_eq_false', Bool.true_beq, Bool.false_beq, Bool.true_bne, Bool.false_bne, Bool.bne_true, Bool.bne_false] at c6b0); (try simp only [beq_iff_eq, bne_iff_ne, ne_eq, decide_eq_true_eq, decide_eq_false_iff_not, decide_eq_decide, bne_eq_false_iff_eq, beq_eq_false_iff_ne, Bool.not_eq_true, Bool.not_eq_false, Bool.not_eq_true', Bool.not_eq_false', Bool.true_beq, Bool.false_beq, Bool.true_bne, Bool.false_bne, Bool.bne_true, Bool.bne_false] at c6b1); (try simp only [beq_iff_eq, bne_iff_ne, ne_eq, decide_eq_true_eq, decide_eq_false_iff_not, decide_eq_decide, bne_eq_false_iff_eq, beq_eq_false_iff_ne, Bool.not_eq_true, Bool.not_eq_false, Bool.not_eq_true', Bool.not_eq_false', Bool.true_beq, Bool.false_beq, Bool.true_bne, Bool.false_bne, Bool.bne_true, Bool.bne_false] at c6); (try simp only [beq_iff_eq, bne_iff_ne, ne_eq, decide_eq_true_eq, decide_eq_false_iff_not, decide_eq_decide, bne_eq_false_iff_eq, beq_eq_false_iff_ne, Bool.not_eq_true, Bool.not_eq_false, Bool.not_eq_true', Bool.not_eq_false', Bool.true_beq, Bool.false_beq, Bool.true_bne, Bool.false_bne, Bool.bne_true, Bool.bne_false] at c7b0); (try simp only [beq_iff_eq, bne_iff_ne, ne_eq, decide_eq_true_eq, decide_eq_false_iff_not, decide_eq_decide, bne_eq_false_iff_eq, beq_eq_false_iff_ne, Bool.not_eq_true, Bool.not_eq_false, Bool.not_eq_true', Bool.not_eq_false', Bool.true_beq, Bool.false_beq, Bool.true_bne, Bool.false_bne, Bool.bne_true, Bool.bne_false] at c7b1); (try simp only [beq_iff_eq, bne_iff_ne, ne_eq, decide_eq_true_eq, decide_eq_false_iff_not, decide_eq_decide, bne_eq_false_iff_eq, beq_eq_false_iff_ne, Bool.not_eq_true, Bool.not_eq_false, Bool.not_eq_true', Bool.not_eq_false', Bool.true_beq, Bool.false_beq, Bool.true_bne, Bool.false_bne, Bool.bne_true, Bool.bne_false] at c7); (try simp only [beq_iff_eq, bne_iff_ne, ne_eq, decide_eq_true_eq, decide_eq_false_iff_not, decide_eq_decide, bne_eq_false_iff_eq, beq_eq_false_iff_ne, Bool.not_eq_true, Bool.not_eq_false, Bool.not_eq_true', Bool.not_eq_false', Bool.true_beq, Bool.false_beq, Bool.true_bne, Bool.false_bne, Bool.bne_true, Bool.bne_false] at c8b0); (try simp only [beq_iff_eq, bne_iff_ne, ne_eq, decide_eq_true_eq, decide_eq_false_iff_not, decide_eq_decide, bne_eq_false_iff_eq, beq_eq_false_iff_ne, Bool.not_eq_true, Bool.not_eq_false, Bool.not_eq_true', Bool.not_eq_false', Bool.true_beq, Bool.false_beq, Bool.true_bne, Bool.false_bne, Bool.bne_true, Bool.bne_false] at c10b0); (try simp only [beq_iff_eq, bne_iff_ne, ne_eq, decide_eq_true_eq, decide_eq_false_iff_not, decide_eq_decide, bne_eq_false_iff_eq, beq_eq_false_iff_ne, Bool.not_eq_true, Bool.not_eq_false, Bool.not_eq_true', Bool.not_eq_false', Bool.true_beq, Bool.false_beq, Bool.true_bne, Bool.false_bne, Bool.bne_true, Bool.bne_false] at c10b1); (try unfold wrap64 at *); omega)
                · rw [if_neg c10] at H
                  exact absurd H (by simp)
            · rw [if_neg c7] at H
              exact absurd H (by simp)
          · rw [if_neg c6] at H
            exact absurd H (by simp)
        · rw [if_neg c5] at H
          exact absurd H (by simp)

end Go.Proofs.Ytcjkichimndioab.Q
