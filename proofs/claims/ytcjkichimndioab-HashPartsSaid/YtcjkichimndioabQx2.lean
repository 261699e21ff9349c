-- Written by a program of this session (wip/tools/ap.py) for this claim.
import Derived.Test.YtcjkichimndioabQx0
import Derived.Test.YtcjkichimndioabQx1
namespace Go.Proofs.Ytcjkichimndioab.Q
open Go.Proofs.Ytcjkichimndioab.Given
open Go.RowKit Go.Proofs.Ytcjkichimndioab.PW Go.Proofs.YtcjkichimndioabW.PrintWords Go.Proofs.YtcjkichimndioabW.PrintLast Go.Proofs.YtcjkichimndioabW.PrintMore
attribute [local go_sem] max2_int min2_int max_two min_two max_three min_three max_four min_four   -- for this text's walks alone
set_option linter.unnecessarySimpa false
attribute [local go_sem high] run_cut_if run_cut_from run_cut_to run_cat_if
set_option linter.unusedVariables false
set_option linter.unusedSimpArgs false

/-! ### ammonitelaw1_HashTells: function 4 -/
def ammonitelaw1_HashTells.j0 : Nat → Int → Int → ByteArray → Bool → Option (Bool)
  | 0, _, _, _, _ => none
  | k + 1, x2, x3, x9, x44 => if x44 = true then (some false) else ((ammonitebook_Within.f x2 0 39).bind fun t114 => (if 0 ≤ t114 then (if t114 ≤ (x9.size : Int) then ((some (([x3] : List Int) : List Int)).bind fun y115 => (if (cutS x9 0 (t114 : Int).toNat).size + (strOfNums y115).size ≤ 9223372036854775807 then (if 0 ≤ (wrap64 (t114 + 1)) then (if (wrap64 (t114 + 1)) ≤ (x9.size : Int) then (if (catS (cutS x9 0 (t114 : Int).toNat) (strOfNums y115)).size + (cutS x9 ((wrap64 (t114 + 1)) : Int).toNat x9.size).size ≤ 9223372036854775807 then ((hash_Is.f k (catS (catS (cutS x9 0 (t114 : Int).toNat) (strOfNums y115)) (cutS x9 ((wrap64 (t114 + 1)) : Int).toNat x9.size))).bind fun t118 => ((ammoniteref1_Is.f k (catS (catS (cutS x9 0 (t114 : Int).toNat) (strOfNums y115)) (cutS x9 ((wrap64 (t114 + 1)) : Int).toNat x9.size))).bind fun t119 => (if (t118 == t119) = true then (if 1 ≤ (x9.size : Int) then ((hash_Is.f k (cutS x9 1 x9.size)).bind fun t120 => (if t120 = true then (some false) else (if x9.size + 1 ≤ 9223372036854775807 then ((hash_Is.f k (catS x9 (⟨#[48]⟩ : ByteArray))).bind fun t121 => (if t121 = true then (some false) else ((ammonitelaw1_HashRuns.f k).bind fun t122 => (some t122)))) else (none)))) else (none)) else (some false)))) else (none)) else (none)) else (none)) else (none))) else (none)) else (none)))
def ammonitelaw1_HashTells.f (k : Nat) (a0 : ByteArray) (a1 : ByteArray) (a2 : Int) (a3 : Int) : Option (Bool) := if 0 ≤ (mn (a0.size : Int) 200) then (if (mn (a0.size : Int) 200) ≤ (a0.size : Int) then (if 0 ≤ (mn (a1.size : Int) 45) then (if (mn (a1.size : Int) 45) ≤ (a1.size : Int) then ((hash_Sum.f (cutS a0 0 ((mn (a0.size : Int) 200) : Int).toNat)).bind fun t109 => ((ammoniteref1_Sum.f (cutS a0 0 ((mn (a0.size : Int) 200) : Int).toNat)).bind fun t110 => (if t109.toList = t110.toList then ((hash_Is.f k t109).bind fun t111 => (if t111 = true then ((hash_Is.f k (cutS a1 0 ((mn (a1.size : Int) 45) : Int).toNat)).bind fun t112 => ((ammoniteref1_Is.f k (cutS a1 0 ((mn (a1.size : Int) 45) : Int).toNat)).bind fun t113 => (if (t112 != t113) = true then (ammonitelaw1_HashTells.j0 k a2 a3 t109 true) else (ammonitelaw1_HashTells.j0 k a2 a3 t109 ((t109.size : Int) != 40))))) else (ammonitelaw1_HashTells.j0 k a2 a3 t109 true))) else (ammonitelaw1_HashTells.j0 k a2 a3 t109 true)))) else (none)) else (none)) else (none)) else (none)
theorem ammonitelaw1_HashTells.mono_l : ∀ k, (∀ y0 y1 y2 y3, LeO (ammonitelaw1_HashTells.j0 k y0 y1 y2 y3) (ammonitelaw1_HashTells.j0 (k + 1) y0 y1 y2 y3))
  | 0 => fun _ _ _ _ r h => by simp [ammonitelaw1_HashTells.j0] at h
  | k + 1 => by
    have ih0 := ammonitelaw1_HashTells.mono_l k
    · intro y0 y1 y2 y3
      unfold ammonitelaw1_HashTells.j0
      repeat' first
      | (with_reducible exact ih0 _ _ _ _)
      | (with_reducible exact ammonitelaw1_HashRuns.mono _)
      | (with_reducible exact ammoniteref1_Is.mono _ _)
      | (with_reducible exact hash_Is.mono _ _)
      | (with_reducible exact LeO.refl _)
      | (with_reducible exact LeO.none _)
      | (with_reducible refine LeO.ite ?_ ?_)
      | (with_reducible refine LeO.bind ?_ (fun _ => ?_))
      | exact ih0 _ _ _ _
      | exact ammonitelaw1_HashRuns.mono _
      | exact ammoniteref1_Is.mono _ _
      | exact hash_Is.mono _ _
      | exact LeO.none _
      | refine LeO.ite ?_ ?_
      | refine LeO.bind ?_ (fun _ => ?_)
theorem ammonitelaw1_HashTells.mono : ∀ a0 a1 a2 a3 k, LeO (ammonitelaw1_HashTells.f k a0 a1 a2 a3) (ammonitelaw1_HashTells.f (k + 1) a0 a1 a2 a3) := by
  intro a0 a1 a2 a3 k
  have ih0 := ammonitelaw1_HashTells.mono_l k
  unfold ammonitelaw1_HashTells.f
  repeat' first
      | (with_reducible exact ih0 _ _ _ _)
      | (with_reducible exact ammonitelaw1_HashRuns.mono _)
      | (with_reducible exact ammoniteref1_Is.mono _ _)
      | (with_reducible exact hash_Is.mono _ _)
      | (with_reducible exact LeO.refl _)
      | (with_reducible exact LeO.none _)
      | (with_reducible refine LeO.ite ?_ ?_)
      | (with_reducible refine LeO.bind ?_ (fun _ => ?_))
      | exact ih0 _ _ _ _
      | exact ammonitelaw1_HashRuns.mono _
      | exact ammoniteref1_Is.mono _ _
      | exact hash_Is.mono _ _
      | exact LeO.none _
      | refine LeO.ite ?_ ?_
      | refine LeO.bind ?_ (fun _ => ?_)
def ammonitelaw1_HashTells.T1 : Bool × List (List Nat × List Nat) := (true, [([], []), ([], []), ([1], [1]), ([2], [2]), ([0, 3], [0, 3]), ([], []), ([], []), ([6], [6]), ([7], [7]), ([5, 8], [5, 8]), ([4, 0, 1, 2, 3, 4], [0, 1, 4]), ([9, 10, 0, 1, 2, 3, 4, 5, 6, 7, 8, 9, 10], [5, 6, 9])])
def ammonitelaw1_HashTells.B1 : List Nat := [0, 0, 2, 6, 15, 0, 0, 64, 192, 480, 31, 2047]
theorem ammonitelaw1_HashTells.tab1 : rtab .any (opsOf Try.f4 1) = ammonitelaw1_HashTells.T1 := by kernel_rfl
theorem ammonitelaw1_HashTells.bits1 : waitsOk ammonitelaw1_HashTells.T1.2 ammonitelaw1_HashTells.B1 = true := by kernel_rfl
def ammonitelaw1_HashTells.T6 : Bool × List (List Nat × List Nat) := (true, [([], []), ([], []), ([0, 1], [0, 1]), ([], []), ([3], [3]), ([4], [4]), ([2, 5], [2, 5]), ([], []), ([], []), ([8], [8]), ([7, 9], [7, 9]), ([6, 10], [6, 10]), ([11, 0, 1, 2, 3, 4, 5, 6, 7, 8, 9, 10, 11], [11])])
def ammonitelaw1_HashTells.B6 : List Nat := [0, 0, 3, 0, 8, 24, 63, 0, 0, 256, 896, 2047, 4095]
theorem ammonitelaw1_HashTells.tab6 : rtab .any (opsOf Try.f4 6) = ammonitelaw1_HashTells.T6 := by kernel_rfl
theorem ammonitelaw1_HashTells.bits6 : waitsOk ammonitelaw1_HashTells.T6.2 ammonitelaw1_HashTells.B6 = true := by kernel_rfl
set_option maxHeartbeats 8000000 in
set_option maxRecDepth 100000 in
theorem ammonitelaw1_HashTells.calls (k : Nat) (a0 : ByteArray) (a1 : ByteArray) (a2 : Int) (a3 : Int) (r : Bool) (w : World) (h : ammonitelaw1_HashTells.f k a0 a1 a2 a3 = some r) (hrt : r = true) :
    Calls Try.prog 4 #[.string a0, .string a1, .int .i64 a2, .int .u8 a3] w fun e w' => e = .returned (.bool r) ∧ Below w.heap.size w w' := by
  have HRT := Aside0.mk hrt
  clear hrt
  have HB := Aside0.mk (Below.refl w.heap.size w)
  have H : (if 0 ≤ (mn (a0.size : Int) 200) then (if (mn (a0.size : Int) 200) ≤ (a0.size : Int) then (if 0 ≤ (mn (a1.size : Int) 45) then (if (mn (a1.size : Int) 45) ≤ (a1.size : Int) then ((hash_Sum.f (cutS a0 0 ((mn (a0.size : Int) 200) : Int).toNat)).bind fun t109 => ((ammoniteref1_Sum.f (cutS a0 0 ((mn (a0.size : Int) 200) : Int).toNat)).bind fun t110 => (if t109.toList = t110.toList then ((hash_Is.f k t109).bind fun t111 => (if t111 = true then ((hash_Is.f k (cutS a1 0 ((mn (a1.size : Int) 45) : Int).toNat)).bind fun t112 => ((ammoniteref1_Is.f k (cutS a1 0 ((mn (a1.size : Int) 45) : Int).toNat)).bind fun t113 => (if (t112 != t113) = true then (ammonitelaw1_HashTells.j0 k a2 a3 t109 true) else (ammonitelaw1_HashTells.j0 k a2 a3 t109 ((t109.size : Int) != 40))))) else (ammonitelaw1_HashTells.j0 k a2 a3 t109 true))) else (ammonitelaw1_HashTells.j0 k a2 a3 t109 true)))) else (none)) else (none)) else (none)) else (none)) = some r := h
  clear h
  obtain ⟨ji5, hji5⟩ : ∃ j_ : Int, (mn (a0.size : Int) 200) = j_ := ⟨_, rfl⟩
  replace H : (if 0 ≤ (ji5) then (if (ji5) ≤ (a0.size : Int) then (if 0 ≤ (mn (a1.size : Int) 45) then (if (mn (a1.size : Int) 45) ≤ (a1.size : Int) then ((hash_Sum.f (cutS a0 0 ((ji5) : Int).toNat)).bind fun t109 => ((ammoniteref1_Sum.f (cutS a0 0 ((ji5) : Int).toNat)).bind fun t110 => (if t109.toList = t110.toList then ((hash_Is.f k t109).bind fun t111 => (if t111 = true then ((hash_Is.f k (cutS a1 0 ((mn (a1.size : Int) 45) : Int).toNat)).bind fun t112 => ((ammoniteref1_Is.f k (cutS a1 0 ((mn (a1.size : Int) 45) : Int).toNat)).bind fun t113 => (if (t112 != t113) = true then (ammonitelaw1_HashTells.j0 k a2 a3 t109 true) else (ammonitelaw1_HashTells.j0 k a2 a3 t109 ((t109.size : Int) != 40))))) else (ammonitelaw1_HashTells.j0 k a2 a3 t109 true))) else (ammonitelaw1_HashTells.j0 k a2 a3 t109 true)))) else (none)) else (none)) else (none)) else (none)) = some r := by first | (rw [hji5] at H; exact H) | (simp only [hji5] at H ⊢; exact H)
  (try (have hji5h : ji5 ≤ 200 := by (rw [← hji5]; unfold mn; (repeat' split) <;> omega)))
  (try (have hji5g : ji5 ≤ 64 := by omega))
  (try (have hji5l : 0 ≤ ji5 := by (rw [← hji5]; unfold mn; (repeat' split) <;> omega)))
  (try (have hji5m : 0 ≤ ji5 := by omega))
  have hji5_ : (if 200 < (a0.size : Int) then 200 else (a0.size : Int)) = ji5 := hji5
  by_cases c6 : 0 ≤ (ji5)
  · rw [if_pos c6] at H
    have c6b0 := eq_true c6
    have c6b1 : decide (0 ≤ (ji5)) = true := decide_eq_true c6
    clear c6
    by_cases c7 : (ji5) ≤ (a0.size : Int)
    · rw [if_pos c7] at H
      have c7b0 := eq_true c7
      have c7b1 : decide ((ji5) ≤ (a0.size : Int)) = true := decide_eq_true c7
      clear c7
      obtain ⟨ji8, hji8⟩ : ∃ j_ : Int, (mn (a1.size : Int) 45) = j_ := ⟨_, rfl⟩
      replace H : (if 0 ≤ (ji8) then (if (ji8) ≤ (a1.size : Int) then ((hash_Sum.f (cutS a0 0 ((ji5) : Int).toNat)).bind fun t109 => ((ammoniteref1_Sum.f (cutS a0 0 ((ji5) : Int).toNat)).bind fun t110 => (if t109.toList = t110.toList then ((hash_Is.f k t109).bind fun t111 => (if t111 = true then ((hash_Is.f k (cutS a1 0 ((ji8) : Int).toNat)).bind fun t112 => ((ammoniteref1_Is.f k (cutS a1 0 ((ji8) : Int).toNat)).bind fun t113 => (if (t112 != t113) = true then (ammonitelaw1_HashTells.j0 k a2 a3 t109 true) else (ammonitelaw1_HashTells.j0 k a2 a3 t109 ((t109.size : Int) != 40))))) else (ammonitelaw1_HashTells.j0 k a2 a3 t109 true))) else (ammonitelaw1_HashTells.j0 k a2 a3 t109 true)))) else (none)) else (none)) = some r := by first | (rw [hji8] at H; exact H) | (simp only [hji8] at H ⊢; exact H)
      (try (have hji8h : ji8 ≤ 45 := by (rw [← hji8]; unfold mn; (repeat' split) <;> omega)))
      (try (have hji8g : ji8 ≤ 64 := by omega))
      (try (have hji8l : 0 ≤ ji8 := by (rw [← hji8]; unfold mn; (repeat' split) <;> omega)))
      (try (have hji8m : 0 ≤ ji8 := by omega))
      have hji8_ : (if 45 < (a1.size : Int) then 45 else (a1.size : Int)) = ji8 := hji8
      by_cases c9 : 0 ≤ (ji8)
      · rw [if_pos c9] at H
        have c9b0 := eq_true c9
        have c9b1 : decide (0 ≤ (ji8)) = true := decide_eq_true c9
        clear c9
        by_cases c10 : (ji8) ≤ (a1.size : Int)
        · rw [if_pos c10] at H
          have c10b0 := eq_true c10
          have c10b1 : decide ((ji8) ≤ (a1.size : Int)) = true := decide_eq_true c10
          clear c10
          replace H := Option.bind_eq_some_iff.mp H
          obtain ⟨t109, A110, H⟩ := H
          replace H : ((ammoniteref1_Sum.f (cutS a0 0 ((ji5) : Int).toNat)).bind fun t110 => (if t109.toList = t110.toList then ((hash_Is.f k t109).bind fun t111 => (if t111 = true then ((hash_Is.f k (cutS a1 0 ((ji8) : Int).toNat)).bind fun t112 => ((ammoniteref1_Is.f k (cutS a1 0 ((ji8) : Int).toNat)).bind fun t113 => (if (t112 != t113) = true then (ammonitelaw1_HashTells.j0 k a2 a3 t109 true) else (ammonitelaw1_HashTells.j0 k a2 a3 t109 ((t109.size : Int) != 40))))) else (ammonitelaw1_HashTells.j0 k a2 a3 t109 true))) else (ammonitelaw1_HashTells.j0 k a2 a3 t109 true))) = some r := H
          have A11 := Aside0.mk A110
          clear A110
          have HC12 := Aside0.mk H
          clear H
          go_enter Try.func4, Try.ntmps4
          try go_wp2
          (try (generalize hdn_ : World.drewN w _ = wdn_ at ⊢; obtain ⟨n_, hdn_⟩ : ∃ n, World.drewN w n = wdn_ := ⟨_, hdn_⟩; have m0_ := pw_below_drewN HB.out n_; rw [hdn_] at m0_; have m0_ := Aside0.mk m0_; clear hdn_ HB; have HB := m0_; clear m0_))
          have n0_ := Aside0.mk (below_drew1 HB.out)
          clear HB
          have HB := n0_
          clear n0_
          refine start_ (n := 12) (S := fun w' => True) (ds := []) #[false, false, false, false, false, false, false, false, false, false, false, false] (by kernel_rfl) rfl rfl trivial (fun hHeld => ?_); refine with_tabW ammonitelaw1_HashTells.tab1 ammonitelaw1_HashTells.bits1 (fun HT_ HW_ => ?_)
          (first | generalize wdn_.drew = w13 at HB hHeld ⊢ | generalize w.drew = w13 at HB hHeld ⊢)
          refine pure_ (i := 0) (N := some 12) (v := ?_) (a' := ?_) #[true, false, false, false, false, false, false, false, false, false, false, false] rfl rfl (any_of HT_.out (by kernel_rfl)) (fun _ _ _ h => h) (Or.inl ⟨by rfl, ?_⟩) ?_ ?_
          rotate_left
          · intro w'
            go_simp
            with_reducible rfl
          rotate_left
          · simp only [Act.put, List.setIfInBounds_toArray, List.set_cons_zero, List.set_cons_succ, i64_w, i32_w]
            rfl
          refine pure_ (i := 1) (N := some 13) (v := ?_) (a' := ?_) #[true, true, false, false, false, false, false, false, false, false, false, false] rfl rfl (any_of HT_.out (by kernel_rfl)) (fun _ _ _ h => h) (Or.inl ⟨by rfl, ?_⟩) ?_ ?_
          rotate_left
          · intro w'
            go_simp
            with_reducible rfl
          rotate_left
          · simp only [Act.put, List.setIfInBounds_toArray, List.set_cons_zero, List.set_cons_succ, i64_w, i32_w]
            rfl
          refine pure_ (i := 2) (N := some 14) (v := ?_) (a' := ?_) #[true, true, true, false, false, false, false, false, false, false, false, false] rfl rfl (any_of HT_.out (by kernel_rfl)) (fun _ _ _ h => h) (Or.inl ⟨by rfl, ?_⟩) ?_ ?_
          rotate_left
          · intro w'
            go_simp
            with_reducible rfl
          rotate_left
          · simp only [Act.put, List.setIfInBounds_toArray, List.set_cons_zero, List.set_cons_succ, i64_w, i32_w]
            rfl
          refine pure_ (i := 3) (N := some 15) (v := ?_) (a' := ?_) #[true, true, true, true, false, false, false, false, false, false, false, false] rfl rfl (any_of HT_.out (by kernel_rfl)) (fun _ _ _ h => h) (Or.inl ⟨by rfl, ?_⟩) ?_ ?_
          rotate_left
          · intro w'
            go_simp
            with_reducible rfl
          rotate_left
          · simp only [Act.put, List.setIfInBounds_toArray, List.set_cons_zero, List.set_cons_succ, i64_w, i32_w]
            rfl
          refine pure_ (i := 4) (N := some 16) (v := ?_) (a' := ?_) #[true, true, true, true, true, false, false, false, false, false, false, false] rfl rfl (any_of HT_.out (by kernel_rfl)) (fun _ _ _ h => h) (Or.inl ⟨by rfl, ?_⟩) ?_ ?_
          rotate_left
          · intro w'
            go_simp
            with_reducible rfl
          rotate_left
          · simp only [Act.put, List.setIfInBounds_toArray, List.set_cons_zero, List.set_cons_succ, i64_w, i32_w]
            rfl
          refine pure_ (i := 5) (N := some 17) (v := ?_) (a' := ?_) #[true, true, true, true, true, true, false, false, false, false, false, false] rfl rfl (any_of HT_.out (by kernel_rfl)) (fun _ _ _ h => h) (Or.inl ⟨by rfl, ?_⟩) ?_ ?_
          rotate_left
          · intro w'
            go_simp
            with_reducible rfl
          rotate_left
          · simp only [Act.put, List.setIfInBounds_toArray, List.set_cons_zero, List.set_cons_succ, i64_w, i32_w]
            rfl
          refine pure_ (i := 6) (N := some 18) (v := ?_) (a' := ?_) #[true, true, true, true, true, true, true, false, false, false, false, false] rfl rfl (any_of HT_.out (by kernel_rfl)) (fun _ _ _ h => h) (Or.inl ⟨by rfl, ?_⟩) ?_ ?_
          rotate_left
          · intro w'
            go_simp
            with_reducible rfl
          rotate_left
          · simp only [Act.put, List.setIfInBounds_toArray, List.set_cons_zero, List.set_cons_succ, i64_w, i32_w]
            rfl
          refine pure_ (i := 7) (N := some 19) (v := ?_) (a' := ?_) #[true, true, true, true, true, true, true, true, false, false, false, false] rfl rfl (any_of HT_.out (by kernel_rfl)) (fun _ _ _ h => h) (Or.inl ⟨by rfl, ?_⟩) ?_ ?_
          rotate_left
          · intro w'
            go_simp
            with_reducible rfl
          rotate_left
          · simp only [Act.put, List.setIfInBounds_toArray, List.set_cons_zero, List.set_cons_succ, i64_w, i32_w]
            rfl
          refine pure_ (i := 8) (N := some 20) (v := ?_) (a' := ?_) #[true, true, true, true, true, true, true, true, true, false, false, false] rfl rfl (any_of HT_.out (by kernel_rfl)) (fun _ _ _ h => h) (Or.inl ⟨by rfl, ?_⟩) ?_ ?_
          rotate_left
          · intro w'
            go_simp
            with_reducible rfl
          rotate_left
          · simp only [Act.put, List.setIfInBounds_toArray, List.set_cons_zero, List.set_cons_succ, i64_w, i32_w]
            rfl
          refine pure_ (i := 9) (N := some 21) (v := ?_) (a' := ?_) #[true, true, true, true, true, true, true, true, true, true, false, false] rfl rfl (any_of HT_.out (by kernel_rfl)) (fun _ _ _ h => h) (Or.inl ⟨by rfl, ?_⟩) ?_ ?_
          rotate_left
          · intro w'
            go_simp
            with_reducible rfl
          rotate_left
          · simp only [Act.put, List.setIfInBounds_toArray, List.set_cons_zero, List.set_cons_succ, i64_w, i32_w]
            rfl
          refine pure_ (i := 10) (N := some 0) (v := ?_) (a' := ?_) #[true, true, true, true, true, true, true, true, true, true, true, false] rfl rfl (any_of HT_.out (by kernel_rfl)) (fun _ _ _ h => h) (Or.inl ⟨by rfl, ?_⟩) ?_ ?_
          rotate_left
          · intro w'
            go_simp
            with_reducible rfl
          rotate_left
          · simp only [Act.put, List.setIfInBounds_toArray, List.set_cons_zero, List.set_cons_succ, i64_w, i32_w]
            rfl
          refine pure_ (i := 11) (N := some 1) (v := ?_) (a' := ?_) #[true, true, true, true, true, true, true, true, true, true, true, true] rfl rfl (any_of HT_.out (by kernel_rfl)) (fun _ _ _ h => h) (Or.inl ⟨by rfl, ?_⟩) ?_ ?_
          rotate_left
          · intro w'
            go_simp
            with_reducible rfl
          rotate_left
          · simp only [Act.put, List.setIfInBounds_toArray, List.set_cons_zero, List.set_cons_succ, i64_w, i32_w]
            rfl
          refine done_ (done_of HT_.out (by kernel_rfl)) ?_
          go_upto_region 3 with (first | ((with_reducible refine gate_callee (f := 13) rfl ?_); refine goesL_ (some 23) rfl rfl Try.func13 (by kernel_rfl) rfl #[.string (cutS a0 0 ((ji5) : Int).toNat)] rfl (by (try simp only [List.map_toArray, List.map_cons, List.map_nil]); first | done | (simp only [hji5]; rfl) | rfl | (simp only [List.length_drop, List.length_take]; rfl)) ?_; (with_reducible refine (hash_Sum.calls (cutS a0 0 ((ji5) : Int).toNat) t109 _ A11.out).mono ?_); rintro e w14 ⟨rfl, hb⟩; refine ⟨_, rfl, ?_⟩; have n0_ := Aside0.mk (below_step (by repeat (first | (with_reducible first | exact HB.out | apply below_alloc | apply pw_below_drewN | apply below_drew1) | exact HB.out)) hb); clear HB; have HB := n0_; clear n0_; (try clear hb); (try clear hb2); (try clear hk); (try clear hi)))
          (try simp only [Act.put, List.setIfInBounds_toArray, List.set_cons_zero, List.set_cons_succ])
          go_cut [44] (fun v44 wc => ∃ (kq : Nat) (x44_11 : Bool), v44 = .bool x44_11 ∧ Aside0 (ammonitelaw1_HashTells.j0 kq a2 a3 t109 x44_11 = some r) ∧ Aside0 (kq ≤ k) ∧ Aside0 (Below w.heap.size w wc))
          case first =>
            have H := HC12.out
            clear HC12
            replace H := Option.bind_eq_some_iff.mp H
            obtain ⟨t110, A150, H⟩ := H
            replace H : (if t109.toList = t110.toList then ((hash_Is.f k t109).bind fun t111 => (if t111 = true then ((hash_Is.f k (cutS a1 0 ((ji8) : Int).toNat)).bind fun t112 => ((ammoniteref1_Is.f k (cutS a1 0 ((ji8) : Int).toNat)).bind fun t113 => (if (t112 != t113) = true then (ammonitelaw1_HashTells.j0 k a2 a3 t109 true) else (ammonitelaw1_HashTells.j0 k a2 a3 t109 ((t109.size : Int) != 40))))) else (ammonitelaw1_HashTells.j0 k a2 a3 t109 true))) else (ammonitelaw1_HashTells.j0 k a2 a3 t109 true)) = some r := H
            have A15 := Aside0.mk A150
            clear A150
            by_cases c16 : t109.toList = t110.toList
            · rw [if_pos c16] at H
              have c16b0 : (t109.toList == t110.toList) = true := beq_iff_eq.mpr c16
              have c16b1 : (t109.toList != t110.toList) = false := bne_eq_false_iff_eq.mpr c16
              clear c16
              (first | rw [c16b0] | (simp only [i64_w, i32_w]; rw [c16b0]) | skip)
              replace H := Option.bind_eq_some_iff.mp H
              obtain ⟨t111, A170, H⟩ := H
              replace H : (if t111 = true then ((hash_Is.f k (cutS a1 0 ((ji8) : Int).toNat)).bind fun t112 => ((ammoniteref1_Is.f k (cutS a1 0 ((ji8) : Int).toNat)).bind fun t113 => (if (t112 != t113) = true then (ammonitelaw1_HashTells.j0 k a2 a3 t109 true) else (ammonitelaw1_HashTells.j0 k a2 a3 t109 ((t109.size : Int) != 40))))) else (ammonitelaw1_HashTells.j0 k a2 a3 t109 true)) = some r := H
              have A17 := Aside0.mk A170
              clear A170
              by_cases c18 : t111 = true
              · subst c18
                have H1 : ((hash_Is.f k (cutS a1 0 ((ji8) : Int).toNat)).bind fun t112 => ((ammoniteref1_Is.f k (cutS a1 0 ((ji8) : Int).toNat)).bind fun t113 => (if (t112 != t113) = true then (ammonitelaw1_HashTells.j0 k a2 a3 t109 true) else (ammonitelaw1_HashTells.j0 k a2 a3 t109 ((t109.size : Int) != 40))))) = some r := by rw [if_pos rfl] at H; exact H
                clear H
                have H := H1
                clear H1
                replace H := Option.bind_eq_some_iff.mp H
                obtain ⟨t112, A190, H⟩ := H
                replace H : ((ammoniteref1_Is.f k (cutS a1 0 ((ji8) : Int).toNat)).bind fun t113 => (if (t112 != t113) = true then (ammonitelaw1_HashTells.j0 k a2 a3 t109 true) else (ammonitelaw1_HashTells.j0 k a2 a3 t109 ((t109.size : Int) != 40)))) = some r := H
                have A19 := Aside0.mk A190
                clear A190
                replace H := Option.bind_eq_some_iff.mp H
                obtain ⟨t113, A200, H⟩ := H
                replace H : (if (t112 != t113) = true then (ammonitelaw1_HashTells.j0 k a2 a3 t109 true) else (ammonitelaw1_HashTells.j0 k a2 a3 t109 ((t109.size : Int) != 40))) = some r := H
                have A20 := Aside0.mk A200
                clear A200
                by_cases c21 : (t112 != t113) = true
                · rw [if_pos c21] at H
                  have c21b0 : (t112 != t113) = true := c21
                  (try (have c21b1 : decide (t112 = t113) = false := by simpa using c21))
                  (try (have c21b2 : (t112 == t113) = false := by simpa using c21))
                  (try (have c21b3 : ¬ (t112 = t113) := by simpa using c21))
                  clear c21
                  have H' := Aside0.mk H
                  clear H
                  go_wp2_with (first | ((with_reducible refine gate_callee (f := 15) rfl ?_); refine goesL_ (some 26) rfl rfl Try.func15 (by kernel_rfl) rfl #[.string (cutS a0 0 ((ji5) : Int).toNat)] rfl (by (try simp only [List.map_toArray, List.map_cons, List.map_nil]); first | done | (simp only [hji5]; rfl) | rfl | (simp only [List.length_drop, List.length_take]; rfl)) ?_; (with_reducible refine (ammoniteref1_Sum.calls (cutS a0 0 ((ji5) : Int).toNat) t110 _ A15.out).mono ?_); rintro e w22 ⟨rfl, hb⟩; refine ⟨_, rfl, ?_⟩; have n0_ := Aside0.mk (below_step (by repeat (first | (with_reducible first | exact HB.out | apply below_alloc | apply pw_below_drewN | apply below_drew1) | exact HB.out)) hb); clear HB; have HB := n0_; clear n0_; (try clear hb); (try clear hb2); (try clear hk); (try clear hi)) | (go_at_call 14; (try simp only [i64_w, i32_w]); (with_reducible refine (hash_Is.calls k t109 true _ A17.out).mono ?_); rintro e w' ⟨rfl, ⟨nd, rfl⟩⟩) | (go_at_call 14; (try simp only [i64_w, i32_w]); (with_reducible refine (hash_Is.calls k (cutS a1 0 ((ji8) : Int).toNat) t112 _ A19.out).mono ?_); rintro e w' ⟨rfl, ⟨nd, rfl⟩⟩) | (go_at_call 16; (try simp only [i64_w, i32_w]); (with_reducible refine (ammoniteref1_Is.calls k (cutS a1 0 ((ji8) : Int).toNat) t113 _ A20.out).mono ?_); rintro e w' ⟨rfl, ⟨nd, rfl⟩⟩))
                  go_meet
                  case rel => exact ⟨_, (true), (by first | rfl | (simp; done) | (simp [*]; done)), H', ⟨by first | omega | exact Nat.le_refl _⟩, ⟨by repeat (first | (with_reducible first | exact HB.out | apply below_alloc | apply pw_below_drewN | apply below_drew1) | exact HB.out)⟩⟩
                  all_goals (exfalso; (try simp only [beq_iff_eq, bne_iff_ne, ne_eq, decide_eq_true_eq, decide_eq_false_iff_not, decide_eq_decide, bne_eq_false_iff_eq, beq_eq_false_iff_ne, Bool.not_eq_true, Bool.not_eq_false, Bool.not_eq_true', Bool.not_eq_false', Bool.true_beq, Bool.false_beq, Bool.true_bne, Bool.false_bne, Bool.bne_true, Bool.bne_false] at c6b0); (try simp only [beq_iff_eq, bne_iff_ne, ne_eq, decide_eq_true_eq, decide_eq_false_iff_not, decide_eq_decide, bne_eq_false_iff_eq, beq_eq_false_iff_ne, Bool.not_eq_true, Bool.not_eq_false, Bool.not_eq_true', Bool.not_eq_false', Bool.true_beq, Bool.false_beq, Bool.true_bne, Bool.false_bne, Bool.bne_true, Bool.bne_false] at c6b1); (try simp only [beq_iff_eq, bne_iff_ne, ne_eq, decide_eq_true_eq, decide_eq_false_iff_not, decide_eq_decide, bne_eq_false_iff_eq, beq_eq_false_iff_ne, Bool.not_eq_true, Bool.not_eq_false, Bool.not_eq_true', Bool.not_eq_false', Bool.true_beq, Bool.false_beq, Bool.true_bne, Bool.false_bne, Bool.bne_true, Bool.bne_false] at c7b0); (try simp only [beq_iff_eq, bne_iff_ne, ne_eq, decide_eq_true_eq, decide_eq_false_iff_not, decide_eq_decide, bne_eq_false_iff_eq, beq_eq_false_iff_ne, Bool.not_eq_true, Bool.not_eq_false, Bool.not_eq_true', Bool.not_eq_false', Bool.true_beq, Bool.false_beq, Bool.true_bne, Bool.false_bne, Bool.bne_true, Bool.bne_false] at c7b1); (try simp only [beq_iff_eq, bne_iff_ne, ne_eq, decide_eq_true_eq, decide_eq_false_iff_not, decide_eq_decide, bne_eq_false_iff_eq, beq_eq_false_iff_ne, Bool.not_eq_true, Bool.not_eq_false, Bool.not_eq_true', Bool.not_eq_false', Bool.true_beq, Bool.false_beq, Bool.true_bne, Bool.false_bne, Bool.bne_true, Bool.bne_false] at c9b0); (try simp only [beq_iff_eq, bne_iff_ne, ne_eq, decide_eq_true_eq, decide_eq_false_iff_not, decide_eq_decide, bne_eq_false_iff_eq, beq_eq_false_iff_ne, Bool.not_eq_true, Bool.not_eq_false, Bool.not_eq_true', Bool.not_eq_false', Bool.true_beq, Bool.false_beq, Bool.true_bne, Bool.false_bne, Bool.bne_true, Bool.bne_false] at c9b1); (try simp only [beq_iff_eq, bne_iff_ne, ne_eq, decide_eq_true_eq, decide_eq_false_iff_not, decide_eq_decide, bne_eq_false_iff_eq, beq_eq_false_iff_ne, Bool.not_eq_true, Bool.not_eq_false, Bool.not_eq_true', Bool.not_eq_false', Bool.true_beq, Bool.false_beq, Bool.true_bne, Bool.false_bne, Bool.bne_true, Bool.bne_false] at c10b0); (try simp only [beq_iff_eq, bne_iff_ne, ne_eq, decide_eq_true_eq, decide_eq_false_iff_not, decide_eq_decide, bne_eq_false_iff_eq, beq_eq_false_iff_ne, Bool.not_eq_true, Bool.not_eq_false, Bool.not_eq_true', Bool.not_eq_false', Bool.true_beq, Bool.false_beq, Bool.true_bne, Bool.false_bne, Bool.bne_true, Bool.bne_false] at c10b1); (try simp only [beq_iff_eq, bne_iff_ne, ne_eq, decide_eq_true_eq, decide_eq_false_iff_not, decide_eq_decide, bne_eq_false_iff_eq, beq_eq_false_iff_ne, Bool.not_eq_true, Bool.not_eq_false, Bool.not_eq_true', Bool.not_eq_false', Bool.true_beq, Bool.false_beq, Bool.true_bne, Bool.false_bne, Bool.bne_true, Bool.bne_false] at c16b0); (try simp only [beq_iff_eq, bne_iff_ne, ne_eq, decide_eq_true_eq, decide_eq_false_iff_not, decide_eq_decide, bne_eq_false_iff_eq, beq_eq_false_iff_ne, Bool.not_eq_true, Bool.not_eq_false, Bool.not_eq_true', Bool.not_eq_false', Bool.true_beq, Bool.false_beq, Bool.true_bne, Bool.false_bne, Bool.bne_true, Bool.bne_false] at c16b1); (try simp only [beq_iff_eq, bne_iff_ne, ne_eq, decide_eq_true_eq, decide_eq_false_iff_not, decide_eq_decide, bne_eq_false_iff_eq, beq_eq_false_iff_ne, Bool.not_eq_true, Bool.not_eq_false, Bool.not_eq_true', Bool.not_eq_false', Bool.true_beq, Bool.false_beq, Bool.true_bne, Bool.false_bne, Bool.bne_true, Bool.bne_false] at c21b0); (try simp only [beq_iff_eq, bne_iff_ne, ne_eq, decide_eq_true_eq, decide_eq_false_iff_not, decide_eq_decide, bne_eq_false_iff_eq, beq_eq_false_iff_ne, Bool.not_eq_true, Bool.not_eq_false, Bool.not_eq_true', Bool.not_eq_false', Bool.true_beq, Bool.false_beq, Bool.true_bne, Bool.false_bne, Bool.bne_true, Bool.bne_false] at c21b1); (try simp only [beq_iff_eq, bne_iff_ne, ne_eq, decide_eq_true_eq, decide_eq_false_iff_not, decide_eq_decide, bne_eq_false_iff_eq, beq_eq_false_iff_ne, Bool.not_eq_true, Bool.not_eq_false, Bool.not_eq_true', Bool.not_eq_false', Bool.true_beq, Bool.false_beq, Bool.true_bne, Bool.false_bne, Bool.bne_true, Bool.bne_false] at c21b2); (try simp only [beq_iff_eq, bne_iff_ne, ne_eq, decide_eq_true_eq, decide_eq_false_iff_not, decide_eq_decide, bne_eq_false_iff_eq, beq_eq_false_iff_ne, Bool.not_eq_true, Bool.not_eq_false, Bool.not_eq_true', Bool.not_eq_false', Bool.true_beq, Bool.false_beq, Bool.true_bne, Bool.false_bne, Bool.bne_true, Bool.bne_false] at c21b3); (try unfold wrap64 at *); omega)
                · rw [if_neg c21] at H
                  have c21b0 : (t112 != t113) = false := by simpa using c21
                  (try (have c21b1 : decide (t112 = t113) = true := by simpa using c21))
                  (try (have c21b2 : (t112 == t113) = true := by simpa using c21))
                  clear c21
                  have H' := Aside0.mk H
                  clear H
                  go_wp2_with (first | ((with_reducible refine gate_callee (f := 15) rfl ?_); refine goesL_ (some 26) rfl rfl Try.func15 (by kernel_rfl) rfl #[.string (cutS a0 0 ((ji5) : Int).toNat)] rfl (by (try simp only [List.map_toArray, List.map_cons, List.map_nil]); first | done | (simp only [hji5]; rfl) | rfl | (simp only [List.length_drop, List.length_take]; rfl)) ?_; (with_reducible refine (ammoniteref1_Sum.calls (cutS a0 0 ((ji5) : Int).toNat) t110 _ A15.out).mono ?_); rintro e w23 ⟨rfl, hb⟩; refine ⟨_, rfl, ?_⟩; have n0_ := Aside0.mk (below_step (by repeat (first | (with_reducible first | exact HB.out | apply below_alloc | apply pw_below_drewN | apply below_drew1) | exact HB.out)) hb); clear HB; have HB := n0_; clear n0_; (try clear hb); (try clear hb2); (try clear hk); (try clear hi)) | (go_at_call 14; (try simp only [i64_w, i32_w]); (with_reducible refine (hash_Is.calls k t109 true _ A17.out).mono ?_); rintro e w' ⟨rfl, ⟨nd, rfl⟩⟩) | (go_at_call 14; (try simp only [i64_w, i32_w]); (with_reducible refine (hash_Is.calls k (cutS a1 0 ((ji8) : Int).toNat) t112 _ A19.out).mono ?_); rintro e w' ⟨rfl, ⟨nd, rfl⟩⟩) | (go_at_call 16; (try simp only [i64_w, i32_w]); (with_reducible refine (ammoniteref1_Is.calls k (cutS a1 0 ((ji8) : Int).toNat) t113 _ A20.out).mono ?_); rintro e w' ⟨rfl, ⟨nd, rfl⟩⟩))
                  go_meet
                  case rel => exact ⟨_, (((t109.size : Int) != 40)), (by first | rfl | (simp; done) | (simp [*]; done)), H', ⟨by first | omega | exact Nat.le_refl _⟩, ⟨by repeat (first | (with_reducible first | exact HB.out | apply below_alloc | apply pw_below_drewN | apply below_drew1) | exact HB.out)⟩⟩
                  all_goals (exfalso; (try simp only [beq_iff_eq, bne_iff_ne, ne_eq, decide_eq_true_eq, decide_eq_false_iff_not, decide_eq_decide, bne_eq_false_iff_eq, beq_eq_false_iff_ne, Bool.not_eq_true, Bool.not_eq_false, Bool.not_eq_true', Bool.not_eq_false', Bool.true_beq, Bool.false_beq, Bool.true_bne, Bool.false_bne, Bool.bne_true, Bool.bne_false] at c6b0); (try simp only [beq_iff_eq, bne_iff_ne, ne_eq, decide_eq_true_eq, decide_eq_false_iff_not, decide_eq_decide, bne_eq_false_iff_eq, beq_eq_false_iff_ne, Bool.not_eq_true, Bool.not_eq_false, Bool.not_eq_true', Bool.not_eq_false', Bool.true_beq, Bool.false_beq, Bool.true_bne, Bool.false_bne, Bool.bne_true, Bool.bne_false] at c6b1); (try simp only [beq_iff_eq, bne_iff_ne, ne_eq, decide_eq_true_eq, decide_eq_false_iff_not, decide_eq_decide, bne_eq_false_iff_eq, beq_eq_false_iff_ne, Bool.not_eq_true, Bool.not_eq_false, Bool.not_eq_true', Bool.not_eq_false', Bool.true_beq, Bool.false_beq, Bool.true_bne, Bool.false_bne, Bool.bne_true, Bool.bne_false] at c7b0); (try simp only [beq_iff_eq, bne_iff_ne, ne_eq, decide_eq_true_eq, decide_eq_false_iff_not, decide_eq_decide, bne_eq_false_iff_eq, beq_eq_false_iff_ne, Bool.not_eq_true, Bool.not_eq_false, Bool.not_eq_true', Bool.not_eq_false', Bool.true_beq, Bool.false_beq, Bool.true_bne, Bool.false_bne, Bool.bne_true, Bool.bne_false] at c7b1); (try simp only [beq_iff_eq, bne_iff_ne, ne_eq, decide_eq_true_eq, decide_eq_false_iff_not, decide_eq_decide, bne_eq_false_iff_eq, beq_eq_false_iff_ne, Bool.not_eq_true, Bool.not_eq_false, Bool.not_eq_true', Bool.not_eq_false', Bool.true_beq, Bool.false_beq, Bool.true_bne, Bool.false_bne, Bool.bne_true, Bool.bne_false] at c9b0); (try simp only [beq_iff_eq, bne_iff_ne, ne_eq, decide_eq_true_eq, decide_eq_false_iff_not, decide_eq_decide, bne_eq_false_iff_eq, beq_eq_false_iff_ne, Bool.not_eq_true, Bool.not_eq_false, Bool.not_eq_true', Bool.not_eq_false', Bool.true_beq, Bool.false_beq, Bool.true_bne, Bool.false_bne, Bool.bne_true, Bool.bne_false] at c9b1); (try simp only [beq_iff_eq, bne_iff_ne, ne_eq, decide_eq_true_eq, decide_eq_false_iff_not, decide_eq_decide, bne_eq_false_iff_eq, beq_eq_false_iff_ne, Bool.not_eq_true, Bool.not_eq_false, Bool.not_eq_true', Bool.not_eq_false', Bool.true_beq, Bool.false_beq, Bool.true_bne, Bool.false_bne, Bool.bne_true, Bool.bne_false] at c10b0); (try simp only [beq_iff_eq, bne_iff_ne, ne_eq, decide_eq_true_eq, decide_eq_false_iff_not, decide_eq_decide, bne_eq_false_iff_eq, beq_eq_false_iff_ne, Bool.not_eq_true, Bool.not_eq_false, Bool.not_eq_true', Bool.not_eq_false', Bool.true_beq, Bool.false_beq, Bool.true_bne, Bool.false_bne, Bool.bne_true, Bool.bne_false] at c10b1); (try simp only [beq_iff_eq, bne_iff_ne, ne_eq, decide_eq_true_eq, decide_eq_false_iff_not, decide_eq_decide, bne_eq_false_iff_eq, beq_eq_false_iff_ne, Bool.not_eq_true, Bool.not_eq_false, Bool.not_eq_true', Bool.not_eq_false', Bool.true_beq, Bool.false_beq, Bool.true_bne, Bool.false_bne, Bool.bne_true, Bool.bne_false] at c16b0); (try simp only [beq_iff_eq, bne_iff_ne, ne_eq, decide_eq_true_eq, decide_eq_false_iff_not, decide_eq_decide, bne_eq_false_iff_eq, beq_eq_false_iff_ne, Bool.not_eq_true, Bool.not_eq_false, Bool.not_eq_true', Bool.not_eq_false', Bool.true_beq, Bool.false_beq, Bool.true_bne, Bool.false_bne, Bool.bne_true, Bool.bne_false] at c16b1); (try simp only [beq_iff_eq, bne_iff_ne, ne_eq, decide_eq_true_eq, decide_eq_false_iff_not, decide_eq_decide, bne_eq_false_iff_eq, beq_eq_false_iff_ne, Bool.not_eq_true, Bool.not_eq_false, Bool.not_eq_true', Bool.not_eq_false', Bool.true_beq, Bool.false_beq, Bool.true_bne, Bool.false_bne, Bool.bne_true, Bool.bne_false] at c21b0); (try simp only [beq_iff_eq, bne_iff_ne, ne_eq, decide_eq_true_eq, decide_eq_false_iff_not, decide_eq_decide, bne_eq_false_iff_eq, beq_eq_false_iff_ne, Bool.not_eq_true, Bool.not_eq_false, Bool.not_eq_true', Bool.not_eq_false', Bool.true_beq, Bool.false_beq, Bool.true_bne, Bool.false_bne, Bool.bne_true, Bool.bne_false] at c21b1); (try simp only [beq_iff_eq, bne_iff_ne, ne_eq, decide_eq_true_eq, decide_eq_false_iff_not, decide_eq_decide, bne_eq_false_iff_eq, beq_eq_false_iff_ne, Bool.not_eq_true, Bool.not_eq_false, Bool.not_eq_true', Bool.not_eq_false', Bool.true_beq, Bool.false_beq, Bool.true_bne, Bool.false_bne, Bool.bne_true, Bool.bne_false] at c21b2); (try unfold wrap64 at *); omega)
              · replace c18 := Bool.eq_false_iff.mpr c18
                subst c18
                have H1 : (ammonitelaw1_HashTells.j0 k a2 a3 t109 true) = some r := by rw [if_neg (show ¬ (false = true) by decide)] at H; exact H
                clear H
                have H := H1
                clear H1
                have H' := Aside0.mk H
                clear H
                go_wp2_with (first | ((with_reducible refine gate_callee (f := 15) rfl ?_); refine goesL_ (some 26) rfl rfl Try.func15 (by kernel_rfl) rfl #[.string (cutS a0 0 ((ji5) : Int).toNat)] rfl (by (try simp only [List.map_toArray, List.map_cons, List.map_nil]); first | done | (simp only [hji5]; rfl) | rfl | (simp only [List.length_drop, List.length_take]; rfl)) ?_; (with_reducible refine (ammoniteref1_Sum.calls (cutS a0 0 ((ji5) : Int).toNat) t110 _ A15.out).mono ?_); rintro e w24 ⟨rfl, hb⟩; refine ⟨_, rfl, ?_⟩; have n0_ := Aside0.mk (below_step (by repeat (first | (with_reducible first | exact HB.out | apply below_alloc | apply pw_below_drewN | apply below_drew1) | exact HB.out)) hb); clear HB; have HB := n0_; clear n0_; (try clear hb); (try clear hb2); (try clear hk); (try clear hi)) | (go_at_call 14; (try simp only [i64_w, i32_w]); (with_reducible refine (hash_Is.calls k t109 false _ A17.out).mono ?_); rintro e w' ⟨rfl, ⟨nd, rfl⟩⟩))
                go_meet
                case rel => exact ⟨_, (true), (by first | rfl | (simp; done) | (simp [*]; done)), H', ⟨by first | omega | exact Nat.le_refl _⟩, ⟨by repeat (first | (with_reducible first | exact HB.out | apply below_alloc | apply pw_below_drewN | apply below_drew1) | exact HB.out)⟩⟩
                all_goals (exfalso; (try simp only [beq_iff_eq, bne_iff_ne, ne_eq, decide_eq_true_eq, decide_eq_false_iff_not, decide_eq_decide, bne_eq_false_iff_eq, beq_eq_false_iff_ne, Bool.not_eq_true, Bool.not_eq_false, Bool.not_eq_true', Bool.not_eq_false', Bool.true_beq, Bool.false_beq, Bool.true_bne, Bool.false_bne, Bool.bne_true, Bool.bne_false] at c6b0); (try simp only [beq_iff_eq, bne_iff_ne, ne_eq, decide_eq_true_eq, decide_eq_false_iff_not, decide_eq_decide, bne_eq_false_iff_eq, beq_eq_false_iff_ne, Bool.not_eq_true, Bool.not_eq_false, Bool.not_eq_true', Bool.not_eq_false', Bool.true_beq, Bool.false_beq, Bool.true_bne, Bool.false_bne, Bool.bne_true, Bool.bne_false] at c6b1); (try simp only [beq_iff_eq, bne_iff_ne, ne_eq, decide_eq_true_eq, decide_eq_false_iff_not, decide_eq_decide, bne_eq_false_iff_eq, beq_eq_false_iff_ne, Bool.not_eq_true, Bool.not_eq_false, Bool.not_eq_true', Bool.not_eq_false', Bool.true_beq, Bool.false_beq, Bool.true_bne, Bool.false_bne, Bool.bne_true, Bool.bne_false] at c7b0); (try simp only [beq_iff_eq, bne_iff_ne, ne_eq, decide_eq_true_eq, decide_eq_false_iff_not, decide_eq_decide, bne_eq_false_iff_eq, beq_eq_false_iff_ne, Bool.not_eq_true, Bool.not_eq_false, Bool.not_eq_true', Bool.not_eq_false', Bool.true_beq, Bool.false_beq, Bool.true_bne, Bool.false_bne, Bool.bne_true, Bool.bne_false] at c7b1); (try simp only [beq_iff_eq, bne_iff_ne, ne_eq, decide_eq_true_eq, decide_eq_false_iff_not, decide_eq_decide, bne_eq_false_iff_eq, beq_eq_false_iff_ne, Bool.not_eq_true, Bool.not_eq_false, Bool.not_eq_true', Bool.not_eq_false', Bool.true_beq, Bool.false_beq, Bool.true_bne, Bool.false_bne, Bool.bne_true, Bool.bne_false] at c9b0); (try simp only [beq_iff_eq, bne_iff_ne, ne_eq, decide_eq_true_eq, decide_eq_false_iff_not, decide_eq_decide, bne_eq_false_iff_eq, beq_eq_false_iff_ne, Bool.not_eq_true, Bool.not_eq_false, Bool.not_eq_true', Bool.not_eq_false', Bool.true_beq, Bool.false_beq, Bool.true_bne, Bool.false_bne, Bool.bne_true, Bool.bne_false] at c9b1); (try simp only [beq_iff_eq, bne_iff_ne, ne_eq, decide_eq_true_eq, decide_eq_false_iff_not, decide_eq_decide, bne_eq_false_iff_eq, beq_eq_false_iff_ne, Bool.not_eq_true, Bool.not_eq_false, Bool.not_eq_true', Bool.not_eq_false', Bool.true_beq, Bool.false_beq, Bool.true_bne, Bool.false_bne, Bool.bne_true, Bool.bne_false] at c10b0); (try simp only [beq_iff_eq, bne_iff_ne, ne_eq, decide_eq_true_eq, decide_eq_false_iff_not, decide_eq_decide, bne_eq_false_iff_eq, beq_eq_false_iff_ne, Bool.not_eq_true, Bool.not_eq_false, Bool.not_eq_true', Bool.not_eq_false', Bool.true_beq, Bool.false_beq, Bool.true_bne, Bool.false_bne, Bool.bne_true, Bool.bne_false] at c10b1); (try simp only [beq_iff_eq, bne_iff_ne, ne_eq, decide_eq_true_eq, decide_eq_false_iff_not, decide_eq_decide, bne_eq_false_iff_eq, beq_eq_false_iff_ne, Bool.not_eq_true, Bool.not_eq_false, Bool.not_eq_true', Bool.not_eq_false', Bool.true_beq, Bool.false_beq, Bool.true_bne, Bool.false_bne, Bool.bne_true, Bool.bne_false] at c16b0); (try simp only [beq_iff_eq, bne_iff_ne, ne_eq, decide_eq_true_eq, decide_eq_false_iff_not, decide_eq_decide, bne_eq_false_iff_eq, beq_eq_false_iff_ne, Bool.not_eq_true, Bool.not_eq_false, Bool.not_eq_true', Bool.not_eq_false', Bool.true_beq, Bool.false_beq, Bool.true_bne, Bool.false_bne, Bool.bne_true, Bool.bne_false] at c16b1); (try unfold wrap64 at *); omega)
            · rw [if_neg c16] at H
              have c16b0 : (t109.toList == t110.toList) = false := beq_eq_false_iff_ne.mpr c16
              have c16b1 : (t109.toList != t110.toList) = true := bne_iff_ne.mpr c16
              (first | rw [c16b0] | (simp only [i64_w, i32_w]; rw [c16b0]) | skip)
              have H' := Aside0.mk H
              clear H
              go_wp2_with (first | ((with_reducible refine gate_callee (f := 15) rfl ?_); refine goesL_ (some 26) rfl rfl Try.func15 (by kernel_rfl) rfl #[.string (cutS a0 0 ((ji5) : Int).toNat)] rfl (by (try simp only [List.map_toArray, List.map_cons, List.map_nil]); first | done | (simp only [hji5]; rfl) | rfl | (simp only [List.length_drop, List.length_take]; rfl)) ?_; (with_reducible refine (ammoniteref1_Sum.calls (cutS a0 0 ((ji5) : Int).toNat) t110 _ A15.out).mono ?_); rintro e w25 ⟨rfl, hb⟩; refine ⟨_, rfl, ?_⟩; have n0_ := Aside0.mk (below_step (by repeat (first | (with_reducible first | exact HB.out | apply below_alloc | apply pw_below_drewN | apply below_drew1) | exact HB.out)) hb); clear HB; have HB := n0_; clear n0_; (try clear hb); (try clear hb2); (try clear hk); (try clear hi)))
              go_meet
              case rel => exact ⟨_, (true), (by first | rfl | (simp; done) | (simp [*]; done)), H', ⟨by first | omega | exact Nat.le_refl _⟩, ⟨by repeat (first | (with_reducible first | exact HB.out | apply below_alloc | apply pw_below_drewN | apply below_drew1) | exact HB.out)⟩⟩
              all_goals (exfalso; (try simp only [beq_iff_eq, bne_iff_ne, ne_eq, decide_eq_true_eq, decide_eq_false_iff_not, decide_eq_decide, bne_eq_false_iff_eq, beq_eq_false_iff_ne, Bool.not_eq_true, Bool.not_eq_false, Bool.not_eq_true', Bool.not_eq_false', Bool.true_beq, Bool.false_beq, Bool.true_bne, Bool.false_bne, Bool.bne_true, Bool.bne_false] at c6b0); (try simp only [beq_iff_eq, bne_iff_ne, ne_eq, decide_eq_true_eq, decide_eq_false_iff_not, decide_eq_decide, bne_eq_false_iff_eq, beq_eq_false_iff_ne, Bool.not_eq_true, Bool.not_eq_false, Bool.not_eq_true', Bool.not_eq_false', Bool.true_beq, Bool.false_beq, Bool.true_bne, Bool.false_bne, Bool.bne_true, Bool.bne_false] at c6b1); (try simp only [beq_iff_eq, bne_iff_ne, ne_eq, decide_eq_true_eq, decide_eq_false_iff_not, decide_eq_decide, bne_eq_false_iff_eq, beq_eq_false_iff_ne, Bool.not_eq_true, Bool.not_eq_false, Bool.not_eq_true', Bool.not_eq_false', Bool.true_beq, Bool.false_beq, Bool.true_bne, Bool.false_bne, Bool.bne_true, Bool.bne_false] at c7b0); (try simp only [beq_iff_eq, bne_iff_ne, ne_eq, decide_eq_true_eq, decide_eq_false_iff_not, decide_eq_decide, bne_eq_false_iff_eq, beq_eq_false_iff_ne, Bool.not_eq_true, Bool.not_eq_false, Bool.not_eq_true', Bool.not_eq_false', Bool.true_beq, Bool.false_beq, Bool.true_bne, Bool.false_bne, Bool.bne_true, Bool.bne_false] at c7b1); (try simp only [beq_iff_eq, bne_iff_ne, ne_eq, decide_eq_true_eq, decide_eq_false_iff_not, decide_eq_decide, bne_eq_false_iff_eq, beq_eq_false_iff_ne, Bool.not_eq_true, Bool.not_eq_false, Bool.not_eq_true', Bool.not_eq_false', Bool.true_beq, Bool.false_beq, Bool.true_bne, Bool.false_bne, Bool.bne_true, Bool.bne_false] at c9b0); (try simp only [beq_iff_eq, bne_iff_ne, ne_eq, decide_eq_true_eq, decide_eq_false_iff_not, decide_eq_decide, bne_eq_false_iff_eq, beq_eq_false_iff_ne, Bool.not_eq_true, Bool.not_eq_false, Bool.not_eq_true', Bool.not_eq_false', Bool.true_beq, Bool.false_beq, Bool.true_bne, Bool.false_bne, Bool.bne_true, Bool.bne_false] at c9b1); (try simp only [beq_iff_eq, bne_iff_ne, ne_eq, decide_eq_true_eq, decide_eq_false_iff_not, decide_eq_decide, bne_eq_false_iff_eq, beq_eq_false_iff_ne, Bool.not_eq_true, Bool.not_eq_false, Bool.not_eq_true', Bool.not_eq_false', Bool.true_beq, Bool.false_beq, Bool.true_bne, Bool.false_bne, Bool.bne_true, Bool.bne_false] at c10b0); (try simp only [beq_iff_eq, bne_iff_ne, ne_eq, decide_eq_true_eq, decide_eq_false_iff_not, decide_eq_decide, bne_eq_false_iff_eq, beq_eq_false_iff_ne, Bool.not_eq_true, Bool.not_eq_false, Bool.not_eq_true', Bool.not_eq_false', Bool.true_beq, Bool.false_beq, Bool.true_bne, Bool.false_bne, Bool.bne_true, Bool.bne_false] at c10b1); (try simp only [beq_iff_eq, bne_iff_ne, ne_eq, decide_eq_true_eq, decide_eq_false_iff_not, decide_eq_decide, bne_eq_false_iff_eq, beq_eq_false_iff_ne, Bool.not_eq_true, Bool.not_eq_false, Bool.not_eq_true', Bool.not_eq_false', Bool.true_beq, Bool.false_beq, Bool.true_bne, Bool.false_bne, Bool.bne_true, Bool.bne_false] at c16b0); (try simp only [beq_iff_eq, bne_iff_ne, ne_eq, decide_eq_true_eq, decide_eq_false_iff_not, decide_eq_decide, bne_eq_false_iff_eq, beq_eq_false_iff_ne, Bool.not_eq_true, Bool.not_eq_false, Bool.not_eq_true', Bool.not_eq_false', Bool.true_beq, Bool.false_beq, Bool.true_bne, Bool.false_bne, Bool.bne_true, Bool.bne_false] at c16b1); (try unfold wrap64 at *); omega)
          case rest =>
            clear HC12
            try clear c1
            try clear c2
            try clear p2
            try clear c4
            try clear c6
            try clear c6b0
            try clear c6b1
            try clear p6
            try clear c7
            try clear c7b0
            try clear c7b1
            try clear c9
            try clear c9b0
            try clear c9b1
            try clear c10
            try clear c10b0
            try clear c10b1
            try clear c13
            try clear c15
            try clear c16
            try clear c16b0
            try clear c16b1
            try clear c18
            try clear c21
            try clear c21b0
            try clear c21b1
            try clear c21b2
            obtain ⟨kq, x44_11, rfl, HA, HJ11, HB⟩ := hcut
            cases kq with
            | zero => exact absurd HA.out (by simp [ammonitelaw1_HashTells.j0])
            | succ kj11 =>
              have H := HA.out
              clear HA
              simp only [ammonitelaw1_HashTells.j0] at H
              by_cases c26 : x44_11 = true
              · subst c26
                have H1 : (some false) = some r := by rw [if_pos rfl] at H; exact H
                clear H
                have H := H1
                clear H1
                exact absurd ((Option.some.inj H).trans HRT.out) Bool.false_ne_true
              · replace c26 := Bool.eq_false_iff.mpr c26
                subst c26
                have H1 : ((ammonitebook_Within.f a2 0 39).bind fun t114 => (if 0 ≤ t114 then (if t114 ≤ (t109.size : Int) then ((some (([a3] : List Int) : List Int)).bind fun y115 => (if (cutS t109 0 (t114 : Int).toNat).size + (strOfNums y115).size ≤ 9223372036854775807 then (if 0 ≤ (wrap64 (t114 + 1)) then (if (wrap64 (t114 + 1)) ≤ (t109.size : Int) then (if (catS (cutS t109 0 (t114 : Int).toNat) (strOfNums y115)).size + (cutS t109 ((wrap64 (t114 + 1)) : Int).toNat t109.size).size ≤ 9223372036854775807 then ((hash_Is.f kj11 (catS (catS (cutS t109 0 (t114 : Int).toNat) (strOfNums y115)) (cutS t109 ((wrap64 (t114 + 1)) : Int).toNat t109.size))).bind fun t118 => ((ammoniteref1_Is.f kj11 (catS (catS (cutS t109 0 (t114 : Int).toNat) (strOfNums y115)) (cutS t109 ((wrap64 (t114 + 1)) : Int).toNat t109.size))).bind fun t119 => (if (t118 == t119) = true then (if 1 ≤ (t109.size : Int) then ((hash_Is.f kj11 (cutS t109 1 t109.size)).bind fun t120 => (if t120 = true then (some false) else (if t109.size + 1 ≤ 9223372036854775807 then ((hash_Is.f kj11 (catS t109 (⟨#[48]⟩ : ByteArray))).bind fun t121 => (if t121 = true then (some false) else ((ammonitelaw1_HashRuns.f kj11).bind fun t122 => (some t122)))) else (none)))) else (none)) else (some false)))) else (none)) else (none)) else (none)) else (none))) else (none)) else (none))) = some r := by rw [if_neg (show ¬ (false = true) by decide)] at H; exact H
                clear H
                have H := H1
                clear H1
                replace H := Option.bind_eq_some_iff.mp H
                obtain ⟨t114, A270, H⟩ := H
                replace H : (if 0 ≤ t114 then (if t114 ≤ (t109.size : Int) then ((some (([a3] : List Int) : List Int)).bind fun y115 => (if (cutS t109 0 (t114 : Int).toNat).size + (strOfNums y115).size ≤ 9223372036854775807 then (if 0 ≤ (wrap64 (t114 + 1)) then (if (wrap64 (t114 + 1)) ≤ (t109.size : Int) then (if (catS (cutS t109 0 (t114 : Int).toNat) (strOfNums y115)).size + (cutS t109 ((wrap64 (t114 + 1)) : Int).toNat t109.size).size ≤ 9223372036854775807 then ((hash_Is.f kj11 (catS (catS (cutS t109 0 (t114 : Int).toNat) (strOfNums y115)) (cutS t109 ((wrap64 (t114 + 1)) : Int).toNat t109.size))).bind fun t118 => ((ammoniteref1_Is.f kj11 (catS (catS (cutS t109 0 (t114 : Int).toNat) (strOfNums y115)) (cutS t109 ((wrap64 (t114 + 1)) : Int).toNat t109.size))).bind fun t119 => (if (t118 == t119) = true then (if 1 ≤ (t109.size : Int) then ((hash_Is.f kj11 (cutS t109 1 t109.size)).bind fun t120 => (if t120 = true then (some false) else (if t109.size + 1 ≤ 9223372036854775807 then ((hash_Is.f kj11 (catS t109 (⟨#[48]⟩ : ByteArray))).bind fun t121 => (if t121 = true then (some false) else ((ammonitelaw1_HashRuns.f kj11).bind fun t122 => (some t122)))) else (none)))) else (none)) else (some false)))) else (none)) else (none)) else (none)) else (none))) else (none)) else (none)) = some r := H
                have A27 := Aside0.mk A270
                clear A270
                by_cases c28 : 0 ≤ t114
                · rw [if_pos c28] at H
                  have c28b0 := eq_true c28
                  have c28b1 : decide (0 ≤ t114) = true := decide_eq_true c28
                  clear c28
                  by_cases c29 : t114 ≤ (t109.size : Int)
                  · rw [if_pos c29] at H
                    have c29b0 := eq_true c29
                    have c29b1 : decide (t114 ≤ (t109.size : Int)) = true := decide_eq_true c29
                    clear c29
                    obtain ⟨y115, hy115⟩ : ∃ y_ : List Int, y_ = (([a3] : List Int)) := ⟨_, rfl⟩
                    replace H : (if (cutS t109 0 (t114 : Int).toNat).size + (strOfNums y115).size ≤ 9223372036854775807 then (if 0 ≤ (wrap64 (t114 + 1)) then (if (wrap64 (t114 + 1)) ≤ (t109.size : Int) then (if (catS (cutS t109 0 (t114 : Int).toNat) (strOfNums y115)).size + (cutS t109 ((wrap64 (t114 + 1)) : Int).toNat t109.size).size ≤ 9223372036854775807 then ((hash_Is.f kj11 (catS (catS (cutS t109 0 (t114 : Int).toNat) (strOfNums y115)) (cutS t109 ((wrap64 (t114 + 1)) : Int).toNat t109.size))).bind fun t118 => ((ammoniteref1_Is.f kj11 (catS (catS (cutS t109 0 (t114 : Int).toNat) (strOfNums y115)) (cutS t109 ((wrap64 (t114 + 1)) : Int).toNat t109.size))).bind fun t119 => (if (t118 == t119) = true then (if 1 ≤ (t109.size : Int) then ((hash_Is.f kj11 (cutS t109 1 t109.size)).bind fun t120 => (if t120 = true then (some false) else (if t109.size + 1 ≤ 9223372036854775807 then ((hash_Is.f kj11 (catS t109 (⟨#[48]⟩ : ByteArray))).bind fun t121 => (if t121 = true then (some false) else ((ammonitelaw1_HashRuns.f kj11).bind fun t122 => (some t122)))) else (none)))) else (none)) else (some false)))) else (none)) else (none)) else (none)) else (none)) = some r := by first | (rw [hy115]; with_reducible exact H) | (have H2_ := (Option.bind_some _ _).symm.trans H; rw [hy115]; with_reducible exact H2_) | (have H2_ := (Option.bind_some _ _).symm.trans H; with_reducible exact H2_) | with_reducible exact H | (rw [hy115]; exact H) | exact H
                    have Ny115 := Aside0.mk hy115
                    clear hy115
                    by_cases c30 : (cutS t109 0 (t114 : Int).toNat).size + (strOfNums y115).size ≤ 9223372036854775807
                    · rw [if_pos c30] at H
                      have c30b0 := eq_true c30
                      have c30b1 : decide ((cutS t109 0 (t114 : Int).toNat).size + (strOfNums y115).size ≤ 9223372036854775807) = true := decide_eq_true c30
                      try have c30b2 : (9223372036854775807 < (cutS t109 0 (t114 : Int).toNat).size + (strOfNums y115).size) = False := eq_false (Nat.not_lt.2 c30)
                      clear c30
                      obtain ⟨ji31, hji31⟩ : ∃ j_ : Int, (wrap64 (t114 + 1)) = j_ := ⟨_, rfl⟩
                      replace H : (if 0 ≤ (ji31) then (if (ji31) ≤ (t109.size : Int) then (if (catS (cutS t109 0 (t114 : Int).toNat) (strOfNums y115)).size + (cutS t109 ((ji31) : Int).toNat t109.size).size ≤ 9223372036854775807 then ((hash_Is.f kj11 (catS (catS (cutS t109 0 (t114 : Int).toNat) (strOfNums y115)) (cutS t109 ((ji31) : Int).toNat t109.size))).bind fun t118 => ((ammoniteref1_Is.f kj11 (catS (catS (cutS t109 0 (t114 : Int).toNat) (strOfNums y115)) (cutS t109 ((ji31) : Int).toNat t109.size))).bind fun t119 => (if (t118 == t119) = true then (if 1 ≤ (t109.size : Int) then ((hash_Is.f kj11 (cutS t109 1 t109.size)).bind fun t120 => (if t120 = true then (some false) else (if t109.size + 1 ≤ 9223372036854775807 then ((hash_Is.f kj11 (catS t109 (⟨#[48]⟩ : ByteArray))).bind fun t121 => (if t121 = true then (some false) else ((ammonitelaw1_HashRuns.f kj11).bind fun t122 => (some t122)))) else (none)))) else (none)) else (some false)))) else (none)) else (none)) else (none)) = some r := by first | (rw [hji31] at H; exact H) | (simp only [hji31] at H ⊢; exact H)
                      (try rw [hji31] at A27)
                      have hji31w : (IntKind.i64.wrap (t114 + 1)) = ji31 := (i64_w _).trans hji31
                      by_cases c32 : 0 ≤ (ji31)
                      · rw [if_pos c32] at H
                        have c32b0 := eq_true c32
                        have c32b1 : decide (0 ≤ (ji31)) = true := decide_eq_true c32
                        clear c32
                        by_cases c33 : (ji31) ≤ (t109.size : Int)
                        · rw [if_pos c33] at H
                          have c33b0 := eq_true c33
                          have c33b1 : decide ((ji31) ≤ (t109.size : Int)) = true := decide_eq_true c33
                          clear c33
                          by_cases c34 : (catS (cutS t109 0 (t114 : Int).toNat) (strOfNums y115)).size + (cutS t109 ((ji31) : Int).toNat t109.size).size ≤ 9223372036854775807
                          · rw [if_pos c34] at H
                            have c34b0 := eq_true c34
                            have c34b1 : decide ((catS (cutS t109 0 (t114 : Int).toNat) (strOfNums y115)).size + (cutS t109 ((ji31) : Int).toNat t109.size).size ≤ 9223372036854775807) = true := decide_eq_true c34
                            try have c34b2 : (9223372036854775807 < (catS (cutS t109 0 (t114 : Int).toNat) (strOfNums y115)).size + (cutS t109 ((ji31) : Int).toNat t109.size).size) = False := eq_false (Nat.not_lt.2 c34)
                            clear c34
                            replace H := Option.bind_eq_some_iff.mp H
                            obtain ⟨t118, A350, H⟩ := H
                            replace H : ((ammoniteref1_Is.f kj11 (catS (catS (cutS t109 0 (t114 : Int).toNat) (strOfNums y115)) (cutS t109 ((ji31) : Int).toNat t109.size))).bind fun t119 => (if (t118 == t119) = true then (if 1 ≤ (t109.size : Int) then ((hash_Is.f kj11 (cutS t109 1 t109.size)).bind fun t120 => (if t120 = true then (some false) else (if t109.size + 1 ≤ 9223372036854775807 then ((hash_Is.f kj11 (catS t109 (⟨#[48]⟩ : ByteArray))).bind fun t121 => (if t121 = true then (some false) else ((ammonitelaw1_HashRuns.f kj11).bind fun t122 => (some t122)))) else (none)))) else (none)) else (some false))) = some r := H
                            have A35 := Aside0.mk A350
                            clear A350
                            replace H := Option.bind_eq_some_iff.mp H
                            obtain ⟨t119, A360, H⟩ := H
                            replace H : (if (t118 == t119) = true then (if 1 ≤ (t109.size : Int) then ((hash_Is.f kj11 (cutS t109 1 t109.size)).bind fun t120 => (if t120 = true then (some false) else (if t109.size + 1 ≤ 9223372036854775807 then ((hash_Is.f kj11 (catS t109 (⟨#[48]⟩ : ByteArray))).bind fun t121 => (if t121 = true then (some false) else ((ammonitelaw1_HashRuns.f kj11).bind fun t122 => (some t122)))) else (none)))) else (none)) else (some false)) = some r := H
                            have A36 := Aside0.mk A360
                            clear A360
                            by_cases c37 : (t118 == t119) = true
                            · rw [if_pos c37] at H
                              have c37b0 : (t118 == t119) = true := c37
                              (try (have c37b1 : decide (t118 = t119) = true := by simpa using c37))
                              (try (have c37b2 : (t118 == t119) = true := by simpa using c37))
                              clear c37
                              by_cases c38 : 1 ≤ (t109.size : Int)
                              · rw [if_pos c38] at H
                                have c38b0 := eq_true c38
                                have c38b1 : decide (1 ≤ (t109.size : Int)) = true := decide_eq_true c38
                                clear c38
                                replace H := Option.bind_eq_some_iff.mp H
                                obtain ⟨t120, A390, H⟩ := H
                                replace H : (if t120 = true then (some false) else (if t109.size + 1 ≤ 9223372036854775807 then ((hash_Is.f kj11 (catS t109 (⟨#[48]⟩ : ByteArray))).bind fun t121 => (if t121 = true then (some false) else ((ammonitelaw1_HashRuns.f kj11).bind fun t122 => (some t122)))) else (none))) = some r := H
                                have A39 := Aside0.mk A390
                                clear A390
                                by_cases c40 : t120 = true
                                · subst c40
                                  have H1 : (some false) = some r := by rw [if_pos rfl] at H; exact H
                                  clear H
                                  have H := H1
                                  clear H1
                                  exact absurd ((Option.some.inj H).trans HRT.out) Bool.false_ne_true
                                · replace c40 := Bool.eq_false_iff.mpr c40
                                  subst c40
                                  have H1 : (if t109.size + 1 ≤ 9223372036854775807 then ((hash_Is.f kj11 (catS t109 (⟨#[48]⟩ : ByteArray))).bind fun t121 => (if t121 = true then (some false) else ((ammonitelaw1_HashRuns.f kj11).bind fun t122 => (some t122)))) else (none)) = some r := by rw [if_neg (show ¬ (false = true) by decide)] at H; exact H
                                  clear H
                                  have H := H1
                                  clear H1
                                  by_cases c41 : t109.size + 1 ≤ 9223372036854775807
                                  · rw [if_pos c41] at H
                                    have c41b0 := eq_true c41
                                    have c41b1 : decide (t109.size + 1 ≤ 9223372036854775807) = true := decide_eq_true c41
                                    try have c41b2 : (9223372036854775807 < t109.size + 1) = False := eq_false (Nat.not_lt.2 c41)
                                    clear c41
                                    replace H := Option.bind_eq_some_iff.mp H
                                    obtain ⟨t121, A420, H⟩ := H
                                    replace H : (if t121 = true then (some false) else ((ammonitelaw1_HashRuns.f kj11).bind fun t122 => (some t122))) = some r := H
                                    have A42 := Aside0.mk A420
                                    clear A420
                                    by_cases c43 : t121 = true
                                    · subst c43
                                      have H1 : (some false) = some r := by rw [if_pos rfl] at H; exact H
                                      clear H
                                      have H := H1
                                      clear H1
                                      exact absurd ((Option.some.inj H).trans HRT.out) Bool.false_ne_true
                                    · replace c43 := Bool.eq_false_iff.mpr c43
                                      subst c43
                                      have H1 : ((ammonitelaw1_HashRuns.f kj11).bind fun t122 => (some t122)) = some r := by rw [if_neg (show ¬ (false = true) by decide)] at H; exact H
                                      clear H
                                      have H := H1
                                      clear H1
                                      replace H := Option.bind_eq_some_iff.mp H
                                      obtain ⟨t122, A440, H⟩ := H
                                      replace H : (some t122) = some r := H
                                      have A44 := Aside0.mk A440
                                      clear A440
                                      obtain rfl := Option.some.inj H
                                      try go_wp2_with (first | ((with_reducible refine gate_callee (f := 17) rfl ?_); refine goesL_ (some 46) rfl rfl Try.func17 (by kernel_rfl) rfl #[.int .i64 a2, .int .i64 0, .int .i64 39] rfl (by (try simp only [List.map_toArray, List.map_cons, List.map_nil]); first | done | rfl | (simp only [List.length_drop, List.length_take]; rfl)) ?_; (with_reducible refine (ammonitebook_Within.calls a2 0 39 t114 _ A27.out).mono ?_); rintro e w' ⟨rfl, ⟨nd, rfl⟩⟩; refine ⟨_, rfl, ?_⟩))
                                      (try (rw [drewN_self wc]; generalize hq_ : World.drewN wc _ = wc; have n0_ : Aside0 (Below w.heap.size w wc) := ⟨by rw [← hq_]; exact (by repeat (first | (with_reducible first | exact HB.out | apply below_alloc | apply pw_below_drewN | apply below_drew1) | exact HB.out))⟩; clear HB hq_; have HB := n0_; clear n0_))
                                      have n0_ := Aside0.mk (below_drew1 HB.out)
                                      clear HB
                                      have HB := n0_
                                      clear n0_
                                      refine start_ (n := 13) (S := fun w' => True) (ds := []) #[false, false, false, false, false, false, false, false, false, false, false, false, false] (by kernel_rfl) rfl rfl trivial (fun hHeld => ?_); refine with_tabW ammonitelaw1_HashTells.tab6 ammonitelaw1_HashTells.bits6 (fun HT_ HW_ => ?_)
                                      generalize wc.drew = w45 at HB hHeld ⊢
                                      refine pure_ (i := 0) (N := some 47) (v := ?_) (a' := ?_) #[true, false, false, false, false, false, false, false, false, false, false, false, false] rfl rfl (any_of HT_.out (by kernel_rfl)) (fun _ _ _ h => h) (Or.inl ⟨by rfl, ?_⟩) ?_ ?_
                                      rotate_left
                                      · intro w'
                                        go_simp
                                        with_reducible rfl
                                      rotate_left
                                      · simp only [Act.put, List.setIfInBounds_toArray, List.set_cons_zero, List.set_cons_succ, i64_w, i32_w]
                                        rfl
                                      refine pure_ (i := 1) (N := some 48) (v := ?_) (a' := ?_) #[true, true, false, false, false, false, false, false, false, false, false, false, false] rfl rfl (any_of HT_.out (by kernel_rfl)) (fun _ _ _ h => h) (Or.inl ⟨by rfl, ?_⟩) ?_ ?_
                                      rotate_left
                                      · intro w'
                                        go_simp
                                        with_reducible rfl
                                      rotate_left
                                      · simp only [Act.put, List.setIfInBounds_toArray, List.set_cons_zero, List.set_cons_succ, i64_w, i32_w]
                                        rfl
                                      refine pure_ (i := 2) (N := some 49) (v := ?_) (a' := ?_) #[true, true, true, false, false, false, false, false, false, false, false, false, false] rfl rfl (any_of HT_.out (by kernel_rfl)) (fun _ _ _ h => h) (Or.inl ⟨by rfl, ?_⟩) ?_ ?_
                                      rotate_left
                                      · intro w'
                                        go_simp
                                        with_reducible rfl
                                      rotate_left
                                      · simp only [Act.put, List.setIfInBounds_toArray, List.set_cons_zero, List.set_cons_succ, i64_w, i32_w]
                                        rfl
                                      refine pure_ (i := 3) (N := some 50) (v := ?_) (a' := ?_) #[true, true, true, true, false, false, false, false, false, false, false, false, false] rfl rfl (any_of HT_.out (by kernel_rfl)) (fun _ _ _ h => h) (Or.inl ⟨by rfl, ?_⟩) ?_ ?_
                                      rotate_left
                                      · intro w'
                                        go_simp
                                        with_reducible rfl
                                      rotate_left
                                      · simp only [Act.put, List.setIfInBounds_toArray, List.set_cons_zero, List.set_cons_succ, i64_w, i32_w]
                                        rfl
                                      refine pure_ (i := 7) (N := some 54) (v := ?_) (a' := ?_) #[true, true, true, true, false, false, false, true, false, false, false, false, false] rfl rfl (any_of HT_.out (by kernel_rfl)) (fun _ _ _ h => h) (Or.inl ⟨by rfl, ?_⟩) ?_ ?_
                                      rotate_left
                                      · intro w'
                                        go_simp
                                        with_reducible rfl
                                      rotate_left
                                      · simp only [Act.put, List.setIfInBounds_toArray, List.set_cons_zero, List.set_cons_succ, i64_w, i32_w]
                                        rfl
                                      refine pure_ (i := 8) (N := some 55) (v := ?_) (a' := ?_) #[true, true, true, true, false, false, false, true, true, false, false, false, false] rfl rfl (any_of HT_.out (by kernel_rfl)) (fun _ _ _ h => h) (Or.inl ⟨by rfl, ?_⟩) ?_ ?_
                                      rotate_left
                                      · intro w'
                                        go_simp
                                        with_reducible rfl
                                      rotate_left
                                      · simp only [Act.put, List.setIfInBounds_toArray, List.set_cons_zero, List.set_cons_succ, i64_w, i32_w]
                                        rfl
                                      refine pure_ (i := 9) (N := some 56) (v := ?_) (a' := ?_) #[true, true, true, true, false, false, false, true, true, true, false, false, false] rfl rfl (any_of HT_.out (by kernel_rfl)) (fun _ _ _ h => h) (Or.inl ⟨by rfl, ?_⟩) ?_ ?_
                                      rotate_left
                                      · intro w'
                                        go_simp
                                        with_reducible rfl
                                      rotate_left
                                      · simp only [Act.put, List.setIfInBounds_toArray, List.set_cons_zero, List.set_cons_succ, i64_w, i32_w]
                                        rfl
                                      refine pure_ (i := 10) (N := some 57) (v := ?_) (a' := ?_) #[true, true, true, true, false, false, false, true, true, true, true, false, false] rfl rfl (any_of HT_.out (by kernel_rfl)) (fun _ _ _ h => h) (Or.inl ⟨by rfl, ?_⟩) ?_ ?_
                                      rotate_left
                                      · intro w'
                                        go_simp
                                        with_reducible rfl
                                      rotate_left
                                      · simp only [Act.put, List.setIfInBounds_toArray, List.set_cons_zero, List.set_cons_succ, i64_w, i32_w]
                                        rfl
                                      refine one_ (i := 4) (N := some 51) #[true, true, true, true, true, false, false, true, true, true, true, false, false] rfl rfl (one_of HT_.out (by kernel_rfl)) (by decide) (fun K hK => ?_)
                                      refine Kd.R_lit_step (Kd.int .u8) _ 5 ?hg (N := 51) ?hd (xs := ([a3] : List Int)) (inner := [.int .u8 a3]) (ok := fun _ => True) (okp := fun _ => True) ?hr ?hp (fun _ hk => hk) trivial (Below.refl _ _) (Nat.le_refl _) (by simp) ?_; (case hd => rfl); (case hg => rfl); (case hr => first | (go_simp; done) | (go_simp; rfl)); (case hp => exact (Reps.one (show Kd.M (Kd.int .u8) _ _ _ a3 [.int .u8 a3] from rfl) (Reps.none _ _)))
                                      intro v116 w46 ho47 hb hg_ hnew_
                                      clear hg_ hnew_
                                      (first | rw [← Ny115.out] at ho47 | (simp only [Int.reduceToNat] at ho47; rw [← Ny115.out] at ho47))
                                      have n0_ := Aside0.mk (Kd.R_lower ho47 (below_size (by repeat (first | (with_reducible first | exact HB.out | apply below_alloc | apply pw_below_drewN | apply below_drew1) | exact HB.out))))
                                      have n1_ := Aside0.mk (below_step (by repeat (first | (with_reducible first | exact HB.out | apply below_alloc | apply pw_below_drewN | apply below_drew1) | exact HB.out)) hb)
                                      clear HB
                                      have HO117 := n0_
                                      have HB := n1_
                                      clear n0_ n1_
                                      clear hb ho47
                                      refine hK.out _ _ trivial (fun hHeld => ?_)
                                      clear hK K
                                      refine norm_ (a' := ?_) ?_ ?_
                                      rotate_left
                                      · show Act.put _ (some 51) _ = _
                                        simp only [Act.put, List.setIfInBounds_toArray, List.set_cons_zero, List.set_cons_succ, i64_w, i32_w]
                                        rfl
                                      refine one_ (i := 5) (N := some 52) #[true, true, true, true, true, true, false, true, true, true, true, false, false] rfl rfl (one_of HT_.out (by kernel_rfl)) (by decide) (fun K hK => ?_)
                                      have hcv48 := own_string (P := Try.prog) Try.underlying26 Try.underlying5 Try.underlying9 (Kd.own_of_R HO117.out)
                                      refine value_ (w1 := ?_) (v := ?_) (by rfl) rfl ?_ ?_
                                      rotate_left 2
                                      · go_simp
                                        constructor
                                        · rfl
                                        · rfl
                                      clear hcv48
                                      refine hK.out _ _ trivial (fun hHeld => ?_)
                                      clear hK K
                                      refine norm_ (a' := ?_) ?_ ?_
                                      rotate_left
                                      · show Act.put _ (some 52) _ = _
                                        simp only [Act.put, List.setIfInBounds_toArray, List.set_cons_zero, List.set_cons_succ, i64_w, i32_w]
                                        rfl
                                      refine pure_ (i := 6) (N := some 53) (v := ?_) (a' := ?_) #[true, true, true, true, true, true, true, true, true, true, true, false, false] rfl rfl (any_of HT_.out (by kernel_rfl)) (fun _ _ _ h => h) (Or.inl ⟨by rfl, ?_⟩) ?_ ?_
                                      rotate_left
                                      · intro w'
                                        go_simp
                                        with_reducible rfl
                                      rotate_left
                                      · simp only [Act.put, List.setIfInBounds_toArray, List.set_cons_zero, List.set_cons_succ, i64_w, i32_w]
                                        rfl
                                      refine pure_ (i := 11) (N := some 58) (v := ?_) (a' := ?_) #[true, true, true, true, true, true, true, true, true, true, true, true, false] rfl rfl (any_of HT_.out (by kernel_rfl)) (fun _ _ _ h => h) (Or.inl ⟨by rfl, ?_⟩) ?_ ?_
                                      rotate_left
                                      · intro w'
                                        go_simp
                                        with_reducible rfl
                                      rotate_left
                                      · simp only [Act.put, List.setIfInBounds_toArray, List.set_cons_zero, List.set_cons_succ, i64_w, i32_w]
                                        rfl
                                      refine pure_ (i := 12) (N := some 11) (v := ?_) (a' := ?_) #[true, true, true, true, true, true, true, true, true, true, true, true, true] rfl rfl (any_of HT_.out (by kernel_rfl)) (fun _ _ _ h => h) (Or.inl ⟨by rfl, ?_⟩) ?_ ?_
                                      rotate_left
                                      · intro w'
                                        go_simp
                                        with_reducible rfl
                                      rotate_left
                                      · simp only [Act.put, List.setIfInBounds_toArray, List.set_cons_zero, List.set_cons_succ, i64_w, i32_w]
                                        rfl
                                      refine done_ (done_of HT_.out (by kernel_rfl)) ?_
                                      try go_wp2_with (first | ((with_reducible refine gate_callee (f := 14) rfl ?_); refine goesL_ (some 60) rfl rfl Try.func14 (by kernel_rfl) rfl #[.string (catS (catS (cutS t109 0 (t114 : Int).toNat) (strOfNums y115)) (cutS t109 ((ji31) : Int).toNat t109.size))] rfl (by (try simp only [List.map_toArray, List.map_cons, List.map_nil]); first | done | (simp only [hji31]; rfl) | rfl | (simp only [List.length_drop, List.length_take]; rfl)) ?_; (with_reducible refine (hash_Is.calls kj11 (catS (catS (cutS t109 0 (t114 : Int).toNat) (strOfNums y115)) (cutS t109 ((ji31) : Int).toNat t109.size)) t118 _ A35.out).mono ?_); rintro e w' ⟨rfl, ⟨nd, rfl⟩⟩; refine ⟨_, rfl, ?_⟩) | ((with_reducible refine gate_callee (f := 16) rfl ?_); refine goesL_ (some 62) rfl rfl Try.func16 (by kernel_rfl) rfl #[.string (catS (catS (cutS t109 0 (t114 : Int).toNat) (strOfNums y115)) (cutS t109 ((ji31) : Int).toNat t109.size))] rfl (by (try simp only [List.map_toArray, List.map_cons, List.map_nil]); first | done | (simp only [hji31]; rfl) | rfl | (simp only [List.length_drop, List.length_take]; rfl)) ?_; (with_reducible refine (ammoniteref1_Is.calls kj11 (catS (catS (cutS t109 0 (t114 : Int).toNat) (strOfNums y115)) (cutS t109 ((ji31) : Int).toNat t109.size)) t119 _ A36.out).mono ?_); rintro e w' ⟨rfl, ⟨nd, rfl⟩⟩; refine ⟨_, rfl, ?_⟩) | (go_at_call 14; (try simp only [i64_w, i32_w]); (with_reducible refine (hash_Is.calls kj11 (cutS t109 1 t109.size) false _ A39.out).mono ?_); rintro e w' ⟨rfl, ⟨nd, rfl⟩⟩) | (go_at_call 14; (try simp only [i64_w, i32_w]); (with_reducible refine (hash_Is.calls kj11 (catS t109 (⟨#[48]⟩ : ByteArray)) false _ A42.out).mono ?_); rintro e w' ⟨rfl, ⟨nd, rfl⟩⟩) | (go_at_call 3; (try simp only [i64_w, i32_w]); (with_reducible refine (ammonitelaw1_HashRuns.calls kj11  t122 _ A44.out).mono ?_); rintro e w49 ⟨rfl, hb⟩; have n0_ := Aside0.mk (Kd.R_below (by (with_reducible repeat (first | apply Kd.R_alloc | apply Kd.R_drewN | apply Kd.R_drew)); exact HO117.out) hb); have n1_ := Aside0.mk (below_step (by repeat (first | (with_reducible first | exact HB.out | apply below_alloc | apply pw_below_drewN | apply below_drew1) | exact HB.out)) hb); clear HO117; clear HB; have HO117 := n0_; have HB := n1_; clear n0_ n1_; (try clear hb); (try clear hb2); (try clear hk); (try clear hi)))
                                      go_ret
                                      exact ⟨by first | rfl | (simp [errW_none, errW_some] <;> rfl) | (simp only [← hji5, ← hji8, ← hji31]; first | rfl | (simp [errW_none, errW_some] <;> rfl)) | (simp [*, errW_none, errW_some] <;> rfl), by repeat (first | (with_reducible first | exact HB.out | apply below_alloc | apply pw_below_drewN | apply below_drew1) | exact HB.out)⟩
                                      all_goals (exfalso; (try simp only [beq_iff_eq, bne_iff_ne, ne_eq, decide_eq_true_eq, decide_eq_false_iff_not, decide_eq_decide, bne_eq_false_iff_eq, beq_eq_false_iff_ne, Bool.not_eq_true, Bool.not_eq_false, Bool.not_eq_true', Bool.not_eq_false', Bool.true_beq, Bool.false_beq, Bool.true_bne, Bool.false_bne, Bool.bne_true, Bool.bne_false] at c6b0); (try simp only [beq_iff_eq, bne_iff_ne, ne_eq, decide_eq_true_eq, decide_eq_false_iff_not, decide_eq_decide, bne_eq_false_iff_eq, beq_eq_false_iff_ne, Bool.not_eq_true, Bool.not_eq_false, Bool.not_eq_true', Bool.not_eq_false', Bool.true_beq, Bool.false_beq, Bool.true_bne, Bool.false_bne, Bool.bne_true, Bool.bne_false] at c6b1); (try simp only [beq_iff_eq, bne_iff_ne, ne_eq, decide_eq_true_eq, decide_eq_false_iff_not, decide_eq_decide, bne_eq_false_iff_eq, beq_eq_false_iff_ne, Bool.not_eq_true, Bool.not_eq_false, Bool.not_eq_true', Bool.not_eq_false', Bool.true_beq, Bool.false_beq, Bool.true_bne, Bool.false_bne, Bool.bne_true, Bool.bne_false] at c7b0); (try simp only [beq_iff_eq, bne_iff_ne, ne_eq, decide_eq_true_eq, decide_eq_false_iff_not, decide_eq_decide, bne_eq_false_iff_eq, beq_eq_false_iff_ne, Bool.not_eq_true, Bool.not_eq_false, Bool.not_eq_true', Bool.not_eq_false', Bool.true_beq, Bool.false_beq, Bool.true_bne, Bool.false_bne, Bool.bne_true, Bool.bne_false] at c7b1); (try simp only [beq_iff_eq, bne_iff_ne, ne_eq, decide_eq_true_eq, decide_eq_false_iff_not, decide_eq_decide, bne_eq_false_iff_eq, beq_eq_false_iff_ne, Bool.not_eq_true, Bool.not_eq_false, Bool.not_eq_true', Bool.not_eq_false', Bool.true_beq, Bool.false_beq, Bool.true_bne, Bool.false_bne, Bool.bne_true, Bool.bne_false] at c9b0); (try simp only [beq_iff_eq, bne_iff_ne, ne_eq, decide_eq_true_eq, decide_eq_false_iff_not, decide_eq_decide, bne_eq_false_iff_eq, beq_eq_false_iff_ne, Bool.not_eq_true, Bool.not_eq_false, Bool.not_eq_true', Bool.not_eq_false', Bool.true_beq, Bool.false_beq, Bool.true_bne, Bool.false_bne, Bool.bne_true, Bool.bne_false] at c9b1); (try simp only [beq_iff_eq, bne_iff_ne, ne_eq, decide_eq_true_eq, decide_eq_false_iff_not, decide_eq_decide, bne_eq_false_iff_eq, beq_eq_false_iff_ne, Bool.not_eq_true, Bool.not_eq_false, Bool.not_eq_true', Bool.not_eq_false', Bool.true_beq, Bool.false_beq, Bool.true_bne, Bool.false_bne, Bool.bne_true, Bool.bne_false] at c10b0); (try simp only [beq_iff_eq, bne_iff_ne, ne_eq, decide_eq_true_eq, decide_eq_false_iff_not, decide_eq_decide, bne_eq_false_iff_eq, beq_eq_false_iff_ne, Bool.not_eq_true, Bool.not_eq_false, Bool.not_eq_true', Bool.not_eq_false', Bool.true_beq, Bool.false_beq, Bool.true_bne, Bool.false_bne, Bool.bne_true, Bool.bne_false] at c10b1); (try simp only [beq_iff_eq, bne_iff_ne, ne_eq, decide_eq_true_eq, decide_eq_false_iff_not, decide_eq_decide, bne_eq_false_iff_eq, beq_eq_false_iff_ne, Bool.not_eq_true, Bool.not_eq_false, Bool.not_eq_true', Bool.not_eq_false', Bool.true_beq, Bool.false_beq, Bool.true_bne, Bool.false_bne, Bool.bne_true, Bool.bne_false] at c28b0); (try simp only [beq_iff_eq, bne_iff_ne, ne_eq, decide_eq_true_eq, decide_eq_false_iff_not, decide_eq_decide, bne_eq_false_iff_eq, beq_eq_false_iff_ne, Bool.not_eq_true, Bool.not_eq_false, Bool.not_eq_true', Bool.not_eq_false', Bool.true_beq, Bool.false_beq, Bool.true_bne, Bool.false_bne, Bool.bne_true, Bool.bne_false] at c28b1); (try simp only [beq_iff_eq, bne_iff_ne, ne_eq, decide_eq_true_eq, decide_eq_false_iff_not, decide_eq_decide, bne_eq_false_iff_eq, beq_eq_false_iff_ne, Bool.not_eq_true, Bool.not_eq_false, Bool.not_eq_true', Bool.not_eq_false', Bool.true_beq, Bool.false_beq, Bool.true_bne, Bool.false_bne, Bool.bne_true, Bool.bne_false] at c29b0); (try simp only [beq_iff_eq, bne_iff_ne, ne_eq, decide_eq_true_eq, decide_eq_false_iff_not, decide_eq_decide, bne_eq_false_iff_eq, beq_eq_false_iff_ne, Bool.not_eq_true, Bool.not_eq_false, Bool.not_eq_true', Bool.not_eq_false', Bool.true_beq, Bool.false_beq, Bool.true_bne, Bool.false_bne, Bool.bne_true, Bool.bne_false] at c29b1); (try simp only [beq_iff_eq, bne_iff_ne, ne_eq, decide_eq_true_eq, decide_eq_false_iff_not, decide_eq_decide, bne_eq_false_iff_eq, beq_eq_false_iff_ne, Bool.not_eq_true, Bool.not_eq_false, Bool.not_eq_true', Bool.not_eq_false', Bool.true_beq, Bool.false_beq, Bool.true_bne, Bool.false_bne, Bool.bne_true, Bool.bne_false] at c30b0); (try simp only [beq_iff_eq, bne_iff_ne, ne_eq, decide_eq_true_eq, decide_eq_false_iff_not, decide_eq_decide, bne_eq_false_iff_eq, beq_eq_false_iff_ne, Bool.not_eq_true, Bool.not_eq_false, Bool.not_eq_true', Bool.not_eq_false', Bool.true_beq, Bool.false_beq, Bool.true_bne, Bool.false_bne, Bool.bne_true, Bool.bne_false] at c30b1); (try simp only [beq_iff_eq, bne_iff_ne, ne_eq, decide_eq_true_eq, decide_eq_false_iff_not, decide_eq_decide, bne_eq_false_iff_eq, beq_eq_false_iff_ne, Bool.not_eq_true, Bool.not_eq_false, Bool.not_eq_true', Bool.not_eq_false', Bool.true_beq, Bool.false_beq, Bool.true_bne, Bool.false_bne, Bool.bne_true, Bool.bne_false] at c32b0); (try simp only [beq_iff_eq, bne_iff_ne, ne_eq, decide_eq_true_eq, decide_eq_false_iff_not, decide_eq_decide, bne_eq_false_iff_eq, beq_eq_false_iff_ne, Bool.not_eq_true, Bool.not_eq_false, Bool.not_eq_true', Bool.not_eq_false', Bool.true_beq, Bool.false_beq, Bool.true_bne, Bool.false_bne, Bool.bne_true, Bool.bne_false] at c32b1); (try simp only [beq_iff_eq, bne_iff_ne, ne_eq, decide_eq_true_eq, decide_eq_false_iff_not, decide_eq_decide, bne_eq_false_iff_eq, beq_eq_false_iff_ne, Bool.not_eq_true, Bool.not_eq_false, Bool.not_eq_true', Bool.not_eq_false', Bool.true_beq, Bool.false_beq, Bool.true_bne, Bool.false_bne, Bool.bne_true, Bool.bne_false] at c33b0); (try simp only [beq_iff_eq, bne_iff_ne, ne_eq, decide_eq_true_eq, decide_eq_false_iff_not, decide_eq_decide, bne_eq_false_iff_eq, beq_eq_false_iff_ne, Bool.not_eq_true, Bool.not_eq_false, Bool.not_eq_true', Bool.not_eq_false', Bool.true_beq, Bool.false_beq, Bool.true_bne, Bool.false_bne, Bool.bne_true, Bool.bne_false] at c33b1); (try simp only [beq_iff_eq, bne_iff_ne, ne_eq, decide_eq_true_eq, decide_eq_false_iff_not, decide_eq_decide, bne_eq_false_iff_eq, beq_eq_false_iff_ne, Bool.not_eq_true, Bool.not_eq_false, Bool.not_eq_true', Bool.not_eq_false', Bool.true_beq, Bool.false_beq, Bool.true_bne, Bool.false_bne, Bool.bne_true, Bool.bne_false] at c34b0); (try simp only [beq_iff_eq, bne_iff_ne, ne_eq, decide_eq_true_eq, decide_eq_false_iff_not, decide_eq_decide, bne_eq_false_iff_eq, beq_eq_false_iff_ne, Bool.not_eq_true, Bool.not_eq_false, Bool.not_eq_true', Bool.not_eq_false', Bool.true_beq, Bool.false_beq, Bool.true_bne, Bool.false_bne, Bool.bne_true, Bool.bne_false] at c34b1); (try simp only [beq_iff_eq, bne_iff_ne, ne_eq, decide_eq_true_eq, decide_eq_false_iff_not, decide_eq_decide, bne_eq_false_iff_eq, beq_eq_false_iff_ne, Bool.not_eq_true, Bool.not_eq_false, Bool.not_eq_true', Bool.not_eq_false', Bool.true_beq, Bool.false_beq, Bool.true_bne, Bool.false_bne, Bool.bne_true, Bool.bne_false] at c37b0); (try simp only [beq_iff_eq, bne_iff_ne, ne_eq, decide_eq_true_eq, decide_eq_false_iff_not, decide_eq_decide, bne_eq_false_iff_eq, beq_eq_false_iff_ne, Bool.not_eq_true, Bool.not_eq_false, Bool.not_eq_true', Bool.not_eq_false', Bool.true_beq, Bool.false_beq, Bool.true_bne, Bool.false_bne, Bool.bne_true, Bool.bne_false] at c37b1); (try simp only [beq_iff_eq, bne_iff_ne, ne_eq, decide_eq_true_eq, decide_eq_false_iff_not, decide_eq_decide, bne_eq_false_iff_eq, beq_eq_false_iff_ne, Bool.not_eq_true, Bool.not_eq_false, Bool.not_eq_true', Bool.not_eq_false', Bool.true_beq, Bool.false_beq, Bool.true_bne, Bool.false_bne, Bool.bne_true, Bool.bne_false] at c37b2); (try simp only [beq_iff_eq, bne_iff_ne, ne_eq, decide_eq_true_eq, decide_eq_false_iff_not, decide_eq_decide, bne_eq_false_iff_eq, beq_eq_false_iff_ne, Bool.not_eq_true, Bool.not_eq_false, Bool.not_eq_true', Bool.not_eq_false', Bool.true_beq, Bool.false_beq, Bool.true_bne, Bool.false_bne, Bool.bne_true, Bool.bne_false] at c38b0); (try simp only [beq_iff_eq, bne_iff_ne, ne_eq, decide_eq_true_eq, decide_eq_false_iff_not, decide_eq_decide, bne_eq_false_iff_eq, beq_eq_false_iff_ne, Bool.not_eq_true, Bool.not_eq_false, Bool.not_eq_true', Bool.not_eq_false', Bool.true_beq, Bool.false_beq, Bool.true_bne, Bool.false_bne, Bool.bne_true, Bool.bne_false] at c38b1); (try simp only [beq_iff_eq, bne_iff_ne, ne_eq, decide_eq_true_eq, decide_eq_false_iff_not, decide_eq_decide, bne_eq_false_iff_eq, beq_eq_false_iff_ne, Bool.not_eq_true, Bool.not_eq_false, Bool.not_eq_true', Bool.not_eq_false', Bool.true_beq, Bool.false_beq, Bool.true_bne, Bool.false_bne, Bool.bne_true, Bool.bne_false] at c41b0); (try simp only [beq_iff_eq, bne_iff_ne, ne_eq, decide_eq_true_eq, decide_eq_false_iff_not, decide_eq_decide, bne_eq_false_iff_eq, beq_eq_false_iff_ne, Bool.not_eq_true, Bool.not_eq_false, Bool.not_eq_true', Bool.not_eq_false', Bool.true_beq, Bool.false_beq, Bool.true_bne, Bool.false_bne, Bool.bne_true, Bool.bne_false] at c41b1); (try unfold wrap64 at *); omega)
                                  · rw [if_neg c41] at H
                                    exact absurd H (by simp)
                              · rw [if_neg c38] at H
                                exact absurd H (by simp)
                            · rw [if_neg c37] at H
                              have c37b0 : (t118 == t119) = false := by simpa using c37
                              (try (have c37b1 : decide (t118 = t119) = false := by simpa using c37))
                              (try (have c37b2 : (t118 == t119) = false := by simpa using c37))
                              (try (have c37b3 : ¬ (t118 = t119) := by simpa using c37))
                              clear c37
                              exact absurd ((Option.some.inj H).trans HRT.out) Bool.false_ne_true
                          · rw [if_neg c34] at H
                            exact absurd H (by simp)
                        · rw [if_neg c33] at H
                          exact absurd H (by simp)
                      · rw [if_neg c32] at H
                        exact absurd H (by simp)
                    · rw [if_neg c30] at H
                      exact absurd H (by simp)
                  · rw [if_neg c29] at H
                    exact absurd H (by simp)
                · rw [if_neg c28] at H
                  exact absurd H (by simp)
        · rw [if_neg c10] at H
          exact absurd H (by simp)
      · rw [if_neg c9] at H
        exact absurd H (by simp)
    · rw [if_neg c7] at H
      exact absurd H (by simp)
  · rw [if_neg c6] at H
    exact absurd H (by simp)

/-- THE ONE PURE STATEMENT of ammonitelaw1_HashTells: yours. -/
def ammonitelaw1_HashTells.Pure : Prop := ∀ (a0 : ByteArray) (a1 : ByteArray) (a2 : Int) (a3 : Int), a0.size ≤ 140737488351232 → a1.size ≤ 140737488351232 → (Lit.int .i64 a2).wf = true → (Lit.int .u8 a3).wf = true → ∃ k, ammonitelaw1_HashTells.f k a0 a1 a2 a3 = some true
theorem ammonitelaw1_HashTells.walk (P : ammonitelaw1_HashTells.Pure) (a0 : ByteArray) (a1 : ByteArray) (a2 : Int) (a3 : Int) (w : World) (w0 : a0.size ≤ 140737488351232) (w1 : a1.size ≤ 140737488351232) (w2 : (Lit.int .i64 a2).wf = true) (w3 : (Lit.int .u8 a3).wf = true) :
    Calls Try.prog 4 #[.string a0, .string a1, .int .i64 a2, .int .u8 a3] w fun e w' => e = .returned (.bool true) ∧ Below w.heap.size w w' := by
  obtain ⟨k, h⟩ := P a0 a1 a2 a3 w0 w1 w2 w3
  refine (ammonitelaw1_HashTells.calls k a0 a1 a2 a3 true w h rfl).mono ?_
  rintro e w' ⟨rfl, hd⟩
  exact ⟨rfl, hd⟩

/-! ### stringslite_HasPrefix: function 46 -/
def stringslite_HasPrefix.f (a0 : ByteArray) (a1 : ByteArray) : Option (Bool) := if (a0.size : Int) ≥ (a1.size : Int) then (if 0 ≤ (a1.size : Int) then (if (a1.size : Int) ≤ (a0.size : Int) then (some ((cutS a0 0 ((a1.size : Int) : Int).toNat).toList == a1.toList)) else (none)) else (none)) else (some false)
set_option maxHeartbeats 8000000 in
set_option maxRecDepth 100000 in
theorem stringslite_HasPrefix.calls (a0 : ByteArray) (a1 : ByteArray) (r : Bool) (w : World) (h : stringslite_HasPrefix.f a0 a1 = some r) :
    Calls Try.prog 46 #[.string a0, .string a1] w fun e w' => e = .returned (.bool r) ∧ Drawn0 w w' := by
  have H : (if (a0.size : Int) ≥ (a1.size : Int) then (if 0 ≤ (a1.size : Int) then (if (a1.size : Int) ≤ (a0.size : Int) then (some ((cutS a0 0 ((a1.size : Int) : Int).toNat).toList == a1.toList)) else (none)) else (none)) else (some false)) = some r := h
  clear h
  by_cases c3 : (a0.size : Int) ≥ (a1.size : Int)
  · rw [if_pos c3] at H
    have c3b0 : decide ((a1.size : Int) ≤ (a0.size : Int)) = true := decide_eq_true c3
    have c3b1 : decide (a1.size ≤ a0.size) = true := decide_eq_true (Int.ofNat_le.mp c3)
    clear c3
    by_cases c4 : 0 ≤ (a1.size : Int)
    · rw [if_pos c4] at H
      have c4b0 := eq_true c4
      have c4b1 : decide (0 ≤ (a1.size : Int)) = true := decide_eq_true c4
      clear c4
      by_cases c5 : (a1.size : Int) ≤ (a0.size : Int)
      · rw [if_pos c5] at H
        have c5b0 := eq_true c5
        have c5b1 : decide ((a1.size : Int) ≤ (a0.size : Int)) = true := decide_eq_true c5
        clear c5
        obtain rfl := Option.some.inj H
        go_enter Try.func46, Try.ntmps46
        go_wp2
        go_ret
        exact ⟨by first | rfl | (simp; done) | (simp [*]; done), by repeat (first | exact Drawn0.refl _ | apply Drawn0.step)⟩
        all_goals (exfalso; (try simp only [beq_iff_eq, bne_iff_ne, ne_eq, decide_eq_true_eq, decide_eq_false_iff_not, decide_eq_decide, bne_eq_false_iff_eq, beq_eq_false_iff_ne, Bool.not_eq_true, Bool.not_eq_false, Bool.not_eq_true', Bool.not_eq_false', Bool.true_beq, Bool.false_beq, Bool.true_bne, Bool.false_bne, Bool.bne_true, Bool.bne_false] at c3b0); (try simp only [beq_iff_eq, bne_iff_ne, ne_eq, decide_eq_true_eq, decide_eq_false_iff_not, decide_eq_decide, bne_eq_false_iff_eq, beq_eq_false_iff_ne, Bool.not_eq_true, Bool.not_eq_false, Bool.not_eq_true', Bool.not_eq_false', Bool.true_beq, Bool.false_beq, Bool.true_bne, Bool.false_bne, Bool.bne_true, Bool.bne_false] at c3b1); (try simp only [beq_iff_eq, bne_iff_ne, ne_eq, decide_eq_true_eq, decide_eq_false_iff_not, decide_eq_decide, bne_eq_false_iff_eq, beq_eq_false_iff_ne, Bool.not_eq_true, Bool.not_eq_false, Bool.not_eq_true', Bool.not_eq_false', Bool.true_beq, Bool.false_beq, Bool.true_bne, Bool.false_bne, Bool.bne_true, Bool.bne_false] at c4b0); (try simp only [beq_iff_eq, bne_iff_ne, ne_eq, decide_eq_true_eq, decide_eq_false_iff_not, decide_eq_decide, bne_eq_false_iff_eq, beq_eq_false_iff_ne, Bool.not_eq_true, Bool.not_eq_false, Bool.not_eq_true', Bool.not_eq_false', Bool.true_beq, Bool.false_beq, Bool.true_bne, Bool.false_bne, Bool.bne_true, Bool.bne_false] at c4b1); (try simp only [beq_iff_eq, bne_iff_ne, ne_eq, decide_eq_true_eq, decide_eq_false_iff_not, decide_eq_decide, bne_eq_false_iff_eq, beq_eq_false_iff_ne, Bool.not_eq_true, Bool.not_eq_false, Bool.not_eq_true', Bool.not_eq_false', Bool.true_beq, Bool.false_beq, Bool.true_bne, Bool.false_bne, Bool.bne_true, Bool.bne_false] at c5b0); (try simp only [beq_iff_eq, bne_iff_ne, ne_eq, decide_eq_true_eq, decide_eq_false_iff_not, decide_eq_decide, bne_eq_false_iff_eq, beq_eq_false_iff_ne, Bool.not_eq_true, Bool.not_eq_false, Bool.not_eq_true', Bool.not_eq_false', Bool.true_beq, Bool.false_beq, Bool.true_bne, Bool.false_bne, Bool.bne_true, Bool.bne_false] at c5b1); (try unfold wrap64 at *); omega)
      · rw [if_neg c5] at H
        exact absurd H (by simp)
    · rw [if_neg c4] at H
      exact absurd H (by simp)
  · rw [if_neg c3] at H
    have c3b0 : decide ((a1.size : Int) ≤ (a0.size : Int)) = false := decide_eq_false c3
    have c3b1 : decide (a1.size ≤ a0.size) = false := decide_eq_false (fun h => c3 (Int.ofNat_le.mpr h))
    clear c3
    obtain rfl := Option.some.inj H
    go_enter Try.func46, Try.ntmps46
    go_wp2
    go_ret
    exact ⟨by first | rfl | (simp; done) | (simp [*]; done), by repeat (first | exact Drawn0.refl _ | apply Drawn0.step)⟩
    all_goals (exfalso; (try simp only [beq_iff_eq, bne_iff_ne, ne_eq, decide_eq_true_eq, decide_eq_false_iff_not, decide_eq_decide, bne_eq_false_iff_eq, beq_eq_false_iff_ne, Bool.not_eq_true, Bool.not_eq_false, Bool.not_eq_true', Bool.not_eq_false', Bool.true_beq, Bool.false_beq, Bool.true_bne, Bool.false_bne, Bool.bne_true, Bool.bne_false] at c3b0); (try simp only [beq_iff_eq, bne_iff_ne, ne_eq, decide_eq_true_eq, decide_eq_false_iff_not, decide_eq_decide, bne_eq_false_iff_eq, beq_eq_false_iff_ne, Bool.not_eq_true, Bool.not_eq_false, Bool.not_eq_true', Bool.not_eq_false', Bool.true_beq, Bool.false_beq, Bool.true_bne, Bool.false_bne, Bool.bne_true, Bool.bne_false] at c3b1); (try unfold wrap64 at *); omega)

/-! ### strings_HasPrefix: function 38 -/
def strings_HasPrefix.f (a0 : ByteArray) (a1 : ByteArray) : Option (Bool) := (stringslite_HasPrefix.f a0 a1).bind fun t123 => (some t123)
set_option maxHeartbeats 8000000 in
set_option maxRecDepth 100000 in
theorem strings_HasPrefix.calls (a0 : ByteArray) (a1 : ByteArray) (r : Bool) (w : World) (h : strings_HasPrefix.f a0 a1 = some r) :
    Calls Try.prog 38 #[.string a0, .string a1] w fun e w' => e = .returned (.bool r) ∧ Drawn0 w w' := by
  have H : ((stringslite_HasPrefix.f a0 a1).bind fun t123 => (some t123)) = some r := h
  clear h
  replace H := Option.bind_eq_some_iff.mp H
  obtain ⟨t123, A30, H⟩ := H
  replace H : (some t123) = some r := H
  have A3 := Aside0.mk A30
  clear A30
  obtain rfl := Option.some.inj H
  go_enter Try.func38, Try.ntmps38
  go_wp2_with (first | ((with_reducible refine gate_callee (f := 46) rfl ?_); refine goesL_ (some 7) rfl rfl Try.func46 (by kernel_rfl) rfl #[.string a0, .string a1] rfl (by (try simp only [List.map_toArray, List.map_cons, List.map_nil]); first | done | rfl | (simp only [List.length_drop, List.length_take]; rfl)) ?_; (with_reducible refine (stringslite_HasPrefix.calls a0 a1 t123 _ A3.out).mono ?_); rintro e w' ⟨rfl, ⟨nd, rfl⟩⟩; refine ⟨_, rfl, ?_⟩))
  go_ret
  exact ⟨by first | rfl | (simp; done) | (simp [*]; done), by repeat (first | exact Drawn0.refl _ | apply Drawn0.step)⟩
  all_goals (exfalso; (try unfold wrap64 at *); omega)

end Go.Proofs.Ytcjkichimndioab.Q
