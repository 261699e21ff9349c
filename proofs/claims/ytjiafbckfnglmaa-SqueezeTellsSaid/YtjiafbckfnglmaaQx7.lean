-- Written by a program of this session (wip/tools/ap.py) for this claim.
import Derived.Test.YtjiafbckfnglmaaQx0
import Derived.Test.YtjiafbckfnglmaaQx1
import Derived.Test.YtjiafbckfnglmaaQx2
import Derived.Test.YtjiafbckfnglmaaQx3
import Derived.Test.YtjiafbckfnglmaaQx4
import Derived.Test.YtjiafbckfnglmaaQx6
namespace Go.Proofs.Ytjiafbckfnglmaa.Q
open Go.Proofs.Ytjiafbckfnglmaa.Given
open Go.RowKit Go.Proofs.Ytjiafbckfnglmaa.PW Go.Proofs.YtjiafbckfnglmaaW.PrintWords Go.Proofs.YtjiafbckfnglmaaW.PrintLast Go.Proofs.YtjiafbckfnglmaaW.PrintMore
attribute [local go_sem] max2_int min2_int max_two min_two max_three min_three max_four min_four   -- for this text's walks alone
set_option linter.unnecessarySimpa false
attribute [local go_sem high] run_cut_if run_cut_from run_cut_to run_cat_if
set_option linter.unusedVariables false
set_option linter.unusedSimpArgs false

/-! ### ammonitelaw4_SqueezeRuns: function 11 -/
def ammonitelaw4_SqueezeRuns.f (k : Nat)  : Option (Bool) := (squeeze_Expand.f k (⟨#[54, 59, 2, 97, 98, 99, 128, 0, 3]⟩ : ByteArray) 9).bind fun bt151 => ((squeeze_Expand.f k (⟨#[54, 59, 2, 97, 98, 99, 128, 0, 4]⟩ : ByteArray) 9).bind fun bt153 => ((squeeze_Expand.f k (⟨#[54, 59, 2, 97, 98, 99, 128, 0, 3]⟩ : ByteArray) 5).bind fun bt155 => (if bt151.1.toList = ([97, 98, 99, 97, 98, 99] : List UInt8) then (if bt151.2 = true then (if bt153.2 = true then (some false) else (some (!bt155.2))) else (some false)) else (some false))))
theorem ammonitelaw4_SqueezeRuns.mono : ∀ k, LeO (ammonitelaw4_SqueezeRuns.f k ) (ammonitelaw4_SqueezeRuns.f (k + 1) ) := by
  intro  k
  unfold ammonitelaw4_SqueezeRuns.f
  repeat' first
      | (with_reducible exact squeeze_Expand.mono _ _ _)
      | (with_reducible exact LeO.refl _)
      | (with_reducible exact LeO.none _)
      | (with_reducible refine LeO.ite ?_ ?_)
      | (with_reducible refine LeO.bind ?_ (fun _ => ?_))
      | exact squeeze_Expand.mono _ _ _
      | exact LeO.none _
      | refine LeO.ite ?_ ?_
      | refine LeO.bind ?_ (fun _ => ?_)
set_option maxHeartbeats 8000000 in
set_option maxRecDepth 100000 in
theorem ammonitelaw4_SqueezeRuns.calls (k : Nat)  (r : Bool) (w : World) (h : ammonitelaw4_SqueezeRuns.f k  = some r) :
    Calls Try.prog 11 #[] w fun e w' => e = .returned (.bool r) ∧ Below w.heap.size w w' := by
  have HB := Aside0.mk (Below.refl w.heap.size w)
  have H : ((squeeze_Expand.f k (⟨#[54, 59, 2, 97, 98, 99, 128, 0, 3]⟩ : ByteArray) 9).bind fun bt151 => ((squeeze_Expand.f k (⟨#[54, 59, 2, 97, 98, 99, 128, 0, 4]⟩ : ByteArray) 9).bind fun bt153 => ((squeeze_Expand.f k (⟨#[54, 59, 2, 97, 98, 99, 128, 0, 3]⟩ : ByteArray) 5).bind fun bt155 => (if bt151.1.toList = ([97, 98, 99, 97, 98, 99] : List UInt8) then (if bt151.2 = true then (if bt153.2 = true then (some false) else (some (!bt155.2))) else (some false)) else (some false))))) = some r := h
  clear h
  replace H := Option.bind_eq_some_iff.mp H
  obtain ⟨⟨t151, t152⟩, A10, H⟩ := H
  replace H : ((squeeze_Expand.f k (⟨#[54, 59, 2, 97, 98, 99, 128, 0, 4]⟩ : ByteArray) 9).bind fun bt153 => ((squeeze_Expand.f k (⟨#[54, 59, 2, 97, 98, 99, 128, 0, 3]⟩ : ByteArray) 5).bind fun bt155 => (if t151.toList = ([97, 98, 99, 97, 98, 99] : List UInt8) then (if t152 = true then (if bt153.2 = true then (some false) else (some (!bt155.2))) else (some false)) else (some false)))) = some r := H
  have A1 := Aside0.mk A10
  clear A10
  replace H := Option.bind_eq_some_iff.mp H
  obtain ⟨⟨t153, t154⟩, A20, H⟩ := H
  replace H : ((squeeze_Expand.f k (⟨#[54, 59, 2, 97, 98, 99, 128, 0, 3]⟩ : ByteArray) 5).bind fun bt155 => (if t151.toList = ([97, 98, 99, 97, 98, 99] : List UInt8) then (if t152 = true then (if t154 = true then (some false) else (some (!bt155.2))) else (some false)) else (some false))) = some r := H
  have A2 := Aside0.mk A20
  clear A20
  replace H := Option.bind_eq_some_iff.mp H
  obtain ⟨⟨t155, t156⟩, A30, H⟩ := H
  replace H : (if t151.toList = ([97, 98, 99, 97, 98, 99] : List UInt8) then (if t152 = true then (if t154 = true then (some false) else (some (!t156))) else (some false)) else (some false)) = some r := H
  have A3 := Aside0.mk A30
  clear A30
  by_cases c4 : t151.toList = ([97, 98, 99, 97, 98, 99] : List UInt8)
  · rw [if_pos c4] at H
    have c4b0 : (t151.toList == ([97, 98, 99, 97, 98, 99] : List UInt8)) = true := beq_iff_eq.mpr c4
    have c4b1 : (t151.toList != ([97, 98, 99, 97, 98, 99] : List UInt8)) = false := bne_eq_false_iff_eq.mpr c4
    clear c4
    by_cases c5 : t152 = true
    · subst c5
      have H1 : (if t154 = true then (some false) else (some (!t156))) = some r := by rw [if_pos rfl] at H; exact H
      clear H
      have H := H1
      clear H1
      by_cases c6 : t154 = true
      · subst c6
        have H1 : (some false) = some r := by rw [if_pos rfl] at H; exact H
        clear H
        have H := H1
        clear H1
        obtain rfl := Option.some.inj H
        go_enter Try.func11, Try.ntmps11
        go_wp2_with (first | ((with_reducible refine gate_callee (f := 9) rfl ?_); refine goesL_ (some 8) rfl rfl Try.func9 (by kernel_rfl) rfl #[.string (⟨#[54, 59, 2, 97, 98, 99, 128, 0, 3]⟩ : ByteArray), .int .i64 9] rfl (by (try simp only [List.map_toArray, List.map_cons, List.map_nil]); first | done | rfl | (simp only [List.length_drop, List.length_take]; rfl)) ?_; (with_reducible refine (squeeze_Expand.calls k (⟨#[54, 59, 2, 97, 98, 99, 128, 0, 3]⟩ : ByteArray) 9 t151 true _ A1.out).mono ?_); rintro e w7 ⟨rfl, hb⟩; refine ⟨_, rfl, ?_⟩; have n0_ := Aside0.mk (below_step (by repeat (first | (with_reducible first | exact HB.out | apply below_alloc | apply pw_below_drewN | apply below_drew1) | exact HB.out)) hb); clear HB; have HB := n0_; clear n0_; (try clear hb); (try clear hb2); (try clear hk); (try clear hi)) | ((with_reducible refine gate_callee (f := 9) rfl ?_); refine goesL_ (some 12) rfl rfl Try.func9 (by kernel_rfl) rfl #[.string (⟨#[54, 59, 2, 97, 98, 99, 128, 0, 4]⟩ : ByteArray), .int .i64 9] rfl (by (try simp only [List.map_toArray, List.map_cons, List.map_nil]); first | done | rfl | (simp only [List.length_drop, List.length_take]; rfl)) ?_; (with_reducible refine (squeeze_Expand.calls k (⟨#[54, 59, 2, 97, 98, 99, 128, 0, 4]⟩ : ByteArray) 9 t153 true _ A2.out).mono ?_); rintro e w8 ⟨rfl, hb⟩; refine ⟨_, rfl, ?_⟩; have n0_ := Aside0.mk (below_step (by repeat (first | (with_reducible first | exact HB.out | apply below_alloc | apply pw_below_drewN | apply below_drew1) | exact HB.out)) hb); clear HB; have HB := n0_; clear n0_; (try clear hb); (try clear hb2); (try clear hk); (try clear hi)) | ((with_reducible refine gate_callee (f := 9) rfl ?_); refine goesL_ (some 16) rfl rfl Try.func9 (by kernel_rfl) rfl #[.string (⟨#[54, 59, 2, 97, 98, 99, 128, 0, 3]⟩ : ByteArray), .int .i64 5] rfl (by (try simp only [List.map_toArray, List.map_cons, List.map_nil]); first | done | rfl | (simp only [List.length_drop, List.length_take]; rfl)) ?_; (with_reducible refine (squeeze_Expand.calls k (⟨#[54, 59, 2, 97, 98, 99, 128, 0, 3]⟩ : ByteArray) 5 t155 t156 _ A3.out).mono ?_); rintro e w9 ⟨rfl, hb⟩; refine ⟨_, rfl, ?_⟩; have n0_ := Aside0.mk (below_step (by repeat (first | (with_reducible first | exact HB.out | apply below_alloc | apply pw_below_drewN | apply below_drew1) | exact HB.out)) hb); clear HB; have HB := n0_; clear n0_; (try clear hb); (try clear hb2); (try clear hk); (try clear hi)))
        go_ret
        exact ⟨by first | rfl | (simp [errW_none, errW_some] <;> rfl) | (simp [*, errW_none, errW_some] <;> rfl), by repeat (first | (with_reducible first | exact HB.out | apply below_alloc | apply pw_below_drewN | apply below_drew1) | exact HB.out)⟩
        all_goals (exfalso; (try simp only [beq_iff_eq, bne_iff_ne, ne_eq, decide_eq_true_eq, decide_eq_false_iff_not, decide_eq_decide, bne_eq_false_iff_eq, beq_eq_false_iff_ne, Bool.not_eq_true, Bool.not_eq_false, Bool.not_eq_true', Bool.not_eq_false', Bool.true_beq, Bool.false_beq, Bool.true_bne, Bool.false_bne, Bool.bne_true, Bool.bne_false] at c4b0); (try simp only [beq_iff_eq, bne_iff_ne, ne_eq, decide_eq_true_eq, decide_eq_false_iff_not, decide_eq_decide, bne_eq_false_iff_eq, beq_eq_false_iff_ne, Bool.not_eq_true, Bool.not_eq_false, Bool.not_eq_true', Bool.not_eq_false', Bool.true_beq, Bool.false_beq, Bool.true_bne, Bool.false_bne, Bool.bne_true, Bool.bne_false] at c4b1); (try unfold wrap64 at *); omega)
      · replace c6 := Bool.eq_false_iff.mpr c6
        subst c6
        have H1 : (some (!t156)) = some r := by rw [if_neg (show ¬ (false = true) by decide)] at H; exact H
        clear H
        have H := H1
        clear H1
        obtain rfl := Option.some.inj H
        go_enter Try.func11, Try.ntmps11
        go_wp2_with (first | ((with_reducible refine gate_callee (f := 9) rfl ?_); refine goesL_ (some 8) rfl rfl Try.func9 (by kernel_rfl) rfl #[.string (⟨#[54, 59, 2, 97, 98, 99, 128, 0, 3]⟩ : ByteArray), .int .i64 9] rfl (by (try simp only [List.map_toArray, List.map_cons, List.map_nil]); first | done | rfl | (simp only [List.length_drop, List.length_take]; rfl)) ?_; (with_reducible refine (squeeze_Expand.calls k (⟨#[54, 59, 2, 97, 98, 99, 128, 0, 3]⟩ : ByteArray) 9 t151 true _ A1.out).mono ?_); rintro e w10 ⟨rfl, hb⟩; refine ⟨_, rfl, ?_⟩; have n0_ := Aside0.mk (below_step (by repeat (first | (with_reducible first | exact HB.out | apply below_alloc | apply pw_below_drewN | apply below_drew1) | exact HB.out)) hb); clear HB; have HB := n0_; clear n0_; (try clear hb); (try clear hb2); (try clear hk); (try clear hi)) | ((with_reducible refine gate_callee (f := 9) rfl ?_); refine goesL_ (some 12) rfl rfl Try.func9 (by kernel_rfl) rfl #[.string (⟨#[54, 59, 2, 97, 98, 99, 128, 0, 4]⟩ : ByteArray), .int .i64 9] rfl (by (try simp only [List.map_toArray, List.map_cons, List.map_nil]); first | done | rfl | (simp only [List.length_drop, List.length_take]; rfl)) ?_; (with_reducible refine (squeeze_Expand.calls k (⟨#[54, 59, 2, 97, 98, 99, 128, 0, 4]⟩ : ByteArray) 9 t153 false _ A2.out).mono ?_); rintro e w11 ⟨rfl, hb⟩; refine ⟨_, rfl, ?_⟩; have n0_ := Aside0.mk (below_step (by repeat (first | (with_reducible first | exact HB.out | apply below_alloc | apply pw_below_drewN | apply below_drew1) | exact HB.out)) hb); clear HB; have HB := n0_; clear n0_; (try clear hb); (try clear hb2); (try clear hk); (try clear hi)) | ((with_reducible refine gate_callee (f := 9) rfl ?_); refine goesL_ (some 16) rfl rfl Try.func9 (by kernel_rfl) rfl #[.string (⟨#[54, 59, 2, 97, 98, 99, 128, 0, 3]⟩ : ByteArray), .int .i64 5] rfl (by (try simp only [List.map_toArray, List.map_cons, List.map_nil]); first | done | rfl | (simp only [List.length_drop, List.length_take]; rfl)) ?_; (with_reducible refine (squeeze_Expand.calls k (⟨#[54, 59, 2, 97, 98, 99, 128, 0, 3]⟩ : ByteArray) 5 t155 t156 _ A3.out).mono ?_); rintro e w12 ⟨rfl, hb⟩; refine ⟨_, rfl, ?_⟩; have n0_ := Aside0.mk (below_step (by repeat (first | (with_reducible first | exact HB.out | apply below_alloc | apply pw_below_drewN | apply below_drew1) | exact HB.out)) hb); clear HB; have HB := n0_; clear n0_; (try clear hb); (try clear hb2); (try clear hk); (try clear hi)))
        go_ret
        exact ⟨by first | rfl | (simp [errW_none, errW_some] <;> rfl) | (simp [*, errW_none, errW_some] <;> rfl), by repeat (first | (with_reducible first | exact HB.out | apply below_alloc | apply pw_below_drewN | apply below_drew1) | exact HB.out)⟩
        all_goals (exfalso; (try simp only [beq_iff_eq, bne_iff_ne, ne_eq, decide_eq_true_eq, decide_eq_false_iff_not, decide_eq_decide, bne_eq_false_iff_eq, beq_eq_false_iff_ne, Bool.not_eq_true, Bool.not_eq_false, Bool.not_eq_true', Bool.not_eq_false', Bool.true_beq, Bool.false_beq, Bool.true_bne, Bool.false_bne, Bool.bne_true, Bool.bne_false] at c4b0); (try simp only [beq_iff_eq, bne_iff_ne, ne_eq, decide_eq_true_eq, decide_eq_false_iff_not, decide_eq_decide, bne_eq_false_iff_eq, beq_eq_false_iff_ne, Bool.not_eq_true, Bool.not_eq_false, Bool.not_eq_true', Bool.not_eq_false', Bool.true_beq, Bool.false_beq, Bool.true_bne, Bool.false_bne, Bool.bne_true, Bool.bne_false] at c4b1); (try unfold wrap64 at *); omega)
    · replace c5 := Bool.eq_false_iff.mpr c5
      subst c5
      have H1 : (some false) = some r := by rw [if_neg (show ¬ (false = true) by decide)] at H; exact H
      clear H
      have H := H1
      clear H1
      obtain rfl := Option.some.inj H
      go_enter Try.func11, Try.ntmps11
      go_wp2_with (first | ((with_reducible refine gate_callee (f := 9) rfl ?_); refine goesL_ (some 8) rfl rfl Try.func9 (by kernel_rfl) rfl #[.string (⟨#[54, 59, 2, 97, 98, 99, 128, 0, 3]⟩ : ByteArray), .int .i64 9] rfl (by (try simp only [List.map_toArray, List.map_cons, List.map_nil]); first | done | rfl | (simp only [List.length_drop, List.length_take]; rfl)) ?_; (with_reducible refine (squeeze_Expand.calls k (⟨#[54, 59, 2, 97, 98, 99, 128, 0, 3]⟩ : ByteArray) 9 t151 false _ A1.out).mono ?_); rintro e w13 ⟨rfl, hb⟩; refine ⟨_, rfl, ?_⟩; have n0_ := Aside0.mk (below_step (by repeat (first | (with_reducible first | exact HB.out | apply below_alloc | apply pw_below_drewN | apply below_drew1) | exact HB.out)) hb); clear HB; have HB := n0_; clear n0_; (try clear hb); (try clear hb2); (try clear hk); (try clear hi)) | ((with_reducible refine gate_callee (f := 9) rfl ?_); refine goesL_ (some 12) rfl rfl Try.func9 (by kernel_rfl) rfl #[.string (⟨#[54, 59, 2, 97, 98, 99, 128, 0, 4]⟩ : ByteArray), .int .i64 9] rfl (by (try simp only [List.map_toArray, List.map_cons, List.map_nil]); first | done | rfl | (simp only [List.length_drop, List.length_take]; rfl)) ?_; (with_reducible refine (squeeze_Expand.calls k (⟨#[54, 59, 2, 97, 98, 99, 128, 0, 4]⟩ : ByteArray) 9 t153 t154 _ A2.out).mono ?_); rintro e w14 ⟨rfl, hb⟩; refine ⟨_, rfl, ?_⟩; have n0_ := Aside0.mk (below_step (by repeat (first | (with_reducible first | exact HB.out | apply below_alloc | apply pw_below_drewN | apply below_drew1) | exact HB.out)) hb); clear HB; have HB := n0_; clear n0_; (try clear hb); (try clear hb2); (try clear hk); (try clear hi)) | ((with_reducible refine gate_callee (f := 9) rfl ?_); refine goesL_ (some 16) rfl rfl Try.func9 (by kernel_rfl) rfl #[.string (⟨#[54, 59, 2, 97, 98, 99, 128, 0, 3]⟩ : ByteArray), .int .i64 5] rfl (by (try simp only [List.map_toArray, List.map_cons, List.map_nil]); first | done | rfl | (simp only [List.length_drop, List.length_take]; rfl)) ?_; (with_reducible refine (squeeze_Expand.calls k (⟨#[54, 59, 2, 97, 98, 99, 128, 0, 3]⟩ : ByteArray) 5 t155 t156 _ A3.out).mono ?_); rintro e w15 ⟨rfl, hb⟩; refine ⟨_, rfl, ?_⟩; have n0_ := Aside0.mk (below_step (by repeat (first | (with_reducible first | exact HB.out | apply below_alloc | apply pw_below_drewN | apply below_drew1) | exact HB.out)) hb); clear HB; have HB := n0_; clear n0_; (try clear hb); (try clear hb2); (try clear hk); (try clear hi)))
      go_ret
      exact ⟨by first | rfl | (simp [errW_none, errW_some] <;> rfl) | (simp [*, errW_none, errW_some] <;> rfl), by repeat (first | (with_reducible first | exact HB.out | apply below_alloc | apply pw_below_drewN | apply below_drew1) | exact HB.out)⟩
      all_goals (exfalso; (try simp only [beq_iff_eq, bne_iff_ne, ne_eq, decide_eq_true_eq, decide_eq_false_iff_not, decide_eq_decide, bne_eq_false_iff_eq, beq_eq_false_iff_ne, Bool.not_eq_true, Bool.not_eq_false, Bool.not_eq_true', Bool.not_eq_false', Bool.true_beq, Bool.false_beq, Bool.true_bne, Bool.false_bne, Bool.bne_true, Bool.bne_false] at c4b0); (try simp only [beq_iff_eq, bne_iff_ne, ne_eq, decide_eq_true_eq, decide_eq_false_iff_not, decide_eq_decide, bne_eq_false_iff_eq, beq_eq_false_iff_ne, Bool.not_eq_true, Bool.not_eq_false, Bool.not_eq_true', Bool.not_eq_false', Bool.true_beq, Bool.false_beq, Bool.true_bne, Bool.false_bne, Bool.bne_true, Bool.bne_false] at c4b1); (try unfold wrap64 at *); omega)
  · rw [if_neg c4] at H
    have c4b0 : (t151.toList == ([97, 98, 99, 97, 98, 99] : List UInt8)) = false := beq_eq_false_iff_ne.mpr c4
    have c4b1 : (t151.toList != ([97, 98, 99, 97, 98, 99] : List UInt8)) = true := bne_iff_ne.mpr c4
    obtain rfl := Option.some.inj H
    go_enter Try.func11, Try.ntmps11
    go_wp2_with (first | ((with_reducible refine gate_callee (f := 9) rfl ?_); refine goesL_ (some 8) rfl rfl Try.func9 (by kernel_rfl) rfl #[.string (⟨#[54, 59, 2, 97, 98, 99, 128, 0, 3]⟩ : ByteArray), .int .i64 9] rfl (by (try simp only [List.map_toArray, List.map_cons, List.map_nil]); first | done | rfl | (simp only [List.length_drop, List.length_take]; rfl)) ?_; (with_reducible refine (squeeze_Expand.calls k (⟨#[54, 59, 2, 97, 98, 99, 128, 0, 3]⟩ : ByteArray) 9 t151 t152 _ A1.out).mono ?_); rintro e w16 ⟨rfl, hb⟩; refine ⟨_, rfl, ?_⟩; have n0_ := Aside0.mk (below_step (by repeat (first | (with_reducible first | exact HB.out | apply below_alloc | apply pw_below_drewN | apply below_drew1) | exact HB.out)) hb); clear HB; have HB := n0_; clear n0_; (try clear hb); (try clear hb2); (try clear hk); (try clear hi)) | ((with_reducible refine gate_callee (f := 9) rfl ?_); refine goesL_ (some 12) rfl rfl Try.func9 (by kernel_rfl) rfl #[.string (⟨#[54, 59, 2, 97, 98, 99, 128, 0, 4]⟩ : ByteArray), .int .i64 9] rfl (by (try simp only [List.map_toArray, List.map_cons, List.map_nil]); first | done | rfl | (simp only [List.length_drop, List.length_take]; rfl)) ?_; (with_reducible refine (squeeze_Expand.calls k (⟨#[54, 59, 2, 97, 98, 99, 128, 0, 4]⟩ : ByteArray) 9 t153 t154 _ A2.out).mono ?_); rintro e w17 ⟨rfl, hb⟩; refine ⟨_, rfl, ?_⟩; have n0_ := Aside0.mk (below_step (by repeat (first | (with_reducible first | exact HB.out | apply below_alloc | apply pw_below_drewN | apply below_drew1) | exact HB.out)) hb); clear HB; have HB := n0_; clear n0_; (try clear hb); (try clear hb2); (try clear hk); (try clear hi)) | ((with_reducible refine gate_callee (f := 9) rfl ?_); refine goesL_ (some 16) rfl rfl Try.func9 (by kernel_rfl) rfl #[.string (⟨#[54, 59, 2, 97, 98, 99, 128, 0, 3]⟩ : ByteArray), .int .i64 5] rfl (by (try simp only [List.map_toArray, List.map_cons, List.map_nil]); first | done | rfl | (simp only [List.length_drop, List.length_take]; rfl)) ?_; (with_reducible refine (squeeze_Expand.calls k (⟨#[54, 59, 2, 97, 98, 99, 128, 0, 3]⟩ : ByteArray) 5 t155 t156 _ A3.out).mono ?_); rintro e w18 ⟨rfl, hb⟩; refine ⟨_, rfl, ?_⟩; have n0_ := Aside0.mk (below_step (by repeat (first | (with_reducible first | exact HB.out | apply below_alloc | apply pw_below_drewN | apply below_drew1) | exact HB.out)) hb); clear HB; have HB := n0_; clear n0_; (try clear hb); (try clear hb2); (try clear hk); (try clear hi)))
    go_ret
    exact ⟨by first | rfl | (simp [errW_none, errW_some] <;> rfl) | (simp [*, errW_none, errW_some] <;> rfl), by repeat (first | (with_reducible first | exact HB.out | apply below_alloc | apply pw_below_drewN | apply below_drew1) | exact HB.out)⟩
    all_goals (exfalso; (try simp only [beq_iff_eq, bne_iff_ne, ne_eq, decide_eq_true_eq, decide_eq_false_iff_not, decide_eq_decide, bne_eq_false_iff_eq, beq_eq_false_iff_ne, Bool.not_eq_true, Bool.not_eq_false, Bool.not_eq_true', Bool.not_eq_false', Bool.true_beq, Bool.false_beq, Bool.true_bne, Bool.false_bne, Bool.bne_true, Bool.bne_false] at c4b0); (try simp only [beq_iff_eq, bne_iff_ne, ne_eq, decide_eq_true_eq, decide_eq_false_iff_not, decide_eq_decide, bne_eq_false_iff_eq, beq_eq_false_iff_ne, Bool.not_eq_true, Bool.not_eq_false, Bool.not_eq_true', Bool.not_eq_false', Bool.true_beq, Bool.false_beq, Bool.true_bne, Bool.false_bne, Bool.bne_true, Bool.bne_false] at c4b1); (try unfold wrap64 at *); omega)

/-! ### ammonitelaw4_SqueezeTells: function 3 -/
mutual
def ammonitelaw4_SqueezeTells.j0 : Nat → Int → Int → Int → Int → ByteArray → Int → List Int → Option (Bool)
  | 0, _, _, _, _, _, _, _ => none
  | k + 1, x3, x4, x5, x6, x15, x158000, x158001 => if (Go.bits .and .i64 x5 3) = 2 then ((ammonitekeep_Text_Text.f k x158000 x158001).bind fun t159 => ((squeeze_Press.f t159).bind fun t160 => (ammonitelaw4_SqueezeTells.j1 k x3 x4 x5 x6 t160))) else (ammonitelaw4_SqueezeTells.j1 k x3 x4 x5 x6 x15)
def ammonitelaw4_SqueezeTells.j1 : Nat → Int → Int → Int → Int → ByteArray → Option (Bool)
  | 0, _, _, _, _, _ => none
  | k + 1, x3, x4, x5, x6, x15 => if (x15.size : Int) = 0 then (some false) else ((ammonitebook_Within.f x3 0 (wrap64 ((x15.size : Int) - 1))).bind fun t161 => (if (Go.bits .and .i64 (x5 / 4) 3) = 0 then (if 0 ≤ t161 then (if t161 ≤ (x15.size : Int) then ((some (([x4] : List Int) : List Int)).bind fun y162 => (if (cutS x15 0 (t161 : Int).toNat).size + (strOfNums y162).size ≤ 9223372036854775807 then (if 0 ≤ (wrap64 (t161 + 1)) then (if (wrap64 (t161 + 1)) ≤ (x15.size : Int) then (if (catS (cutS x15 0 (t161 : Int).toNat) (strOfNums y162)).size + (cutS x15 ((wrap64 (t161 + 1)) : Int).toNat x15.size).size ≤ 9223372036854775807 then (ammonitelaw4_SqueezeTells.j2 k x6 (catS (catS (cutS x15 0 (t161 : Int).toNat) (strOfNums y162)) (cutS x15 ((wrap64 (t161 + 1)) : Int).toNat x15.size))) else (none)) else (none)) else (none)) else (none))) else (none)) else (none)) else (if (Go.bits .and .i64 (x5 / 4) 3) = 1 then (if 0 ≤ t161 then (if t161 ≤ (x15.size : Int) then (ammonitelaw4_SqueezeTells.j2 k x6 (cutS x15 0 (t161 : Int).toNat)) else (none)) else (none)) else (ammonitelaw4_SqueezeTells.j2 k x6 x15))))
def ammonitelaw4_SqueezeTells.j2 : Nat → Int → ByteArray → Option (Bool)
  | 0, _, _ => none
  | k + 1, x6, x15 => (ammonitebook_Within.f x6 0 500).bind fun t165 => ((squeeze_Expand.f k x15 t165).bind fun bt166 => ((ammoniteref1_Expand.f k x15 t165).bind fun bt168 => (if bt168.2 = true then (if bt166.1.toList = bt168.1.toList then (if (bt166.2 == bt168.2) = true then ((ammonitelaw4_SqueezeRuns.f k).bind fun t170 => (some t170)) else (some false)) else (some false)) else (if bt166.1.toList = ([] : List UInt8) then (if (bt166.2 == bt168.2) = true then ((ammonitelaw4_SqueezeRuns.f k).bind fun t171 => (some t171)) else (some false)) else (some false)))))
end
def ammonitelaw4_SqueezeTells.f (k : Nat) (a0_0 : Int) (l0_1 : List Int) (a1 : ByteArray) (l2 : List Int) (a3 : Int) (a4 : Int) (a5 : Int) (a6 : Int) : Option (Bool) := if 0 ≤ (mn (a1.size : Int) 20) then (if (mn (a1.size : Int) 20) ≤ (a1.size : Int) then (if 2 + (cutS a1 0 ((mn (a1.size : Int) 20) : Int).toNat).size ≤ 9223372036854775807 then (if (Go.bits .and .i64 a5 1) = 1 then ((ammonitekeep_Pieces.f k l2).bind fun t158 => (ammonitelaw4_SqueezeTells.j0 k a3 a4 a5 a6 t158 a0_0 l0_1)) else (ammonitelaw4_SqueezeTells.j0 k a3 a4 a5 a6 (catS (⟨#[57, 59]⟩ : ByteArray) (cutS a1 0 ((mn (a1.size : Int) 20) : Int).toNat)) a0_0 l0_1)) else (none)) else (none)) else (none)
theorem ammonitelaw4_SqueezeTells.mono_l : ∀ k, (∀ y0 y1 y2 y3 y4 y5 y6, LeO (ammonitelaw4_SqueezeTells.j0 k y0 y1 y2 y3 y4 y5 y6) (ammonitelaw4_SqueezeTells.j0 (k + 1) y0 y1 y2 y3 y4 y5 y6)) ∧ (∀ y0 y1 y2 y3 y4, LeO (ammonitelaw4_SqueezeTells.j1 k y0 y1 y2 y3 y4) (ammonitelaw4_SqueezeTells.j1 (k + 1) y0 y1 y2 y3 y4)) ∧ (∀ y0 y1, LeO (ammonitelaw4_SqueezeTells.j2 k y0 y1) (ammonitelaw4_SqueezeTells.j2 (k + 1) y0 y1))
  | 0 => ⟨fun _ _ _ _ _ _ _ r h => by simp [ammonitelaw4_SqueezeTells.j0] at h, fun _ _ _ _ _ r h => by simp [ammonitelaw4_SqueezeTells.j1] at h, fun _ _ r h => by simp [ammonitelaw4_SqueezeTells.j2] at h⟩
  | k + 1 => by
    obtain ⟨ih0, ih1, ih2⟩ := ammonitelaw4_SqueezeTells.mono_l k
    refine ⟨?_, ?_, ?_⟩
    · intro y0 y1 y2 y3 y4 y5 y6
      unfold ammonitelaw4_SqueezeTells.j0
      repeat' first
      | (with_reducible exact ih0 _ _ _ _ _ _ _)
      | (with_reducible exact ih1 _ _ _ _ _)
      | (with_reducible exact ih2 _ _)
      | (with_reducible exact ammonitekeep_Pieces.mono _ _)
      | (with_reducible exact ammonitekeep_Text_Text.mono _ _ _)
      | (with_reducible exact ammonitelaw4_SqueezeRuns.mono _)
      | (with_reducible exact ammoniteref1_Expand.mono _ _ _)
      | (with_reducible exact squeeze_Expand.mono _ _ _)
      | (with_reducible exact LeO.refl _)
      | (with_reducible exact LeO.none _)
      | (with_reducible refine LeO.ite ?_ ?_)
      | (with_reducible refine LeO.bind ?_ (fun _ => ?_))
      | exact ih0 _ _ _ _ _ _ _
      | exact ih1 _ _ _ _ _
      | exact ih2 _ _
      | exact ammonitekeep_Pieces.mono _ _
      | exact ammonitekeep_Text_Text.mono _ _ _
      | exact ammonitelaw4_SqueezeRuns.mono _
      | exact ammoniteref1_Expand.mono _ _ _
      | exact squeeze_Expand.mono _ _ _
      | exact LeO.none _
      | refine LeO.ite ?_ ?_
      | refine LeO.bind ?_ (fun _ => ?_)
    · intro y0 y1 y2 y3 y4
      unfold ammonitelaw4_SqueezeTells.j1
      repeat' first
      | (with_reducible exact ih0 _ _ _ _ _ _ _)
      | (with_reducible exact ih1 _ _ _ _ _)
      | (with_reducible exact ih2 _ _)
      | (with_reducible exact ammonitekeep_Pieces.mono _ _)
      | (with_reducible exact ammonitekeep_Text_Text.mono _ _ _)
      | (with_reducible exact ammonitelaw4_SqueezeRuns.mono _)
      | (with_reducible exact ammoniteref1_Expand.mono _ _ _)
      | (with_reducible exact squeeze_Expand.mono _ _ _)
      | (with_reducible exact LeO.refl _)
      | (with_reducible exact LeO.none _)
      | (with_reducible refine LeO.ite ?_ ?_)
      | (with_reducible refine LeO.bind ?_ (fun _ => ?_))
      | exact ih0 _ _ _ _ _ _ _
      | exact ih1 _ _ _ _ _
      | exact ih2 _ _
      | exact ammonitekeep_Pieces.mono _ _
      | exact ammonitekeep_Text_Text.mono _ _ _
      | exact ammonitelaw4_SqueezeRuns.mono _
      | exact ammoniteref1_Expand.mono _ _ _
      | exact squeeze_Expand.mono _ _ _
      | exact LeO.none _
      | refine LeO.ite ?_ ?_
      | refine LeO.bind ?_ (fun _ => ?_)
    · intro y0 y1
      unfold ammonitelaw4_SqueezeTells.j2
      repeat' first
      | (with_reducible exact ih0 _ _ _ _ _ _ _)
      | (with_reducible exact ih1 _ _ _ _ _)
      | (with_reducible exact ih2 _ _)
      | (with_reducible exact ammonitekeep_Pieces.mono _ _)
      | (with_reducible exact ammonitekeep_Text_Text.mono _ _ _)
      | (with_reducible exact ammonitelaw4_SqueezeRuns.mono _)
      | (with_reducible exact ammoniteref1_Expand.mono _ _ _)
      | (with_reducible exact squeeze_Expand.mono _ _ _)
      | (with_reducible exact LeO.refl _)
      | (with_reducible exact LeO.none _)
      | (with_reducible refine LeO.ite ?_ ?_)
      | (with_reducible refine LeO.bind ?_ (fun _ => ?_))
      | exact ih0 _ _ _ _ _ _ _
      | exact ih1 _ _ _ _ _
      | exact ih2 _ _
      | exact ammonitekeep_Pieces.mono _ _
      | exact ammonitekeep_Text_Text.mono _ _ _
      | exact ammonitelaw4_SqueezeRuns.mono _
      | exact ammoniteref1_Expand.mono _ _ _
      | exact squeeze_Expand.mono _ _ _
      | exact LeO.none _
      | refine LeO.ite ?_ ?_
      | refine LeO.bind ?_ (fun _ => ?_)
theorem ammonitelaw4_SqueezeTells.mono : ∀ a0 a1 a2 a3 a4 a5 a6 a7 k, LeO (ammonitelaw4_SqueezeTells.f k a0 a1 a2 a3 a4 a5 a6 a7) (ammonitelaw4_SqueezeTells.f (k + 1) a0 a1 a2 a3 a4 a5 a6 a7) := by
  intro a0 a1 a2 a3 a4 a5 a6 a7 k
  obtain ⟨ih0, ih1, ih2⟩ := ammonitelaw4_SqueezeTells.mono_l k
  unfold ammonitelaw4_SqueezeTells.f
  repeat' first
      | (with_reducible exact ih0 _ _ _ _ _ _ _)
      | (with_reducible exact ih1 _ _ _ _ _)
      | (with_reducible exact ih2 _ _)
      | (with_reducible exact ammonitekeep_Pieces.mono _ _)
      | (with_reducible exact ammonitekeep_Text_Text.mono _ _ _)
      | (with_reducible exact ammonitelaw4_SqueezeRuns.mono _)
      | (with_reducible exact ammoniteref1_Expand.mono _ _ _)
      | (with_reducible exact squeeze_Expand.mono _ _ _)
      | (with_reducible exact LeO.refl _)
      | (with_reducible exact LeO.none _)
      | (with_reducible refine LeO.ite ?_ ?_)
      | (with_reducible refine LeO.bind ?_ (fun _ => ?_))
      | exact ih0 _ _ _ _ _ _ _
      | exact ih1 _ _ _ _ _
      | exact ih2 _ _
      | exact ammonitekeep_Pieces.mono _ _
      | exact ammonitekeep_Text_Text.mono _ _ _
      | exact ammonitelaw4_SqueezeRuns.mono _
      | exact ammoniteref1_Expand.mono _ _ _
      | exact squeeze_Expand.mono _ _ _
      | exact LeO.none _
      | refine LeO.ite ?_ ?_
      | refine LeO.bind ?_ (fun _ => ?_)
def ammonitelaw4_SqueezeTells.T11 : Bool × List (List Nat × List Nat) := (true, [([], []), ([], []), ([0, 1], [0, 1]), ([], []), ([3], [3]), ([4], [4]), ([2, 5], [2, 5]), ([], []), ([], []), ([8], [8]), ([7, 9], [7, 9]), ([6, 10], [6, 10]), ([11, 0, 1, 2, 3, 4, 5, 6, 7, 8, 9, 10, 11], [0, 7, 11])])
def ammonitelaw4_SqueezeTells.B11 : List Nat := [0, 0, 3, 0, 8, 24, 63, 0, 0, 256, 896, 2047, 4095]
theorem ammonitelaw4_SqueezeTells.tab11 : rtab .any (opsOf Try.f3 11) = ammonitelaw4_SqueezeTells.T11 := by kernel_rfl
theorem ammonitelaw4_SqueezeTells.bits11 : waitsOk ammonitelaw4_SqueezeTells.T11.2 ammonitelaw4_SqueezeTells.B11 = true := by kernel_rfl
set_option maxHeartbeats 8000000 in
set_option maxRecDepth 100000 in
theorem ammonitelaw4_SqueezeTells.calls (k : Nat) (a0_0 : Int) (A0_1 : Option Addr) (c0_1 : Nat) (l0_1 : List Int) (a1 : ByteArray) (A2 : Option Addr) (c2 : Nat) (l2 : List Int) (a3 : Int) (a4 : Int) (a5 : Int) (a6 : Int) (r : Bool) (w : World) (hr0_1 : Kd.C (Kd.int .i64) w A0_1 l0_1.length l0_1) (hc0_1 : l0_1.length ≤ c0_1) (hr2 : Kd.C (Kd.int .i64) w A2 l2.length l2) (hc2 : l2.length ≤ c2) (h : ammonitelaw4_SqueezeTells.f k a0_0 l0_1 a1 l2 a3 a4 a5 a6 = some r) (hrt : r = true) :
    Calls Try.prog 3 #[.agg #[.int .i64 a0_0, .slice A0_1 l0_1.length c0_1], .string a1, .slice A2 l2.length c2, .int .i64 a3, .int .u8 a4, .int .i64 a5, .int .i64 a6] w fun e w' => e = .returned (.bool r) ∧ Below w.heap.size w w' := by
  have HRT := Aside0.mk hrt
  clear hrt
  have hu24 := Try.underlying24
  have HR0_1 := Aside0.mk hr0_1
  have HC0_1 := Aside0.mk hc0_1
  clear hr0_1 hc0_1
  have HR2 := Aside0.mk hr2
  have HC2 := Aside0.mk hc2
  clear hr2 hc2
  have HB := Aside0.mk (Below.refl w.heap.size w)
  have H : (if 0 ≤ (mn (a1.size : Int) 20) then (if (mn (a1.size : Int) 20) ≤ (a1.size : Int) then (if 2 + (cutS a1 0 ((mn (a1.size : Int) 20) : Int).toNat).size ≤ 9223372036854775807 then (if (Go.bits .and .i64 a5 1) = 1 then ((ammonitekeep_Pieces.f k l2).bind fun t158 => (ammonitelaw4_SqueezeTells.j0 k a3 a4 a5 a6 t158 a0_0 l0_1)) else (ammonitelaw4_SqueezeTells.j0 k a3 a4 a5 a6 (catS (⟨#[57, 59]⟩ : ByteArray) (cutS a1 0 ((mn (a1.size : Int) 20) : Int).toNat)) a0_0 l0_1)) else (none)) else (none)) else (none)) = some r := h
  clear h
  obtain ⟨ji8, hji8⟩ : ∃ j_ : Int, (mn (a1.size : Int) 20) = j_ := ⟨_, rfl⟩
  replace H : (if 0 ≤ (ji8) then (if (ji8) ≤ (a1.size : Int) then (if 2 + (cutS a1 0 ((ji8) : Int).toNat).size ≤ 9223372036854775807 then (if (Go.bits .and .i64 a5 1) = 1 then ((ammonitekeep_Pieces.f k l2).bind fun t158 => (ammonitelaw4_SqueezeTells.j0 k a3 a4 a5 a6 t158 a0_0 l0_1)) else (ammonitelaw4_SqueezeTells.j0 k a3 a4 a5 a6 (catS (⟨#[57, 59]⟩ : ByteArray) (cutS a1 0 ((ji8) : Int).toNat)) a0_0 l0_1)) else (none)) else (none)) else (none)) = some r := by first | (rw [hji8] at H; exact H) | (simp only [hji8] at H ⊢; exact H)
  (try (have hji8h : ji8 ≤ 20 := by (rw [← hji8]; unfold mn; (repeat' split) <;> omega)))
  (try (have hji8g : ji8 ≤ 64 := by omega))
  (try (have hji8l : 0 ≤ ji8 := by (rw [← hji8]; unfold mn; (repeat' split) <;> omega)))
  (try (have hji8m : 0 ≤ ji8 := by omega))
  have hji8_ : (if 20 < (a1.size : Int) then 20 else (a1.size : Int)) = ji8 := hji8
  by_cases c9 : 0 ≤ (ji8)
  · rw [if_pos c9] at H
    have c9b0 := eq_true c9
    have c9b1 : decide (0 ≤ (ji8)) = true := decide_eq_true c9
    clear c9
    by_cases c10 : (ji8) ≤ (a1.size : Int)
    · rw [if_pos c10] at H
      have c10b0 := eq_true c10
      have c10b1 : decide ((ji8) ≤ (a1.size : Int)) = true := decide_eq_true c10
      clear c10
      by_cases c11 : 2 + (cutS a1 0 ((ji8) : Int).toNat).size ≤ 9223372036854775807
      · rw [if_pos c11] at H
        have c11b0 := eq_true c11
        have c11b1 : decide (2 + (cutS a1 0 ((ji8) : Int).toNat).size ≤ 9223372036854775807) = true := decide_eq_true c11
        try have c11b2 : (9223372036854775807 < 2 + (cutS a1 0 ((ji8) : Int).toNat).size) = False := eq_false (Nat.not_lt.2 c11)
        clear c11
        have HC12 := Aside0.mk H
        clear H
        go_enter Try.func3, Try.ntmps3
        go_upto_if 30 with (first | ((with_reducible refine gate_dst (N := 7) rfl ?_); refine box_event ?hg (N := 7) ?hd (cs := #[.int .i64 a0_0, .slice A0_1 l0_1.length c0_1]) (t := 24) ?hr ?_; (case hd => rfl); (case hg => rfl); (case hr => first | (go_simp; done) | (go_simp; rfl) | (go_simp; congr 4; (try congr 1); (try simp only [IntKind.wrap_u8, IntKind.wrap_u32]); (try unfold wrap64); omega)); intro gb157 hg w13 hbox hb; have n0_ := Aside0.mk (below_step (by repeat (first | (with_reducible first | exact HB.out | apply below_alloc | apply pw_below_drewN | apply below_drew1) | exact HB.out)) hb); have n1_ := Aside0.mk (hbox); have n2_ := Aside0.mk ((by rw [hg]; exact (below_size (by repeat (first | (with_reducible first | exact HB.out | apply below_alloc | apply pw_below_drewN | apply below_drew1) | exact HB.out))) : w.heap.size ≤ gb157)); have n3_ := Aside0.mk ((by rw [hg]; exact (below_size (by repeat (first | (with_reducible first | exact HB.out | apply below_alloc | apply pw_below_drewN | apply below_drew1) | exact HB.out))) : w.heap.size ≤ gb157)); clear HB; have HB := n0_; have BK157 := n1_; have GW157 := n2_; have GE157 := n3_; clear n0_ n1_ n2_ n3_; clear hb hbox hg))
        (try simp only [Act.put, List.setIfInBounds_toArray, List.set_cons_zero, List.set_cons_succ])
        go_cut [15] (fun v15 wc => ∃ (kq : Nat) (x15_11 : ByteArray), v15 = .string x15_11 ∧ Aside0 (ammonitelaw4_SqueezeTells.j0 kq a3 a4 a5 a6 x15_11 a0_0 l0_1 = some r) ∧ Aside0 (kq ≤ k) ∧ Aside0 (wc.heap[gb157]? = some (.cells #[.int .i64 a0_0, (.slice A0_1 l0_1.length c0_1)] 24 (0, 0))) ∧ Aside0 (Below w.heap.size w wc))
        case first =>
          have H := HC12.out
          clear HC12
          by_cases c14 : (Go.bits .and .i64 a5 1) = 1
          · rw [if_pos c14] at H
            have c14b0 : ((Go.bits .and .i64 a5 1) == 1) = true := beq_iff_eq.mpr c14
            have c14b1 : ((Go.bits .and .i64 a5 1) != 1) = false := bne_eq_false_iff_eq.mpr c14
            clear c14
            (first | rw [c14b0] | (simp only [i64_w, i32_w]; rw [c14b0]) | skip)
            replace H := Option.bind_eq_some_iff.mp H
            obtain ⟨t158, A150, H⟩ := H
            replace H : (ammonitelaw4_SqueezeTells.j0 k a3 a4 a5 a6 t158 a0_0 l0_1) = some r := H
            have A15 := Aside0.mk A150
            clear A150
            have H' := Aside0.mk H
            clear H
            go_wp2_with (first | ((with_reducible refine gate_callee (f := 5) rfl ?_); refine goesL_ (some 32) rfl rfl Try.func5 (by kernel_rfl) rfl #[.slice A2 l2.length c2] rfl (by (try simp only [List.map_toArray, List.map_cons, List.map_nil]); first | done | rfl | (simp only [List.length_drop, List.length_take]; rfl)) ?_; (with_reducible refine (ammonitekeep_Pieces.calls k _ _ l2 t158 _ ?side1 ?side2 A15.out).mono ?_); (case side1 => repeat (first | exact (Kd.C_below HR2.out HB.out) | (with_reducible refine Kd.C_alloc ?_ _) | (with_reducible refine Kd.C_drewN ?_ _) | (with_reducible refine Kd.C_drew ?_))); (case side2 => exact HC2.out); rintro e w16 ⟨rfl, hb⟩; refine ⟨_, rfl, ?_⟩; have n0_ := Aside0.mk (blk_below (g := gb157) (o := .cells #[.int .i64 a0_0, .slice A0_1 l0_1.length c0_1] 24 (0, 0)) (by (with_reducible repeat (first | refine blk_drewN ?_ _ | refine blk_drew ?_ | refine blk_alloc ?_ _)); exact BK157.out) hb); have n1_ := Aside0.mk (below_step (by repeat (first | (with_reducible first | exact HB.out | apply below_alloc | apply pw_below_drewN | apply below_drew1 | refine below_set ?_ GE157.out) | exact HB.out)) hb); clear BK157; clear HB; have BK157 := n0_; have HB := n1_; clear n0_ n1_; (try clear hb); (try clear hb2); (try clear hk); (try clear hi)))
            go_meet
            case rel => exact ⟨_, (t158), (by first | rfl | (simp; done) | (simp [*]; done)), H', ⟨by first | omega | exact Nat.le_refl _⟩, ⟨by (with_reducible repeat (first | refine blk_drewN ?_ _ | refine blk_drew ?_ | refine blk_alloc ?_ _)); exact BK157.out⟩, ⟨by repeat (first | (with_reducible first | exact HB.out | apply below_alloc | apply pw_below_drewN | apply below_drew1 | refine below_set ?_ GE157.out) | exact HB.out)⟩⟩
            all_goals (exfalso; (try simp only [beq_iff_eq, bne_iff_ne, ne_eq, decide_eq_true_eq, decide_eq_false_iff_not, decide_eq_decide, bne_eq_false_iff_eq, beq_eq_false_iff_ne, Bool.not_eq_true, Bool.not_eq_false, Bool.not_eq_true', Bool.not_eq_false', Bool.true_beq, Bool.false_beq, Bool.true_bne, Bool.false_bne, Bool.bne_true, Bool.bne_false] at c9b0); (try simp only [beq_iff_eq, bne_iff_ne, ne_eq, decide_eq_true_eq, decide_eq_false_iff_not, decide_eq_decide, bne_eq_false_iff_eq, beq_eq_false_iff_ne, Bool.not_eq_true, Bool.not_eq_false, Bool.not_eq_true', Bool.not_eq_false', Bool.true_beq, Bool.false_beq, Bool.true_bne, Bool.false_bne, Bool.bne_true, Bool.bne_false] at c9b1); (try simp only [beq_iff_eq, bne_iff_ne, ne_eq, decide_eq_true_eq, decide_eq_false_iff_not, decide_eq_decide, bne_eq_false_iff_eq, beq_eq_false_iff_ne, Bool.not_eq_true, Bool.not_eq_false, Bool.not_eq_true', Bool.not_eq_false', Bool.true_beq, Bool.false_beq, Bool.true_bne, Bool.false_bne, Bool.bne_true, Bool.bne_false] at c10b0); (try simp only [beq_iff_eq, bne_iff_ne, ne_eq, decide_eq_true_eq, decide_eq_false_iff_not, decide_eq_decide, bne_eq_false_iff_eq, beq_eq_false_iff_ne, Bool.not_eq_true, Bool.not_eq_false, Bool.not_eq_true', Bool.not_eq_false', Bool.true_beq, Bool.false_beq, Bool.true_bne, Bool.false_bne, Bool.bne_true, Bool.bne_false] at c10b1); (try simp only [beq_iff_eq, bne_iff_ne, ne_eq, decide_eq_true_eq, decide_eq_false_iff_not, decide_eq_decide, bne_eq_false_iff_eq, beq_eq_false_iff_ne, Bool.not_eq_true, Bool.not_eq_false, Bool.not_eq_true', Bool.not_eq_false', Bool.true_beq, Bool.false_beq, Bool.true_bne, Bool.false_bne, Bool.bne_true, Bool.bne_false] at c11b0); (try simp only [beq_iff_eq, bne_iff_ne, ne_eq, decide_eq_true_eq, decide_eq_false_iff_not, decide_eq_decide, bne_eq_false_iff_eq, beq_eq_false_iff_ne, Bool.not_eq_true, Bool.not_eq_false, Bool.not_eq_true', Bool.not_eq_false', Bool.true_beq, Bool.false_beq, Bool.true_bne, Bool.false_bne, Bool.bne_true, Bool.bne_false] at c11b1); (try simp only [beq_iff_eq, bne_iff_ne, ne_eq, decide_eq_true_eq, decide_eq_false_iff_not, decide_eq_decide, bne_eq_false_iff_eq, beq_eq_false_iff_ne, Bool.not_eq_true, Bool.not_eq_false, Bool.not_eq_true', Bool.not_eq_false', Bool.true_beq, Bool.false_beq, Bool.true_bne, Bool.false_bne, Bool.bne_true, Bool.bne_false] at c14b0); (try simp only [beq_iff_eq, bne_iff_ne, ne_eq, decide_eq_true_eq, decide_eq_false_iff_not, decide_eq_decide, bne_eq_false_iff_eq, beq_eq_false_iff_ne, Bool.not_eq_true, Bool.not_eq_false, Bool.not_eq_true', Bool.not_eq_false', Bool.true_beq, Bool.false_beq, Bool.true_bne, Bool.false_bne, Bool.bne_true, Bool.bne_false] at c14b1); (try unfold wrap64 at *); omega)
          · rw [if_neg c14] at H
            have c14b0 : ((Go.bits .and .i64 a5 1) == 1) = false := beq_eq_false_iff_ne.mpr c14
            have c14b1 : ((Go.bits .and .i64 a5 1) != 1) = true := bne_iff_ne.mpr c14
            (first | rw [c14b0] | (simp only [i64_w, i32_w]; rw [c14b0]) | skip)
            have H' := Aside0.mk H
            clear H
            go_wp2
            go_meet
            case rel => exact ⟨_, (catS (⟨#[57, 59]⟩ : ByteArray) (cutS a1 0 ((ji8) : Int).toNat)), (by first | rfl | (simp; done) | (simp only [← hji8] <;> (first | rfl | simp)) | (simp [*]; done)), H', ⟨by first | omega | exact Nat.le_refl _⟩, ⟨by (with_reducible repeat (first | refine blk_drewN ?_ _ | refine blk_drew ?_ | refine blk_alloc ?_ _)); exact BK157.out⟩, ⟨by repeat (first | (with_reducible first | exact HB.out | apply below_alloc | apply pw_below_drewN | apply below_drew1 | refine below_set ?_ GE157.out) | exact HB.out)⟩⟩
            all_goals (exfalso; (try simp only [beq_iff_eq, bne_iff_ne, ne_eq, decide_eq_true_eq, decide_eq_false_iff_not, decide_eq_decide, bne_eq_false_iff_eq, beq_eq_false_iff_ne, Bool.not_eq_true, Bool.not_eq_false, Bool.not_eq_true', Bool.not_eq_false', Bool.true_beq, Bool.false_beq, Bool.true_bne, Bool.false_bne, Bool.bne_true, Bool.bne_false] at c9b0); (try simp only [beq_iff_eq, bne_iff_ne, ne_eq, decide_eq_true_eq, decide_eq_false_iff_not, decide_eq_decide, bne_eq_false_iff_eq, beq_eq_false_iff_ne, Bool.not_eq_true, Bool.not_eq_false, Bool.not_eq_true', Bool.not_eq_false', Bool.true_beq, Bool.false_beq, Bool.true_bne, Bool.false_bne, Bool.bne_true, Bool.bne_false] at c9b1); (try simp only [beq_iff_eq, bne_iff_ne, ne_eq, decide_eq_true_eq, decide_eq_false_iff_not, decide_eq_decide, bne_eq_false_iff_eq, beq_eq_false_iff_ne, Bool.not_eq_true, Bool.not_eq_false, Bool.not_eq_true', Bool.not_eq_false', Bool.true_beq, Bool.false_beq, Bool.true_bne, Bool.false_bne, Bool.bne_true, Bool.bne_false] at c10b0); (try simp only [beq_iff_eq, bne_iff_ne, ne_eq, decide_eq_true_eq, decide_eq_false_iff_not, decide_eq_decide, bne_eq_false_iff_eq, beq_eq_false_iff_ne, Bool.not_eq_true, Bool.not_eq_false, Bool.not_eq_true', Bool.not_eq_false', Bool.true_beq, Bool.false_beq, Bool.true_bne, Bool.false_bne, Bool.bne_true, Bool.bne_false] at c10b1); (try simp only [beq_iff_eq, bne_iff_ne, ne_eq, decide_eq_true_eq, decide_eq_false_iff_not, decide_eq_decide, bne_eq_false_iff_eq, beq_eq_false_iff_ne, Bool.not_eq_true, Bool.not_eq_false, Bool.not_eq_true', Bool.not_eq_false', Bool.true_beq, Bool.false_beq, Bool.true_bne, Bool.false_bne, Bool.bne_true, Bool.bne_false] at c11b0); (try simp only [beq_iff_eq, bne_iff_ne, ne_eq, decide_eq_true_eq, decide_eq_false_iff_not, decide_eq_decide, bne_eq_false_iff_eq, beq_eq_false_iff_ne, Bool.not_eq_true, Bool.not_eq_false, Bool.not_eq_true', Bool.not_eq_false', Bool.true_beq, Bool.false_beq, Bool.true_bne, Bool.false_bne, Bool.bne_true, Bool.bne_false] at c11b1); (try simp only [beq_iff_eq, bne_iff_ne, ne_eq, decide_eq_true_eq, decide_eq_false_iff_not, decide_eq_decide, bne_eq_false_iff_eq, beq_eq_false_iff_ne, Bool.not_eq_true, Bool.not_eq_false, Bool.not_eq_true', Bool.not_eq_false', Bool.true_beq, Bool.false_beq, Bool.true_bne, Bool.false_bne, Bool.bne_true, Bool.bne_false] at c14b0); (try simp only [beq_iff_eq, bne_iff_ne, ne_eq, decide_eq_true_eq, decide_eq_false_iff_not, decide_eq_decide, bne_eq_false_iff_eq, beq_eq_false_iff_ne, Bool.not_eq_true, Bool.not_eq_false, Bool.not_eq_true', Bool.not_eq_false', Bool.true_beq, Bool.false_beq, Bool.true_bne, Bool.false_bne, Bool.bne_true, Bool.bne_false] at c14b1); (try unfold wrap64 at *); omega)
        case rest =>
          clear HC12
          try clear c1
          try clear c2
          try clear p2
          try clear c3
          try clear c5
          try clear p6
          try clear c9
          try clear c9b0
          try clear c9b1
          try clear c10
          try clear c10b0
          try clear c10b1
          try clear c11
          try clear c11b0
          try clear c11b1
          try clear c11b2
          try clear c14
          try clear c14b0
          try clear c14b1
          obtain ⟨kq, x15_11, rfl, HA, HJ11, BK157, HB⟩ := hcut
          cases kq with
          | zero => exact absurd HA.out (by simp [ammonitelaw4_SqueezeTells.j0])
          | succ kj11 =>
            have H := HA.out
            clear HA
            simp only [ammonitelaw4_SqueezeTells.j0] at H
            have HC17 := Aside0.mk H
            clear H
            go_upto_if 35 with (fail)
            go_cut [15] (fun v15 wc => ∃ (kq : Nat) (x15_16 : ByteArray), v15 = .string x15_16 ∧ Aside0 (ammonitelaw4_SqueezeTells.j1 kq a3 a4 a5 a6 x15_16 = some r) ∧ Aside0 (kq ≤ kj11) ∧ Aside0 (wc.heap[gb157]? = some (.cells #[.int .i64 a0_0, (.slice A0_1 l0_1.length c0_1)] 24 (0, 0))) ∧ Aside0 (Below w.heap.size w wc))
            case first =>
              have H := HC17.out
              clear HC17
              by_cases c18 : (Go.bits .and .i64 a5 3) = 2
              · rw [if_pos c18] at H
                have c18b0 : ((Go.bits .and .i64 a5 3) == 2) = true := beq_iff_eq.mpr c18
                have c18b1 : ((Go.bits .and .i64 a5 3) != 2) = false := bne_eq_false_iff_eq.mpr c18
                clear c18
                (first | rw [c18b0] | (simp only [i64_w, i32_w]; rw [c18b0]) | skip)
                replace H := Option.bind_eq_some_iff.mp H
                obtain ⟨t159, A190, H⟩ := H
                replace H : ((squeeze_Press.f t159).bind fun t160 => (ammonitelaw4_SqueezeTells.j1 kj11 a3 a4 a5 a6 t160)) = some r := H
                have A19 := Aside0.mk A190
                clear A190
                replace H := Option.bind_eq_some_iff.mp H
                obtain ⟨t160, A200, H⟩ := H
                replace H : (ammonitelaw4_SqueezeTells.j1 kj11 a3 a4 a5 a6 t160) = some r := H
                have A20 := Aside0.mk A200
                clear A200
                have H' := Aside0.mk H
                clear H
                have hcz21_0 : wc.cell? ⟨gb157, 0, none⟩ = some (.int .i64 a0_0) := (blk_cell BK157.out 0).trans rfl
                have hcz21_1 : wc.cell? ⟨gb157, 1, none⟩ = some (.slice A0_1 l0_1.length c0_1) := (blk_cell BK157.out 1).trans rfl
                have hfz21_0 := blk_frozen BK157.out 0
                have hfz21_1 := blk_frozen BK157.out 1
                go_wp2_with (first | ((with_reducible refine gate_callee (f := 7) rfl ?_); refine goesL_ (some 37) rfl rfl Try.func7 (by kernel_rfl) rfl #[.agg #[.int .i64 a0_0, .slice A0_1 l0_1.length c0_1]] rfl (by (try simp only [List.map_toArray, List.map_cons, List.map_nil]); first | done | rfl | (simp only [List.length_drop, List.length_take]; rfl)) ?_; (with_reducible refine (ammonitekeep_Text_Text.calls kj11 a0_0 _ _ l0_1 t159 _ ?side1 ?side2 A19.out).mono ?_); (case side1 => repeat (first | exact (Kd.C_below HR0_1.out HB.out) | (with_reducible refine Kd.C_alloc ?_ _) | (with_reducible refine Kd.C_drewN ?_ _) | (with_reducible refine Kd.C_drew ?_))); (case side2 => exact HC0_1.out); rintro e w22 ⟨rfl, hb⟩; refine ⟨_, rfl, ?_⟩; have n0_ := Aside0.mk (blk_below (g := gb157) (o := .cells #[.int .i64 a0_0, .slice A0_1 l0_1.length c0_1] 24 (0, 0)) (by (with_reducible repeat (first | refine blk_drewN ?_ _ | refine blk_drew ?_ | refine blk_alloc ?_ _)); exact BK157.out) hb); have n1_ := Aside0.mk (below_step (by repeat (first | (with_reducible first | exact HB.out | apply below_alloc | apply pw_below_drewN | apply below_drew1 | refine below_set ?_ GE157.out) | exact HB.out)) hb); clear BK157; clear HB; have BK157 := n0_; have HB := n1_; clear n0_ n1_; (try clear hb); (try clear hb2); (try clear hk); (try clear hi)) | ((with_reducible refine gate_callee (f := 6) rfl ?_); refine goesL_ (some 38) rfl rfl Try.func6 (by kernel_rfl) rfl #[.string t159] rfl (by (try simp only [List.map_toArray, List.map_cons, List.map_nil]); first | done | rfl | (simp only [List.length_drop, List.length_take]; rfl)) ?_; (with_reducible refine (squeeze_Press.calls t159 t160 _ A20.out).mono ?_); rintro e w23 ⟨rfl, hb⟩; refine ⟨_, rfl, ?_⟩; have n0_ := Aside0.mk (blk_below (g := gb157) (o := .cells #[.int .i64 a0_0, .slice A0_1 l0_1.length c0_1] 24 (0, 0)) (by (with_reducible repeat (first | refine blk_drewN ?_ _ | refine blk_drew ?_ | refine blk_alloc ?_ _)); exact BK157.out) hb); have n1_ := Aside0.mk (below_step (by repeat (first | (with_reducible first | exact HB.out | apply below_alloc | apply pw_below_drewN | apply below_drew1 | refine below_set ?_ GE157.out) | exact HB.out)) hb); clear BK157; clear HB; have BK157 := n0_; have HB := n1_; clear n0_ n1_; (try clear hb); (try clear hb2); (try clear hk); (try clear hi)))
                go_meet
                case rel => exact ⟨_, (t160), (by first | rfl | (simp; done) | (simp [*]; done)), H', ⟨by have := HJ11.out; first | omega | exact Nat.le_refl _⟩, ⟨by (with_reducible repeat (first | refine blk_drewN ?_ _ | refine blk_drew ?_ | refine blk_alloc ?_ _)); exact BK157.out⟩, ⟨by repeat (first | (with_reducible first | exact HB.out | apply below_alloc | apply pw_below_drewN | apply below_drew1 | refine below_set ?_ GE157.out) | exact HB.out)⟩⟩
                all_goals (exfalso; (try simp only [beq_iff_eq, bne_iff_ne, ne_eq, decide_eq_true_eq, decide_eq_false_iff_not, decide_eq_decide, bne_eq_false_iff_eq, beq_eq_false_iff_ne, Bool.not_eq_true, Bool.not_eq_false, Bool.not_eq_true', Bool.not_eq_false', Bool.true_beq, Bool.false_beq, Bool.true_bne, Bool.false_bne, Bool.bne_true, Bool.bne_false] at c9b0); (try simp only [beq_iff_eq, bne_iff_ne, ne_eq, decide_eq_true_eq, decide_eq_false_iff_not, decide_eq_decide, bne_eq_false_iff_eq, beq_eq_false_iff_ne, Bool.not_eq_true, Bool.not_eq_false, Bool.not_eq_true', Bool.not_eq_false', Bool.true_beq, Bool.false_beq, Bool.true_bne, Bool.false_bne, Bool.bne_true, Bool.bne_false] at c9b1); (try simp only [beq_iff_eq, bne_iff_ne, ne_eq, decide_eq_true_eq, decide_eq_false_iff_not, decide_eq_decide, bne_eq_false_iff_eq, beq_eq_false_iff_ne, Bool.not_eq_true, Bool.not_eq_false, Bool.not_eq_true', Bool.not_eq_false', Bool.true_beq, Bool.false_beq, Bool.true_bne, Bool.false_bne, Bool.bne_true, Bool.bne_false] at c10b0); (try simp only [beq_iff_eq, bne_iff_ne, ne_eq, decide_eq_true_eq, decide_eq_false_iff_not, decide_eq_decide, bne_eq_false_iff_eq, beq_eq_false_iff_ne, Bool.not_eq_true, Bool.not_eq_false, Bool.not_eq_true', Bool.not_eq_false', Bool.true_beq, Bool.false_beq, Bool.true_bne, Bool.false_bne, Bool.bne_true, Bool.bne_false] at c10b1); (try simp only [beq_iff_eq, bne_iff_ne, ne_eq, decide_eq_true_eq, decide_eq_false_iff_not, decide_eq_decide, bne_eq_false_iff_eq, beq_eq_false_iff_ne, Bool.not_eq_true, Bool.not_eq_false, Bool.not_eq_true', Bool.not_eq_false', Bool.true_beq, Bool.false_beq, Bool.true_bne, Bool.false_bne, Bool.bne_true, Bool.bne_false] at c11b0); (try simp only [beq_iff_eq, bne_iff_ne, ne_eq, decide_eq_true_eq, decide_eq_false_iff_not, decide_eq_decide, bne_eq_false_iff_eq, beq_eq_false_iff_ne, Bool.not_eq_true, Bool.not_eq_false, Bool.not_eq_true', Bool.not_eq_false', Bool.true_beq, Bool.false_beq, Bool.true_bne, Bool.false_bne, Bool.bne_true, Bool.bne_false] at c11b1); (try simp only [beq_iff_eq, bne_iff_ne, ne_eq, decide_eq_true_eq, decide_eq_false_iff_not, decide_eq_decide, bne_eq_false_iff_eq, beq_eq_false_iff_ne, Bool.not_eq_true, Bool.not_eq_false, Bool.not_eq_true', Bool.not_eq_false', Bool.true_beq, Bool.false_beq, Bool.true_bne, Bool.false_bne, Bool.bne_true, Bool.bne_false] at c18b0); (try simp only [beq_iff_eq, bne_iff_ne, ne_eq, decide_eq_true_eq, decide_eq_false_iff_not, decide_eq_decide, bne_eq_false_iff_eq, beq_eq_false_iff_ne, Bool.not_eq_true, Bool.not_eq_false, Bool.not_eq_true', Bool.not_eq_false', Bool.true_beq, Bool.false_beq, Bool.true_bne, Bool.false_bne, Bool.bne_true, Bool.bne_false] at c18b1); (try unfold wrap64 at *); omega)
              · rw [if_neg c18] at H
                have c18b0 : ((Go.bits .and .i64 a5 3) == 2) = false := beq_eq_false_iff_ne.mpr c18
                have c18b1 : ((Go.bits .and .i64 a5 3) != 2) = true := bne_iff_ne.mpr c18
                (first | rw [c18b0] | (simp only [i64_w, i32_w]; rw [c18b0]) | skip)
                have H' := Aside0.mk H
                clear H
                go_wp2
                go_meet
                case rel => exact ⟨_, (x15_11), (by first | rfl | (simp; done) | (simp [*]; done)), H', ⟨by have := HJ11.out; first | omega | exact Nat.le_refl _⟩, ⟨by (with_reducible repeat (first | refine blk_drewN ?_ _ | refine blk_drew ?_ | refine blk_alloc ?_ _)); exact BK157.out⟩, ⟨by repeat (first | (with_reducible first | exact HB.out | apply below_alloc | apply pw_below_drewN | apply below_drew1 | refine below_set ?_ GE157.out) | exact HB.out)⟩⟩
                all_goals (exfalso; (try simp only [beq_iff_eq, bne_iff_ne, ne_eq, decide_eq_true_eq, decide_eq_false_iff_not, decide_eq_decide, bne_eq_false_iff_eq, beq_eq_false_iff_ne, Bool.not_eq_true, Bool.not_eq_false, Bool.not_eq_true', Bool.not_eq_false', Bool.true_beq, Bool.false_beq, Bool.true_bne, Bool.false_bne, Bool.bne_true, Bool.bne_false] at c9b0); (try simp only [beq_iff_eq, bne_iff_ne, ne_eq, decide_eq_true_eq, decide_eq_false_iff_not, decide_eq_decide, bne_eq_false_iff_eq, beq_eq_false_iff_ne, Bool.not_eq_true, Bool.not_eq_false, Bool.not_eq_true', Bool.not_eq_false', Bool.true_beq, Bool.false_beq, Bool.true_bne, Bool.false_bne, Bool.bne_true, Bool.bne_false] at c9b1); (try simp only [beq_iff_eq, bne_iff_ne, ne_eq, decide_eq_true_eq, decide_eq_false_iff_not, decide_eq_decide, bne_eq_false_iff_eq, beq_eq_false_iff_ne, Bool.not_eq_true, Bool.not_eq_false, Bool.not_eq_true', Bool.not_eq_false', Bool.true_beq, Bool.false_beq, Bool.true_bne, Bool.false_bne, Bool.bne_true, Bool.bne_false] at c10b0); (try simp only [beq_iff_eq, bne_iff_ne, ne_eq, decide_eq_true_eq, decide_eq_false_iff_not, decide_eq_decide, bne_eq_false_iff_eq, beq_eq_false_iff_ne, Bool.not_eq_true, Bool.not_eq_false, Bool.not_eq_true', Bool.not_eq_false', Bool.true_beq, Bool.false_beq, Bool.true_bne, Bool.false_bne, Bool.bne_true, Bool.bne_false] at c10b1); (try simp only [beq_iff_eq, bne_iff_ne, ne_eq, decide_eq_true_eq, decide_eq_false_iff_not, decide_eq_decide, bne_eq_false_iff_eq, beq_eq_false_iff_ne, Bool.not_eq_true, Bool.not_eq_false, Bool.not_eq_true', Bool.not_eq_false', Bool.true_beq, Bool.false_beq, Bool.true_bne, Bool.false_bne, Bool.bne_true, Bool.bne_false] at c11b0); (try simp only [beq_iff_eq, bne_iff_ne, ne_eq, decide_eq_true_eq, decide_eq_false_iff_not, decide_eq_decide, bne_eq_false_iff_eq, beq_eq_false_iff_ne, Bool.not_eq_true, Bool.not_eq_false, Bool.not_eq_true', Bool.not_eq_false', Bool.true_beq, Bool.false_beq, Bool.true_bne, Bool.false_bne, Bool.bne_true, Bool.bne_false] at c11b1); (try simp only [beq_iff_eq, bne_iff_ne, ne_eq, decide_eq_true_eq, decide_eq_false_iff_not, decide_eq_decide, bne_eq_false_iff_eq, beq_eq_false_iff_ne, Bool.not_eq_true, Bool.not_eq_false, Bool.not_eq_true', Bool.not_eq_false', Bool.true_beq, Bool.false_beq, Bool.true_bne, Bool.false_bne, Bool.bne_true, Bool.bne_false] at c18b0); (try simp only [beq_iff_eq, bne_iff_ne, ne_eq, decide_eq_true_eq, decide_eq_false_iff_not, decide_eq_decide, bne_eq_false_iff_eq, beq_eq_false_iff_ne, Bool.not_eq_true, Bool.not_eq_false, Bool.not_eq_true', Bool.not_eq_false', Bool.true_beq, Bool.false_beq, Bool.true_bne, Bool.false_bne, Bool.bne_true, Bool.bne_false] at c18b1); (try unfold wrap64 at *); omega)
            case rest =>
              clear HC17
              try clear c1
              try clear c2
              try clear p2
              try clear c3
              try clear c5
              try clear c6
              try clear p6
              try clear c7
              try clear c9
              try clear c9b0
              try clear c9b1
              try clear c10
              try clear c10b0
              try clear c10b1
              try clear c11
              try clear c11b0
              try clear c11b1
              try clear c11b2
              try clear c14
              try clear c14b0
              try clear c14b1
              try clear c18
              try clear c18b0
              try clear c18b1
              try clear hcz21_0
              try clear hcz21_1
              try clear hfz21_0
              try clear hfz21_1
              try clear p2
              try clear p6
              obtain ⟨kq, x15_16, rfl, HA, HJ16, BK157, HB⟩ := hcut
              cases kq with
              | zero => exact absurd HA.out (by simp [ammonitelaw4_SqueezeTells.j1])
              | succ kj16 =>
                have H := HA.out
                clear HA
                simp only [ammonitelaw4_SqueezeTells.j1] at H
                by_cases c24 : (x15_16.size : Int) = 0
                · rw [if_pos c24] at H
                  have c24b0 : ((x15_16.size : Int) == 0) = true := beq_iff_eq.mpr c24
                  have c24b1 : ((x15_16.size : Int) != 0) = false := bne_eq_false_iff_eq.mpr c24
                  clear c24
                  exact absurd ((Option.some.inj H).trans HRT.out) Bool.false_ne_true
                · rw [if_neg c24] at H
                  have c24b0 : ((x15_16.size : Int) == 0) = false := beq_eq_false_iff_ne.mpr c24
                  have c24b1 : ((x15_16.size : Int) != 0) = true := bne_iff_ne.mpr c24
                  replace H := Option.bind_eq_some_iff.mp H
                  obtain ⟨t161, A250, H⟩ := H
                  replace H : (if (Go.bits .and .i64 (a5 / 4) 3) = 0 then (if 0 ≤ t161 then (if t161 ≤ (x15_16.size : Int) then ((some (([a4] : List Int) : List Int)).bind fun y162 => (if (cutS x15_16 0 (t161 : Int).toNat).size + (strOfNums y162).size ≤ 9223372036854775807 then (if 0 ≤ (wrap64 (t161 + 1)) then (if (wrap64 (t161 + 1)) ≤ (x15_16.size : Int) then (if (catS (cutS x15_16 0 (t161 : Int).toNat) (strOfNums y162)).size + (cutS x15_16 ((wrap64 (t161 + 1)) : Int).toNat x15_16.size).size ≤ 9223372036854775807 then (ammonitelaw4_SqueezeTells.j2 kj16 a6 (catS (catS (cutS x15_16 0 (t161 : Int).toNat) (strOfNums y162)) (cutS x15_16 ((wrap64 (t161 + 1)) : Int).toNat x15_16.size))) else (none)) else (none)) else (none)) else (none))) else (none)) else (none)) else (if (Go.bits .and .i64 (a5 / 4) 3) = 1 then (if 0 ≤ t161 then (if t161 ≤ (x15_16.size : Int) then (ammonitelaw4_SqueezeTells.j2 kj16 a6 (cutS x15_16 0 (t161 : Int).toNat)) else (none)) else (none)) else (ammonitelaw4_SqueezeTells.j2 kj16 a6 x15_16))) = some r := H
                  have A25 := Aside0.mk A250
                  clear A250
                  have HC26 := Aside0.mk H
                  clear H
                  go_upto_block 0 with (first | ((with_reducible refine gate_callee (f := 8) rfl ?_); refine goesL_ (some 46) rfl rfl Try.func8 (by kernel_rfl) rfl #[.int .i64 a3, .int .i64 0, .int .i64 (wrap64 ((x15_16.size : Int) - 1))] rfl (by (try simp only [List.map_toArray, List.map_cons, List.map_nil]); first | done | rfl | (simp only [List.length_drop, List.length_take]; rfl)) ?_; (with_reducible refine (ammonitebook_Within.calls a3 0 (wrap64 ((x15_16.size : Int) - 1)) t161 _ A25.out).mono ?_); rintro e w' ⟨rfl, ⟨nd, rfl⟩⟩; refine ⟨_, rfl, ?_⟩))
                  (try simp only [Act.put, List.setIfInBounds_toArray, List.set_cons_zero, List.set_cons_succ])
                  go_cut [15] (fun v15 wc => ∃ (kq : Nat) (x15_25 : ByteArray), v15 = .string x15_25 ∧ Aside0 (ammonitelaw4_SqueezeTells.j2 kq a6 x15_25 = some r) ∧ Aside0 (kq ≤ kj16) ∧ Aside0 (wc.heap[gb157]? = some (.cells #[.int .i64 a0_0, (.slice A0_1 l0_1.length c0_1)] 24 (0, 0))) ∧ Aside0 (Below w.heap.size w wc))
                  case first =>
                    have H := HC26.out
                    clear HC26
                    by_cases c27 : (Go.bits .and .i64 (a5 / 4) 3) = 0
                    · rw [if_pos c27] at H
                      have c27b0 : ((Go.bits .and .i64 (a5 / 4) 3) == 0) = true := beq_iff_eq.mpr c27
                      have c27b1 : ((Go.bits .and .i64 (a5 / 4) 3) != 0) = false := bne_eq_false_iff_eq.mpr c27
                      clear c27
                      (first | rw [c27b0] | (simp only [i64_w, i32_w]; rw [c27b0]) | skip)
                      by_cases c28 : 0 ≤ t161
                      · rw [if_pos c28] at H
                        have c28b0 := eq_true c28
                        have c28b1 : decide (0 ≤ t161) = true := decide_eq_true c28
                        clear c28
                        by_cases c29 : t161 ≤ (x15_16.size : Int)
                        · rw [if_pos c29] at H
                          have c29b0 := eq_true c29
                          have c29b1 : decide (t161 ≤ (x15_16.size : Int)) = true := decide_eq_true c29
                          clear c29
                          obtain ⟨y162, hy162⟩ : ∃ y_ : List Int, y_ = (([a4] : List Int)) := ⟨_, rfl⟩
                          replace H : (if (cutS x15_16 0 (t161 : Int).toNat).size + (strOfNums y162).size ≤ 9223372036854775807 then (if 0 ≤ (wrap64 (t161 + 1)) then (if (wrap64 (t161 + 1)) ≤ (x15_16.size : Int) then (if (catS (cutS x15_16 0 (t161 : Int).toNat) (strOfNums y162)).size + (cutS x15_16 ((wrap64 (t161 + 1)) : Int).toNat x15_16.size).size ≤ 9223372036854775807 then (ammonitelaw4_SqueezeTells.j2 kj16 a6 (catS (catS (cutS x15_16 0 (t161 : Int).toNat) (strOfNums y162)) (cutS x15_16 ((wrap64 (t161 + 1)) : Int).toNat x15_16.size))) else (none)) else (none)) else (none)) else (none)) = some r := by first | (rw [hy162]; with_reducible exact H) | (have H2_ := (Option.bind_some _ _).symm.trans H; rw [hy162]; with_reducible exact H2_) | (have H2_ := (Option.bind_some _ _).symm.trans H; with_reducible exact H2_) | with_reducible exact H | (rw [hy162]; exact H) | exact H
                          have Ny162 := Aside0.mk hy162
                          clear hy162
                          by_cases c30 : (cutS x15_16 0 (t161 : Int).toNat).size + (strOfNums y162).size ≤ 9223372036854775807
                          · rw [if_pos c30] at H
                            have c30b0 := eq_true c30
                            have c30b1 : decide ((cutS x15_16 0 (t161 : Int).toNat).size + (strOfNums y162).size ≤ 9223372036854775807) = true := decide_eq_true c30
                            try have c30b2 : (9223372036854775807 < (cutS x15_16 0 (t161 : Int).toNat).size + (strOfNums y162).size) = False := eq_false (Nat.not_lt.2 c30)
                            clear c30
                            obtain ⟨ji31, hji31⟩ : ∃ j_ : Int, (wrap64 (t161 + 1)) = j_ := ⟨_, rfl⟩
                            replace H : (if 0 ≤ (ji31) then (if (ji31) ≤ (x15_16.size : Int) then (if (catS (cutS x15_16 0 (t161 : Int).toNat) (strOfNums y162)).size + (cutS x15_16 ((ji31) : Int).toNat x15_16.size).size ≤ 9223372036854775807 then (ammonitelaw4_SqueezeTells.j2 kj16 a6 (catS (catS (cutS x15_16 0 (t161 : Int).toNat) (strOfNums y162)) (cutS x15_16 ((ji31) : Int).toNat x15_16.size))) else (none)) else (none)) else (none)) = some r := by first | (rw [hji31] at H; exact H) | (simp only [hji31] at H ⊢; exact H)
                            have hji31w : (IntKind.i64.wrap (t161 + 1)) = ji31 := (i64_w _).trans hji31
                            by_cases c32 : 0 ≤ (ji31)
                            · rw [if_pos c32] at H
                              have c32b0 := eq_true c32
                              have c32b1 : decide (0 ≤ (ji31)) = true := decide_eq_true c32
                              clear c32
                              by_cases c33 : (ji31) ≤ (x15_16.size : Int)
                              · rw [if_pos c33] at H
                                have c33b0 := eq_true c33
                                have c33b1 : decide ((ji31) ≤ (x15_16.size : Int)) = true := decide_eq_true c33
                                clear c33
                                by_cases c34 : (catS (cutS x15_16 0 (t161 : Int).toNat) (strOfNums y162)).size + (cutS x15_16 ((ji31) : Int).toNat x15_16.size).size ≤ 9223372036854775807
                                · rw [if_pos c34] at H
                                  have c34b0 := eq_true c34
                                  have c34b1 : decide ((catS (cutS x15_16 0 (t161 : Int).toNat) (strOfNums y162)).size + (cutS x15_16 ((ji31) : Int).toNat x15_16.size).size ≤ 9223372036854775807) = true := decide_eq_true c34
                                  try have c34b2 : (9223372036854775807 < (catS (cutS x15_16 0 (t161 : Int).toNat) (strOfNums y162)).size + (cutS x15_16 ((ji31) : Int).toNat x15_16.size).size) = False := eq_false (Nat.not_lt.2 c34)
                                  clear c34
                                  have H' := Aside0.mk H
                                  clear H
                                  try go_wp2
                                  (try (generalize hdn_ : World.drewN wc _ = wdn_ at ⊢; obtain ⟨n_, hdn_⟩ : ∃ n, World.drewN wc n = wdn_ := ⟨_, hdn_⟩; have m0_ := blk_drewN BK157.out n_; rw [hdn_] at m0_; have m0_ := Aside0.mk m0_; have m1_ := pw_below_drewN HB.out n_; rw [hdn_] at m1_; have m1_ := Aside0.mk m1_; clear hdn_ BK157 HB; have BK157 := m0_; have HB := m1_; clear m0_ m1_))
                                  have n0_ := Aside0.mk (blk_drew BK157.out)
                                  have n1_ := Aside0.mk (below_drew1 HB.out)
                                  clear BK157
                                  clear HB
                                  have BK157 := n0_
                                  have HB := n1_
                                  clear n0_ n1_
                                  refine start_ (n := 13) (S := fun w' => True) (ds := []) #[false, false, false, false, false, false, false, false, false, false, false, false, false] (by kernel_rfl) rfl rfl trivial (fun hHeld => ?_); refine with_tabW ammonitelaw4_SqueezeTells.tab11 ammonitelaw4_SqueezeTells.bits11 (fun HT_ HW_ => ?_)
                                  (first | generalize wdn_.drew = w35 at BK157 HB hHeld ⊢ | generalize wc.drew = w35 at BK157 HB hHeld ⊢)
                                  refine pure_ (i := 0) (N := some 52) (v := ?_) (a' := ?_) #[true, false, false, false, false, false, false, false, false, false, false, false, false] rfl rfl (any_of HT_.out (by kernel_rfl)) (fun _ _ _ h => h) (Or.inl ⟨by rfl, ?_⟩) ?_ ?_
                                  rotate_left
                                  · intro w'
                                    go_simp
                                    with_reducible rfl
                                  rotate_left
                                  · simp only [Act.put, List.setIfInBounds_toArray, List.set_cons_zero, List.set_cons_succ, i64_w, i32_w]
                                    rfl
                                  refine pure_ (i := 1) (N := some 53) (v := ?_) (a' := ?_) #[true, true, false, false, false, false, false, false, false, false, false, false, false] rfl rfl (any_of HT_.out (by kernel_rfl)) (fun _ _ _ h => h) (Or.inl ⟨by rfl, ?_⟩) ?_ ?_
                                  rotate_left
                                  · intro w'
                                    go_simp
                                    with_reducible rfl
                                  rotate_left
                                  · simp only [Act.put, List.setIfInBounds_toArray, List.set_cons_zero, List.set_cons_succ, i64_w, i32_w]
                                    rfl
                                  refine pure_ (i := 2) (N := some 54) (v := ?_) (a' := ?_) #[true, true, true, false, false, false, false, false, false, false, false, false, false] rfl rfl (any_of HT_.out (by kernel_rfl)) (fun _ _ _ h => h) (Or.inl ⟨by rfl, ?_⟩) ?_ ?_
                                  rotate_left
                                  · intro w'
                                    go_simp
                                    with_reducible rfl
                                  rotate_left
                                  · simp only [Act.put, List.setIfInBounds_toArray, List.set_cons_zero, List.set_cons_succ, i64_w, i32_w]
                                    rfl
                                  refine pure_ (i := 3) (N := some 55) (v := ?_) (a' := ?_) #[true, true, true, true, false, false, false, false, false, false, false, false, false] rfl rfl (any_of HT_.out (by kernel_rfl)) (fun _ _ _ h => h) (Or.inl ⟨by rfl, ?_⟩) ?_ ?_
                                  rotate_left
                                  · intro w'
                                    go_simp
                                    with_reducible rfl
                                  rotate_left
                                  · simp only [Act.put, List.setIfInBounds_toArray, List.set_cons_zero, List.set_cons_succ, i64_w, i32_w]
                                    rfl
                                  refine pure_ (i := 7) (N := some 59) (v := ?_) (a' := ?_) #[true, true, true, true, false, false, false, true, false, false, false, false, false] rfl rfl (any_of HT_.out (by kernel_rfl)) (fun _ _ _ h => h) (Or.inl ⟨by rfl, ?_⟩) ?_ ?_
                                  rotate_left
                                  · intro w'
                                    go_simp
                                    with_reducible rfl
                                  rotate_left
                                  · simp only [Act.put, List.setIfInBounds_toArray, List.set_cons_zero, List.set_cons_succ, i64_w, i32_w]
                                    rfl
                                  refine pure_ (i := 8) (N := some 60) (v := ?_) (a' := ?_) #[true, true, true, true, false, false, false, true, true, false, false, false, false] rfl rfl (any_of HT_.out (by kernel_rfl)) (fun _ _ _ h => h) (Or.inl ⟨by rfl, ?_⟩) ?_ ?_
                                  rotate_left
                                  · intro w'
                                    go_simp
                                    with_reducible rfl
                                  rotate_left
                                  · simp only [Act.put, List.setIfInBounds_toArray, List.set_cons_zero, List.set_cons_succ, i64_w, i32_w]
                                    rfl
                                  refine pure_ (i := 9) (N := some 61) (v := ?_) (a' := ?_) #[true, true, true, true, false, false, false, true, true, true, false, false, false] rfl rfl (any_of HT_.out (by kernel_rfl)) (fun _ _ _ h => h) (Or.inl ⟨by rfl, ?_⟩) ?_ ?_
                                  rotate_left
                                  · intro w'
                                    go_simp
                                    with_reducible rfl
                                  rotate_left
                                  · simp only [Act.put, List.setIfInBounds_toArray, List.set_cons_zero, List.set_cons_succ, i64_w, i32_w]
                                    rfl
                                  refine pure_ (i := 10) (N := some 62) (v := ?_) (a' := ?_) #[true, true, true, true, false, false, false, true, true, true, true, false, false] rfl rfl (any_of HT_.out (by kernel_rfl)) (fun _ _ _ h => h) (Or.inl ⟨by rfl, ?_⟩) ?_ ?_
                                  rotate_left
                                  · intro w'
                                    go_simp
                                    with_reducible rfl
                                  rotate_left
                                  · simp only [Act.put, List.setIfInBounds_toArray, List.set_cons_zero, List.set_cons_succ, i64_w, i32_w]
                                    rfl
                                  refine one_ (i := 4) (N := some 56) #[true, true, true, true, true, false, false, true, true, true, true, false, false] rfl rfl (one_of HT_.out (by kernel_rfl)) (by decide) (fun K hK => ?_)
                                  refine Kd.R_lit_step (Kd.int .u8) _ 5 ?hg (N := 56) ?hd (xs := ([a4] : List Int)) (inner := [.int .u8 a4]) (ok := fun _ => True) (okp := fun _ => True) ?hr ?hp (fun _ hk => hk) trivial (Below.refl _ _) (Nat.le_refl _) (by simp) ?_; (case hd => rfl); (case hg => rfl); (case hr => first | (go_simp; done) | (go_simp; rfl) | (go_simp; congr 4; (try congr 1); (try simp only [IntKind.wrap_u8, IntKind.wrap_u32]); (try unfold wrap64); omega)); (case hp => exact (Reps.one (show Kd.M (Kd.int .u8) _ _ _ a4 [.int .u8 a4] from rfl) (Reps.none _ _)))
                                  intro v163 w36 ho37 hb hg_ hnew_
                                  clear hg_ hnew_
                                  (first | rw [← Ny162.out] at ho37 | (simp only [Int.reduceToNat] at ho37; rw [← Ny162.out] at ho37))
                                  have n0_ := Aside0.mk (Kd.R_lower ho37 (below_size (by repeat (first | (with_reducible first | exact HB.out | apply below_alloc | apply pw_below_drewN | apply below_drew1 | refine below_set ?_ GE157.out) | exact HB.out))))
                                  have n1_ := Aside0.mk (blk_below (g := gb157) (o := .cells #[.int .i64 a0_0, .slice A0_1 l0_1.length c0_1] 24 (0, 0)) (by (with_reducible repeat (first | refine blk_drewN ?_ _ | refine blk_drew ?_ | refine blk_alloc ?_ _)); exact BK157.out) hb)
                                  have n2_ := Aside0.mk (below_step (by repeat (first | (with_reducible first | exact HB.out | apply below_alloc | apply pw_below_drewN | apply below_drew1 | refine below_set ?_ GE157.out) | exact HB.out)) hb)
                                  clear BK157
                                  clear HB
                                  have HO164 := n0_
                                  have BK157 := n1_
                                  have HB := n2_
                                  clear n0_ n1_ n2_
                                  clear hb ho37
                                  refine hK.out _ _ trivial (fun hHeld => ?_)
                                  clear hK K
                                  refine norm_ (a' := ?_) ?_ ?_
                                  rotate_left
                                  · show Act.put _ (some 56) _ = _
                                    simp only [Act.put, List.setIfInBounds_toArray, List.set_cons_zero, List.set_cons_succ, i64_w, i32_w]
                                    rfl
                                  refine one_ (i := 5) (N := some 57) #[true, true, true, true, true, true, false, true, true, true, true, false, false] rfl rfl (one_of HT_.out (by kernel_rfl)) (by decide) (fun K hK => ?_)
                                  have hcv38 := own_string (P := Try.prog) Try.underlying30 Try.underlying5 Try.underlying9 (Kd.own_of_R HO164.out)
                                  refine value_ (w1 := ?_) (v := ?_) (by rfl) rfl ?_ ?_
                                  rotate_left 2
                                  · go_simp
                                    constructor
                                    · rfl
                                    · rfl
                                  clear hcv38
                                  refine hK.out _ _ trivial (fun hHeld => ?_)
                                  clear hK K
                                  refine norm_ (a' := ?_) ?_ ?_
                                  rotate_left
                                  · show Act.put _ (some 57) _ = _
                                    simp only [Act.put, List.setIfInBounds_toArray, List.set_cons_zero, List.set_cons_succ, i64_w, i32_w]
                                    rfl
                                  refine pure_ (i := 6) (N := some 58) (v := ?_) (a' := ?_) #[true, true, true, true, true, true, true, true, true, true, true, false, false] rfl rfl (any_of HT_.out (by kernel_rfl)) (fun _ _ _ h => h) (Or.inl ⟨by rfl, ?_⟩) ?_ ?_
                                  rotate_left
                                  · intro w'
                                    go_simp
                                    with_reducible rfl
                                  rotate_left
                                  · simp only [Act.put, List.setIfInBounds_toArray, List.set_cons_zero, List.set_cons_succ, i64_w, i32_w]
                                    rfl
                                  refine pure_ (i := 11) (N := some 63) (v := ?_) (a' := ?_) #[true, true, true, true, true, true, true, true, true, true, true, true, false] rfl rfl (any_of HT_.out (by kernel_rfl)) (fun _ _ _ h => h) (Or.inl ⟨by rfl, ?_⟩) ?_ ?_
                                  rotate_left
                                  · intro w'
                                    go_simp
                                    with_reducible rfl
                                  rotate_left
                                  · simp only [Act.put, List.setIfInBounds_toArray, List.set_cons_zero, List.set_cons_succ, i64_w, i32_w]
                                    rfl
                                  refine pure_ (i := 12) (N := some 15) (v := ?_) (a' := ?_) #[true, true, true, true, true, true, true, true, true, true, true, true, true] rfl rfl (any_of HT_.out (by kernel_rfl)) (fun _ _ _ h => h) (Or.inl ⟨by rfl, ?_⟩) ?_ ?_
                                  rotate_left
                                  · intro w'
                                    go_simp
                                    with_reducible rfl
                                  rotate_left
                                  · simp only [Act.put, List.setIfInBounds_toArray, List.set_cons_zero, List.set_cons_succ, i64_w, i32_w]
                                    rfl
                                  refine done_ (done_of HT_.out (by kernel_rfl)) ?_
                                  try go_wp2
                                  go_meet
                                  case rel => exact ⟨_, (catS (catS (cutS x15_16 0 (t161 : Int).toNat) (strOfNums y162)) (cutS x15_16 ((ji31) : Int).toNat x15_16.size)), (by first | rfl | (simp; done) | (simp only [← hji31] <;> (first | rfl | simp)) | (simp [*]; done)), H', ⟨by have := HJ11.out; have := HJ16.out; first | omega | exact Nat.le_refl _⟩, ⟨by (with_reducible repeat (first | refine blk_drewN ?_ _ | refine blk_drew ?_ | refine blk_alloc ?_ _)); exact BK157.out⟩, ⟨by repeat (first | (with_reducible first | exact HB.out | apply below_alloc | apply pw_below_drewN | apply below_drew1 | refine below_set ?_ GE157.out) | exact HB.out)⟩⟩
                                  all_goals (exfalso; (try simp only [beq_iff_eq, bne_iff_ne, ne_eq, decide_eq_true_eq, decide_eq_false_iff_not, decide_eq_decide, bne_eq_false_iff_eq, beq_eq_false_iff_ne, Bool.not_eq_true, Bool.not_eq_false, Bool.not_eq_true', Bool.not_eq_false', Bool.true_beq, Bool.false_beq, Bool.true_bne, Bool.false_bne, Bool.bne_true, Bool.bne_false] at c9b0); (try simp only [beq_iff_eq, bne_iff_ne, ne_eq, decide_eq_true_eq, decide_eq_false_iff_not, decide_eq_decide, bne_eq_false_iff_eq, beq_eq_false_iff_ne, Bool.not_eq_true, Bool.not_eq_false, Bool.not_eq_true', Bool.not_eq_false', Bool.true_beq, Bool.false_beq, Bool.true_bne, Bool.false_bne, Bool.bne_true, Bool.bne_false] at c9b1); (try simp only [beq_iff_eq, bne_iff_ne, ne_eq, decide_eq_true_eq, decide_eq_false_iff_not, decide_eq_decide, bne_eq_false_iff_eq, beq_eq_false_iff_ne, Bool.not_eq_true, Bool.not_eq_false, Bool.not_eq_true', Bool.not_eq_false', Bool.true_beq, Bool.false_beq, Bool.true_bne, Bool.false_bne, Bool.bne_true, Bool.bne_false] at c10b0); (try simp only [beq_iff_eq, bne_iff_ne, ne_eq, decide_eq_true_eq, decide_eq_false_iff_not, decide_eq_decide, bne_eq_false_iff_eq, beq_eq_false_iff_ne, Bool.not_eq_true, Bool.not_eq_false, Bool.not_eq_true', Bool.not_eq_false', Bool.true_beq, Bool.false_beq, Bool.true_bne, Bool.false_bne, Bool.bne_true, Bool.bne_false] at c10b1); (try simp only [beq_iff_eq, bne_iff_ne, ne_eq, decide_eq_true_eq, decide_eq_false_iff_not, decide_eq_decide, bne_eq_false_iff_eq, beq_eq_false_iff_ne, Bool.not_eq_true, Bool.not_eq_false, Bool.not_eq_true', Bool.not_eq_false', Bool.true_beq, Bool.false_beq, Bool.true_bne, Bool.false_bne, Bool.bne_true, Bool.bne_false] at c11b0); (try simp only [beq_iff_eq, bne_iff_ne, ne_eq, decide_eq_true_eq, decide_eq_false_iff_not, decide_eq_decide, bne_eq_false_iff_eq, beq_eq_false_iff_ne, Bool.not_eq_true, Bool.not_eq_false, Bool.not_eq_true', Bool.not_eq_false', Bool.true_beq, Bool.false_beq, Bool.true_bne, Bool.false_bne, Bool.bne_true, Bool.bne_false] at c11b1); (try simp only [beq_iff_eq, bne_iff_ne, ne_eq, decide_eq_true_eq, decide_eq_false_iff_not, decide_eq_decide, bne_eq_false_iff_eq, beq_eq_false_iff_ne, Bool.not_eq_true, Bool.not_eq_false, Bool.not_eq_true', Bool.not_eq_false', Bool.true_beq, Bool.false_beq, Bool.true_bne, Bool.false_bne, Bool.bne_true, Bool.bne_false] at c24b0); (try simp only [beq_iff_eq, bne_iff_ne, ne_eq, decide_eq_true_eq, decide_eq_false_iff_not, decide_eq_decide, bne_eq_false_iff_eq, beq_eq_false_iff_ne, Bool.not_eq_true, Bool.not_eq_false, Bool.not_eq_true', Bool.not_eq_false', Bool.true_beq, Bool.false_beq, Bool.true_bne, Bool.false_bne, Bool.bne_true, Bool.bne_false] at c24b1); (try simp only [beq_iff_eq, bne_iff_ne, ne_eq, decide_eq_true_eq, decide_eq_false_iff_not, decide_eq_decide, bne_eq_false_iff_eq, beq_eq_false_iff_ne, Bool.not_eq_true, Bool.not_eq_false, Bool.not_eq_true', Bool.not_eq_false', Bool.true_beq, Bool.false_beq, Bool.true_bne, Bool.false_bne, Bool.bne_true, Bool.bne_false] at c27b0); (try simp only [beq_iff_eq, bne_iff_ne, ne_eq, decide_eq_true_eq, decide_eq_false_iff_not, decide_eq_decide, bne_eq_false_iff_eq, beq_eq_false_iff_ne, Bool.not_eq_true, Bool.not_eq_false, Bool.not_eq_true', Bool.not_eq_false', Bool.true_beq, Bool.false_beq, Bool.true_bne, Bool.false_bne, Bool.bne_true, Bool.bne_false] at c27b1); (try simp only [beq_iff_eq, bne_iff_ne, ne_eq, decide_eq_true_eq, decide_eq_false_iff_not, decide_eq_decide, bne_eq_false_iff_eq, beq_eq_false_iff_ne, Bool.not_eq_true, Bool.not_eq_false, Bool.not_eq_true', Bool.not_eq_false', Bool.true_beq, Bool.false_beq, Bool.true_bne, Bool.false_bne, Bool.bne_true, Bool.bne_false] at c28b0); (try simp only [beq_iff_eq, bne_iff_ne, ne_eq, decide_eq_true_eq, decide_eq_false_iff_not, decide_eq_decide, bne_eq_false_iff_eq, beq_eq_false_iff_ne, Bool.not_eq_true, Bool.not_eq_false, Bool.not_eq_true', Bool.not_eq_false', Bool.true_beq, Bool.false_beq, Bool.true_bne, Bool.false_bne, Bool.bne_true, Bool.bne_false] at c28b1); (try simp only [beq_iff_eq, bne_iff_ne, ne_eq, decide_eq_true_eq, decide_eq_false_iff_not, decide_eq_decide, bne_eq_false_iff_eq, beq_eq_false_iff_ne, Bool.not_eq_true, Bool.not_eq_false, Bool.not_eq_true', Bool.not_eq_false', Bool.true_beq, Bool.false_beq, Bool.true_bne, Bool.false_bne, Bool.bne_true, Bool.bne_false] at c29b0); (try simp only [beq_iff_eq, bne_iff_ne, ne_eq, decide_eq_true_eq, decide_eq_false_iff_not, decide_eq_decide, bne_eq_false_iff_eq, beq_eq_false_iff_ne, Bool.not_eq_true, Bool.not_eq_false, Bool.not_eq_true', Bool.not_eq_false', Bool.true_beq, Bool.false_beq, Bool.true_bne, Bool.false_bne, Bool.bne_true, Bool.bne_false] at c29b1); (try simp only [beq_iff_eq, bne_iff_ne, ne_eq, decide_eq_true_eq, decide_eq_false_iff_not, decide_eq_decide, bne_eq_false_iff_eq, beq_eq_false_iff_ne, Bool.not_eq_true, Bool.not_eq_false, Bool.not_eq_true', Bool.not_eq_false', Bool.true_beq, Bool.false_beq, Bool.true_bne, Bool.false_bne, Bool.bne_true, Bool.bne_false] at c30b0); (try simp only [beq_iff_eq, bne_iff_ne, ne_eq, decide_eq_true_eq, decide_eq_false_iff_not, decide_eq_decide, bne_eq_false_iff_eq, beq_eq_false_iff_ne, Bool.not_eq_true, Bool.not_eq_false, Bool.not_eq_true', Bool.not_eq_false', Bool.true_beq, Bool.false_beq, Bool.true_bne, Bool.false_bne, Bool.bne_true, Bool.bne_false] at c30b1); (try simp only [beq_iff_eq, bne_iff_ne, ne_eq, decide_eq_true_eq, decide_eq_false_iff_not, decide_eq_decide, bne_eq_false_iff_eq, beq_eq_false_iff_ne, Bool.not_eq_true, Bool.not_eq_false, Bool.not_eq_true', Bool.not_eq_false', Bool.true_beq, Bool.false_beq, Bool.true_bne, Bool.false_bne, Bool.bne_true, Bool.bne_false] at c32b0); (try simp only [beq_iff_eq, bne_iff_ne, ne_eq, decide_eq_true_eq, decide_eq_false_iff_not, decide_eq_decide, bne_eq_false_iff_eq, beq_eq_false_iff_ne, Bool.not_eq_true, Bool.not_eq_false, Bool.not_eq_true', Bool.not_eq_false', Bool.true_beq, Bool.false_beq, Bool.true_bne, Bool.false_bne, Bool.bne_true, Bool.bne_false] at c32b1); (try simp only [beq_iff_eq, bne_iff_ne, ne_eq, decide_eq_true_eq, decide_eq_false_iff_not, decide_eq_decide, bne_eq_false_iff_eq, beq_eq_false_iff_ne, Bool.not_eq_true, Bool.not_eq_false, Bool.not_eq_true', Bool.not_eq_false', Bool.true_beq, Bool.false_beq, Bool.true_bne, Bool.false_bne, Bool.bne_true, Bool.bne_false] at c33b0); (try simp only [beq_iff_eq, bne_iff_ne, ne_eq, decide_eq_true_eq, decide_eq_false_iff_not, decide_eq_decide, bne_eq_false_iff_eq, beq_eq_false_iff_ne, Bool.not_eq_true, Bool.not_eq_false, Bool.not_eq_true', Bool.not_eq_false', Bool.true_beq, Bool.false_beq, Bool.true_bne, Bool.false_bne, Bool.bne_true, Bool.bne_false] at c33b1); (try simp only [beq_iff_eq, bne_iff_ne, ne_eq, decide_eq_true_eq, decide_eq_false_iff_not, decide_eq_decide, bne_eq_false_iff_eq, beq_eq_false_iff_ne, Bool.not_eq_true, Bool.not_eq_false, Bool.not_eq_true', Bool.not_eq_false', Bool.true_beq, Bool.false_beq, Bool.true_bne, Bool.false_bne, Bool.bne_true, Bool.bne_false] at c34b0); (try simp only [beq_iff_eq, bne_iff_ne, ne_eq, decide_eq_true_eq, decide_eq_false_iff_not, decide_eq_decide, bne_eq_false_iff_eq, beq_eq_false_iff_ne, Bool.not_eq_true, Bool.not_eq_false, Bool.not_eq_true', Bool.not_eq_false', Bool.true_beq, Bool.false_beq, Bool.true_bne, Bool.false_bne, Bool.bne_true, Bool.bne_false] at c34b1); (try unfold wrap64 at *); omega)
                                · rw [if_neg c34] at H
                                  exact absurd H (by simp)
                              · rw [if_neg c33] at H
                                exact absurd H (by simp)
                            · rw [if_neg c32] at H
                              exact absurd H (by simp)
                          · rw [if_neg c30] at H
                            exact absurd H (by simp)
                        · rw [if_neg c29] at H
                          exact absurd H (by simp)
                      · rw [if_neg c28] at H
                        exact absurd H (by simp)
                    · rw [if_neg c27] at H
                      have c27b0 : ((Go.bits .and .i64 (a5 / 4) 3) == 0) = false := beq_eq_false_iff_ne.mpr c27
                      have c27b1 : ((Go.bits .and .i64 (a5 / 4) 3) != 0) = true := bne_iff_ne.mpr c27
                      (first | rw [c27b0] | (simp only [i64_w, i32_w]; rw [c27b0]) | skip)
                      by_cases c39 : (Go.bits .and .i64 (a5 / 4) 3) = 1
                      · rw [if_pos c39] at H
                        have c39b0 : ((Go.bits .and .i64 (a5 / 4) 3) == 1) = true := beq_iff_eq.mpr c39
                        have c39b1 : ((Go.bits .and .i64 (a5 / 4) 3) != 1) = false := bne_eq_false_iff_eq.mpr c39
                        clear c39
                        by_cases c40 : 0 ≤ t161
                        · rw [if_pos c40] at H
                          have c40b0 := eq_true c40
                          have c40b1 : decide (0 ≤ t161) = true := decide_eq_true c40
                          clear c40
                          by_cases c41 : t161 ≤ (x15_16.size : Int)
                          · rw [if_pos c41] at H
                            have c41b0 := eq_true c41
                            have c41b1 : decide (t161 ≤ (x15_16.size : Int)) = true := decide_eq_true c41
                            clear c41
                            have H' := Aside0.mk H
                            clear H
                            go_wp2
                            go_meet
                            case rel => exact ⟨_, (cutS x15_16 0 (t161 : Int).toNat), (by first | rfl | (simp; done) | (simp [*]; done)), H', ⟨by have := HJ11.out; have := HJ16.out; first | omega | exact Nat.le_refl _⟩, ⟨by (with_reducible repeat (first | refine blk_drewN ?_ _ | refine blk_drew ?_ | refine blk_alloc ?_ _)); exact BK157.out⟩, ⟨by repeat (first | (with_reducible first | exact HB.out | apply below_alloc | apply pw_below_drewN | apply below_drew1 | refine below_set ?_ GE157.out) | exact HB.out)⟩⟩
                            all_goals (exfalso; (try simp only [beq_iff_eq, bne_iff_ne, ne_eq, decide_eq_true_eq, decide_eq_false_iff_not, decide_eq_decide, bne_eq_false_iff_eq, beq_eq_false_iff_ne, Bool.not_eq_true, Bool.not_eq_false, Bool.not_eq_true', Bool.not_eq_false', Bool.true_beq, Bool.false_beq, Bool.true_bne, Bool.false_bne, Bool.bne_true, Bool.bne_false] at c9b0); (try simp only [beq_iff_eq, bne_iff_ne, ne_eq, decide_eq_true_eq, decide_eq_false_iff_not, decide_eq_decide, bne_eq_false_iff_eq, beq_eq_false_iff_ne, Bool.not_eq_true, Bool.not_eq_false, Bool.not_eq_true', Bool.not_eq_false', Bool.true_beq, Bool.false_beq, Bool.true_bne, Bool.false_bne, Bool.bne_true, Bool.bne_false] at c9b1); (try simp only [beq_iff_eq, bne_iff_ne, ne_eq, decide_eq_true_eq, decide_eq_false_iff_not, decide_eq_decide, bne_eq_false_iff_eq, beq_eq_false_iff_ne, Bool.not_eq_true, Bool.not_eq_false, Bool.not_eq_true', Bool.not_eq_false', Bool.true_beq, Bool.false_beq, Bool.true_bne, Bool.false_bne, Bool.bne_true, Bool.bne_false] at c10b0); (try simp only [beq_iff_eq, bne_iff_ne, ne_eq, decide_eq_true_eq, decide_eq_false_iff_not, decide_eq_decide, bne_eq_false_iff_eq, beq_eq_false_iff_ne, Bool.not_eq_true, Bool.not_eq_false, Bool.not_eq_true', Bool.not_eq_false', Bool.true_beq, Bool.false_beq, Bool.true_bne, Bool.false_bne, Bool.bne_true, Bool.bne_false] at c10b1); (try simp only [beq_iff_eq, bne_iff_ne, ne_eq, decide_eq_true_eq, decide_eq_false_iff_not, decide_eq_decide, bne_eq_false_iff_eq, beq_eq_false_iff_ne, Bool.not_eq_true, Bool.not_eq_false, Bool.not_eq_true', Bool.not_eq_false', Bool.true_beq, Bool.false_beq, Bool.true_bne, Bool.false_bne, Bool.bne_true, Bool.bne_false] at c11b0); (try simp only [beq_iff_eq, bne_iff_ne, ne_eq, decide_eq_true_eq, decide_eq_false_iff_not, decide_eq_decide, bne_eq_false_iff_eq, beq_eq_false_iff_ne, Bool.not_eq_true, Bool.not_eq_false, Bool.not_eq_true', Bool.not_eq_false', Bool.true_beq, Bool.false_beq, Bool.true_bne, Bool.false_bne, Bool.bne_true, Bool.bne_false] at c11b1); (try simp only [beq_iff_eq, bne_iff_ne, ne_eq, decide_eq_true_eq, decide_eq_false_iff_not, decide_eq_decide, bne_eq_false_iff_eq, beq_eq_false_iff_ne, Bool.not_eq_true, Bool.not_eq_false, Bool.not_eq_true', Bool.not_eq_false', Bool.true_beq, Bool.false_beq, Bool.true_bne, Bool.false_bne, Bool.bne_true, Bool.bne_false] at c24b0); (try simp only [beq_iff_eq, bne_iff_ne, ne_eq, decide_eq_true_eq, decide_eq_false_iff_not, decide_eq_decide, bne_eq_false_iff_eq, beq_eq_false_iff_ne, Bool.not_eq_true, Bool.not_eq_false, Bool.not_eq_true', Bool.not_eq_false', Bool.true_beq, Bool.false_beq, Bool.true_bne, Bool.false_bne, Bool.bne_true, Bool.bne_false] at c24b1); (try simp only [beq_iff_eq, bne_iff_ne, ne_eq, decide_eq_true_eq, decide_eq_false_iff_not, decide_eq_decide, bne_eq_false_iff_eq, beq_eq_false_iff_ne, Bool.not_eq_true, Bool.not_eq_false, Bool.not_eq_true', Bool.not_eq_false', Bool.true_beq, Bool.false_beq, Bool.true_bne, Bool.false_bne, Bool.bne_true, Bool.bne_false] at c27b0); (try simp only [beq_iff_eq, bne_iff_ne, ne_eq, decide_eq_true_eq, decide_eq_false_iff_not, decide_eq_decide, bne_eq_false_iff_eq, beq_eq_false_iff_ne, Bool.not_eq_true, Bool.not_eq_false, Bool.not_eq_true', Bool.not_eq_false', Bool.true_beq, Bool.false_beq, Bool.true_bne, Bool.false_bne, Bool.bne_true, Bool.bne_false] at c27b1); (try simp only [beq_iff_eq, bne_iff_ne, ne_eq, decide_eq_true_eq, decide_eq_false_iff_not, decide_eq_decide, bne_eq_false_iff_eq, beq_eq_false_iff_ne, Bool.not_eq_true, Bool.not_eq_false, Bool.not_eq_true', Bool.not_eq_false', Bool.true_beq, Bool.false_beq, Bool.true_bne, Bool.false_bne, Bool.bne_true, Bool.bne_false] at c39b0); (try simp only [beq_iff_eq, bne_iff_ne, ne_eq, decide_eq_true_eq, decide_eq_false_iff_not, decide_eq_decide, bne_eq_false_iff_eq, beq_eq_false_iff_ne, Bool.not_eq_true, Bool.not_eq_false, Bool.not_eq_true', Bool.not_eq_false', Bool.true_beq, Bool.false_beq, Bool.true_bne, Bool.false_bne, Bool.bne_true, Bool.bne_false] at c39b1); (try simp only [beq_iff_eq, bne_iff_ne, ne_eq, decide_eq_true_eq, decide_eq_false_iff_not, decide_eq_decide, bne_eq_false_iff_eq, beq_eq_false_iff_ne, Bool.not_eq_true, Bool.not_eq_false, Bool.not_eq_true', Bool.not_eq_false', Bool.true_beq, Bool.false_beq, Bool.true_bne, Bool.false_bne, Bool.bne_true, Bool.bne_false] at c40b0); (try simp only [beq_iff_eq, bne_iff_ne, ne_eq, decide_eq_true_eq, decide_eq_false_iff_not, decide_eq_decide, bne_eq_false_iff_eq, beq_eq_false_iff_ne, Bool.not_eq_true, Bool.not_eq_false, Bool.not_eq_true', Bool.not_eq_false', Bool.true_beq, Bool.false_beq, Bool.true_bne, Bool.false_bne, Bool.bne_true, Bool.bne_false] at c40b1); (try simp only [beq_iff_eq, bne_iff_ne, ne_eq, decide_eq_true_eq, decide_eq_false_iff_not, decide_eq_decide, bne_eq_false_iff_eq, beq_eq_false_iff_ne, Bool.not_eq_true, Bool.not_eq_false, Bool.not_eq_true', Bool.not_eq_false', Bool.true_beq, Bool.false_beq, Bool.true_bne, Bool.false_bne, Bool.bne_true, Bool.bne_false] at c41b0); (try simp only [beq_iff_eq, bne_iff_ne, ne_eq, decide_eq_true_eq, decide_eq_false_iff_not, decide_eq_decide, bne_eq_false_iff_eq, beq_eq_false_iff_ne, Bool.not_eq_true, Bool.not_eq_false, Bool.not_eq_true', Bool.not_eq_false', Bool.true_beq, Bool.false_beq, Bool.true_bne, Bool.false_bne, Bool.bne_true, Bool.bne_false] at c41b1); (try unfold wrap64 at *); omega)
                          · rw [if_neg c41] at H
                            exact absurd H (by simp)
                        · rw [if_neg c40] at H
                          exact absurd H (by simp)
                      · rw [if_neg c39] at H
                        have c39b0 : ((Go.bits .and .i64 (a5 / 4) 3) == 1) = false := beq_eq_false_iff_ne.mpr c39
                        have c39b1 : ((Go.bits .and .i64 (a5 / 4) 3) != 1) = true := bne_iff_ne.mpr c39
                        have H' := Aside0.mk H
                        clear H
                        go_wp2
                        go_meet
                        case rel => exact ⟨_, (x15_16), (by first | rfl | (simp; done) | (simp [*]; done)), H', ⟨by have := HJ11.out; have := HJ16.out; first | omega | exact Nat.le_refl _⟩, ⟨by (with_reducible repeat (first | refine blk_drewN ?_ _ | refine blk_drew ?_ | refine blk_alloc ?_ _)); exact BK157.out⟩, ⟨by repeat (first | (with_reducible first | exact HB.out | apply below_alloc | apply pw_below_drewN | apply below_drew1 | refine below_set ?_ GE157.out) | exact HB.out)⟩⟩
                        all_goals (exfalso; (try simp only [beq_iff_eq, bne_iff_ne, ne_eq, decide_eq_true_eq, decide_eq_false_iff_not, decide_eq_decide, bne_eq_false_iff_eq, beq_eq_false_iff_ne, Bool.not_eq_true, Bool.not_eq_false, Bool.not_eq_true', Bool.not_eq_false', Bool.true_beq, Bool.false_beq, Bool.true_bne, Bool.false_bne, Bool.bne_true, Bool.bne_false] at c9b0); (try simp only [beq_iff_eq, bne_iff_ne, ne_eq, decide_eq_true_eq, decide_eq_false_iff_not, decide_eq_decide, bne_eq_false_iff_eq, beq_eq_false_iff_ne, Bool.not_eq_true, Bool.not_eq_false, Bool.not_eq_true', Bool.not_eq_false', Bool.true_beq, Bool.false_beq, Bool.true_bne, Bool.false_bne, Bool.bne_true, Bool.bne_false] at c9b1); (try simp only [beq_iff_eq, bne_iff_ne, ne_eq, decide_eq_true_eq, decide_eq_false_iff_not, decide_eq_decide, bne_eq_false_iff_eq, beq_eq_false_iff_ne, Bool.not_eq_true, Bool.not_eq_false, Bool.not_eq_true', Bool.not_eq_false', Bool.true_beq, Bool.false_beq, Bool.true_bne, Bool.false_bne, Bool.bne_true, Bool.bne_false] at c10b0); (try simp only [beq_iff_eq, bne_iff_ne, ne_eq, decide_eq_true_eq, decide_eq_false_iff_not, decide_eq_decide, bne_eq_false_iff_eq, beq_eq_false_iff_ne, Bool.not_eq_true, Bool.not_eq_false, Bool.not_eq_true', Bool.not_eq_false', Bool.true_beq, Bool.false_beq, Bool.true_bne, Bool.false_bne, Bool.bne_true, Bool.bne_false] at c10b1); (try simp only [beq_iff_eq, bne_iff_ne, ne_eq, decide_eq_true_eq, decide_eq_false_iff_not, decide_eq_decide, bne_eq_false_iff_eq, beq_eq_false_iff_ne, Bool.not_eq_true, Bool.not_eq_false, Bool.not_eq_true', Bool.not_eq_false', Bool.true_beq, Bool.false_beq, Bool.true_bne, Bool.false_bne, Bool.bne_true, Bool.bne_false] at c11b0); (try simp only [beq_iff_eq, bne_iff_ne, ne_eq, decide_eq_true_eq, decide_eq_false_iff_not, decide_eq_decide, bne_eq_false_iff_eq, beq_eq_false_iff_ne, Bool.not_eq_true, Bool.not_eq_false, Bool.not_eq_true', Bool.not_eq_false', Bool.true_beq, Bool.false_beq, Bool.true_bne, Bool.false_bne, Bool.bne_true, Bool.bne_false] at c11b1); (try simp only [beq_iff_eq, bne_iff_ne, ne_eq, decide_eq_true_eq, decide_eq_false_iff_not, decide_eq_decide, bne_eq_false_iff_eq, beq_eq_false_iff_ne, Bool.not_eq_true, Bool.not_eq_false, Bool.not_eq_true', Bool.not_eq_false', Bool.true_beq, Bool.false_beq, Bool.true_bne, Bool.false_bne, Bool.bne_true, Bool.bne_false] at c24b0); (try simp only [beq_iff_eq, bne_iff_ne, ne_eq, decide_eq_true_eq, decide_eq_false_iff_not, decide_eq_decide, bne_eq_false_iff_eq, beq_eq_false_iff_ne, Bool.not_eq_true, Bool.not_eq_false, Bool.not_eq_true', Bool.not_eq_false', Bool.true_beq, Bool.false_beq, Bool.true_bne, Bool.false_bne, Bool.bne_true, Bool.bne_false] at c24b1); (try simp only [beq_iff_eq, bne_iff_ne, ne_eq, decide_eq_true_eq, decide_eq_false_iff_not, decide_eq_decide, bne_eq_false_iff_eq, beq_eq_false_iff_ne, Bool.not_eq_true, Bool.not_eq_false, Bool.not_eq_true', Bool.not_eq_false', Bool.true_beq, Bool.false_beq, Bool.true_bne, Bool.false_bne, Bool.bne_true, Bool.bne_false] at c27b0); (try simp only [beq_iff_eq, bne_iff_ne, ne_eq, decide_eq_true_eq, decide_eq_false_iff_not, decide_eq_decide, bne_eq_false_iff_eq, beq_eq_false_iff_ne, Bool.not_eq_true, Bool.not_eq_false, Bool.not_eq_true', Bool.not_eq_false', Bool.true_beq, Bool.false_beq, Bool.true_bne, Bool.false_bne, Bool.bne_true, Bool.bne_false] at c27b1); (try simp only [beq_iff_eq, bne_iff_ne, ne_eq, decide_eq_true_eq, decide_eq_false_iff_not, decide_eq_decide, bne_eq_false_iff_eq, beq_eq_false_iff_ne, Bool.not_eq_true, Bool.not_eq_false, Bool.not_eq_true', Bool.not_eq_false', Bool.true_beq, Bool.false_beq, Bool.true_bne, Bool.false_bne, Bool.bne_true, Bool.bne_false] at c39b0); (try simp only [beq_iff_eq, bne_iff_ne, ne_eq, decide_eq_true_eq, decide_eq_false_iff_not, decide_eq_decide, bne_eq_false_iff_eq, beq_eq_false_iff_ne, Bool.not_eq_true, Bool.not_eq_false, Bool.not_eq_true', Bool.not_eq_false', Bool.true_beq, Bool.false_beq, Bool.true_bne, Bool.false_bne, Bool.bne_true, Bool.bne_false] at c39b1); (try unfold wrap64 at *); omega)
                  case rest =>
                    clear HC26
                    try clear c1
                    try clear c2
                    try clear p2
                    try clear c3
                    try clear hcv3
                    try clear c4
                    try clear c5
                    try clear c6
                    try clear p6
                    try clear c7
                    try clear c8
                    try clear c9
                    try clear c9b0
                    try clear c9b1
                    try clear c10
                    try clear c10b0
                    try clear c10b1
                    try clear c11
                    try clear c11b0
                    try clear c11b1
                    try clear c11b2
                    try clear c14
                    try clear c14b0
                    try clear c14b1
                    try clear c18
                    try clear c18b0
                    try clear c18b1
                    try clear c24
                    try clear c24b0
                    try clear c24b1
                    try clear c27
                    try clear c27b0
                    try clear c27b1
                    try clear c28
                    try clear c28b0
                    try clear c28b1
                    try clear c29
                    try clear c29b0
                    try clear c29b1
                    try clear c30
                    try clear c30b0
                    try clear c30b1
                    try clear c30b2
                    try clear c32
                    try clear c32b0
                    try clear c32b1
                    try clear c33
                    try clear c33b0
                    try clear c33b1
                    try clear c34
                    try clear c34b0
                    try clear c34b1
                    try clear c34b2
                    try clear hcv38
                    try clear c39
                    try clear c39b0
                    try clear c39b1
                    try clear c40
                    try clear c40b0
                    try clear c40b1
                    try clear c41
                    try clear c41b0
                    try clear c41b1
                    try clear hcz21_0
                    try clear hcz21_1
                    try clear hfz21_0
                    try clear hfz21_1
                    try clear p2
                    try clear p6
                    obtain ⟨kq, x15_25, rfl, HA, HJ25, BK157, HB⟩ := hcut
                    cases kq with
                    | zero => exact absurd HA.out (by simp [ammonitelaw4_SqueezeTells.j2])
                    | succ kj25 =>
                      have H := HA.out
                      clear HA
                      simp only [ammonitelaw4_SqueezeTells.j2] at H
                      replace H := Option.bind_eq_some_iff.mp H
                      obtain ⟨t165, A420, H⟩ := H
                      replace H : ((squeeze_Expand.f kj25 x15_25 t165).bind fun bt166 => ((ammoniteref1_Expand.f kj25 x15_25 t165).bind fun bt168 => (if bt168.2 = true then (if bt166.1.toList = bt168.1.toList then (if (bt166.2 == bt168.2) = true then ((ammonitelaw4_SqueezeRuns.f kj25).bind fun t170 => (some t170)) else (some false)) else (some false)) else (if bt166.1.toList = ([] : List UInt8) then (if (bt166.2 == bt168.2) = true then ((ammonitelaw4_SqueezeRuns.f kj25).bind fun t171 => (some t171)) else (some false)) else (some false))))) = some r := H
                      have A42 := Aside0.mk A420
                      clear A420
                      replace H := Option.bind_eq_some_iff.mp H
                      obtain ⟨⟨t166, t167⟩, A430, H⟩ := H
                      replace H : ((ammoniteref1_Expand.f kj25 x15_25 t165).bind fun bt168 => (if bt168.2 = true then (if t166.toList = bt168.1.toList then (if (t167 == bt168.2) = true then ((ammonitelaw4_SqueezeRuns.f kj25).bind fun t170 => (some t170)) else (some false)) else (some false)) else (if t166.toList = ([] : List UInt8) then (if (t167 == bt168.2) = true then ((ammonitelaw4_SqueezeRuns.f kj25).bind fun t171 => (some t171)) else (some false)) else (some false)))) = some r := H
                      have A43 := Aside0.mk A430
                      clear A430
                      replace H := Option.bind_eq_some_iff.mp H
                      obtain ⟨⟨t168, t169⟩, A440, H⟩ := H
                      replace H : (if t169 = true then (if t166.toList = t168.toList then (if (t167 == t169) = true then ((ammonitelaw4_SqueezeRuns.f kj25).bind fun t170 => (some t170)) else (some false)) else (some false)) else (if t166.toList = ([] : List UInt8) then (if (t167 == t169) = true then ((ammonitelaw4_SqueezeRuns.f kj25).bind fun t171 => (some t171)) else (some false)) else (some false))) = some r := H
                      have A44 := Aside0.mk A440
                      clear A440
                      by_cases c45 : t169 = true
                      · subst c45
                        have H1 : (if t166.toList = t168.toList then (if (t167 == true) = true then ((ammonitelaw4_SqueezeRuns.f kj25).bind fun t170 => (some t170)) else (some false)) else (some false)) = some r := by rw [if_pos rfl] at H; exact H
                        clear H
                        have H := H1
                        clear H1
                        by_cases c46 : t166.toList = t168.toList
                        · rw [if_pos c46] at H
                          have c46b0 : (t166.toList == t168.toList) = true := beq_iff_eq.mpr c46
                          have c46b1 : (t166.toList != t168.toList) = false := bne_eq_false_iff_eq.mpr c46
                          clear c46
                          by_cases c47 : (t167 == true) = true
                          · rw [if_pos c47] at H
                            have c47b0 : (t167 == true) = true := c47
                            (try (have c47b1 : decide (t167 = true) = true := by simpa using c47))
                            (try (have c47b2 : (t167 == true) = true := by simpa using c47))
                            clear c47
                            replace H := Option.bind_eq_some_iff.mp H
                            obtain ⟨t170, A480, H⟩ := H
                            replace H : (some t170) = some r := H
                            have A48 := Aside0.mk A480
                            clear A480
                            obtain rfl := Option.some.inj H
                            go_wp2_with (first | ((with_reducible refine gate_callee (f := 8) rfl ?_); refine goesL_ (some 70) rfl rfl Try.func8 (by kernel_rfl) rfl #[.int .i64 a6, .int .i64 0, .int .i64 500] rfl (by (try simp only [List.map_toArray, List.map_cons, List.map_nil]); first | done | rfl | (simp only [List.length_drop, List.length_take]; rfl)) ?_; (with_reducible refine (ammonitebook_Within.calls a6 0 500 t165 _ A42.out).mono ?_); rintro e w' ⟨rfl, ⟨nd, rfl⟩⟩; refine ⟨_, rfl, ?_⟩) | ((with_reducible refine gate_callee (f := 9) rfl ?_); refine goesL_ (some 74) rfl rfl Try.func9 (by kernel_rfl) rfl #[.string x15_25, .int .i64 t165] rfl (by (try simp only [List.map_toArray, List.map_cons, List.map_nil]); first | done | rfl | (simp only [List.length_drop, List.length_take]; rfl)) ?_; (with_reducible refine (squeeze_Expand.calls kj25 x15_25 t165 t166 t167 _ A43.out).mono ?_); rintro e w49 ⟨rfl, hb⟩; refine ⟨_, rfl, ?_⟩; have n0_ := Aside0.mk (blk_below (g := gb157) (o := .cells #[.int .i64 a0_0, .slice A0_1 l0_1.length c0_1] 24 (0, 0)) (by (with_reducible repeat (first | refine blk_drewN ?_ _ | refine blk_drew ?_ | refine blk_alloc ?_ _)); exact BK157.out) hb); have n1_ := Aside0.mk (below_step (by repeat (first | (with_reducible first | exact HB.out | apply below_alloc | apply pw_below_drewN | apply below_drew1 | refine below_set ?_ GE157.out) | exact HB.out)) hb); clear BK157; clear HB; have BK157 := n0_; have HB := n1_; clear n0_ n1_; (try clear hb); (try clear hb2); (try clear hk); (try clear hi)) | ((with_reducible refine gate_callee (f := 10) rfl ?_); refine goesL_ (some 80) rfl rfl Try.func10 (by kernel_rfl) rfl #[.string x15_25, .int .i64 t165] rfl (by (try simp only [List.map_toArray, List.map_cons, List.map_nil]); first | done | rfl | (simp only [List.length_drop, List.length_take]; rfl)) ?_; (with_reducible refine (ammoniteref1_Expand.calls kj25 x15_25 t165 t168 true _ A44.out).mono ?_); rintro e w' ⟨rfl, ⟨nd, rfl⟩⟩; refine ⟨_, rfl, ?_⟩) | (go_at_call 11; (try simp only [i64_w, i32_w]); (with_reducible refine (ammonitelaw4_SqueezeRuns.calls kj25  t170 _ A48.out).mono ?_); rintro e w50 ⟨rfl, hb⟩; have n0_ := Aside0.mk (blk_below (g := gb157) (o := .cells #[.int .i64 a0_0, .slice A0_1 l0_1.length c0_1] 24 (0, 0)) (by (with_reducible repeat (first | refine blk_drewN ?_ _ | refine blk_drew ?_ | refine blk_alloc ?_ _)); exact BK157.out) hb); have n1_ := Aside0.mk (below_step (by repeat (first | (with_reducible first | exact HB.out | apply below_alloc | apply pw_below_drewN | apply below_drew1 | refine below_set ?_ GE157.out) | exact HB.out)) hb); clear BK157; clear HB; have BK157 := n0_; have HB := n1_; clear n0_ n1_; (try clear hb); (try clear hb2); (try clear hk); (try clear hi)))
                            go_ret
                            exact ⟨by first | rfl | (simp [errW_none, errW_some] <;> rfl) | (simp only [← hji8]; first | rfl | (simp [errW_none, errW_some] <;> rfl)) | (simp [*, errW_none, errW_some] <;> rfl), by repeat (first | (with_reducible first | exact HB.out | apply below_alloc | apply pw_below_drewN | apply below_drew1 | refine below_set ?_ GE157.out) | exact HB.out)⟩
                            all_goals (exfalso; (try simp only [beq_iff_eq, bne_iff_ne, ne_eq, decide_eq_true_eq, decide_eq_false_iff_not, decide_eq_decide, bne_eq_false_iff_eq, beq_eq_false_iff_ne, Bool.not_eq_true, Bool.not_eq_false, Bool.not_eq_true', Bool.not_eq_false', Bool.true_beq, Bool.false_beq, Bool.true_bne, Bool.false_bne, Bool.bne_true, Bool.bne_false] at c9b0); (try simp only [beq_iff_eq, bne_iff_ne, ne_eq, decide_eq_true_eq, decide_eq_false_iff_not, decide_eq_decide, bne_eq_false_iff_eq, beq_eq_false_iff_ne, Bool.not_eq_true, Bool.not_eq_false, Bool.not_eq_true', Bool.not_eq_false', Bool.true_beq, Bool.false_beq, Bool.true_bne, Bool.false_bne, Bool.bne_true, Bool.bne_false] at c9b1); (try simp only [beq_iff_eq, bne_iff_ne, ne_eq, decide_eq_true_eq, decide_eq_false_iff_not, decide_eq_decide, bne_eq_false_iff_eq, beq_eq_false_iff_ne, Bool.not_eq_true, Bool.not_eq_false, Bool.not_eq_true', Bool.not_eq_false', Bool.true_beq, Bool.false_beq, Bool.true_bne, Bool.false_bne, Bool.bne_true, Bool.bne_false] at c10b0); (try simp only [beq_iff_eq, bne_iff_ne, ne_eq, decide_eq_true_eq, decide_eq_false_iff_not, decide_eq_decide, bne_eq_false_iff_eq, beq_eq_false_iff_ne, Bool.not_eq_true, Bool.not_eq_false, Bool.not_eq_true', Bool.not_eq_false', Bool.true_beq, Bool.false_beq, Bool.true_bne, Bool.false_bne, Bool.bne_true, Bool.bne_false] at c10b1); (try simp only [beq_iff_eq, bne_iff_ne, ne_eq, decide_eq_true_eq, decide_eq_false_iff_not, decide_eq_decide, bne_eq_false_iff_eq, beq_eq_false_iff_ne, Bool.not_eq_true, Bool.not_eq_false, Bool.not_eq_true', Bool.not_eq_false', Bool.true_beq, Bool.false_beq, Bool.true_bne, Bool.false_bne, Bool.bne_true, Bool.bne_false] at c11b0); (try simp only [beq_iff_eq, bne_iff_ne, ne_eq, decide_eq_true_eq, decide_eq_false_iff_not, decide_eq_decide, bne_eq_false_iff_eq, beq_eq_false_iff_ne, Bool.not_eq_true, Bool.not_eq_false, Bool.not_eq_true', Bool.not_eq_false', Bool.true_beq, Bool.false_beq, Bool.true_bne, Bool.false_bne, Bool.bne_true, Bool.bne_false] at c11b1); (try simp only [beq_iff_eq, bne_iff_ne, ne_eq, decide_eq_true_eq, decide_eq_false_iff_not, decide_eq_decide, bne_eq_false_iff_eq, beq_eq_false_iff_ne, Bool.not_eq_true, Bool.not_eq_false, Bool.not_eq_true', Bool.not_eq_false', Bool.true_beq, Bool.false_beq, Bool.true_bne, Bool.false_bne, Bool.bne_true, Bool.bne_false] at c24b0); (try simp only [beq_iff_eq, bne_iff_ne, ne_eq, decide_eq_true_eq, decide_eq_false_iff_not, decide_eq_decide, bne_eq_false_iff_eq, beq_eq_false_iff_ne, Bool.not_eq_true, Bool.not_eq_false, Bool.not_eq_true', Bool.not_eq_false', Bool.true_beq, Bool.false_beq, Bool.true_bne, Bool.false_bne, Bool.bne_true, Bool.bne_false] at c24b1); (try simp only [beq_iff_eq, bne_iff_ne, ne_eq, decide_eq_true_eq, decide_eq_false_iff_not, decide_eq_decide, bne_eq_false_iff_eq, beq_eq_false_iff_ne, Bool.not_eq_true, Bool.not_eq_false, Bool.not_eq_true', Bool.not_eq_false', Bool.true_beq, Bool.false_beq, Bool.true_bne, Bool.false_bne, Bool.bne_true, Bool.bne_false] at c46b0); (try simp only [beq_iff_eq, bne_iff_ne, ne_eq, decide_eq_true_eq, decide_eq_false_iff_not, decide_eq_decide, bne_eq_false_iff_eq, beq_eq_false_iff_ne, Bool.not_eq_true, Bool.not_eq_false, Bool.not_eq_true', Bool.not_eq_false', Bool.true_beq, Bool.false_beq, Bool.true_bne, Bool.false_bne, Bool.bne_true, Bool.bne_false] at c46b1); (try simp only [beq_iff_eq, bne_iff_ne, ne_eq, decide_eq_true_eq, decide_eq_false_iff_not, decide_eq_decide, bne_eq_false_iff_eq, beq_eq_false_iff_ne, Bool.not_eq_true, Bool.not_eq_false, Bool.not_eq_true', Bool.not_eq_false', Bool.true_beq, Bool.false_beq, Bool.true_bne, Bool.false_bne, Bool.bne_true, Bool.bne_false] at c47b0); (try simp only [beq_iff_eq, bne_iff_ne, ne_eq, decide_eq_true_eq, decide_eq_false_iff_not, decide_eq_decide, bne_eq_false_iff_eq, beq_eq_false_iff_ne, Bool.not_eq_true, Bool.not_eq_false, Bool.not_eq_true', Bool.not_eq_false', Bool.true_beq, Bool.false_beq, Bool.true_bne, Bool.false_bne, Bool.bne_true, Bool.bne_false] at c47b1); (try simp only [beq_iff_eq, bne_iff_ne, ne_eq, decide_eq_true_eq, decide_eq_false_iff_not, decide_eq_decide, bne_eq_false_iff_eq, beq_eq_false_iff_ne, Bool.not_eq_true, Bool.not_eq_false, Bool.not_eq_true', Bool.not_eq_false', Bool.true_beq, Bool.false_beq, Bool.true_bne, Bool.false_bne, Bool.bne_true, Bool.bne_false] at c47b2); (try unfold wrap64 at *); omega)
                          · rw [if_neg c47] at H
                            have c47b0 : (t167 == true) = false := by simpa using c47
                            (try (have c47b1 : decide (t167 = true) = false := by simpa using c47))
                            (try (have c47b2 : (t167 == true) = false := by simpa using c47))
                            (try (have c47b3 : ¬ (t167 = true) := by simpa using c47))
                            clear c47
                            exact absurd ((Option.some.inj H).trans HRT.out) Bool.false_ne_true
                        · rw [if_neg c46] at H
                          have c46b0 : (t166.toList == t168.toList) = false := beq_eq_false_iff_ne.mpr c46
                          have c46b1 : (t166.toList != t168.toList) = true := bne_iff_ne.mpr c46
                          exact absurd ((Option.some.inj H).trans HRT.out) Bool.false_ne_true
                      · replace c45 := Bool.eq_false_iff.mpr c45
                        subst c45
                        have H1 : (if t166.toList = ([] : List UInt8) then (if (t167 == false) = true then ((ammonitelaw4_SqueezeRuns.f kj25).bind fun t171 => (some t171)) else (some false)) else (some false)) = some r := by rw [if_neg (show ¬ (false = true) by decide)] at H; exact H
                        clear H
                        have H := H1
                        clear H1
                        by_cases c51 : t166.toList = ([] : List UInt8)
                        · rw [if_pos c51] at H
                          have c51b0 : (t166.toList == ([] : List UInt8)) = true := beq_iff_eq.mpr c51
                          have c51b1 : (t166.toList != ([] : List UInt8)) = false := bne_eq_false_iff_eq.mpr c51
                          clear c51
                          by_cases c52 : (t167 == false) = true
                          · rw [if_pos c52] at H
                            have c52b0 : (t167 == false) = true := c52
                            (try (have c52b1 : decide (t167 = false) = true := by simpa using c52))
                            (try (have c52b2 : (t167 == false) = true := by simpa using c52))
                            clear c52
                            replace H := Option.bind_eq_some_iff.mp H
                            obtain ⟨t171, A530, H⟩ := H
                            replace H : (some t171) = some r := H
                            have A53 := Aside0.mk A530
                            clear A530
                            obtain rfl := Option.some.inj H
                            go_wp2_with (first | ((with_reducible refine gate_callee (f := 8) rfl ?_); refine goesL_ (some 70) rfl rfl Try.func8 (by kernel_rfl) rfl #[.int .i64 a6, .int .i64 0, .int .i64 500] rfl (by (try simp only [List.map_toArray, List.map_cons, List.map_nil]); first | done | rfl | (simp only [List.length_drop, List.length_take]; rfl)) ?_; (with_reducible refine (ammonitebook_Within.calls a6 0 500 t165 _ A42.out).mono ?_); rintro e w' ⟨rfl, ⟨nd, rfl⟩⟩; refine ⟨_, rfl, ?_⟩) | ((with_reducible refine gate_callee (f := 9) rfl ?_); refine goesL_ (some 74) rfl rfl Try.func9 (by kernel_rfl) rfl #[.string x15_25, .int .i64 t165] rfl (by (try simp only [List.map_toArray, List.map_cons, List.map_nil]); first | done | rfl | (simp only [List.length_drop, List.length_take]; rfl)) ?_; (with_reducible refine (squeeze_Expand.calls kj25 x15_25 t165 t166 t167 _ A43.out).mono ?_); rintro e w54 ⟨rfl, hb⟩; refine ⟨_, rfl, ?_⟩; have n0_ := Aside0.mk (blk_below (g := gb157) (o := .cells #[.int .i64 a0_0, .slice A0_1 l0_1.length c0_1] 24 (0, 0)) (by (with_reducible repeat (first | refine blk_drewN ?_ _ | refine blk_drew ?_ | refine blk_alloc ?_ _)); exact BK157.out) hb); have n1_ := Aside0.mk (below_step (by repeat (first | (with_reducible first | exact HB.out | apply below_alloc | apply pw_below_drewN | apply below_drew1 | refine below_set ?_ GE157.out) | exact HB.out)) hb); clear BK157; clear HB; have BK157 := n0_; have HB := n1_; clear n0_ n1_; (try clear hb); (try clear hb2); (try clear hk); (try clear hi)) | ((with_reducible refine gate_callee (f := 10) rfl ?_); refine goesL_ (some 80) rfl rfl Try.func10 (by kernel_rfl) rfl #[.string x15_25, .int .i64 t165] rfl (by (try simp only [List.map_toArray, List.map_cons, List.map_nil]); first | done | rfl | (simp only [List.length_drop, List.length_take]; rfl)) ?_; (with_reducible refine (ammoniteref1_Expand.calls kj25 x15_25 t165 t168 false _ A44.out).mono ?_); rintro e w' ⟨rfl, ⟨nd, rfl⟩⟩; refine ⟨_, rfl, ?_⟩) | (go_at_call 11; (try simp only [i64_w, i32_w]); (with_reducible refine (ammonitelaw4_SqueezeRuns.calls kj25  t171 _ A53.out).mono ?_); rintro e w55 ⟨rfl, hb⟩; have n0_ := Aside0.mk (blk_below (g := gb157) (o := .cells #[.int .i64 a0_0, .slice A0_1 l0_1.length c0_1] 24 (0, 0)) (by (with_reducible repeat (first | refine blk_drewN ?_ _ | refine blk_drew ?_ | refine blk_alloc ?_ _)); exact BK157.out) hb); have n1_ := Aside0.mk (below_step (by repeat (first | (with_reducible first | exact HB.out | apply below_alloc | apply pw_below_drewN | apply below_drew1 | refine below_set ?_ GE157.out) | exact HB.out)) hb); clear BK157; clear HB; have BK157 := n0_; have HB := n1_; clear n0_ n1_; (try clear hb); (try clear hb2); (try clear hk); (try clear hi)))
                            go_ret
                            exact ⟨by first | rfl | (simp [errW_none, errW_some] <;> rfl) | (simp only [← hji8]; first | rfl | (simp [errW_none, errW_some] <;> rfl)) | (simp [*, errW_none, errW_some] <;> rfl), by repeat (first | (with_reducible first | exact HB.out | apply below_alloc | apply pw_below_drewN | apply below_drew1 | refine below_set ?_ GE157.out) | exact HB.out)⟩
                            all_goals (exfalso; (try simp only [beq_iff_eq, bne_iff_ne, ne_eq, decide_eq_true_eq, decide_eq_false_iff_not, decide_eq_decide, bne_eq_false_iff_eq, beq_eq_false_iff_ne, Bool.not_eq_true, Bool.not_eq_false, Bool.not_eq_true', Bool.not_eq_false', Bool.true_beq, Bool.false_beq, Bool.true_bne, Bool.false_bne, Bool.bne_true, Bool.bne_false] at c9b0); (try simp only [beq_iff_eq, bne_iff_ne, ne_eq, decide_eq_true_eq, decide_eq_false_iff_not, decide_eq_decide, bne_eq_false_iff_eq, beq_eq_false_iff_ne, Bool.not_eq_true, Bool.not_eq_false, Bool.not_eq_true', Bool.not_eq_false', Bool.true_beq, Bool.false_beq, Bool.true_bne, Bool.false_bne, Bool.bne_true, Bool.bne_false] at c9b1); (try simp only [beq_iff_eq, bne_iff_ne, ne_eq, decide_eq_true_eq, decide_eq_false_iff_not, decide_eq_decide, bne_eq_false_iff_eq, beq_eq_false_iff_ne, Bool.not_eq_true, Bool.not_eq_false, Bool.not_eq_true', Bool.not_eq_false', Bool.true_beq, Bool.false_beq, Bool.true_bne, Bool.false_bne, Bool.bne_true, Bool.bne_false] at c10b0); (try simp only [beq_iff_eq, bne_iff_ne, ne_eq, decide_eq_true_eq, decide_eq_false_iff_not, decide_eq_decide, bne_eq_false_iff_eq, beq_eq_false_iff_ne, Bool.not_eq_true, Bool.not_eq_false, Bool.not_eq_true', Bool.not_eq_false', Bool.true_beq, Bool.false_beq, Bool.true_bne, Bool.false_bne, Bool.bne_true, Bool.bne_false] at c10b1); (try simp only [beq_iff_eq, bne_iff_ne, ne_eq, decide_eq_true_eq, decide_eq_false_iff_not, decide_eq_decide, bne_eq_false_iff_eq, beq_eq_false_iff_ne, Bool.not_eq_true, Bool.not_eq_false, Bool.not_eq_true', Bool.not_eq_false', Bool.true_beq, Bool.false_beq, Bool.true_bne, Bool.false_bne, Bool.bne_true, Bool.bne_false] at c11b0); (try simp only [beq_iff_eq, bne_iff_ne, ne_eq, decide_eq_true_eq, decide_eq_false_iff_not, decide_eq_decide, bne_eq_false_iff_eq, beq_eq_false_iff_ne, Bool.not_eq_true, Bool.not_eq_false, Bool.not_eq_true', Bool.not_eq_false', Bool.true_beq, Bool.false_beq, Bool.true_bne, Bool.false_bne, Bool.bne_true, Bool.bne_false] at c11b1); (try simp only [beq_iff_eq, bne_iff_ne, ne_eq, decide_eq_true_eq, decide_eq_false_iff_not, decide_eq_decide, bne_eq_false_iff_eq, beq_eq_false_iff_ne, Bool.not_eq_true, Bool.not_eq_false, Bool.not_eq_true', Bool.not_eq_false', Bool.true_beq, Bool.false_beq, Bool.true_bne, Bool.false_bne, Bool.bne_true, Bool.bne_false] at c24b0); (try simp only [beq_iff_eq, bne_iff_ne, ne_eq, decide_eq_true_eq, decide_eq_false_iff_not, decide_eq_decide, bne_eq_false_iff_eq, beq_eq_false_iff_ne, Bool.not_eq_true, Bool.not_eq_false, Bool.not_eq_true', Bool.not_eq_false', Bool.true_beq, Bool.false_beq, Bool.true_bne, Bool.false_bne, Bool.bne_true, Bool.bne_false] at c24b1); (try simp only [beq_iff_eq, bne_iff_ne, ne_eq, decide_eq_true_eq, decide_eq_false_iff_not, decide_eq_decide, bne_eq_false_iff_eq, beq_eq_false_iff_ne, Bool.not_eq_true, Bool.not_eq_false, Bool.not_eq_true', Bool.not_eq_false', Bool.true_beq, Bool.false_beq, Bool.true_bne, Bool.false_bne, Bool.bne_true, Bool.bne_false] at c51b0); (try simp only [beq_iff_eq, bne_iff_ne, ne_eq, decide_eq_true_eq, decide_eq_false_iff_not, decide_eq_decide, bne_eq_false_iff_eq, beq_eq_false_iff_ne, Bool.not_eq_true, Bool.not_eq_false, Bool.not_eq_true', Bool.not_eq_false', Bool.true_beq, Bool.false_beq, Bool.true_bne, Bool.false_bne, Bool.bne_true, Bool.bne_false] at c51b1); (try simp only [beq_iff_eq, bne_iff_ne, ne_eq, decide_eq_true_eq, decide_eq_false_iff_not, decide_eq_decide, bne_eq_false_iff_eq, beq_eq_false_iff_ne, Bool.not_eq_true, Bool.not_eq_false, Bool.not_eq_true', Bool.not_eq_false', Bool.true_beq, Bool.false_beq, Bool.true_bne, Bool.false_bne, Bool.bne_true, Bool.bne_false] at c52b0); (try simp only [beq_iff_eq, bne_iff_ne, ne_eq, decide_eq_true_eq, decide_eq_false_iff_not, decide_eq_decide, bne_eq_false_iff_eq, beq_eq_false_iff_ne, Bool.not_eq_true, Bool.not_eq_false, Bool.not_eq_true', Bool.not_eq_false', Bool.true_beq, Bool.false_beq, Bool.true_bne, Bool.false_bne, Bool.bne_true, Bool.bne_false] at c52b1); (try simp only [beq_iff_eq, bne_iff_ne, ne_eq, decide_eq_true_eq, decide_eq_false_iff_not, decide_eq_decide, bne_eq_false_iff_eq, beq_eq_false_iff_ne, Bool.not_eq_true, Bool.not_eq_false, Bool.not_eq_true', Bool.not_eq_false', Bool.true_beq, Bool.false_beq, Bool.true_bne, Bool.false_bne, Bool.bne_true, Bool.bne_false] at c52b2); (try unfold wrap64 at *); omega)
                          · rw [if_neg c52] at H
                            have c52b0 : (t167 == false) = false := by simpa using c52
                            (try (have c52b1 : decide (t167 = false) = false := by simpa using c52))
                            (try (have c52b2 : (t167 == false) = false := by simpa using c52))
                            (try (have c52b3 : ¬ (t167 = false) := by simpa using c52))
                            clear c52
                            exact absurd ((Option.some.inj H).trans HRT.out) Bool.false_ne_true
                        · rw [if_neg c51] at H
                          have c51b0 : (t166.toList == ([] : List UInt8)) = false := beq_eq_false_iff_ne.mpr c51
                          have c51b1 : (t166.toList != ([] : List UInt8)) = true := bne_iff_ne.mpr c51
                          exact absurd ((Option.some.inj H).trans HRT.out) Bool.false_ne_true
      · rw [if_neg c11] at H
        exact absurd H (by simp)
    · rw [if_neg c10] at H
      exact absurd H (by simp)
  · rw [if_neg c9] at H
    exact absurd H (by simp)

/-- THE ONE PURE STATEMENT of ammonitelaw4_SqueezeTells: yours. -/
def ammonitelaw4_SqueezeTells.Pure : Prop := ∀ (a0_0 : Int) (l0_1 : List Int) (a1 : ByteArray) (l2 : List Int) (a3 : Int) (a4 : Int) (a5 : Int) (a6 : Int), (Lit.int .i64 a0_0).wf = true → l0_1.length ≤ maxLen → (∀ x ∈ l0_1, (Lit.int .i64 x).wf = true) → a1.size ≤ 140737488351232 → l2.length ≤ maxLen → l2.length * 8 ≤ 140737488351232 → (∀ x ∈ l2, (Lit.int .i64 x).wf = true) → (Lit.int .i64 a3).wf = true → (Lit.int .u8 a4).wf = true → (Lit.int .i64 a5).wf = true → (Lit.int .i64 a6).wf = true → ∃ k, ammonitelaw4_SqueezeTells.f k a0_0 l0_1 a1 l2 a3 a4 a5 a6 = some true
theorem ammonitelaw4_SqueezeTells.walk (P : ammonitelaw4_SqueezeTells.Pure) (a0_0 : Int) (a0_1 : Option Addr) (len0_1 cap0_1 : Nat) (z0_1 : List Int) (a1 : ByteArray) (a2 : Option Addr) (len2 cap2 : Nat) (z2 : List Int) (a3 : Int) (a4 : Int) (a5 : Int) (a6 : Int) (w : World) (w0_0 : (Lit.int .i64 a0_0).wf = true) (w0_1 : (a0_1 = none ∧ len0_1 = 0 ∧ cap0_1 = 0 ∧ z0_1 = []) ∨ ∃ x, a0_1 = some x ∧ len0_1 ≤ cap0_1 ∧ cap0_1 ≤ maxLen ∧ z0_1.length = cap0_1 ∧ (∀ i, i < z0_1.length → w.cell? (x.add i) = some (.int .i64 (z0_1.getD i 0))) ∧ ∀ n ∈ z0_1, (Lit.int .i64 n).wf = true) (w1 : a1.size ≤ 140737488351232) (w2 : (a2 = none ∧ len2 = 0 ∧ cap2 = 0 ∧ z2 = []) ∨ ∃ x, a2 = some x ∧ len2 ≤ cap2 ∧ cap2 ≤ maxLen ∧ z2.length = cap2 ∧ (∀ i, i < z2.length → w.cell? (x.add i) = some (.int .i64 (z2.getD i 0))) ∧ ∀ n ∈ z2, (Lit.int .i64 n).wf = true) (y2 : len2 * 8 ≤ 140737488351232) (w3 : (Lit.int .i64 a3).wf = true) (w4 : (Lit.int .u8 a4).wf = true) (w5 : (Lit.int .i64 a5).wf = true) (w6 : (Lit.int .i64 a6).wf = true) :
    Calls Try.prog 3 #[.agg #[.int .i64 a0_0, .slice a0_1 len0_1 cap0_1], .string a1, .slice a2 len2 cap2, .int .i64 a3, .int .u8 a4, .int .i64 a5, .int .i64 a6] w fun e w' => e = .returned (.bool true) ∧ Below w.heap.size w w' := by
  obtain ⟨l0_1, rfl, hr0_1, hm0_1, hw0_1, hc0_1⟩ := ReadsInt.ofRowC w0_1
  obtain ⟨l2, rfl, hr2, hm2, hw2, hc2⟩ := ReadsInt.ofRowC w2
  obtain ⟨k, h⟩ := P a0_0 l0_1 a1 l2 a3 a4 a5 a6 w0_0 hm0_1 hw0_1 w1 hm2 y2 hw2 w3 w4 w5 w6
  refine (ammonitelaw4_SqueezeTells.calls k a0_0 _ _ l0_1 a1 _ _ l2 a3 a4 a5 a6 true w (Kd.C_of_reads (d := (0 : Int)) (h1 := fun _ => rfl) hr0_1) hc0_1 (Kd.C_of_reads (d := (0 : Int)) (h1 := fun _ => rfl) hr2) hc2 h rfl).mono ?_
  rintro e w' ⟨rfl, hd⟩
  exact ⟨rfl, hd⟩

end Go.Proofs.Ytjiafbckfnglmaa.Q
