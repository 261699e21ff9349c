-- Written by a program of this session (wip/tools/ap.py) for this claim.
import Derived.Test.YtldbhkhblkgnnaaLx0
namespace Go.Proofs.Ytldbhkhblkgnnaa.Q
open Go.Proofs.Ytldbhkhblkgnnaa.Given
open Go.RowKit Go.Proofs.Ytldbhkhblkgnnaa.PW Go.Proofs.YtldbhkhblkgnnaaW.PrintWords Go.Proofs.YtldbhkhblkgnnaaW.PrintLast Go.Proofs.YtldbhkhblkgnnaaW.PrintMore
attribute [local go_sem] max2_int min2_int max_two min_two max_three min_three max_four min_four   -- for this text's walks alone
set_option linter.unnecessarySimpa false
attribute [local go_sem high] run_cut_if run_cut_from run_cut_to run_cat_if
set_option linter.unusedVariables false
set_option linter.unusedSimpArgs false

-- NOT PRINTED: function 26 (hash_padded)

theorem zqme90_ {p : Prop} (h : p := by repeat (first | (with_reducible first | exact HB.out | apply below_alloc | apply pw_below_drewN | apply below_drew1) | exact HB.out)) : p := h
/-! ### bits_RotateLeft32: function 38 -/
def bits_RotateLeft32.f (a0 : Int) (a1 : Int) : Option (Int) := if 0 ≤ (Go.bits .and .u64 (IntKind.u64.wrap (a1)) 31) then (if 0 ≤ (IntKind.u64.wrap (32 - (Go.bits .and .u64 (IntKind.u64.wrap (a1)) 31))) then (some (Go.bits .or .u32 (shl .u32 a0 (Go.bits .and .u64 (IntKind.u64.wrap (a1)) 31)) (shr .u32 a0 (IntKind.u64.wrap (32 - (Go.bits .and .u64 (IntKind.u64.wrap (a1)) 31)))))) else (none)) else (none)
set_option maxHeartbeats 8000000 in
set_option maxRecDepth 100000 in
theorem bits_RotateLeft32.calls (a0 : Int) (a1 : Int) (r : Int) (w : World) (h : bits_RotateLeft32.f a0 a1 = some r) :
    Calls Try.prog 38 #[.int .u32 a0, .int .i64 a1] w fun e w' => e = .returned (.int .u32 r) ∧ Drawn0 w w' := by
  have H : (if 0 ≤ (Go.bits .and .u64 (IntKind.u64.wrap (a1)) 31) then (if 0 ≤ (IntKind.u64.wrap (32 - (Go.bits .and .u64 (IntKind.u64.wrap (a1)) 31))) then (some (Go.bits .or .u32 (shl .u32 a0 (Go.bits .and .u64 (IntKind.u64.wrap (a1)) 31)) (shr .u32 a0 (IntKind.u64.wrap (32 - (Go.bits .and .u64 (IntKind.u64.wrap (a1)) 31)))))) else (none)) else (none)) = some r := h
  clear h
  obtain ⟨ji3, hji3⟩ : ∃ j_ : Int, (Go.bits .and .u64 (IntKind.u64.wrap (a1)) 31) = j_ := ⟨_, rfl⟩
  replace H : (if 0 ≤ (ji3) then (if 0 ≤ (IntKind.u64.wrap (32 - (ji3))) then (some (Go.bits .or .u32 (shl .u32 a0 (ji3)) (shr .u32 a0 (IntKind.u64.wrap (32 - (ji3)))))) else (none)) else (none)) = some r := by first | (rw [hji3] at H; exact H) | (simp only [hji3] at H ⊢; exact H)
  by_cases c4 : 0 ≤ (ji3)
  · rw [if_pos c4] at H
    have c4b0 := eq_true c4
    have c4b1 : decide (0 ≤ (ji3)) = true := decide_eq_true c4
    clear c4
    obtain ⟨ji5, hji5⟩ : ∃ j_ : Int, (shl .u32 a0 (ji3)) = j_ := ⟨_, rfl⟩
    replace H : (if 0 ≤ (IntKind.u64.wrap (32 - (ji3))) then (some (Go.bits .or .u32 (ji5) (shr .u32 a0 (IntKind.u64.wrap (32 - (ji3)))))) else (none)) = some r := by first | (rw [hji5] at H; exact H) | (simp only [hji5] at H ⊢; exact H)
    have hji5_ : (IntKind.u32.wrap (a0 * 2 ^ min (ji3).toNat 32)) = ji5 := hji5
    have hji5z : (ji3) ≤ 32 → (IntKind.u32.wrap (a0 * 2 ^ (ji3).toNat)) = ji5 := shl_small hji5
    obtain ⟨ji6, hji6⟩ : ∃ j_ : Int, (IntKind.u64.wrap (32 - (ji3))) = j_ := ⟨_, rfl⟩
    replace H : (if 0 ≤ (ji6) then (some (Go.bits .or .u32 (ji5) (shr .u32 a0 (ji6)))) else (none)) = some r := by first | (rw [hji6] at H; exact H) | (simp only [hji6] at H ⊢; exact H)
    by_cases c7 : 0 ≤ (ji6)
    · rw [if_pos c7] at H
      have c7b0 := eq_true c7
      have c7b1 : decide (0 ≤ (ji6)) = true := decide_eq_true c7
      clear c7
      obtain ⟨ji8, hji8⟩ : ∃ j_ : Int, (shr .u32 a0 (ji6)) = j_ := ⟨_, rfl⟩
      replace H : (some (Go.bits .or .u32 (ji5) (ji8))) = some r := by first | (rw [hji8] at H; exact H) | (simp only [hji8] at H ⊢; exact H)
      have hji8_ : (a0 / 2 ^ min (ji6).toNat 32) = ji8 := hji8
      have hji8z : (ji6) ≤ 32 → (a0 / 2 ^ (ji6).toNat) = ji8 := shr_small hji8
      obtain rfl := Option.some.inj H
      go_enter Try.func38, Try.ntmps38
      go_wp2
      go_ret
      exact ⟨by first | rfl | (simp; done) | (simp only [← hji3, ← hji5, ← hji6, ← hji8] <;> (first | rfl | simp)) | (simp [*]; done), by repeat (first | exact Drawn0.refl _ | apply Drawn0.step)⟩
      all_goals (exfalso; (try simp only [pwB, pwD, pwN] at c4b0); (try simp only [pwB, pwD, pwN] at c4b1); (try simp only [pwB, pwD, pwN] at c7b0); (try simp only [pwB, pwD, pwN] at c7b1); (try unfold wrap64 at *); omega)
    · rw [if_neg c7] at H
      exact absurd H (by simp)
  · rw [if_neg c4] at H
    exact absurd H (by simp)

-- NOT PRINTED: function 36 (hash_spread)

/-! ### hash_mixed: function 37 -/
def hash_mixed.f (a0 : Int) (a1 : Int) (a2 : Int) (a3 : Int) : Option (Int × Int) := if (wrap64 (Int.tdiv a0 20)) = 0 then (some (Go.bits .or .u32 (Go.bits .and .u32 a1 a2) (Go.bits .and .u32 (Go.bits .xor .u32 4294967295 a1) a3), 1518500249)) else (if (wrap64 (Int.tdiv a0 20)) = 1 then (some (Go.bits .xor .u32 (Go.bits .xor .u32 a1 a2) a3, 1859775393)) else (if (wrap64 (Int.tdiv a0 20)) = 2 then (some (Go.bits .or .u32 (Go.bits .or .u32 (Go.bits .and .u32 a1 a2) (Go.bits .and .u32 a1 a3)) (Go.bits .and .u32 a2 a3), 2400959708)) else (some (Go.bits .xor .u32 (Go.bits .xor .u32 a1 a2) a3, 3395469782))))
set_option maxHeartbeats 8000000 in
set_option maxRecDepth 100000 in
theorem hash_mixed.calls (a0 : Int) (a1 : Int) (a2 : Int) (a3 : Int) (r1 : Int) (r2 : Int) (w : World) (h : hash_mixed.f a0 a1 a2 a3 = some (r1, r2)) :
    Calls Try.prog 37 #[.int .i64 a0, .int .u32 a1, .int .u32 a2, .int .u32 a3] w fun e w' => e = .returned (.tuple #[.int .u32 r1, .int .u32 r2]) ∧ Drawn0 w w' := by
  have H : (if (wrap64 (Int.tdiv a0 20)) = 0 then (some (Go.bits .or .u32 (Go.bits .and .u32 a1 a2) (Go.bits .and .u32 (Go.bits .xor .u32 4294967295 a1) a3), 1518500249)) else (if (wrap64 (Int.tdiv a0 20)) = 1 then (some (Go.bits .xor .u32 (Go.bits .xor .u32 a1 a2) a3, 1859775393)) else (if (wrap64 (Int.tdiv a0 20)) = 2 then (some (Go.bits .or .u32 (Go.bits .or .u32 (Go.bits .and .u32 a1 a2) (Go.bits .and .u32 a1 a3)) (Go.bits .and .u32 a2 a3), 2400959708)) else (some (Go.bits .xor .u32 (Go.bits .xor .u32 a1 a2) a3, 3395469782))))) = some (r1, r2) := h
  clear h
  by_cases c5 : (wrap64 (Int.tdiv a0 20)) = 0
  · rw [if_pos c5] at H
    have c5b0 : ((wrap64 (Int.tdiv a0 20)) == 0) = true := beq_iff_eq.mpr c5
    have c5b1 : ((wrap64 (Int.tdiv a0 20)) != 0) = false := bne_eq_false_iff_eq.mpr c5
    clear c5
    simp only [Option.some.injEq, Prod.mk.injEq] at H
    obtain ⟨rfl, rfl⟩ := H
    go_enter Try.func37, Try.ntmps37
    go_wp2
    go_ret2
    exact ⟨by first | rfl | (simp; done) | (simp [*]; done), by repeat (first | exact Drawn0.refl _ | apply Drawn0.step)⟩
    all_goals (exfalso; (try simp only [pwB, pwD, pwN] at c5b0); (try simp only [pwB, pwD, pwN] at c5b1); (try unfold wrap64 at *); omega)
  · rw [if_neg c5] at H
    have c5b0 : ((wrap64 (Int.tdiv a0 20)) == 0) = false := beq_eq_false_iff_ne.mpr c5
    have c5b1 : ((wrap64 (Int.tdiv a0 20)) != 0) = true := bne_iff_ne.mpr c5
    by_cases c6 : (wrap64 (Int.tdiv a0 20)) = 1
    · rw [if_pos c6] at H
      have c6b0 : ((wrap64 (Int.tdiv a0 20)) == 1) = true := beq_iff_eq.mpr c6
      have c6b1 : ((wrap64 (Int.tdiv a0 20)) != 1) = false := bne_eq_false_iff_eq.mpr c6
      clear c6
      simp only [Option.some.injEq, Prod.mk.injEq] at H
      obtain ⟨rfl, rfl⟩ := H
      go_enter Try.func37, Try.ntmps37
      go_wp2
      go_ret2
      exact ⟨by first | rfl | (simp; done) | (simp [*]; done), by repeat (first | exact Drawn0.refl _ | apply Drawn0.step)⟩
      all_goals (exfalso; (try simp only [pwB, pwD, pwN] at c5b0); (try simp only [pwB, pwD, pwN] at c5b1); (try simp only [pwB, pwD, pwN] at c6b0); (try simp only [pwB, pwD, pwN] at c6b1); (try unfold wrap64 at *); omega)
    · rw [if_neg c6] at H
      have c6b0 : ((wrap64 (Int.tdiv a0 20)) == 1) = false := beq_eq_false_iff_ne.mpr c6
      have c6b1 : ((wrap64 (Int.tdiv a0 20)) != 1) = true := bne_iff_ne.mpr c6
      by_cases c7 : (wrap64 (Int.tdiv a0 20)) = 2
      · rw [if_pos c7] at H
        have c7b0 : ((wrap64 (Int.tdiv a0 20)) == 2) = true := beq_iff_eq.mpr c7
        have c7b1 : ((wrap64 (Int.tdiv a0 20)) != 2) = false := bne_eq_false_iff_eq.mpr c7
        clear c7
        simp only [Option.some.injEq, Prod.mk.injEq] at H
        obtain ⟨rfl, rfl⟩ := H
        go_enter Try.func37, Try.ntmps37
        go_wp2
        go_ret2
        exact ⟨by first | rfl | (simp; done) | (simp [*]; done), by repeat (first | exact Drawn0.refl _ | apply Drawn0.step)⟩
        all_goals (exfalso; (try simp only [pwB, pwD, pwN] at c5b0); (try simp only [pwB, pwD, pwN] at c5b1); (try simp only [pwB, pwD, pwN] at c6b0); (try simp only [pwB, pwD, pwN] at c6b1); (try simp only [pwB, pwD, pwN] at c7b0); (try simp only [pwB, pwD, pwN] at c7b1); (try unfold wrap64 at *); omega)
      · rw [if_neg c7] at H
        have c7b0 : ((wrap64 (Int.tdiv a0 20)) == 2) = false := beq_eq_false_iff_ne.mpr c7
        have c7b1 : ((wrap64 (Int.tdiv a0 20)) != 2) = true := bne_iff_ne.mpr c7
        simp only [Option.some.injEq, Prod.mk.injEq] at H
        obtain ⟨rfl, rfl⟩ := H
        go_enter Try.func37, Try.ntmps37
        go_wp2
        go_ret2
        exact ⟨by first | rfl | (simp; done) | (simp [*]; done), by repeat (first | exact Drawn0.refl _ | apply Drawn0.step)⟩
        all_goals (exfalso; (try simp only [pwB, pwD, pwN] at c5b0); (try simp only [pwB, pwD, pwN] at c5b1); (try simp only [pwB, pwD, pwN] at c6b0); (try simp only [pwB, pwD, pwN] at c6b1); (try simp only [pwB, pwD, pwN] at c7b0); (try simp only [pwB, pwD, pwN] at c7b1); (try unfold wrap64 at *); omega)

-- NOT PRINTED: function 27 (hash_take)

-- NOT PRINTED: function 51 (bytealg_IndexByteString)

-- NOT PRINTED: function 49 (stringslite_IndexByte)

-- NOT PRINTED: function 47 (abi_NoEscape)

-- NOT PRINTED: function 43 (strings_Builder_copyCheck)

-- NOT PRINTED: function 29 (strings_Builder_WriteString)

-- NOT PRINTED: function 33 (strings_Builder_String)

-- NOT PRINTED: function 52 (bytealg_MakeNoZero)

-- NOT PRINTED: function 50 (strings_Builder_grow)

-- NOT PRINTED: function 48 (strings_Builder_Grow)

-- NOT PRINTED: function 44 (strings_Join)

-- NOT PRINTED: function 30 (wire_line)

/-! ### login_Sig: function 14 -/
def login_Sig.f (a0 : ByteArray) (a1 : ByteArray) (a2_0 : ByteArray) (a2_1 : ByteArray) (a2_2 : Int) (a2_3 : Bool) (a2_4 : Bool) (a2_5 : Bool) (l2_6 : List ByteArray) (l2_7 : List ByteArray) (l2_8 : List (S46)) (a2_9 : Int) : Option (ByteArray) := if a0.size + 1 ≤ 9223372036854775807 then (if (catS a0 (⟨#[10]⟩ : ByteArray)).size + a1.size ≤ 9223372036854775807 then (if (catS (catS a0 (⟨#[10]⟩ : ByteArray)) a1).size + 1 ≤ 9223372036854775807 then ((wire_Body.f a2_0 a2_1 a2_2 a2_3 a2_4 a2_5 l2_6 l2_7 l2_8 a2_9).bind fun t106 => (if (catS (catS (catS a0 (⟨#[10]⟩ : ByteArray)) a1) (⟨#[10]⟩ : ByteArray)).size + t106.size ≤ 9223372036854775807 then ((hash_Sum.f (catS (catS (catS (catS a0 (⟨#[10]⟩ : ByteArray)) a1) (⟨#[10]⟩ : ByteArray)) t106)).bind fun t107 => (some t107)) else (none))) else (none)) else (none)) else (none)
set_option maxHeartbeats 8000000 in
set_option maxRecDepth 100000 in
theorem login_Sig.calls (a0 : ByteArray) (a1 : ByteArray) (a2_0 : ByteArray) (a2_1 : ByteArray) (a2_2 : Int) (a2_3 : Bool) (a2_4 : Bool) (a2_5 : Bool) (A2_6 : Option Addr) (c2_6 : Nat) (l2_6 : List ByteArray) (A2_7 : Option Addr) (c2_7 : Nat) (l2_7 : List ByteArray) (A2_8 : Option Addr) (c2_8 : Nat) (l2_8 : List (S46)) (a2_9 : Int) (r : ByteArray) (w : World) (hr2_6 : Kd.C Kd.string w A2_6 l2_6.length l2_6) (hc2_6 : l2_6.length ≤ c2_6) (hr2_7 : Kd.C Kd.string w A2_7 l2_7.length l2_7) (hc2_7 : l2_7.length ≤ c2_7) (hr2_8 : Kd.C k46 w A2_8 l2_8.length l2_8) (hc2_8 : l2_8.length ≤ c2_8) (h : login_Sig.f a0 a1 a2_0 a2_1 a2_2 a2_3 a2_4 a2_5 l2_6 l2_7 l2_8 a2_9 = some r) :
    Calls Try.prog 14 #[.string a0, .string a1, .agg #[.string a2_0, .string a2_1, .int .i64 a2_2, .bool a2_3, .bool a2_4, .bool a2_5, .slice A2_6 l2_6.length c2_6, .slice A2_7 l2_7.length c2_7, .slice A2_8 l2_8.length c2_8, .int .i64 a2_9]] w fun e w' => e = .returned (.string r) ∧ Below w.heap.size w w' := by
  have hu28 := Try.underlying28
  have HR2_6 := Aside0.mk hr2_6
  have HC2_6 := Aside0.mk hc2_6
  clear hr2_6 hc2_6
  have HR2_7 := Aside0.mk hr2_7
  have HC2_7 := Aside0.mk hc2_7
  clear hr2_7 hc2_7
  have HR2_8 := Aside0.mk hr2_8
  have HC2_8 := Aside0.mk hc2_8
  clear hr2_8 hc2_8
  have HB := Aside0.mk (Below.refl w.heap.size w)
  have H : (if a0.size + 1 ≤ 9223372036854775807 then (if (catS a0 (⟨#[10]⟩ : ByteArray)).size + a1.size ≤ 9223372036854775807 then (if (catS (catS a0 (⟨#[10]⟩ : ByteArray)) a1).size + 1 ≤ 9223372036854775807 then ((wire_Body.f a2_0 a2_1 a2_2 a2_3 a2_4 a2_5 l2_6 l2_7 l2_8 a2_9).bind fun t106 => (if (catS (catS (catS a0 (⟨#[10]⟩ : ByteArray)) a1) (⟨#[10]⟩ : ByteArray)).size + t106.size ≤ 9223372036854775807 then ((hash_Sum.f (catS (catS (catS (catS a0 (⟨#[10]⟩ : ByteArray)) a1) (⟨#[10]⟩ : ByteArray)) t106)).bind fun t107 => (some t107)) else (none))) else (none)) else (none)) else (none)) = some r := h
  clear h
  by_cases c4 : a0.size + 1 ≤ 9223372036854775807
  · rw [if_pos c4] at H
    have c4b0 := eq_true c4
    have c4b1 : decide (a0.size + 1 ≤ 9223372036854775807) = true := decide_eq_true c4
    try have c4b2 : (9223372036854775807 < a0.size + 1) = False := eq_false (Nat.not_lt.2 c4)
    clear c4
    by_cases c5 : (catS a0 (⟨#[10]⟩ : ByteArray)).size + a1.size ≤ 9223372036854775807
    · rw [if_pos c5] at H
      have c5b0 := eq_true c5
      have c5b1 : decide ((catS a0 (⟨#[10]⟩ : ByteArray)).size + a1.size ≤ 9223372036854775807) = true := decide_eq_true c5
      try have c5b2 : (9223372036854775807 < (catS a0 (⟨#[10]⟩ : ByteArray)).size + a1.size) = False := eq_false (Nat.not_lt.2 c5)
      clear c5
      by_cases c6 : (catS (catS a0 (⟨#[10]⟩ : ByteArray)) a1).size + 1 ≤ 9223372036854775807
      · rw [if_pos c6] at H
        have c6b0 := eq_true c6
        have c6b1 : decide ((catS (catS a0 (⟨#[10]⟩ : ByteArray)) a1).size + 1 ≤ 9223372036854775807) = true := decide_eq_true c6
        try have c6b2 : (9223372036854775807 < (catS (catS a0 (⟨#[10]⟩ : ByteArray)) a1).size + 1) = False := eq_false (Nat.not_lt.2 c6)
        clear c6
        replace H := Option.bind_eq_some_iff.mp H
        obtain ⟨t106, A70, H⟩ := H
        replace H : (if (catS (catS (catS a0 (⟨#[10]⟩ : ByteArray)) a1) (⟨#[10]⟩ : ByteArray)).size + t106.size ≤ 9223372036854775807 then ((hash_Sum.f (catS (catS (catS (catS a0 (⟨#[10]⟩ : ByteArray)) a1) (⟨#[10]⟩ : ByteArray)) t106)).bind fun t107 => (some t107)) else (none)) = some r := H
        have A7 := Aside0.mk A70
        clear A70
        by_cases c8 : (catS (catS (catS a0 (⟨#[10]⟩ : ByteArray)) a1) (⟨#[10]⟩ : ByteArray)).size + t106.size ≤ 9223372036854775807
        · rw [if_pos c8] at H
          have c8b0 := eq_true c8
          have c8b1 : decide ((catS (catS (catS a0 (⟨#[10]⟩ : ByteArray)) a1) (⟨#[10]⟩ : ByteArray)).size + t106.size ≤ 9223372036854775807) = true := decide_eq_true c8
          try have c8b2 : (9223372036854775807 < (catS (catS (catS a0 (⟨#[10]⟩ : ByteArray)) a1) (⟨#[10]⟩ : ByteArray)).size + t106.size) = False := eq_false (Nat.not_lt.2 c8)
          clear c8
          replace H := Option.bind_eq_some_iff.mp H
          obtain ⟨t107, A90, H⟩ := H
          replace H : (some t107) = some r := H
          have A9 := Aside0.mk A90
          clear A90
          obtain rfl := Option.some.inj H
          go_enter Try.func14, Try.ntmps14
          go_wp2_with (first | ((with_reducible refine gate_dst (N := 5) rfl ?_); refine box_event ?hg (N := 5) ?hd (cs := #[.string a2_0, .string a2_1, .int .i64 a2_2, .bool a2_3, .bool a2_4, .bool a2_5, .slice A2_6 l2_6.length c2_6, .slice A2_7 l2_7.length c2_7, .slice A2_8 l2_8.length c2_8, .int .i64 a2_9]) (t := 28) ?hr ?_; (case hd => rfl); (case hg => rfl); (case hr => first | (go_simp; done) | (go_simp; rfl) | (go_simp; congr 4; (try congr 1); (try simp only [IntKind.wrap_u8, IntKind.wrap_u32]); (try unfold wrap64); omega)); intro gb105 hg w10 hbox hb; have n0_ := Aside0.mk (below_step zqme90_ hb); have n1_ := Aside0.mk (hbox); have n2_ := Aside0.mk ((by rw [hg]; exact (below_size zqme90_) : w.heap.size ≤ gb105)); have n3_ := Aside0.mk ((by rw [hg]; exact (below_size zqme90_) : w.heap.size ≤ gb105)); clear HB; have HB := n0_; have BK105 := n1_; have GW105 := n2_; have GE105 := n3_; clear n0_ n1_ n2_ n3_; clear hb hbox hg; have hcz11_0 : w10.cell? ⟨gb105, 0, none⟩ = some (.string a2_0) := (blk_cell BK105.out 0).trans rfl; have hcz11_1 : w10.cell? ⟨gb105, 1, none⟩ = some (.string a2_1) := (blk_cell BK105.out 1).trans rfl; have hcz11_2 : w10.cell? ⟨gb105, 2, none⟩ = some (.int .i64 a2_2) := (blk_cell BK105.out 2).trans rfl; have hcz11_3 : w10.cell? ⟨gb105, 3, none⟩ = some (.bool a2_3) := (blk_cell BK105.out 3).trans rfl; have hcz11_4 : w10.cell? ⟨gb105, 4, none⟩ = some (.bool a2_4) := (blk_cell BK105.out 4).trans rfl; have hcz11_5 : w10.cell? ⟨gb105, 5, none⟩ = some (.bool a2_5) := (blk_cell BK105.out 5).trans rfl; have hcz11_6 : w10.cell? ⟨gb105, 6, none⟩ = some (.slice A2_6 l2_6.length c2_6) := (blk_cell BK105.out 6).trans rfl; have hcz11_7 : w10.cell? ⟨gb105, 7, none⟩ = some (.slice A2_7 l2_7.length c2_7) := (blk_cell BK105.out 7).trans rfl; have hcz11_8 : w10.cell? ⟨gb105, 8, none⟩ = some (.slice A2_8 l2_8.length c2_8) := (blk_cell BK105.out 8).trans rfl; have hcz11_9 : w10.cell? ⟨gb105, 9, none⟩ = some (.int .i64 a2_9) := (blk_cell BK105.out 9).trans rfl; have hfz11_0 := blk_frozen BK105.out 0; have hfz11_1 := blk_frozen BK105.out 1; have hfz11_2 := blk_frozen BK105.out 2; have hfz11_3 := blk_frozen BK105.out 3; have hfz11_4 := blk_frozen BK105.out 4; have hfz11_5 := blk_frozen BK105.out 5; have hfz11_6 := blk_frozen BK105.out 6; have hfz11_7 := blk_frozen BK105.out 7; have hfz11_8 := blk_frozen BK105.out 8; have hfz11_9 := blk_frozen BK105.out 9) | ((with_reducible refine gate_callee (f := 22) rfl ?_); refine goesL_ (some 13) rfl rfl Try.func22 (by kernel_rfl) rfl #[.agg #[.string a2_0, .string a2_1, .int .i64 a2_2, .bool a2_3, .bool a2_4, .bool a2_5, .slice A2_6 l2_6.length c2_6, .slice A2_7 l2_7.length c2_7, .slice A2_8 l2_8.length c2_8, .int .i64 a2_9]] rfl (by (try simp only [List.map_toArray, List.map_cons, List.map_nil]); first | done | rfl | (simp only [List.length_drop, List.length_take]; rfl)) ?_; (with_reducible refine (wire_Body.calls a2_0 a2_1 a2_2 a2_3 a2_4 a2_5 _ _ l2_6 _ _ l2_7 _ _ l2_8 a2_9 t106 _ ?side1 ?side2 ?side3 ?side4 ?side5 ?side6 A7.out).mono ?_); (case side1 => repeat (first | exact (Kd.C_below HR2_6.out HB.out) | (with_reducible refine Kd.C_alloc ?_ _) | (with_reducible refine Kd.C_drewN ?_ _) | (with_reducible refine Kd.C_drew ?_))); (case side2 => exact HC2_6.out); (case side3 => repeat (first | exact (Kd.C_below HR2_7.out HB.out) | (with_reducible refine Kd.C_alloc ?_ _) | (with_reducible refine Kd.C_drewN ?_ _) | (with_reducible refine Kd.C_drew ?_))); (case side4 => exact HC2_7.out); (case side5 => repeat (first | exact (Kd.C_below HR2_8.out HB.out) | (with_reducible refine Kd.C_alloc ?_ _) | (with_reducible refine Kd.C_drewN ?_ _) | (with_reducible refine Kd.C_drew ?_))); (case side6 => exact HC2_8.out); rintro e w12 ⟨rfl, hb⟩; refine ⟨_, rfl, ?_⟩; have n0_ := Aside0.mk (blk_below (g := gb105) (o := .cells #[.string a2_0, .string a2_1, .int .i64 a2_2, .bool a2_3, .bool a2_4, .bool a2_5, .slice A2_6 l2_6.length c2_6, .slice A2_7 l2_7.length c2_7, .slice A2_8 l2_8.length c2_8, .int .i64 a2_9] 28 (0, 0)) (by (with_reducible repeat (first | refine blk_drewN ?_ _ | refine blk_drew ?_ | refine blk_alloc ?_ _)); exact BK105.out) hb); have n1_ := Aside0.mk (below_step (by repeat (first | (with_reducible first | exact HB.out | apply below_alloc | apply pw_below_drewN | apply below_drew1 | refine below_set ?_ GE105.out) | exact HB.out)) hb); clear BK105; clear HB; have BK105 := n0_; have HB := n1_; clear n0_ n1_; (try clear hb); (try clear hb2); (try clear hk); (try clear hi)) | ((with_reducible refine gate_callee (f := 21) rfl ?_); refine goesL_ (some 15) rfl rfl Try.func21 (by kernel_rfl) rfl #[.string (catS (catS (catS (catS a0 (⟨#[10]⟩ : ByteArray)) a1) (⟨#[10]⟩ : ByteArray)) t106)] rfl (by (try simp only [List.map_toArray, List.map_cons, List.map_nil]); first | done | rfl | (simp only [List.length_drop, List.length_take]; rfl)) ?_; (with_reducible refine (hash_Sum.calls (catS (catS (catS (catS a0 (⟨#[10]⟩ : ByteArray)) a1) (⟨#[10]⟩ : ByteArray)) t106) t107 _ A9.out).mono ?_); rintro e w13 ⟨rfl, hb⟩; refine ⟨_, rfl, ?_⟩; have n0_ := Aside0.mk (blk_below (g := gb105) (o := .cells #[.string a2_0, .string a2_1, .int .i64 a2_2, .bool a2_3, .bool a2_4, .bool a2_5, .slice A2_6 l2_6.length c2_6, .slice A2_7 l2_7.length c2_7, .slice A2_8 l2_8.length c2_8, .int .i64 a2_9] 28 (0, 0)) (by (with_reducible repeat (first | refine blk_drewN ?_ _ | refine blk_drew ?_ | refine blk_alloc ?_ _)); exact BK105.out) hb); have n1_ := Aside0.mk (below_step (by repeat (first | (with_reducible first | exact HB.out | apply below_alloc | apply pw_below_drewN | apply below_drew1 | refine below_set ?_ GE105.out) | exact HB.out)) hb); clear BK105; clear HB; have BK105 := n0_; have HB := n1_; clear n0_ n1_; (try clear hb); (try clear hb2); (try clear hk); (try clear hi)))
          go_ret
          exact ⟨by first | rfl | (simp [errW_none, errW_some] <;> rfl) | (simp [*, errW_none, errW_some] <;> rfl), by repeat (first | (with_reducible first | exact HB.out | apply below_alloc | apply pw_below_drewN | apply below_drew1 | refine below_set ?_ GE105.out) | exact HB.out)⟩
          all_goals (exfalso; (try simp only [pwB, pwD, pwN] at c4b0); (try simp only [pwB, pwD, pwN] at c4b1); (try simp only [pwB, pwD, pwN] at c5b0); (try simp only [pwB, pwD, pwN] at c5b1); (try simp only [pwB, pwD, pwN] at c6b0); (try simp only [pwB, pwD, pwN] at c6b1); (try simp only [pwB, pwD, pwN] at c8b0); (try simp only [pwB, pwD, pwN] at c8b1); (try unfold wrap64 at *); omega)
        · rw [if_neg c8] at H
          exact absurd H (by simp)
      · rw [if_neg c6] at H
        exact absurd H (by simp)
    · rw [if_neg c5] at H
      exact absurd H (by simp)
  · rw [if_neg c4] at H
    exact absurd H (by simp)

-- NOT PRINTED: function 7 (login_Sign)

end Go.Proofs.Ytldbhkhblkgnnaa.Q
