/- login.May: what a user may send. -/
import Derived.Test.YtldbhkhblkgnnaaWr2
set_option linter.unusedVariables false
set_option linter.unusedSimpArgs false
namespace Go.Proofs.Ytldbhkhblkgnnaa.Given
open Go.RowKit Go.Proofs.YtldbhkhblkgnnaaW.PrintWords Go.Proofs.Ytldbhkhblkgnnaa.Q
def mayI (uq ul pu pl : Bool) (ig gi : List ByteArray) (fs : List SF) : Int :=
  if ((pu || decide (0 < ig.length) || decide (0 < fs.length)) && !uq) || ((pl || decide (0 < gi.length)) && !ul) then 8 else 0
def login_May.f (a0_0 : ByteArray) (a0_1 : ByteArray) (a0_2 : Bool) (a0_3 : Bool) (a1_0 : ByteArray) (a1_1 : ByteArray) (a1_2 : Int) (a1_3 : Bool) (a1_4 : Bool) (a1_5 : Bool) (l1_6 : List ByteArray) (l1_7 : List ByteArray) (l1_8 : List SF) (a1_9 : Int) : Option Int := some (mayI a0_2 a0_3 a1_4 a1_5 l1_6 l1_7 l1_8)
set_option maxRecDepth 100000 in
set_option maxHeartbeats 4000000 in
theorem may_walk (n1 n2 : ByteArray) (uq ul : Bool) (u s : ByteArray) (rd : Int) (an pu pl : Bool) (A6 : Option Addr) (c6 : Nat) (x6 : Nat) (A7 : Option Addr) (c7 : Nat) (x7 : Nat) (A8 : Option Addr) (c8 : Nat) (x8 : Nat) (er : Int) (w : World) :
    Calls Try.prog 9 #[.agg #[.string n1, .string n2, .bool uq, .bool ul], .agg #[.string u, .string s, .int .i64 rd, .bool an, .bool pu, .bool pl, .slice A6 x6 c6, .slice A7 x7 c7, .slice A8 x8 c8, .int .i64 er]] w fun e w' =>
      e = .returned (.int .i64 (if ((pu || decide (0 < x6) || decide (0 < x8)) && !uq) || ((pl || decide (0 < x7)) && !ul) then 8 else 0)) ∧ Below w.heap.size w w' := by
  have hg : (pu = true) ∨ (pu = false ∧ 0 < x6) ∨ (pu = false ∧ x6 = 0 ∧ 0 < x8) ∨ (pu = false ∧ x6 = 0 ∧ x8 = 0) := by
    cases pu
    · rcases Nat.eq_zero_or_pos x6 with h | h
      · rcases Nat.eq_zero_or_pos x8 with k | k
        · exact .inr (.inr (.inr ⟨rfl, h, k⟩))
        · exact .inr (.inr (.inl ⟨rfl, h, k⟩))
      · exact .inr (.inl ⟨rfl, h⟩)
    · exact .inl rfl
  have ht : (pl = true) ∨ (pl = false ∧ 0 < x7) ∨ (pl = false ∧ x7 = 0) := by
    cases pl
    · rcases Nat.eq_zero_or_pos x7 with h | h
      · exact .inr (.inr ⟨rfl, h⟩)
      · exact .inr (.inl ⟨rfl, h⟩)
    · exact .inl rfl
  have hB := Aside0.mk (((Below.refl _ w).alloc (Nat.le_refl _) (.cells #[.string n1, .string n2, .bool uq, .bool ul] 23)).alloc (by simp) (.cells #[.string u, .string s, .int .i64 rd, .bool an, .bool pu, .bool pl, .slice A6 x6 c6, .slice A7 x7 c7, .slice A8 x8 c8, .int .i64 er] 28))
  rcases hg with rfl | ⟨rfl, h6⟩ | ⟨rfl, rfl, h8⟩ | ⟨rfl, rfl, rfl⟩ <;> rcases ht with rfl | ⟨rfl, h7⟩ | ⟨rfl, rfl⟩ <;> cases uq <;> cases ul
  all_goals
    simp only [*, decide_true, Bool.true_or, Bool.or_true, Bool.false_or, Bool.or_false, Bool.and_true, Bool.and_false, Bool.not_true, Bool.not_false, Nat.lt_irrefl, decide_false, if_true, Bool.false_eq_true, if_false, reduceIte]
    go_enter Try.func9, Try.ntmps9
    go_wp2
    go_ret
    exact ⟨rfl, hB.out⟩
theorem login_May.calls (a0_0 : ByteArray) (a0_1 : ByteArray) (a0_2 : Bool) (a0_3 : Bool) (a1_0 : ByteArray) (a1_1 : ByteArray) (a1_2 : Int) (a1_3 : Bool) (a1_4 : Bool) (a1_5 : Bool) (A1_6 : Option Addr) (c1_6 : Nat) (l1_6 : List ByteArray) (A1_7 : Option Addr) (c1_7 : Nat) (l1_7 : List ByteArray) (A1_8 : Option Addr) (c1_8 : Nat) (l1_8 : List SF) (a1_9 : Int) (r : Int) (w : World)
    (hr1_6 : Kd.C Kd.string w A1_6 l1_6.length l1_6) (hc1_6 : l1_6.length ≤ c1_6) (hr1_7 : Kd.C Kd.string w A1_7 l1_7.length l1_7) (hc1_7 : l1_7.length ≤ c1_7) (hr1_8 : Kd.C k46 w A1_8 l1_8.length l1_8) (hc1_8 : l1_8.length ≤ c1_8) (h : login_May.f a0_0 a0_1 a0_2 a0_3 a1_0 a1_1 a1_2 a1_3 a1_4 a1_5 l1_6 l1_7 l1_8 a1_9 = some r) :
    Calls Try.prog 9 #[.agg #[.string a0_0, .string a0_1, .bool a0_2, .bool a0_3], .agg #[.string a1_0, .string a1_1, .int .i64 a1_2, .bool a1_3, .bool a1_4, .bool a1_5, .slice A1_6 l1_6.length c1_6, .slice A1_7 l1_7.length c1_7, .slice A1_8 l1_8.length c1_8, .int .i64 a1_9]] w fun e w' => e = .returned (.int .i64 r) ∧ Below w.heap.size w w' := by
  unfold login_May.f mayI at h
  injection h with h
  rw [← h]
  exact may_walk a0_0 a0_1 a0_2 a0_3 a1_0 a1_1 a1_2 a1_3 a1_4 a1_5 A1_6 c1_6 l1_6.length A1_7 c1_7 l1_7.length A1_8 c1_8 l1_8.length a1_9 w
end Go.Proofs.Ytldbhkhblkgnnaa.Given
