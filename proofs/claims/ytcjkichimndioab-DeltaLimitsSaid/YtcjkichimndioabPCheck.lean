/- The plain laws of delta.Check and of its reference: the sum of a text's words. -/
import Derived.Test.YtcjkichimndioabPDigitMore
import Derived.Test.YtcjkichimndioabQx1
namespace Go.Proofs.Ytcjkichimndioab.B
open Go.RowKit Go.Proofs.Ytcjkichimndioab.PW Go.Proofs.Ytcjkichimndioab.Given Go.Proofs.Ytcjkichimndioab.Q Go.Proofs.YtcjkichimndioabW.PrintWords Go.Proofs.YtcjkichimndioabW.PrintMore
theorem wnat {i : Nat} (h : i ≤ 4611686018427387904) : wrap64 ((i : Int) + 1) = ((i + 1 : Nat) : Int) := by rw [w64 (by omega) (by omega)]; omega
theorem wplus {i j : Nat} (h : i + j ≤ 4611686018427387904) : wrap64 ((i : Int) + (j : Int)) = ((i + j : Nat) : Int) := by rw [w64 (by omega) (by omega)]; omega
theorem wless' {i j : Nat} (h : i ≤ 4611686018427387904) (h2 : j ≤ 4611686018427387904) : wrap64 ((i : Int) - (j : Int)) = (i : Int) - j := w64 (by omega) (by omega)
/-- A byte's weight in its word. -/
def wgt (i : Nat) : Int := if i % 4 = 0 then 16777216 else if i % 4 = 1 then 65536 else if i % 4 = 2 then 256 else 1
/-- The sum of a text's bytes, each by its weight. -/
def ck : Nat → List Int → Int
  | _, [] => 0
  | i, b :: l => b * wgt i + ck (i + 1) l
/-- A text's check. -/
def chk (l : List Int) : Int := ck 0 l % 1073741824
theorem chk_range (l : List Int) : 0 ≤ chk l ∧ chk l < 1073741824 := ⟨Int.emod_nonneg _ (by decide), Int.emod_lt_of_pos _ (by decide)⟩
theorem wraps_u32 (n : Int) (h0 : 0 ≤ n) (h1 : n < 2 ^ 32) : IntKind.u32.wrap n = n := by
  simp only [IntKind.wrap, IntKind.bits, IntKind.signed]
  have : n % 2 ^ 32 = n := Int.emod_eq_of_lt h0 (by omega)
  simp only [this]
  split
  · rename_i h; simp at h
  · rfl
theorem mask30 {x : Int} (h0 : 0 ≤ x) (h1 : x < 4294967296) : Go.bits .and .u32 x 1073741823 = x % 1073741824 :=
  bits_mask .u32 32 (by decide) wraps_u32 30 (by decide) x h0 (by omega)
theorem shl_wgt {b : Int} (h0 : 0 ≤ b) (h1 : b < 256) (i : Nat) (hi : i ≤ 4611686018427387904) :
    0 ≤ wrap64 (8 * (wrap64 (3 - (Int.tmod (i : Int) 4)))) ∧ shl .u32 (b % 4294967296) (wrap64 (8 * (wrap64 (3 - (Int.tmod (i : Int) 4))))) = b * wgt i := by
  have hb : b % 4294967296 = b := Int.emod_eq_of_lt h0 (by omega)
  have e : Int.tmod (i : Int) 4 = ((i % 4 : Nat) : Int) := by
    rw [Int.tmod_eq_emod_of_nonneg (by omega)]; omega
  rw [hb, e]
  have hr : i % 4 = 0 ∨ i % 4 = 1 ∨ i % 4 = 2 ∨ i % 4 = 3 := by omega
  unfold wgt
  rcases hr with h | h | h | h
  · rw [h]
    have e8 : wrap64 (8 * (wrap64 (3 - ((0 : Nat) : Int)))) = 24 := by rw [w64 (n := 3 - ((0 : Nat) : Int)) (by omega) (by omega), w64 (by omega) (by omega)]; omega
    rw [e8]
    refine ⟨by omega, ?_⟩
    show IntKind.u32.wrap (b * 2 ^ 24) = _
    rw [wraps_u32 _ (by omega) (by omega)]
    rfl
  · rw [h]
    have e8 : wrap64 (8 * (wrap64 (3 - ((1 : Nat) : Int)))) = 16 := by rw [w64 (n := 3 - ((1 : Nat) : Int)) (by omega) (by omega), w64 (by omega) (by omega)]; omega
    rw [e8]
    refine ⟨by omega, ?_⟩
    show IntKind.u32.wrap (b * 2 ^ 16) = _
    rw [wraps_u32 _ (by omega) (by omega)]
    rfl
  · rw [h]
    have e8 : wrap64 (8 * (wrap64 (3 - ((2 : Nat) : Int)))) = 8 := by rw [w64 (n := 3 - ((2 : Nat) : Int)) (by omega) (by omega), w64 (by omega) (by omega)]; omega
    rw [e8]
    refine ⟨by omega, ?_⟩
    show IntKind.u32.wrap (b * 2 ^ 8) = _
    rw [wraps_u32 _ (by omega) (by omega)]
    rfl
  · rw [h]
    have e8 : wrap64 (8 * (wrap64 (3 - ((3 : Nat) : Int)))) = 0 := by rw [w64 (n := 3 - ((3 : Nat) : Int)) (by omega) (by omega), w64 (by omega) (by omega)]; omega
    rw [e8]
    refine ⟨by omega, ?_⟩
    show IntKind.u32.wrap (b * 2 ^ 0) = _
    rw [wraps_u32 _ (by omega) (by omega)]
    rfl
theorem last30 {x y : Int} (h0 : 0 ≤ x) (h1 : x < 4294967296) (h : x % 1073741824 = y % 1073741824) : wrap64 (Go.bits .and .u32 x 1073741823) = y % 1073741824 := by
  rw [mask30 h0 h1, h, w64] <;> omega
theorem check_loop (s : ByteArray) (hs : s.size ≤ 4611686018427387904) (l : List Int) : ∀ (a : Int) (i : Nat), (bytesOf s).drop i = l → i ≤ s.size → 0 ≤ a → a < 4294967296 →
    Ev (fun k => delta_Check.l0 k s a s.size i) ((a + ck i l) % 1073741824) := by
  induction l with
  | nil =>
    intro a i hl h1 h2 h3
    have hi : i = s.size := by
      have := congrArg List.length hl
      rw [List.length_drop, size_len, List.length_nil] at this
      omega
    refine Ev.step (fun k => delta_Check.l0.eq_2 s a s.size i k) ?_
    refine Ev.nn (by omega) ?_
    refine Ev.eq ?_ (Ev.now _)
    refine last30 h2 h3 ?_
    unfold ck
    rw [Int.add_zero]
  | cons c l ih =>
    intro a i hl h1 h2 h3
    have hi : i < s.size := by
      have := congrArg List.length hl
      rw [List.length_drop, size_len, List.length_cons] at this
      omega
    rw [drop_cons s i hi] at hl
    injection hl with hc hl
    have hb := bt_range s i
    have hw := shl_wgt (b := bt s i) (by omega) (by omega) i (by omega)
    refine Ev.step (fun k => delta_Check.l0.eq_2 s a s.size i k) ?_
    refine Ev.ip (by omega) (Ev.ip (by omega) (Ev.ip (by omega) (Ev.ip hw.1 ?_)))
    rw [hw.2, wnat (by omega)]
    refine Ev.eq ?_ (ih _ (i + 1) hl (by omega) (Int.emod_nonneg _ (by decide)) (Int.emod_lt_of_pos _ (by decide)))
    show _ = (a + (c * wgt i + ck (i + 1) l)) % 1073741824
    rw [hc]
    generalize c * wgt i = u
    generalize ck (i + 1) l = v
    omega
theorem check_ev (s : ByteArray) (hs : s.size ≤ 4611686018427387904) : Ev (fun k => delta_Check.f k s) (chk (bytesOf s)) := by
  unfold delta_Check.f chk
  refine Ev.eq ?_ (check_loop s hs (bytesOf s) 0 0 rfl (by omega) (by omega) (by omega))
  rw [Int.zero_add]
/-! ### the reference -/
theorem or_word {x b : Int} (h0 : 0 ≤ x) (h1 : x < 16777216) (h2 : 0 ≤ b) (h3 : b < 256) : Go.bits .or .u32 ((x * 256) % 4294967296) (b % 4294967296) = x * 256 + b := by
  have e1 : (x * 256) % 4294967296 = x * 256 := Int.emod_eq_of_lt (by omega) (by omega)
  have e2 : b % 4294967296 = b := Int.emod_eq_of_lt (by omega) (by omega)
  rw [e1, e2]
  exact bits_join .u32 32 (by decide) wraps_u32 8 (x * 256) b (by omega) (by omega) (by omega) h2 (by omega) (by omega)
/-- The byte at a place, or nought. -/
def atz (s : ByteArray) (i : Nat) : Int := if i < s.size then bt s (i : Int) else 0
theorem atz_range (s : ByteArray) (i : Nat) : 0 ≤ atz s i ∧ atz s i < 256 := by
  unfold atz
  have hb := bt_range s (i : Int)
  split <;> omega
theorem atz_drop (s : ByteArray) (i n : Nat) : ck n ((bytesOf s).drop i) = atz s i * wgt n + ck (n + 1) ((bytesOf s).drop (i + 1)) := by
  unfold atz
  by_cases h : i < s.size
  · rw [if_pos h, drop_cons s i h]; rfl
  · rw [if_neg h, drop_nil s i (by omega), drop_nil s (i + 1) (by omega)]; simp [ck]
end Go.Proofs.Ytcjkichimndioab.B
