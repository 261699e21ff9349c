/- Names: what hash.Is and the reference's compute. -/
import Derived.Test.YtgmjbnglenmlpaaP5
import Derived.Test.YtgmjbnglenmlpaaAbt4
set_option linter.unusedVariables false
set_option linter.unusedSimpArgs false
namespace Go.Proofs.Ytgmjbnglenmlpaa.Ab
open Go Go.RowKit Go.Proofs.Ytgmjbnglenmlpaa.Given
/-! ### Names -/
def isB (s : List UInt8) : Bool := s.all hexB && decide (s.length = 40)
theorem hex_idx : ∀ i : Fin 256, decide (Lib.indexByte [48, 49, 50, 51, 52, 53, 54, 55, 56, 57, 97, 98, 99, 100, 101, 102] (UInt8.ofNat i.val) < 0) = !hexB (UInt8.ofNat i.val) := by decide +kernel
theorem hex_find (K : Nat) (c : UInt8) : ∃ v : Int, strings_IndexByte.f K (([48, 49, 50, 51, 52, 53, 54, 55, 56, 57, 97, 98, 99, 100, 101, 102], (c.toNat : Int), ()) : List UInt8 × Int × Unit) = some v ∧ decide (v < 0) = !hexB c := by
  refine ⟨Lib.indexByte [48, 49, 50, 51, 52, 53, 54, 55, 56, 57, 97, 98, 99, 100, 101, 102] c, ?_, ?_⟩
  · show some (Lib.indexByte _ (c.toNat : Int).toNat.toUInt8) = _
    rw [Int.toNat_natCast]
    have : c.toNat.toUInt8 = c := by simp
    rw [this]
  · have := hex_idx ⟨c.toNat, c.toNat_lt⟩
    have e : UInt8.ofNat c.toNat = c := by simp
    simp only [e] at this
    exact this
theorem is_loop {K : Nat} (s : List UInt8) (hs : s.length < 4611686018427387904) (t : Int) (ht : t = (s.length : Int)) : ∀ (r : List UInt8) (k n : Nat), s.drop k = r → k ≤ s.length → r.length < n →
    hash_Is.l2 K n s t k = some (r.all hexB && decide (s.length = 40)) := by
  subst ht
  intro r
  induction r with
  | nil =>
    intro k n hd hk hn
    have := drop_nil hd hk
    subst this
    obtain ⟨n, rfl⟩ : ∃ m, n = m + 1 := ⟨n - 1, by omega⟩
    rw [hash_Is.l2_succ]
    have h1 : (s.length : Int) = 40 ↔ s.length = 40 := by omega
    simp only [Int.lt_irrefl, decide_false, cond_false, List.all_nil, Bool.true_and, h1]
  | cons c r ih =>
    intro k n hd hk hn
    obtain ⟨n, rfl⟩ : ∃ m, n = m + 1 := ⟨n - 1, by omega⟩
    simp only [List.length_cons] at hn
    obtain ⟨hg, hlt, hd'⟩ := getD_drop (d := (0 : UInt8)) hd
    have h1 : (k : Int) < (s.length : Int) := by omega
    obtain ⟨v, v1, v2⟩ := hex_find K c
    rw [hash_Is.l2_succ]
    simp only [h1, Int.natCast_nonneg, decide_true, cond_true, chks_t, chks_nil, Int.toNat_natCast, hg, v1, Option.bind_some, v2, wS (show k < 4611686018427387904 by omega)]
    rw [ih (k + 1) n hd' (by omega) (by omega), List.all_cons]
    cases hexB c <;> simp
theorem is_eq {K : Nat} {s : List UInt8} (hs : s.length < K) (hs2 : s.length < 4611686018427387904) : hash_Is.f K ((s, ()) : List UInt8 × Unit) = some (isB s) := by
  rw [hash_Is.eq]
  exact is_loop s hs2 _ rfl s 0 K rfl (Nat.zero_le _) hs
theorem ris_loop {K : Nat} (s : List UInt8) (hs : s.length < 4611686018427387904) : ∀ (r : List UInt8) (k n : Nat), s.drop k = r → k ≤ s.length → r.length < n →
    ammoniteref1_Is.l2 K n s k = some (r.all hexB && decide (s.length = 40)) := by
  intro r
  induction r with
  | nil =>
    intro k n hd hk hn
    have := drop_nil hd hk
    subst this
    obtain ⟨n, rfl⟩ : ∃ m, n = m + 1 := ⟨n - 1, by omega⟩
    rw [ammoniteref1_Is.l2_succ]
    have h1 : (s.length : Int) = 40 ↔ s.length = 40 := by omega
    simp only [Int.lt_irrefl, decide_false, cond_false, List.all_nil, Bool.true_and, h1]
  | cons c r ih =>
    intro k n hd hk hn
    obtain ⟨n, rfl⟩ : ∃ m, n = m + 1 := ⟨n - 1, by omega⟩
    simp only [List.length_cons] at hn
    obtain ⟨hg, hlt, hd'⟩ := getD_drop (d := (0 : UInt8)) hd
    have h1 : (k : Int) < (s.length : Int) := by omega
    rw [ammoniteref1_Is.l2_succ]
    simp only [h1, Int.natCast_nonneg, decide_true, cond_true, chks_t, chks_nil, Int.toNat_natCast, hg, wS (show k < 4611686018427387904 by omega)]
    rw [ih (k + 1) n hd' (by omega) (by omega), List.all_cons]
    by_cases c1 : (c.toNat : Int) < 48
    · have e1 : (c.toNat : Int) < 97 := by omega
      have : hexB c = false := by unfold hexB; simp; omega
      simp [c1, e1, this]
    · by_cases c2 : (57 : Int) < (c.toNat : Int)
      · by_cases c3 : (c.toNat : Int) < 97
        · have : hexB c = false := by unfold hexB; simp; omega
          simp [c1, c2, c3, this]
        · by_cases c4 : (102 : Int) < (c.toNat : Int)
          · have : hexB c = false := by unfold hexB; simp; omega
            simp [c1, c2, c3, c4, this]
          · have : hexB c = true := by unfold hexB; simp; omega
            simp [c1, c2, c3, c4, this]
      · have : hexB c = true := by unfold hexB; simp; omega
        simp [c1, c2, this]
theorem ris_eq {K : Nat} {s : List UInt8} (hs : s.length < K) (hs2 : s.length < 4611686018427387904) : ammoniteref1_Is.f K ((s, ()) : List UInt8 × Unit) = some (isB s) := by
  rw [ammoniteref1_Is.eq]
  exact ris_loop s hs2 s 0 K rfl (Nat.zero_le _) hs
theorem sum_isB (s : List UInt8) : isB (sumS s) = true := by
  unfold isB
  rw [sumS_len]
  simp only [decide_true, Bool.and_true, List.all_eq_true]
  exact sumS_hex s
end Go.Proofs.Ytgmjbnglenmlpaa.Ab
