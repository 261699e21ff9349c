/- More plain laws of digits: how long they are, how they begin, what is read of them. -/
import Derived.Test.YtjiafbckfnglmaaPDigit
namespace Go.Proofs.Ytjiafbckfnglmaa.B
open Go.RowKit Go.Proofs.Ytjiafbckfnglmaa.PW Go.Proofs.Ytjiafbckfnglmaa.Given Go.Proofs.Ytjiafbckfnglmaa.Q Go.Proofs.YtjiafbckfnglmaaW.PrintWords Go.Proofs.YtjiafbckfnglmaaW.PrintMore
theorem putL_ne (n : Nat) : putL n ≠ [] := fun e => by have := (putL_len n).1; rw [e] at this; simp at this
theorem putL_head (n : Nat) (hn : 0 < n) : (putL n).head? ≠ some 48 := by
  induction n using Nat.strongRecOn with
  | _ n ih =>
    by_cases h : n < 64
    · rw [putL_lt h]
      have d := dig_range h
      simp only [List.head?_cons, ne_eq, Option.some.injEq]
      intro e
      have := d.2.2.2.1 e
      omega
    · rw [putL_ge h]
      have := ih (n / 64) (by omega) (by omega)
      have hl := putL_ne (n / 64)
      cases hd : putL (n / 64) with
      | nil => exact absurd hd hl
      | cons a l => rw [hd] at this; simpa using this
theorem putL_long (n : Nat) : ∀ k, 1 ≤ k → ((putL n).length ≤ k ↔ n < 64 ^ k) := by
  induction n using Nat.strongRecOn with
  | _ n ih =>
    intro k hk
    obtain ⟨k, rfl⟩ : ∃ j, k = j + 1 := ⟨k - 1, by omega⟩
    by_cases h : n < 64
    · rw [putL_lt h]
      have : 64 ^ 1 ≤ 64 ^ (k + 1) := Nat.pow_le_pow_right (by decide) (by omega)
      constructor
      · intro _; omega
      · intro _; simp
    · rw [putL_ge h, List.length_append]
      simp only [List.length_cons, List.length_nil]
      by_cases e : k = 0
      · subst e
        have := (putL_len (n / 64)).1
        constructor
        · intro x; omega
        · intro x; simp at x; omega
      · have := ih (n / 64) (by omega) k (by omega)
        rw [Nat.pow_succ]
        constructor
        · intro x
          have := this.1 (by omega)
          omega
        · intro x
          have := this.2 (by omega)
          omega
theorem putL_mono {a b : Nat} (h : a ≤ b) : (putL a).length ≤ (putL b).length := by
  have hb := (putL_long b (putL b).length (putL_len b).1).1 (Nat.le_refl _)
  exact (putL_long a (putL b).length (putL_len b).1).2 (by omega)
theorem putL_inj {a b : Nat} (h : putL a = putL b) : a = b := by
  have := vals_put a
  rw [h, vals_put] at this
  omega
theorem digs_app_yes (l m : List Int) (h : ∀ c ∈ l, 0 ≤ val c) : digs (l ++ m) = l ++ digs m := by
  induction l with
  | nil => rfl
  | cons c l ih =>
    rw [List.cons_append, digs_yes _ (h c (List.mem_cons_self ..)), ih (fun x hx => h x (List.mem_cons_of_mem _ hx))]
    rfl
theorem put_digits (n : Nat) : ∀ c ∈ putL n, 0 ≤ val c := fun c hc => (putL_mem n c hc).2.2
/-- What is put is read, up to what is no digit. -/
theorem rdS_put {n : Nat} (hn : n ≤ 1073741824) (l : List Int) (hl : digs l = []) : rdS (putL n ++ l) = some ((n : Int), (putL n).length) := by
  unfold rdS
  rw [digs_app_yes _ _ (put_digits n), hl, List.append_nil, vals_put, if_neg]
  rintro (h | h | h)
  · exact putL_ne n h
  · omega
  · by_cases e : n = 0
    · subst e
      have := (putL_len 0).2.1 (by omega)
      omega
    · apply putL_head n (by omega)
      have := h.1
      cases hp : putL n with
      | nil => exact absurd hp (putL_ne n)
      | cons a m => rw [hp] at this; simpa using this
theorem digs_stop {c : Int} (l : List Int) (h : val c < 0) : digs (c :: l) = [] := digs_no l (by omega)
theorem rdR_at (s : ByteArray) (a : Nat) (h : a < s.size) : rdR s a = match rdS ((bytesOf s).drop a) with
  | none => (0, 0, false)
  | some (v, n) => (v, (a : Int) + n, true) := by
  unfold rdR
  rw [if_neg (by omega), Int.toNat_natCast]
  cases rdS ((bytesOf s).drop a) <;> rfl
theorem rdR_no (s : ByteArray) (a : Int) (h : a < 0 ∨ (s.size : Int) ≤ a) : rdR s a = (0, 0, false) := if_pos h
theorem put6 {n : Nat} (h : n ≤ 1073741824) : (putL n).length ≤ 6 := (putL_long n 6 (by omega)).2 (by omega)
theorem put_ne_nil (n : Nat) : putB n ≠ ⟨#[]⟩ := fun e => by
  have := size_put n
  rw [e] at this
  have h := (putL_len n).1
  have : (⟨#[]⟩ : ByteArray).size = 0 := rfl
  omega
end Go.Proofs.Ytjiafbckfnglmaa.B
