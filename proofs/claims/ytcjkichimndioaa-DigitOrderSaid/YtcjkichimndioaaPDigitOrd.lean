/- Plain laws: the order of numbers by their digits, and by their decimals. -/
import Derived.Test.YtcjkichimndioaaPDigitMore
namespace Go.Proofs.Ytcjkichimndioaa.B
open Go.RowKit Go.Proofs.Ytcjkichimndioaa.PW Go.Proofs.Ytcjkichimndioaa.Given Go.Proofs.Ytcjkichimndioaa.Q Go.Proofs.YtcjkichimndioaaW.PrintWords Go.Proofs.YtcjkichimndioaaW.PrintMore
/-- What numbers to a base say: between these bounds. -/
theorem vals_bounds (l : List Int) : ∀ n : Int, (∀ c ∈ l, 0 ≤ val c ∧ val c < 64) → n * (64 ^ l.length : Nat) ≤ vals l n ∧ vals l n < (n + 1) * (64 ^ l.length : Nat) := by
  induction l with
  | nil => intro n _; simp [vals]; omega
  | cons c l ih =>
    intro n h
    have hc := h c (List.mem_cons_self ..)
    have := ih (n * 64 + val c) (fun x hx => h x (List.mem_cons_of_mem _ hx))
    unfold vals
    rw [List.length_cons, Nat.pow_succ]
    generalize hP : (64 ^ l.length : Nat) = P at this
    have hB : ((64 : Nat) : Int) = 64 := rfl
    have e1 : (n * ((P * 64 : Nat) : Int)) = (n * 64) * (P : Int) := by rw [Int.natCast_mul, hB, Int.mul_comm (P : Int) 64, ← Int.mul_assoc]
    have e3 : n * 64 + 64 = (n + 1) * 64 := by omega
    have e2 : ((n + 1) * ((P * 64 : Nat) : Int)) = (n * 64 + 64) * (P : Int) := by rw [Int.natCast_mul, hB, e3, Int.mul_comm (P : Int) 64, ← Int.mul_assoc]
    have l1 : (n * 64) * (P : Int) ≤ (n * 64 + val c) * (P : Int) := Int.mul_le_mul_of_nonneg_right (by omega) (by omega)
    have l2 : (n * 64 + val c + 1) * (P : Int) ≤ (n * 64 + 64) * (P : Int) := Int.mul_le_mul_of_nonneg_right (by omega) (by omega)
    rw [e1, e2]
    omega
theorem putL_val (n : Nat) : ∀ c ∈ putL n, 0 ≤ val c ∧ val c < 64 := fun c hc => by
  have := putL_mem n c hc
  exact ⟨this.2.2, (val_range this.1 this.2.1).2.1⟩
/-- Of two numbers as long as each other the later first unlike digit tells. -/
theorem put_order {a b : Nat} {P l m : List Int} {c d : Int} (ha : putL a = P ++ c :: l) (hb : putL b = P ++ d :: m) (hl : l.length = m.length) (h : val c < val d) : a < b := by
  have va := vals_put a
  have vb := vals_put b
  rw [ha, vals_app] at va
  rw [hb, vals_app] at vb
  have ma : ∀ x ∈ l, 0 ≤ val x ∧ val x < 64 := fun x hx => putL_val a x (ha ▸ List.mem_append_right _ (List.mem_cons_of_mem _ hx))
  have mb : ∀ x ∈ m, 0 ≤ val x ∧ val x < 64 := fun x hx => putL_val b x (hb ▸ List.mem_append_right _ (List.mem_cons_of_mem _ hx))
  have ba := (vals_bounds l (vals P 0 * 64 + val c) ma).2
  have bb := (vals_bounds m (vals P 0 * 64 + val d) mb).1
  rw [← hl] at bb
  have : (vals P 0 * 64 + val c + 1) * ((64 ^ l.length : Nat) : Int) ≤ (vals P 0 * 64 + val d) * ((64 ^ l.length : Nat) : Int) := Int.mul_le_mul_of_nonneg_right (by omega) (Int.natCast_nonneg _)
  have va' : vals l (vals P 0 * 64 + val c) = (a : Int) := va
  have vb' : vals m (vals P 0 * 64 + val d) = (b : Int) := vb
  omega
theorem val_inj {c d : Int} (hc : 0 ≤ c ∧ c < 256) (hd : 0 ≤ d ∧ d < 256) (h0 : 0 ≤ val c) (h : val c = val d) : c = d := by
  have a := (val_range hc.1 hc.2).2.2 h0
  have b := (val_range hd.1 hd.2).2.2 (by omega)
  rw [h] at a
  omega
/-! ### decimals -/
theorem dvals_bounds (l : List Int) : ∀ n : Int, (∀ c ∈ l, 48 ≤ c ∧ c ≤ 57) → n * (10 ^ l.length : Nat) ≤ dvals l n ∧ dvals l n < (n + 1) * (10 ^ l.length : Nat) := by
  induction l with
  | nil => intro n _; simp [dvals]; omega
  | cons c l ih =>
    intro n h
    have hc := h c (List.mem_cons_self ..)
    have := ih (n * 10 + (c - 48)) (fun x hx => h x (List.mem_cons_of_mem _ hx))
    unfold dvals
    rw [List.length_cons, Nat.pow_succ]
    generalize hP : (10 ^ l.length : Nat) = P at this
    have hB : ((10 : Nat) : Int) = 10 := rfl
    have e1 : (n * ((P * 10 : Nat) : Int)) = (n * 10) * (P : Int) := by rw [Int.natCast_mul, hB, Int.mul_comm (P : Int) 10, ← Int.mul_assoc]
    have e3 : n * 10 + 10 = (n + 1) * 10 := by omega
    have e2 : ((n + 1) * ((P * 10 : Nat) : Int)) = (n * 10 + 10) * (P : Int) := by rw [Int.natCast_mul, hB, e3, Int.mul_comm (P : Int) 10, ← Int.mul_assoc]
    have l1 : (n * 10) * (P : Int) ≤ (n * 10 + (c - 48)) * (P : Int) := Int.mul_le_mul_of_nonneg_right (by omega) (by omega)
    have l2 : (n * 10 + (c - 48) + 1) * (P : Int) ≤ (n * 10 + 10) * (P : Int) := Int.mul_le_mul_of_nonneg_right (by omega) (by omega)
    rw [e1, e2]
    omega
/-- Of two rows of decimals as long as each other: the order of letters is the order of numbers. -/
theorem dec_less (x : List UInt8) : ∀ (y : List UInt8) (n : Int), x.length = y.length → (∀ c ∈ x, 48 ≤ c.toNat ∧ c.toNat ≤ 57) → (∀ c ∈ y, 48 ≤ c.toNat ∧ c.toNat ≤ 57) →
    Op.bytesLess x y = decide (dvals (x.map fun b => (b.toNat : Int)) n < dvals (y.map fun b => (b.toNat : Int)) n) := by
  induction x with
  | nil =>
    intro y n h _ _
    have : y = [] := List.eq_nil_of_length_eq_zero (by simpa using h.symm)
    subst this
    simp [Op.bytesLess, dvals]
  | cons a x ih =>
    intro y n h hx hy
    cases y with
    | nil => simp at h
    | cons b y =>
      have ha := hx a (List.mem_cons_self ..)
      have hb := hy b (List.mem_cons_self ..)
      have hl : x.length = y.length := by simpa using h
      have mx : ∀ c ∈ x.map (fun b => (b.toNat : Int)), 48 ≤ c ∧ c ≤ 57 := by
        intro c hc
        obtain ⟨q, hq, rfl⟩ := List.mem_map.1 hc
        have := hx q (List.mem_cons_of_mem _ hq)
        omega
      have my : ∀ c ∈ y.map (fun b => (b.toNat : Int)), 48 ≤ c ∧ c ≤ 57 := by
        intro c hc
        obtain ⟨q, hq, rfl⟩ := List.mem_map.1 hc
        have := hy q (List.mem_cons_of_mem _ hq)
        omega
      rw [List.map_cons, List.map_cons]
      show (decide (a < b) || (a == b && Op.bytesLess x y)) = _
      unfold dvals
      have bx := dvals_bounds _ (n * 10 + ((a.toNat : Int) - 48)) mx
      have by_ := dvals_bounds _ (n * 10 + ((b.toNat : Int) - 48)) my
      rw [List.length_map] at bx by_
      rw [← hl] at by_
      generalize (10 ^ x.length : Nat) = P at bx by_
      by_cases e : a = b
      · subst e
        have := ih y (n * 10 + ((a.toNat : Int) - 48)) hl (fun c hc => hx c (List.mem_cons_of_mem _ hc)) (fun c hc => hy c (List.mem_cons_of_mem _ hc))
        rw [this]
        simp
      · have ne : (a == b) = false := by simpa using e
        rw [ne]
        have tn : a.toNat ≠ b.toNat := fun q => e (UInt8.toNat_inj.1 q)
        rw [Bool.false_and, Bool.or_false]
        apply decide_eq_decide.2
        rw [UInt8.lt_iff_toNat_lt]
        constructor
        · intro q
          have := Int.mul_le_mul_of_nonneg_right (a := n * 10 + ((a.toNat : Int) - 48) + 1) (b := n * 10 + ((b.toNat : Int) - 48)) (c := (P : Int)) (by omega) (by omega)
          omega
        · intro q
          by_cases g : a.toNat < b.toNat
          · exact g
          · have := Int.mul_le_mul_of_nonneg_right (a := n * 10 + ((b.toNat : Int) - 48) + 1) (b := n * 10 + ((a.toNat : Int) - 48)) (c := (P : Int)) (by omega) (by omega)
            omega
theorem decL_long (n : Nat) : ∀ k, 1 ≤ k → ((decL n).length ≤ k ↔ n < 10 ^ k) := by
  induction n using Nat.strongRecOn with
  | _ n ih =>
    intro k hk
    obtain ⟨k, rfl⟩ : ∃ j, k = j + 1 := ⟨k - 1, by omega⟩
    by_cases h : n < 10
    · rw [decL_lt h]
      have : 10 ^ 1 ≤ 10 ^ (k + 1) := Nat.pow_le_pow_right (by decide) (by omega)
      constructor
      · intro _; omega
      · intro _; simp
    · rw [decL_ge h, List.length_append]
      simp only [List.length_cons, List.length_nil]
      by_cases e : k = 0
      · subst e
        have := (decL_len (n / 10)).1
        constructor
        · intro x; omega
        · intro x; simp at x; omega
      · have := ih (n / 10) (by omega) k (by omega)
        rw [Nat.pow_succ]
        constructor
        · intro x
          have := this.1 (by omega)
          omega
        · intro x
          have := this.2 (by omega)
          omega
theorem decL_mono {a b : Nat} (h : a ≤ b) : (decL a).length ≤ (decL b).length := by
  have hb := (decL_long b (decL b).length (decL_len b).1).1 (Nat.le_refl _)
  exact (decL_long a (decL b).length (decL_len b).1).2 (by omega)
/-- Decimals of one length: the order of letters. -/
theorem decB_less {a b : Nat} (h : (decB a).size = (decB b).size) : Op.bytesLess (decB a).toList (decB b).toList = decide (a < b) := by
  rw [ByteArray.toList_eq, ByteArray.toList_eq]
  have hx : ∀ n, ∀ c ∈ (decB n).data.toList, 48 ≤ c.toNat ∧ c.toNat ≤ 57 := by
    intro n c hc
    have : (c.toNat : Int) ∈ bytesOf (decB n) := List.mem_map.2 ⟨c, hc, rfl⟩
    rw [bytesOf_dec] at this
    have := decL_mem n _ this
    omega
  rw [dec_less _ _ 0 (by rw [data_length, data_length]; exact h) (hx a) (hx b)]
  have ea : (decB a).data.toList.map (fun b => (b.toNat : Int)) = decL a := bytesOf_dec a
  have eb : (decB b).data.toList.map (fun b => (b.toNat : Int)) = decL b := bytesOf_dec b
  rw [ea, eb, dvals_dec, dvals_dec]
  apply decide_eq_decide.2
  omega
end Go.Proofs.Ytcjkichimndioaa.B
