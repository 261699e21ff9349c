/- Numbers in decimals; words; names: what digit.Dec, digit.ReadDec, escape.Word, hash.Is and the reference's compute. -/
import Derived.Test.YtaoadbkoambjbaaP5
import Derived.Test.YtaoadbkoambjbaaAbt4
set_option linter.unusedVariables false
set_option linter.unusedSimpArgs false
namespace Go.Proofs.Ytaoadbkoambjbaa.Ab
open Go Go.RowKit Go.Proofs.Ytaoadbkoambjbaa.Given
def dig (d : Nat) : UInt8 := UInt8.ofNat (48 + d)
def decN (n : Nat) : List UInt8 := if h : n < 10 then [dig n] else decN (n / 10) ++ [dig (n % 10)]
termination_by n
decreasing_by omega
def decS (n : Int) : List UInt8 := if 0 ≤ n ∧ n ≤ 1073741824 then decN n.toNat else []
theorem decN_lt {n : Nat} (h : n < 10) : decN n = [dig n] := by rw [decN, dif_pos h]
theorem decN_ge {n : Nat} (h : ¬ n < 10) : decN n = decN (n / 10) ++ [dig (n % 10)] := by rw [decN, dif_neg h]
theorem dig_nat {d : Nat} (h : d < 10) : (dig d).toNat = 48 + d := by unfold dig; rw [UInt8.toNat_ofNat', Nat.mod_eq_of_lt (by omega)]
theorem decN_len : ∀ (d n : Nat), n < 10 ^ d → 0 < d → (decN n).length ≤ d := by
  intro d
  induction d with
  | zero => intro n _ h; omega
  | succ d ih =>
    intro n hn _
    by_cases h : n < 10
    · rw [decN_lt h]; simp
    · rw [decN_ge h, List.length_append]
      have h1 : n / 10 < 10 ^ d := by rw [Nat.pow_succ] at hn; omega
      have hd : 0 < d := by
        rcases Nat.eq_zero_or_pos d with rfl | h2
        · simp at hn; omega
        · exact h2
      have := ih (n / 10) h1 hd
      simp
      omega
theorem decN_pos (n : Nat) : 0 < (decN n).length := by
  by_cases h : n < 10
  · rw [decN_lt h]; simp
  · rw [decN_ge h]; simp
theorem decS_len (n : Int) : (decS n).length ≤ 10 := by
  unfold decS
  split
  · exact decN_len 10 _ (by omega) (by omega)
  · simp
theorem decN_digits : ∀ (m n : Nat), n ≤ m → ∀ c ∈ decN n, 48 ≤ c.toNat ∧ c.toNat ≤ 57 := by
  intro m
  induction m with
  | zero =>
    intro n hn c hc
    rw [decN_lt (by omega)] at hc
    simp at hc
    subst hc
    rw [dig_nat (by omega)]
    omega
  | succ m ih =>
    intro n hn c hc
    by_cases h : n < 10
    · rw [decN_lt h] at hc
      simp at hc
      subst hc
      rw [dig_nat h]
      omega
    · rw [decN_ge h, List.mem_append] at hc
      rcases hc with hc | hc
      · exact ih (n / 10) (by omega) c hc
      · simp at hc
        subst hc
        rw [dig_nat (by omega)]
        omega
def valF : Nat → List UInt8 → Nat
  | acc, [] => acc
  | acc, c :: r => valF (10 * acc + (c.toNat - 48)) r
theorem valF_app : ∀ (x y : List UInt8) (acc : Nat), valF acc (x ++ y) = valF (valF acc x) y := by
  intro x
  induction x with
  | nil => intro y acc; rfl
  | cons c x ih => intro y acc; exact ih y _
theorem valF_le : ∀ (x : List UInt8) (acc : Nat), acc ≤ valF acc x := by
  intro x
  induction x with
  | nil => intro acc; exact Nat.le_refl _
  | cons c x ih => intro acc; have := ih (10 * acc + (c.toNat - 48)); unfold valF; omega
theorem valF_dec : ∀ (m n : Nat), n ≤ m → valF 0 (decN n) = n := by
  intro m
  induction m with
  | zero =>
    intro n hn
    obtain rfl : n = 0 := by omega
    rw [decN_lt (by omega)]
    rfl
  | succ m ih =>
    intro n hn
    by_cases h : n < 10
    · rw [decN_lt h]
      show 10 * 0 + ((dig n).toNat - 48) = n
      rw [dig_nat h]
      omega
    · rw [decN_ge h, valF_app, ih (n / 10) (by omega)]
      show 10 * (n / 10) + ((dig (n % 10)).toNat - 48) = n
      rw [dig_nat (by omega)]
      omega
theorem decN_head : ∀ (m n : Nat), n ≤ m → 0 < n → ∃ c r, decN n = c :: r ∧ c.toNat ≠ 48 := by
  intro m
  induction m with
  | zero => intro n h1 h2; omega
  | succ m ih =>
    intro n hn hpos
    by_cases h : n < 10
    · rw [decN_lt h]
      exact ⟨_, _, rfl, by rw [dig_nat h]; omega⟩
    · obtain ⟨c, r, h1, h2⟩ := ih (n / 10) (by omega) (by omega)
      rw [decN_ge h, h1]
      exact ⟨c, _, rfl, h2⟩
theorem decS_free (n : Int) : ¬ (32 : UInt8) ∈ decS n ∧ ¬ (10 : UInt8) ∈ decS n := by
  unfold decS
  split
  · constructor <;> (intro hm; have := decN_digits _ _ (Nat.le_refl _) _ hm; revert this; decide)
  · exact ⟨by simp, by simp⟩
theorem textOf_dig {m : Nat} (h : m < 10000000000) : textOf [IntKind.wrap .u8 (IntKind.wrap .i64 (48 + Int.tmod (m : Int) 10))] = [dig (m % 10)] := by
  have h1 : Int.tmod (m : Int) 10 = ((m % 10 : Nat) : Int) := by rw [Int.tmod_eq_emod_of_nonneg (by omega)]; omega
  rw [h1, w64 (by omega) (by omega), show IntKind.wrap .u8 (48 + ((m % 10 : Nat) : Int)) = 48 + ((m % 10 : Nat) : Int) from IntWalk.u8_in _ (by omega), textOf_one]
  unfold dig
  congr 2
theorem tdiv10 {m : Nat} (h : m < 10000000000) : IntKind.wrap .i64 (Int.tdiv (m : Int) 10) = ((m / 10 : Nat) : Int) := by
  have h1 : Int.tdiv (m : Int) 10 = ((m / 10 : Nat) : Int) := by rw [Int.tdiv_eq_ediv_of_nonneg (by omega)]; omega
  rw [h1, w64 (by omega) (by omega)]
theorem dec_loop {K : Nat} : ∀ (d m n : Nat) (out : List UInt8), m < 10 ^ d → d ≤ 10 → d < n → out.length + d ≤ 100 → digit_Dec.l5 K n m out = some (if m = 0 then out else decN m ++ out) := by
  intro d
  induction d with
  | zero =>
    intro m n out hm _ hn ho
    obtain ⟨n, rfl⟩ : ∃ j, n = j + 1 := ⟨n - 1, by omega⟩
    obtain rfl : m = 0 := by simp at hm; omega
    rw [digit_Dec.l5_succ]
    simp
  | succ d ih =>
    intro m n out hm hd hn ho
    obtain ⟨n, rfl⟩ : ∃ j, n = j + 1 := ⟨n - 1, by omega⟩
    have hm2 : m < 10000000000 := by
      have : 10 ^ (d + 1) ≤ 10 ^ 10 := Nat.pow_le_pow_right (by omega) hd
      have h10 : (10 : Nat) ^ 10 = 10000000000 := rfl
      omega
    rw [digit_Dec.l5_succ, textOf_dig hm2, tdiv10 hm2]
    by_cases h0 : m = 0
    · subst h0; simp
    · have h1 : (0 : Int) < (m : Int) := by omega
      simp only [h1, decide_true, cond_true]
      rw [catOk_t (by simp; omega), chks_t, chks_nil, ih (m / 10) n _ (by rw [Nat.pow_succ] at hm; omega) (by omega) (by omega) (by simp; omega)]
      by_cases h : m < 10
      · have : m / 10 = 0 := by omega
        rw [if_pos this, if_neg h0, decN_lt h, show m % 10 = m by omega]
      · rw [if_neg (by omega), if_neg h0, decN_ge h, List.append_assoc]
theorem dec_eq {K : Nat} (hK : 1000000 ≤ K) (n : Int) : digit_Dec.f K ((n, ()) : Int × Unit) = some (decS n) := by
  rw [digit_Dec.eq, digit_may.eq]
  unfold decS
  by_cases h1 : 0 ≤ n
  · by_cases h2 : n ≤ 1073741824
    · obtain ⟨m, rfl⟩ : ∃ m : Nat, n = m := ⟨n.toNat, by omega⟩
      simp only [h1, h2, decide_true, cond_true, Option.bind_some, Bool.not_true, cond_false, and_self, if_true, Int.toNat_natCast]
      rw [textOf_dig (by omega), tdiv10 (by omega), dec_loop 10 (m / 10) K [dig (m % 10)] (by omega) (by omega) (by omega) (by simp)]
      by_cases h : m < 10
      · rw [if_pos (by omega), decN_lt h, show m % 10 = m by omega]
      · rw [if_neg (by omega), decN_ge h]
    · simp [h1, h2]
  · simp [h1]
theorem rdec_loop {K : Nat} : ∀ (d m e : Nat), m < 10 ^ d → 0 < d → d ≤ 10 → m ≤ 1073741824 → d ≤ e → ammoniteref1_Dec.deep K e (((m : Int), ()) : Int × Unit) = some (decN m) := by
  intro d
  induction d with
  | zero => intro m e _ h; omega
  | succ d ih =>
    intro m e hm _ hd hmax he
    obtain ⟨e, rfl⟩ : ∃ j, e = j + 1 := ⟨e - 1, by omega⟩
    have h1 : ¬ ((m : Int) < 0) := by omega
    have h2 : ¬ ((1073741824 : Int) < (m : Int)) := by omega
    rw [ammoniteref1_Dec.deep_succ, textOf_dig (by omega), tdiv10 (by omega)]
    simp only [h1, h2, decide_false, cond_false]
    by_cases h : m < 10
    · have h3 : (m : Int) < 10 := by omega
      have h4 : textOf [IntKind.wrap .u8 (IntKind.wrap .i64 (48 + (m : Int)))] = [dig m] := by
        have := textOf_dig (m := m) (by omega)
        rw [show m % 10 = m by omega, Int.tmod_eq_emod_of_nonneg (by omega), Int.emod_eq_of_lt (by omega) (by omega)] at this
        exact this
      simp only [h3, decide_true, cond_true]
      rw [h4, decN_lt h]
    · have h3 : ¬ ((m : Int) < 10) := by omega
      have hd0 : 0 < d := by
        rcases Nat.eq_zero_or_pos d with rfl | h2
        · simp at hm; omega
        · exact h2
      have hm10 : m / 10 < 10 ^ d := by rw [Nat.pow_succ] at hm; omega
      have hl := decN_len d (m / 10) hm10 hd0
      simp only [h3, decide_false, cond_false]
      rw [ih (m / 10) e hm10 hd0 (by omega) (by omega) (by omega), Option.bind_some, catOk_t (by simp; omega), decN_ge h]
      rfl
theorem rdec_eq {K : Nat} (hK : 1000000 ≤ K) (n : Int) : ammoniteref1_Dec.f K ((n, ()) : Int × Unit) = some (decS n) := by
  unfold decS
  by_cases h : 0 ≤ n ∧ n ≤ 1073741824
  · obtain ⟨m, rfl⟩ : ∃ m : Nat, n = m := ⟨n.toNat, by omega⟩
    rw [if_pos h, Int.toNat_natCast]
    exact rdec_loop 10 m K (by omega) (by omega) (by omega) (by omega) (by omega)
  · rw [if_neg h]
    obtain ⟨e, rfl⟩ : ∃ e, K = e + 1 := ⟨K - 1, by omega⟩
    show ammoniteref1_Dec.deep (e + 1) (e + 1) (n, ()) = _
    rw [ammoniteref1_Dec.deep_succ]
    by_cases h1 : n < 0
    · simp [h1]
    · have h2 : (1073741824 : Int) < n := by omega
      simp [h1, h2]
theorem byte_dig {c : UInt8} (h1 : 48 ≤ c.toNat) (h2 : c.toNat ≤ 57) : IntKind.wrap .i64 (IntKind.wrap .u8 ((c.toNat : Int) - 48)) = ((c.toNat - 48 : Nat) : Int) := by
  rw [show IntKind.wrap .u8 ((c.toNat : Int) - 48) = (c.toNat : Int) - 48 from IntWalk.u8_in _ (by omega), w64 (by omega) (by omega)]
  omega
theorem readdec_loop {K : Nat} (hK : 1000000 ≤ K) (s : List UInt8) (hs : s.length < 900000) (t : Int) (ht : t = (s.length : Int)) : ∀ (r : List UInt8) (k n acc : Nat), s.drop k = r → k ≤ s.length → r.length < n → acc ≤ 10737418249 →
    ∃ (v : Int) (ok : Bool), digit_ReadDec.l3 K n s acc t k = some (v, ok, ()) ∧ (ok = true → 0 ≤ v ∧ v ≤ 1073741824 ∧ decS v = s) ∧ (ok = false → v = 0) ∧
      ((∀ c ∈ r, 48 ≤ c.toNat ∧ c.toNat ≤ 57) → valF acc r ≤ 1073741824 → decS (valF acc r) = s → ok = true ∧ v = valF acc r) := by
  subst ht
  intro r
  induction r with
  | nil =>
    intro k n acc hd hk hn ha
    have := drop_nil hd hk
    subst this
    obtain ⟨n, rfl⟩ : ∃ m, n = m + 1 := ⟨n - 1, by omega⟩
    rw [digit_ReadDec.l3_succ, dec_eq hK]
    simp only [Int.lt_irrefl, decide_false, cond_false, Option.bind_some]
    by_cases h0 : s = []
    · refine ⟨0, false, by simp [h0], (fun h => by cases h), fun _ => rfl, fun _ h1 h2 => ?_⟩
      exfalso
      have h3 : decS ((valF acc [] : Nat) : Int) = [] := by rw [h2, h0]
      unfold decS at h3
      rw [if_pos ⟨by omega, by omega⟩] at h3
      have := decN_pos ((valF acc [] : Nat) : Int).toNat
      rw [h3] at this
      simp at this
    · by_cases he : decS acc = s
      · have hr : 0 ≤ (acc : Int) ∧ (acc : Int) ≤ 1073741824 := by
          by_cases hr : 0 ≤ (acc : Int) ∧ (acc : Int) ≤ 1073741824
          · exact hr
          · unfold decS at he
            rw [if_neg hr] at he
            exact absurd he.symm h0
        exact ⟨acc, true, by simp [h0, he], fun _ => ⟨hr.1, hr.2, he⟩, (fun h => by cases h), fun _ _ _ => ⟨rfl, rfl⟩⟩
      · exact ⟨0, false, by simp [h0, he], (fun h => by cases h), fun _ => rfl, fun _ _ h2 => absurd h2 he⟩
  | cons c r ih =>
    intro k n acc hd hk hn ha
    obtain ⟨n, rfl⟩ : ∃ m, n = m + 1 := ⟨n - 1, by omega⟩
    simp only [List.length_cons] at hn
    obtain ⟨hg, hlt, hd'⟩ := getD_drop (d := (0 : UInt8)) hd
    have h1 : (k : Int) < (s.length : Int) := by omega
    rw [digit_ReadDec.l3_succ]
    simp only [h1, Int.natCast_nonneg, decide_true, cond_true, chks_t, chks_nil, Int.toNat_natCast, hg, wS (show k < 4611686018427387904 by omega)]
    by_cases c1 : (c.toNat : Int) < 48
    · exact ⟨0, false, by simp [c1], (fun h => by cases h), fun _ => rfl, fun h _ _ => by have := h c List.mem_cons_self; omega⟩
    · by_cases c2 : (57 : Int) < (c.toNat : Int)
      · exact ⟨0, false, by simp [c1, c2], (fun h => by cases h), fun _ => rfl, fun h _ _ => by have := h c List.mem_cons_self; omega⟩
      · by_cases c3 : (1073741824 : Int) < (acc : Int)
        · refine ⟨0, false, by simp [c1, c2, c3], (fun h => by cases h), fun _ => rfl, fun _ h _ => ?_⟩
          have := valF_le (c :: r) acc
          omega
        · have hm : IntKind.wrap .i64 (10 * (acc : Int)) = ((10 * acc : Nat) : Int) := by rw [w64 (by omega) (by omega)]; omega
          have ha2 : IntKind.wrap .i64 (((10 * acc : Nat) : Int) + ((c.toNat - 48 : Nat) : Int)) = ((10 * acc + (c.toNat - 48) : Nat) : Int) := by rw [w64 (by omega) (by omega)]; omega
          obtain ⟨v, ok, r1, r2, r3, r4⟩ := ih (k + 1) n (10 * acc + (c.toNat - 48)) hd' (by omega) (by omega) (by omega)
          refine ⟨v, ok, ?_, r2, r3, fun h h5 h6 => r4 (fun x hx => h x (List.mem_cons_of_mem _ hx)) h5 h6⟩
          simp only [c1, c2, c3, decide_false, cond_false]
          rw [byte_dig (by omega) (by omega), hm, ha2]
          exact r1
theorem readdec_eq {K : Nat} (hK : 1000000 ≤ K) {s : List UInt8} (hs : s.length < 900000) : ∃ (v : Int) (ok : Bool), digit_ReadDec.f K ((s, ()) : List UInt8 × Unit) = some (v, ok, ()) ∧ (ok = true → 0 ≤ v ∧ v ≤ 1073741824 ∧ decS v = s) ∧ (ok = false → v = 0) ∧
    (∀ m : Int, 0 ≤ m → m ≤ 1073741824 → decS m = s → ok = true ∧ v = m) := by
  obtain ⟨v, ok, r1, r2, r3, r4⟩ := readdec_loop hK s hs _ rfl s 0 K 0 rfl (Nat.zero_le _) (by omega) (by omega)
  refine ⟨v, ok, by rw [digit_ReadDec.eq]; exact r1, r2, r3, fun m h1 h2 h3 => ?_⟩
  have hs2 : s = decN m.toNat := by rw [← h3]; unfold decS; rw [if_pos ⟨h1, h2⟩]
  have hv : valF 0 s = m.toNat := by rw [hs2]; exact valF_dec _ _ (Nat.le_refl _)
  have := r4 (by rw [hs2]; exact decN_digits _ _ (Nat.le_refl _)) (by rw [hv]; omega) (by rw [hv, Int.toNat_of_nonneg h1]; exact h3)
  rw [hv, Int.toNat_of_nonneg h1] at this
  exact this
theorem rreaddec_loop {K : Nat} (s : List UInt8) (hs : s.length < 900000) : ∀ (r : List UInt8) (k n acc : Nat), s.drop k = r → k ≤ s.length → r.length < n → acc ≤ 1073741824 →
    ∃ v : Int, ammoniteref1_ReadDec.l3 K n s acc k = some v ∧ -1 ≤ v ∧ v ≤ 1073741824 ∧ ((∀ c ∈ r, 48 ≤ c.toNat ∧ c.toNat ≤ 57) → valF acc r ≤ 1073741824 → s ≠ [] → (1 < s.length → (s.getD 0 0).toNat ≠ 48) → v = valF acc r) := by
  intro r
  induction r with
  | nil =>
    intro k n acc hd hk hn ha
    have := drop_nil hd hk
    subst this
    obtain ⟨n, rfl⟩ : ∃ m, n = m + 1 := ⟨n - 1, by omega⟩
    rw [ammoniteref1_ReadDec.l3_succ]
    simp only [Int.lt_irrefl, decide_false, cond_false, Int.toNat_zero]
    by_cases h0 : s.length = 0
    · refine ⟨-1, by simp [h0], by omega, by omega, fun _ _ h => absurd (List.eq_nil_of_length_eq_zero h0) h⟩
    · have e0 : ¬ ((s.length : Int) = 0) := by omega
      by_cases h1 : 1 < s.length
      · have e1 : (1 : Int) < (s.length : Int) := by omega
        have e2 : (0 : Int) < (s.length : Int) := by omega
        simp only [e0, e1, e2, decide_true, decide_false, cond_true, cond_false, chks_t, chks_nil]
        by_cases h2 : ((s.getD 0 0).toNat : Int) = 48
        · exact ⟨-1, by simp only [h2, decide_true, cond_true], by omega, by omega, fun _ _ _ h => by have := h h1; omega⟩
        · exact ⟨acc, by simp only [h2, decide_false, cond_false], by omega, by omega, fun _ _ _ _ => rfl⟩
      · have e1 : ¬ ((1 : Int) < (s.length : Int)) := by omega
        simp only [e0, e1, decide_false, cond_false]
        exact ⟨acc, rfl, by omega, by omega, fun _ _ _ _ => rfl⟩
  | cons c r ih =>
    intro k n acc hd hk hn ha
    obtain ⟨n, rfl⟩ : ∃ m, n = m + 1 := ⟨n - 1, by omega⟩
    simp only [List.length_cons] at hn
    obtain ⟨hg, hlt, hd'⟩ := getD_drop (d := (0 : UInt8)) hd
    have h1 : (k : Int) < (s.length : Int) := by omega
    rw [ammoniteref1_ReadDec.l3_succ]
    simp only [h1, Int.natCast_nonneg, decide_true, cond_true, chks_t, chks_nil, Int.toNat_natCast, hg, wS (show k < 4611686018427387904 by omega)]
    by_cases c1 : (c.toNat : Int) < 48
    · exact ⟨-1, by simp [c1], by omega, by omega, fun h => by have := h c List.mem_cons_self; omega⟩
    · by_cases c2 : (57 : Int) < (c.toNat : Int)
      · exact ⟨-1, by simp [c1, c2], by omega, by omega, fun h => by have := h c List.mem_cons_self; omega⟩
      · have hm : IntKind.wrap .i64 ((acc : Int) * 10) = ((10 * acc : Nat) : Int) := by rw [w64 (by omega) (by omega)]; omega
        have ha2 : IntKind.wrap .i64 (((10 * acc : Nat) : Int) + ((c.toNat - 48 : Nat) : Int)) = ((10 * acc + (c.toNat - 48) : Nat) : Int) := by rw [w64 (by omega) (by omega)]; omega
        simp only [c1, c2, decide_false, cond_false]
        rw [byte_dig (by omega) (by omega), hm, ha2]
        by_cases c3 : (1073741824 : Int) < ((10 * acc + (c.toNat - 48) : Nat) : Int)
        · refine ⟨-1, by simp only [c3, decide_true, cond_true], by omega, by omega, fun _ h => ?_⟩
          have := valF_le r (10 * acc + (c.toNat - 48))
          unfold valF at h
          omega
        · obtain ⟨v, r1, r2, r3, r4⟩ := ih (k + 1) n (10 * acc + (c.toNat - 48)) hd' (by omega) (by omega) (by omega)
          refine ⟨v, ?_, r2, r3, fun h h5 h6 h7 => r4 (fun x hx => h x (List.mem_cons_of_mem _ hx)) h5 h6 h7⟩
          simp only [c3, decide_false, cond_false]
          exact r1
theorem rreaddec_eq {K : Nat} (hK : 1000000 ≤ K) {s : List UInt8} (hs : s.length < 900000) : ∃ v : Int, ammoniteref1_ReadDec.f K ((s, ()) : List UInt8 × Unit) = some v ∧ -1 ≤ v ∧ v ≤ 1073741824 ∧ (∀ m : Int, 0 ≤ m → m ≤ 1073741824 → decS m = s → v = m) := by
  obtain ⟨v, r1, r2, r3, r4⟩ := rreaddec_loop (K := K) s hs s 0 K 0 rfl (Nat.zero_le _) (by omega) (by omega)
  refine ⟨v, by rw [ammoniteref1_ReadDec.eq]; exact r1, r2, r3, fun m h1 h2 h3 => ?_⟩
  have hs2 : s = decN m.toNat := by rw [← h3]; unfold decS; rw [if_pos ⟨h1, h2⟩]
  have hv : valF 0 s = m.toNat := by rw [hs2]; exact valF_dec _ _ (Nat.le_refl _)
  have := r4 (by rw [hs2]; exact decN_digits _ _ (Nat.le_refl _)) (by rw [hv]; omega) (by
    have := decN_pos m.toNat
    rw [← hs2] at this
    intro e
    rw [e] at this
    simp at this) (fun hl => by
    by_cases hz : m.toNat = 0
    · rw [hs2, hz, decN_lt (by omega)] at hl; simp at hl
    · obtain ⟨c, r, h4, h5⟩ := decN_head m.toNat m.toNat (Nat.le_refl _) (by omega)
      rw [hs2, h4]
      simpa using h5)
  rw [hv, Int.toNat_of_nonneg h1] at this
  exact this
def nameC (c : UInt8) : Bool := decide (32 < c.toNat ∧ c.toNat ≤ 126 ∧ c.toNat ≠ 92)
def wordB (s : List UInt8) : Bool := s.all nameC && (decide (1 ≤ s.length) && decide (s.length ≤ 12))
theorem word_loop {K : Nat} (s : List UInt8) (hs : s.length < 4611686018427387904) (t : Int) (ht : t = (s.length : Int)) : ∀ (r : List UInt8) (k n : Nat), s.drop k = r → k ≤ s.length → r.length < n →
    escape_Word.l2 K n s t k = some (r.all nameC && (decide (1 ≤ s.length) && decide (s.length ≤ 12))) := by
  subst ht
  intro r
  induction r with
  | nil =>
    intro k n hd hk hn
    have := drop_nil hd hk
    subst this
    obtain ⟨n, rfl⟩ : ∃ m, n = m + 1 := ⟨n - 1, by omega⟩
    rw [escape_Word.l2_succ]
    simp only [Int.lt_irrefl, decide_false, cond_false, List.all_nil, Bool.true_and]
    cases s with
    | nil => simp
    | cons c s =>
      have : ¬ ((c :: s : List UInt8) = []) := by simp
      have h1 : 1 ≤ (c :: s).length := by simp
      have h2 : (((c :: s).length : Nat) : Int) ≤ 12 ↔ (c :: s).length ≤ 12 := by omega
      simp only [this, h1, h2, decide_false, Bool.not_false, cond_true, decide_true, Bool.true_and]
  | cons c r ih =>
    intro k n hd hk hn
    obtain ⟨n, rfl⟩ : ∃ m, n = m + 1 := ⟨n - 1, by omega⟩
    simp only [List.length_cons] at hn
    obtain ⟨hg, hlt, hd'⟩ := getD_drop (d := (0 : UInt8)) hd
    have h1 : (k : Int) < (s.length : Int) := by omega
    rw [escape_Word.l2_succ]
    simp only [h1, Int.natCast_nonneg, decide_true, cond_true, chks_t, chks_nil, Int.toNat_natCast, hg, wS (show k < 4611686018427387904 by omega)]
    rw [ih (k + 1) n hd' (by omega) (by omega), List.all_cons]
    by_cases c1 : (c.toNat : Int) ≤ 32
    · have : nameC c = false := by unfold nameC; simp; omega
      simp [c1, this]
    · by_cases c2 : (126 : Int) < (c.toNat : Int)
      · have : nameC c = false := by unfold nameC; simp; omega
        simp [c1, c2, this]
      · by_cases c3 : (c.toNat : Int) = 92
        · have : nameC c = false := by unfold nameC; simp; omega
          simp [c1, c2, c3, this]
        · have : nameC c = true := by unfold nameC; simp; omega
          simp [c1, c2, c3, this]
theorem word_eq {K : Nat} {s : List UInt8} (hs : s.length < K) (hs2 : s.length < 4611686018427387904) : escape_Word.f K ((s, ()) : List UInt8 × Unit) = some (wordB s) := by
  rw [escape_Word.eq]
  exact word_loop s hs2 _ rfl s 0 K rfl (Nat.zero_le _) hs
theorem rword_loop {K : Nat} (s : List UInt8) (hs : s.length < 4611686018427387904) : ∀ (r : List UInt8) (k n : Nat), s.drop k = r → k ≤ s.length → r.length < n →
    ammoniteref10_Word.l2 K n s k = some (r.all nameC && (decide (1 ≤ s.length) && decide (s.length ≤ 12))) := by
  intro r
  induction r with
  | nil =>
    intro k n hd hk hn
    have := drop_nil hd hk
    subst this
    obtain ⟨n, rfl⟩ : ∃ m, n = m + 1 := ⟨n - 1, by omega⟩
    rw [ammoniteref10_Word.l2_succ]
    simp only [Int.lt_irrefl, decide_false, cond_false, List.all_nil, Bool.true_and]
    have h1 : (1 : Int) ≤ (s.length : Int) ↔ 1 ≤ s.length := by omega
    have h2 : (s.length : Int) ≤ 12 ↔ s.length ≤ 12 := by omega
    simp only [h1, h2]
    cases decide (1 ≤ s.length) <;> rfl
  | cons c r ih =>
    intro k n hd hk hn
    obtain ⟨n, rfl⟩ : ∃ m, n = m + 1 := ⟨n - 1, by omega⟩
    simp only [List.length_cons] at hn
    obtain ⟨hg, hlt, hd'⟩ := getD_drop (d := (0 : UInt8)) hd
    have h1 : (k : Int) < (s.length : Int) := by omega
    rw [ammoniteref10_Word.l2_succ]
    simp only [h1, Int.natCast_nonneg, decide_true, cond_true, chks_t, chks_nil, Int.toNat_natCast, hg, wS (show k < 4611686018427387904 by omega)]
    rw [ih (k + 1) n hd' (by omega) (by omega), List.all_cons]
    by_cases c1 : (c.toNat : Int) ≤ 32
    · have : nameC c = false := by unfold nameC; simp; omega
      simp [c1, this]
    · by_cases c2 : (126 : Int) < (c.toNat : Int)
      · have : nameC c = false := by unfold nameC; simp; omega
        simp [c1, c2, this]
      · by_cases c3 : (c.toNat : Int) = 92
        · have : nameC c = false := by unfold nameC; simp; omega
          simp [c1, c2, c3, this]
        · have : nameC c = true := by unfold nameC; simp; omega
          simp [c1, c2, c3, this]
theorem rword_eq {K : Nat} {s : List UInt8} (hs : s.length < K) (hs2 : s.length < 4611686018427387904) : ammoniteref10_Word.f K ((s, ()) : List UInt8 × Unit) = some (wordB s) := by
  rw [ammoniteref10_Word.eq]
  exact rword_loop s hs2 s 0 K rfl (Nat.zero_le _) hs
def isB (s : List UInt8) : Bool := s.all hexB && decide (s.length = 40)
theorem hex_idx : ∀ i : Fin 256, decide (Lib.indexByte [48, 49, 50, 51, 52, 53, 54, 55, 56, 57, 97, 98, 99, 100, 101, 102] (UInt8.ofNat i.val) < 0) = !hexB (UInt8.ofNat i.val) := by decide +kernel
theorem hex_find (K : Nat) (c : UInt8) : ∃ v : Int, strings_IndexByte.f K (([48, 49, 50, 51, 52, 53, 54, 55, 56, 57, 97, 98, 99, 100, 101, 102], (c.toNat : Int), ()) : List UInt8 × Int × Unit) = some v ∧ decide (v < 0) = !hexB c := by
  refine ⟨Lib.indexByte [48, 49, 50, 51, 52, 53, 54, 55, 56, 57, 97, 98, 99, 100, 101, 102] c, ?_, ?_⟩
  · show some (Lib.indexByte _ (c.toNat : Int).toNat.toUInt8) = _
    rw [Int.toNat_natCast]
    have : c.toNat.toUInt8 = c := by simp
    rw [this]
  · have := hex_idx ⟨c.toNat, c.toNat_lt⟩
    have e : UInt8.ofNat c.toNat = c := by simp
    simp only [e] at this
    exact this
theorem is_loop {K : Nat} (s : List UInt8) (hs : s.length < 4611686018427387904) (t : Int) (ht : t = (s.length : Int)) : ∀ (r : List UInt8) (k n : Nat), s.drop k = r → k ≤ s.length → r.length < n →
    hash_Is.l2 K n s t k = some (r.all hexB && decide (s.length = 40)) := by
  subst ht
  intro r
  induction r with
  | nil =>
    intro k n hd hk hn
    have := drop_nil hd hk
    subst this
    obtain ⟨n, rfl⟩ : ∃ m, n = m + 1 := ⟨n - 1, by omega⟩
    rw [hash_Is.l2_succ]
    have h1 : (s.length : Int) = 40 ↔ s.length = 40 := by omega
    simp only [Int.lt_irrefl, decide_false, cond_false, List.all_nil, Bool.true_and, h1]
  | cons c r ih =>
    intro k n hd hk hn
    obtain ⟨n, rfl⟩ : ∃ m, n = m + 1 := ⟨n - 1, by omega⟩
    simp only [List.length_cons] at hn
    obtain ⟨hg, hlt, hd'⟩ := getD_drop (d := (0 : UInt8)) hd
    have h1 : (k : Int) < (s.length : Int) := by omega
    obtain ⟨v, v1, v2⟩ := hex_find K c
    rw [hash_Is.l2_succ]
    simp only [h1, Int.natCast_nonneg, decide_true, cond_true, chks_t, chks_nil, Int.toNat_natCast, hg, v1, Option.bind_some, v2, wS (show k < 4611686018427387904 by omega)]
    rw [ih (k + 1) n hd' (by omega) (by omega), List.all_cons]
    cases hexB c <;> simp
theorem is_eq {K : Nat} {s : List UInt8} (hs : s.length < K) (hs2 : s.length < 4611686018427387904) : hash_Is.f K ((s, ()) : List UInt8 × Unit) = some (isB s) := by
  rw [hash_Is.eq]
  exact is_loop s hs2 _ rfl s 0 K rfl (Nat.zero_le _) hs
theorem ris_loop {K : Nat} (s : List UInt8) (hs : s.length < 4611686018427387904) : ∀ (r : List UInt8) (k n : Nat), s.drop k = r → k ≤ s.length → r.length < n →
    ammoniteref1_Is.l2 K n s k = some (r.all hexB && decide (s.length = 40)) := by
  intro r
  induction r with
  | nil =>
    intro k n hd hk hn
    have := drop_nil hd hk
    subst this
    obtain ⟨n, rfl⟩ : ∃ m, n = m + 1 := ⟨n - 1, by omega⟩
    rw [ammoniteref1_Is.l2_succ]
    have h1 : (s.length : Int) = 40 ↔ s.length = 40 := by omega
    simp only [Int.lt_irrefl, decide_false, cond_false, List.all_nil, Bool.true_and, h1]
  | cons c r ih =>
    intro k n hd hk hn
    obtain ⟨n, rfl⟩ : ∃ m, n = m + 1 := ⟨n - 1, by omega⟩
    simp only [List.length_cons] at hn
    obtain ⟨hg, hlt, hd'⟩ := getD_drop (d := (0 : UInt8)) hd
    have h1 : (k : Int) < (s.length : Int) := by omega
    rw [ammoniteref1_Is.l2_succ]
    simp only [h1, Int.natCast_nonneg, decide_true, cond_true, chks_t, chks_nil, Int.toNat_natCast, hg, wS (show k < 4611686018427387904 by omega)]
    rw [ih (k + 1) n hd' (by omega) (by omega), List.all_cons]
    by_cases c1 : (c.toNat : Int) < 48
    · have e1 : (c.toNat : Int) < 97 := by omega
      have : hexB c = false := by unfold hexB; simp; omega
      simp [c1, e1, this]
    · by_cases c2 : (57 : Int) < (c.toNat : Int)
      · by_cases c3 : (c.toNat : Int) < 97
        · have : hexB c = false := by unfold hexB; simp; omega
          simp [c1, c2, c3, this]
        · by_cases c4 : (102 : Int) < (c.toNat : Int)
          · have : hexB c = false := by unfold hexB; simp; omega
            simp [c1, c2, c3, c4, this]
          · have : hexB c = true := by unfold hexB; simp; omega
            simp [c1, c2, c3, c4, this]
      · have : hexB c = true := by unfold hexB; simp; omega
        simp [c1, c2, this]
theorem ris_eq {K : Nat} {s : List UInt8} (hs : s.length < K) (hs2 : s.length < 4611686018427387904) : ammoniteref1_Is.f K ((s, ()) : List UInt8 × Unit) = some (isB s) := by
  rw [ammoniteref1_Is.eq]
  exact ris_loop s hs2 s 0 K rfl (Nat.zero_le _) hs
theorem sum_isB (s : List UInt8) : isB (sumS s) = true := by
  unfold isB
  rw [sumS_len]
  simp only [decide_true, Bool.and_true, List.all_eq_true]
  exact sumS_hex s
end Go.Proofs.Ytaoadbkoambjbaa.Ab
