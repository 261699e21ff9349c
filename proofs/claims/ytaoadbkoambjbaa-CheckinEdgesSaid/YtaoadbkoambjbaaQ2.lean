/- Texts as words: what escape.Put, escape.Read and the reference's Unescape compute. -/
import Derived.Test.YtaoadbkoambjbaaP5
import Derived.Test.YtaoadbkoambjbaaAbt4
set_option linter.unusedVariables false
set_option linter.unusedSimpArgs false
set_option maxRecDepth 10000
namespace Go.Proofs.Ytaoadbkoambjbaa.Ab
open Go Go.RowKit Go.Proofs.Ytaoadbkoambjbaa.Given
theorem put_loop {K : Nat} (s : List UInt8) (hs : s.length < 400000) (t : Int) (ht : t = (s.length : Int)) : ∀ (r : List UInt8) (k n : Nat) (out : List UInt8), s.drop k = r → k ≤ s.length → r.length < n → out.length ≤ 2 * k →
    escape_Put.l3 K n s t k out = some (out ++ escS r) := by
  subst ht
  intro r
  induction r with
  | nil =>
    intro k n out hd hk hn ho
    have := drop_nil hd hk
    subst this
    obtain ⟨n, rfl⟩ : ∃ m, n = m + 1 := ⟨n - 1, by omega⟩
    rw [escape_Put.l3_succ]
    simp [escS]
  | cons c r ih =>
    intro k n out hd hk hn ho
    obtain ⟨n, rfl⟩ : ∃ m, n = m + 1 := ⟨n - 1, by omega⟩
    simp only [List.length_cons] at hn
    obtain ⟨hg, hlt, hd'⟩ := getD_drop (d := (0 : UInt8)) hd
    have h1 : (k : Int) < (s.length : Int) := by omega
    have es : escS (c :: r) = esc1 c ++ escS r := by simp [escS]
    rw [escape_Put.l3_succ, es]
    simp only [h1, Int.natCast_nonneg, decide_true, cond_true, chks_t, chks_nil, Int.toNat_natCast, hg, wS (show k < 4611686018427387904 by omega)]
    by_cases e1 : c = 32
    · subst e1
      have : (((32 : UInt8).toNat : Int) = 32) := rfl
      simp only [this, decide_true, cond_true]
      rw [bldOk_t (by simp; omega), chks_t, chks_nil, ih (k + 1) n _ hd' (by omega) (by omega) (by simp; omega)]
      simp [esc1]
    · have t1 : ¬ ((c.toNat : Int) = 32) := fun e => e1 ((byte_eq c 32 (by decide)).1 e)
      by_cases e2 : c = 10
      · subst e2
        have : (((10 : UInt8).toNat : Int) = 10) := rfl
        simp only [this, decide_true, cond_true, show ¬ ((10 : Int) = 32) by decide, decide_false, cond_false]
        rw [bldOk_t (by simp; omega), chks_t, chks_nil, ih (k + 1) n _ hd' (by omega) (by omega) (by simp; omega)]
        simp [esc1]
      · have t2 : ¬ ((c.toNat : Int) = 10) := fun e => e2 ((byte_eq c 10 (by decide)).1 e)
        by_cases e3 : c = 92
        · subst e3
          have : (((92 : UInt8).toNat : Int) = 92) := rfl
          simp only [this, decide_true, cond_true, show ¬ ((92 : Int) = 32) by decide, show ¬ ((92 : Int) = 10) by decide, decide_false, cond_false]
          rw [bldOk_t (by simp; omega), chks_t, chks_nil, ih (k + 1) n _ hd' (by omega) (by omega) (by simp; omega)]
          simp [esc1]
        · have t3 : ¬ ((c.toNat : Int) = 92) := fun e => e3 ((byte_eq c 92 (by decide)).1 e)
          have hb : (c.toNat : Int) < 256 := by have := c.toNat_lt; omega
          have hc : UInt8.ofNat c.toNat = c := by simp
          simp only [t1, t2, t3, hb, decide_false, cond_false, decide_true, hc]
          rw [bldOk_t (by simp; omega), chks_t, chks_t, chks_t, chks_nil, ih (k + 1) n _ hd' (by omega) (by omega) (by simp; omega)]
          simp [esc1, e1, e2, e3]
theorem put_eq {K : Nat} (hK : 1000000 ≤ K) {s : List UInt8} (hs : s.length < 400000) : escape_Put.f K ((s, ()) : List UInt8 × Unit) = some (escS s) := by
  rw [escape_Put.eq]
  exact put_loop s hs _ rfl s 0 K [] rfl (Nat.zero_le _) (by omega) (by simp)
def unesc : List UInt8 → Option (List UInt8)
  | [] => some []
  | [c] => if c = 92 ∨ c = 32 ∨ c = 10 then none else some [c]
  | c :: d :: r => if c = 92 then (if d = 115 then (unesc r).map (32 :: ·) else if d = 110 then (unesc r).map (10 :: ·) else if d = 92 then (unesc r).map (92 :: ·) else none)
      else if c = 32 ∨ c = 10 then none else (unesc (d :: r)).map (c :: ·)
theorem unesc_92 (d : UInt8) (r : List UInt8) : unesc (92 :: d :: r) = (if d = 115 then (unesc r).map (32 :: ·) else if d = 110 then (unesc r).map (10 :: ·) else if d = 92 then (unesc r).map (92 :: ·) else none) := by rw [unesc, if_pos rfl]
theorem unesc_one {c : UInt8} (r : List UInt8) (h1 : c ≠ 92) (h2 : c ≠ 32) (h3 : c ≠ 10) : unesc (c :: r) = (unesc r).map (c :: ·) := by
  cases r with
  | nil => simp [unesc, h1, h2, h3]
  | cons d r => rw [unesc, if_neg h1, if_neg (by simp [h2, h3])]
theorem unesc_no {c : UInt8} (r : List UInt8) (h : c = 32 ∨ c = 10) : unesc (c :: r) = none := by
  have h1 : c ≠ 92 := by rcases h with rfl | rfl <;> decide
  cases r with
  | nil => simp [unesc, h]
  | cons d r => rw [unesc, if_neg h1, if_pos h]
theorem unesc_escS : ∀ (s : List UInt8), unesc (escS s) = some s := by
  intro s
  induction s with
  | nil => rfl
  | cons c s ih =>
    have es : escS (c :: s) = esc1 c ++ escS s := by simp [escS]
    rw [es]
    unfold esc1
    by_cases e1 : c = 32
    · rw [if_pos e1, e1]; show unesc (92 :: 115 :: escS s) = _; rw [unesc_92, if_pos rfl, ih]; rfl
    · by_cases e2 : c = 10
      · rw [if_neg e1, if_pos e2, e2]; show unesc (92 :: 110 :: escS s) = _; rw [unesc_92, if_neg (by decide), if_pos rfl, ih]; rfl
      · by_cases e3 : c = 92
        · rw [if_neg e1, if_neg e2, if_pos e3, e3]; show unesc (92 :: 92 :: escS s) = _; rw [unesc_92, if_neg (by decide), if_neg (by decide), if_pos rfl, ih]; rfl
        · rw [if_neg e1, if_neg e2, if_neg e3]; show unesc (c :: escS s) = _; rw [unesc_one _ e3 e1 e2, ih]; rfl
theorem unesc_len : ∀ (n : Nat) (s v : List UInt8), s.length ≤ n → unesc s = some v → v.length ≤ s.length := by
  intro n
  induction n with
  | zero =>
    intro s v hn h
    have := List.eq_nil_of_length_eq_zero (Nat.le_zero.1 hn)
    subst this
    cases h
    simp
  | succ n ih =>
    intro s v hn h
    match s, hn, h with
    | [], _, h => cases h; simp
    | [c], _, h =>
      by_cases hc : c = 92 ∨ c = 32 ∨ c = 10
      · rw [unesc, if_pos hc] at h; cases h
      · rw [unesc, if_neg hc] at h; cases h; simp
    | c :: d :: r, hn, h =>
      simp only [List.length_cons] at hn ⊢
      by_cases e3 : c = 92
      · subst e3
        rw [unesc_92] at h
        cases e : unesc r with
        | none => rw [e] at h; simp at h
        | some w =>
          have := ih r w (by omega) e
          rw [e] at h
          simp only [Option.map_some] at h
          split at h
          · cases h; simp; omega
          · split at h
            · cases h; simp; omega
            · split at h
              · cases h; simp; omega
              · cases h
      · by_cases e1 : c = 32 ∨ c = 10
        · rw [unesc_no _ e1] at h; cases h
        · rw [unesc_one _ e3 (fun e => e1 (Or.inl e)) (fun e => e1 (Or.inr e))] at h
          cases e : unesc (d :: r) with
          | none => rw [e] at h; cases h
          | some w =>
            have := ih (d :: r) w (by simp; omega) e
            rw [e] at h
            cases h
            simp only [List.length_cons] at this ⊢
            omega
def resU : Option (List UInt8) → List UInt8 × Bool × Unit
  | some v => (v, true, ())
  | none => ([], false, ())
theorem byte_cases (c : UInt8) : (c = 92 ∧ ((c.toNat : Int) = 92)) ∨ (¬ c = 92 ∧ ¬ ((c.toNat : Int) = 92) ∧ (c = 32 ∨ c = 10) ∧ ((c.toNat : Int) = 32 ∨ (c.toNat : Int) = 10)) ∨ (¬ c = 92 ∧ ¬ c = 32 ∧ ¬ c = 10 ∧ ¬ ((c.toNat : Int) = 92) ∧ ¬ ((c.toNat : Int) = 32) ∧ ¬ ((c.toNat : Int) = 10)) := by
  have t1 := byte_eq c 32 (by decide)
  have t2 := byte_eq c 10 (by decide)
  have t3 := byte_eq c 92 (by decide)
  by_cases e3 : c = 92
  · exact Or.inl ⟨e3, t3.2 e3⟩
  · by_cases e1 : c = 32
    · exact Or.inr (Or.inl ⟨e3, fun e => e3 (t3.1 e), Or.inl e1, Or.inl (t1.2 e1)⟩)
    · by_cases e2 : c = 10
      · exact Or.inr (Or.inl ⟨e3, fun e => e3 (t3.1 e), Or.inr e2, Or.inr (t2.2 e2)⟩)
      · exact Or.inr (Or.inr ⟨e3, e1, e2, fun e => e3 (t3.1 e), fun e => e1 (t1.1 e), fun e => e2 (t2.1 e)⟩)
theorem uread_loop {K : Nat} (s : List UInt8) (hs : s.length < 1000000) : ∀ (m : Nat) (r : List UInt8) (k n : Nat) (out : List UInt8), r.length ≤ m → s.drop k = r → k ≤ s.length → r.length < n → out.length ≤ k →
    escape_Read.l3 K n s k out = some (match unesc r with | some v => (out ++ v, true, ()) | none => ([], false, ())) := by
  intro m
  induction m with
  | zero =>
    intro r k n out hm hd hk hn ho
    have := List.eq_nil_of_length_eq_zero (Nat.le_zero.1 hm)
    subst this
    have := drop_nil hd hk
    subst this
    obtain ⟨n, rfl⟩ : ∃ m, n = m + 1 := ⟨n - 1, by omega⟩
    rw [escape_Read.l3_succ]
    simp [unesc]
  | succ m ih =>
    intro r k n out hm hd hk hn ho
    cases r with
    | nil =>
      have := drop_nil hd hk
      subst this
      obtain ⟨n, rfl⟩ : ∃ m, n = m + 1 := ⟨n - 1, by omega⟩
      rw [escape_Read.l3_succ]
      simp [unesc]
    | cons c r =>
      obtain ⟨n, rfl⟩ : ∃ m, n = m + 1 := ⟨n - 1, by omega⟩
      simp only [List.length_cons] at hn hm
      obtain ⟨hg, hlt, hd'⟩ := getD_drop (d := (0 : UInt8)) hd
      have h1 : (k : Int) < (s.length : Int) := by omega
      have hb : (c.toNat : Int) < 256 := by have := c.toNat_lt; omega
      have hc : UInt8.ofNat c.toNat = c := by simp
      rw [escape_Read.l3_succ]
      simp only [h1, Int.natCast_nonneg, decide_true, cond_true, chks_t, chks_nil, Int.toNat_natCast, hg, wS (show k < 4611686018427387904 by omega)]
      rcases byte_cases c with ⟨rfl, e⟩ | ⟨e, e', hw, hw'⟩ | ⟨e, e1, e2, f, f1, f2⟩
      · simp only [e, decide_true, cond_true]
        cases r with
        | nil =>
          have := drop_nil hd' (by omega)
          have h2 : (((k + 1 : Nat) : Int) = (s.length : Int)) := by omega
          simp only [h2, decide_true, cond_true]
          rfl
        | cons d r =>
          obtain ⟨hg2, hlt2, hd2⟩ := getD_drop (d := (0 : UInt8)) hd'
          have h2 : ¬ (((k + 1 : Nat) : Int) = (s.length : Int)) := by omega
          have h3 : (((k + 1 : Nat) : Int) < (s.length : Int)) := by omega
          simp only [List.length_cons] at hn hm
          have ihn : ∀ x : UInt8, escape_Read.l3 K n s ((k + 1 + 1 : Nat) : Int) (out ++ [x]) = some (match unesc r with | some v => (out ++ [x] ++ v, true, ()) | none => ([], false, ())) := fun x => ih r (k + 1 + 1) n (out ++ [x]) (by omega) hd2 (by omega) (by omega) (by simp; omega)
          have hbl : bldOk out [0] = true := bldOk_t (by simp; omega)
          simp only [h2, h3, Int.natCast_nonneg, decide_true, decide_false, cond_true, cond_false, chks_t, chks_nil, Int.toNat_natCast, hg2, wS (show k + 1 < 4611686018427387904 by omega), hbl, ihn]
          have t1 := byte_eq d 115 (by decide)
          have t2 := byte_eq d 110 (by decide)
          have t3 := byte_eq d 92 (by decide)
          have q1 : ((d.toNat : Int) = 115) ↔ d = 115 := t1
          have q2 : ((d.toNat : Int) = 110) ↔ d = 110 := t2
          have q3 : ((d.toNat : Int) = 92) ↔ d = 92 := t3
          rw [unesc_92]
          by_cases d1 : d = 115
          · subst d1
            simp only [q1, decide_true, cond_true, if_true]
            cases unesc r <;> simp
          · by_cases d2 : d = 110
            · subst d2
              simp only [q1, q2, d1, decide_true, decide_false, cond_true, cond_false, if_true, if_false]
              cases unesc r <;> simp
            · by_cases d3 : d = 92
              · subst d3
                simp only [q1, q2, q3, d1, d2, decide_true, decide_false, cond_true, cond_false, if_true, if_false]
                have : decide ((0 : Int) ≤ 92) = true := rfl
                have h4 : decide ((92 : Int) < 256) = true := rfl
                have h5 : decide (((92 : UInt8).toNat : Int) < 256) = true := rfl
                simp only [this, h4, h5, chks_t, chks_nil]
                cases unesc r <;> simp
              · simp only [q1, q2, q3, d1, d2, d3, decide_false, cond_false, if_false]
      · rw [unesc_no _ hw]
        rcases hw' with h | h
        · simp only [h, show ¬ ((32 : Int) = 92) by decide, decide_true, decide_false, cond_true, cond_false]
        · simp only [h, show ¬ ((10 : Int) = 92) by decide, show ¬ ((10 : Int) = 32) by decide, decide_true, decide_false, cond_true, cond_false]
      · rw [unesc_one _ e e1 e2]
        simp only [f, f1, f2, hb, decide_true, decide_false, cond_false, hc]
        rw [bldOk_t (by simp; omega), chks_t, chks_t, chks_t, chks_nil, ih r (k + 1) n _ (by omega) hd' (by omega) (by omega) (by simp; omega)]
        cases unesc r <;> simp
theorem uread_eq {K : Nat} (hK : 1000000 ≤ K) {s : List UInt8} (hs : s.length < 1000000) : escape_Read.f K ((s, ()) : List UInt8 × Unit) = some (resU (unesc s)) := by
  rw [escape_Read.eq]
  have := uread_loop (K := K) s hs s.length s 0 K [] (Nat.le_refl _) rfl (Nat.zero_le _) (by omega) (by simp)
  refine Eq.trans this ?_
  cases unesc s <;> rfl
theorem unescape_loop {K : Nat} (s : List UInt8) (hs : s.length < 1000000) : ∀ (m : Nat) (r : List UInt8) (k n : Nat) (out : List UInt8), r.length ≤ m → s.drop k = r → k ≤ s.length → r.length < n → out.length ≤ k →
    ammoniteref10_Unescape.l3 K n s out k = some (match unesc r with | some v => (out ++ v, true, ()) | none => ([], false, ())) := by
  intro m
  induction m with
  | zero =>
    intro r k n out hm hd hk hn ho
    have := List.eq_nil_of_length_eq_zero (Nat.le_zero.1 hm)
    subst this
    have := drop_nil hd hk
    subst this
    obtain ⟨n, rfl⟩ : ∃ m, n = m + 1 := ⟨n - 1, by omega⟩
    rw [ammoniteref10_Unescape.l3_succ]
    simp [unesc]
  | succ m ih =>
    intro r k n out hm hd hk hn ho
    cases r with
    | nil =>
      have := drop_nil hd hk
      subst this
      obtain ⟨n, rfl⟩ : ∃ m, n = m + 1 := ⟨n - 1, by omega⟩
      rw [ammoniteref10_Unescape.l3_succ]
      simp [unesc]
    | cons c r =>
      obtain ⟨n, rfl⟩ : ∃ m, n = m + 1 := ⟨n - 1, by omega⟩
      simp only [List.length_cons] at hn hm
      obtain ⟨hg, hlt, hd'⟩ := getD_drop (d := (0 : UInt8)) hd
      have h1 : (k : Int) < (s.length : Int) := by omega
      have h2 : ((k + 1 : Nat) : Int) ≤ (s.length : Int) := by omega
      have h3 : (k : Int) ≤ ((k + 1 : Nat) : Int) := by omega
      have hcut : (s.take (k + 1)).drop k = [c] := by
        rw [List.drop_take, hd]
        simp
      rw [ammoniteref10_Unescape.l3_succ]
      simp only [h1, h2, h3, Int.natCast_nonneg, decide_true, cond_true, chks_t, chks_nil, Int.toNat_natCast, hg, wS (show k < 4611686018427387904 by omega), cutL_mid, hcut]
      rcases byte_cases c with ⟨rfl, e⟩ | ⟨e, e', hw, hw'⟩ | ⟨e, e1, e2, f, f1, f2⟩
      · simp only [e, show ¬ ((92 : Int) = 32) by decide, show ¬ ((92 : Int) = 10) by decide, decide_true, decide_false, cond_true, cond_false, Bool.not_true]
        cases r with
        | nil =>
          have := drop_nil hd' (by omega)
          have h2 : ((s.length : Int) ≤ ((k + 1 : Nat) : Int)) := by omega
          simp only [h2, decide_true, cond_true]
          rfl
        | cons d r =>
          obtain ⟨hg2, hlt2, hd2⟩ := getD_drop (d := (0 : UInt8)) hd'
          have h2 : ¬ ((s.length : Int) ≤ ((k + 1 : Nat) : Int)) := by omega
          have h3 : (((k + 1 : Nat) : Int) < (s.length : Int)) := by omega
          simp only [List.length_cons] at hn hm
          have ihn : ∀ x : UInt8, ammoniteref10_Unescape.l3 K n s (out ++ [x]) ((k + 1 + 1 : Nat) : Int) = some (match unesc r with | some v => (out ++ [x] ++ v, true, ()) | none => ([], false, ())) := fun x => ih r (k + 1 + 1) n (out ++ [x]) (by omega) hd2 (by omega) (by omega) (by simp; omega)
          have hbl : ∀ x : UInt8, catOk out [x] = true := fun x => catOk_t (by simp; omega)
          simp only [h2, h3, Int.natCast_nonneg, decide_true, decide_false, cond_true, cond_false, chks_t, chks_nil, Int.toNat_natCast, hg2, wS (show k + 1 < 4611686018427387904 by omega), hbl, ihn]
          have t1 := byte_eq d 115 (by decide)
          have t2 := byte_eq d 110 (by decide)
          have t3 := byte_eq d 92 (by decide)
          have q1 : ((d.toNat : Int) = 115) ↔ d = 115 := t1
          have q2 : ((d.toNat : Int) = 110) ↔ d = 110 := t2
          have q3 : ((d.toNat : Int) = 92) ↔ d = 92 := t3
          rw [unesc_92]
          by_cases d1 : d = 115
          · subst d1
            simp only [q1, decide_true, cond_true, if_true]
            cases unesc r <;> simp
          · by_cases d2 : d = 110
            · subst d2
              simp only [q1, q2, d1, decide_true, decide_false, cond_true, cond_false, if_true, if_false]
              cases unesc r <;> simp
            · by_cases d3 : d = 92
              · subst d3
                simp only [q1, q2, q3, d1, d2, decide_true, decide_false, cond_true, cond_false, if_true, if_false]
                cases unesc r <;> simp
              · simp only [q1, q2, q3, d1, d2, d3, decide_false, cond_false, if_false]
      · rw [unesc_no _ hw]
        rcases hw' with h | h
        · simp only [h, decide_true, cond_true]
        · simp only [h, show ¬ ((10 : Int) = 32) by decide, decide_true, decide_false, cond_true, cond_false]
      · rw [unesc_one _ e e1 e2]
        simp only [f, f1, f2, decide_true, decide_false, cond_false, cond_true, Bool.not_false]
        rw [catOk_t (by simp; omega), chks_t, chks_nil, ih r (k + 1) n _ (by omega) hd' (by omega) (by omega) (by simp; omega)]
        cases unesc r <;> simp
theorem unescape_eq {K : Nat} (hK : 1000000 ≤ K) {s : List UInt8} (hs : s.length < 1000000) : ammoniteref10_Unescape.f K ((s, ()) : List UInt8 × Unit) = some (resU (unesc s)) := by
  rw [ammoniteref10_Unescape.eq]
  have := unescape_loop (K := K) s hs s.length s 0 K [] (Nat.le_refl _) rfl (Nat.zero_le _) (by omega) (by simp)
  refine Eq.trans this ?_
  cases unesc s <;> rfl
end Go.Proofs.Ytaoadbkoambjbaa.Ab
