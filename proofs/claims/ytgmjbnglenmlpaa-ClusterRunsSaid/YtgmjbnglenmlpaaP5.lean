/- Small functions of chapter 11's statements: what they compute. -/
import Derived.Test.YtgmjbnglenmlpaaP4
set_option linter.unusedVariables false
set_option linter.unusedSimpArgs false
namespace Go.Proofs.Ytgmjbnglenmlpaa.Ab
open Go Go.RowKit Go.Proofs.Ytgmjbnglenmlpaa.Given
theorem min_lo {m : Int} (n : Nat) (h : 0 ≤ m) : 0 ≤ (if m < (n : Int) then m else (n : Int)) := by split <;> omega
theorem min_hi (m : Int) (n : Nat) : (if m < (n : Int) then m else (n : Int)) ≤ (n : Int) := by split <;> omega
theorem cut_min {α : Type} (s : List α) {m : Int} (h : 0 ≤ m) : cutL s none (some (if m < (s.length : Int) then m else (s.length : Int))) = s.take m.toNat := by
  unfold cutL
  dsimp only
  split
  · rfl
  · rw [Int.toNat_natCast, List.take_length, List.take_of_length_le (by omega)]
/-! ### Within -/
theorem within_eq (K : Nat) {n lo hi : Int} (h1 : -4000000000 ≤ lo) (h2 : lo ≤ hi) (h3 : hi ≤ 4000000000) : ∃ v : Int, ammonitebook_Within.f K ((n, lo, hi, ()) : Int × Int × Int × Unit) = some v ∧ lo ≤ v ∧ v ≤ hi := by
  rw [ammonitebook_Within.eq]
  have e1 : IntKind.wrap .i64 (hi - lo) = hi - lo := w64 (by omega) (by omega)
  have e2 : IntKind.wrap .i64 (hi - lo + 1) = hi - lo + 1 := w64 (by omega) (by omega)
  simp only [e1, e2]
  have hd : ¬ (hi - lo + 1 = 0) := by omega
  simp only [hd, decide_false, Bool.not_false, chks_t, chks_nil]
  have hpos : 0 < hi - lo + 1 := by omega
  have b1 : Int.tmod n (hi - lo + 1) < hi - lo + 1 := Int.tmod_lt_of_pos _ hpos
  have b2 : -(hi - lo + 1) < Int.tmod n (hi - lo + 1) := by
    have := Int.tmod_lt_of_pos (-n) hpos
    rw [Int.neg_tmod] at this
    omega
  by_cases hn : Int.tmod n (hi - lo + 1) < 0
  · simp only [hn, decide_true, cond_true]
    clear e1 e2
    refine ⟨lo + (Int.tmod n (hi - lo + 1) + hi - lo + 1), ?_, by omega, by omega⟩
    rw [w64 (n := Int.tmod n (hi - lo + 1) + hi) (by omega) (by omega), w64 (n := Int.tmod n (hi - lo + 1) + hi - lo) (by omega) (by omega), w64 (n := Int.tmod n (hi - lo + 1) + hi - lo + 1) (by omega) (by omega), w64 (by omega) (by omega)]
  · simp only [hn, decide_false, cond_false]
    clear e1 e2
    have b3 : 0 ≤ Int.tmod n (hi - lo + 1) := by omega
    refine ⟨lo + Int.tmod n (hi - lo + 1), ?_, by omega, by omega⟩
    rw [w64 (by omega) (by omega)]
/-! ### Same -/
theorem list_drop_ext {α : Type} {a b : List α} {k : Nat} (h : a.length = b.length) {x y d : α} {r : List α} (ha : a.drop k = x :: r) : ∃ y r', b.drop k = y :: r' ∧ b.getD k d = y ∧ b.drop (k + 1) = r' := by
  obtain ⟨_, hlt, _⟩ := getD_drop (d := d) ha
  cases hb : b.drop k with
  | nil => have := congrArg List.length hb; simp at this; omega
  | cons y r' => obtain ⟨h1, _, h2⟩ := getD_drop (d := d) hb; exact ⟨y, r', rfl, h1, h2⟩
/-! ### Escape -/
def esc1 (c : UInt8) : List UInt8 := if c = 32 then [92, 115] else if c = 10 then [92, 110] else if c = 92 then [92, 92] else [c]
def escS (s : List UInt8) : List UInt8 := (s.map esc1).flatten
theorem esc1_len (c : UInt8) : (esc1 c).length ≤ 2 := by unfold esc1; split <;> (try split) <;> (try split) <;> simp
theorem esc1_free (c : UInt8) : ¬ (32 : UInt8) ∈ esc1 c ∧ ¬ (10 : UInt8) ∈ esc1 c := by
  unfold esc1
  split
  · decide
  · split
    · decide
    · split
      · decide
      · rename_i h1 h2 h3
        simp only [List.mem_singleton]
        exact ⟨fun e => h1 e.symm, fun e => h2 e.symm⟩
theorem escS_len (s : List UInt8) : (escS s).length ≤ 2 * s.length := by
  induction s with
  | nil => simp [escS]
  | cons c s ih =>
    have := esc1_len c
    simp only [escS, List.map_cons, List.flatten_cons, List.length_append, List.length_cons] at ih ⊢
    omega
theorem escS_free (s : List UInt8) : ¬ (32 : UInt8) ∈ escS s ∧ ¬ (10 : UInt8) ∈ escS s := by
  unfold escS
  constructor
  · intro h
    obtain ⟨l, hl, hx⟩ := List.mem_flatten.1 h
    obtain ⟨c, _, rfl⟩ := List.mem_map.1 hl
    exact (esc1_free c).1 hx
  · intro h
    obtain ⟨l, hl, hx⟩ := List.mem_flatten.1 h
    obtain ⟨c, _, rfl⟩ := List.mem_map.1 hl
    exact (esc1_free c).2 hx
theorem esc_loop {K : Nat} (s : List UInt8) (hs : s.length < 400000) : ∀ (r : List UInt8) (k n : Nat) (out : List UInt8), s.drop k = r → k ≤ s.length → r.length < n → out.length ≤ 2 * k →
    ammoniteref10_Escape.l3 K n s out k = some (out ++ escS r) := by
  intro r
  induction r with
  | nil =>
    intro k n out hd hk hn ho
    have := drop_nil hd hk
    subst this
    obtain ⟨n, rfl⟩ : ∃ m, n = m + 1 := ⟨n - 1, by omega⟩
    rw [ammoniteref10_Escape.l3_succ]
    simp [escS]
  | cons c r ih =>
    intro k n out hd hk hn ho
    obtain ⟨n, rfl⟩ : ∃ m, n = m + 1 := ⟨n - 1, by omega⟩
    simp only [List.length_cons] at hn
    obtain ⟨hg, hlt, hd'⟩ := getD_drop (d := (0 : UInt8)) hd
    have h1 : (k : Int) < (s.length : Int) := by omega
    have h2 : ((k + 1 : Nat) : Int) ≤ (s.length : Int) := by omega
    have h3 : (k : Int) ≤ ((k + 1 : Nat) : Int) := by omega
    have hcut : (s.take (k + 1)).drop k = [c] := by
      rw [List.drop_take, hd]
      simp
    have es : escS (c :: r) = esc1 c ++ escS r := by simp [escS]
    rw [ammoniteref10_Escape.l3_succ, es]
    simp only [h1, h2, h3, Int.natCast_nonneg, decide_true, cond_true, chks_t, chks_nil, Int.toNat_natCast, hg, wS (show k < 4611686018427387904 by omega), cutL_mid, hcut]
    by_cases e1 : c = 32
    · subst e1
      have : (((32 : UInt8).toNat : Int) = 32) := rfl
      simp only [this, decide_true, cond_true]
      rw [catOk_t (by simp; omega), chks_t, chks_nil, ih (k + 1) n _ hd' (by omega) (by omega) (by simp; omega)]
      simp [esc1]
    · have t1 : ¬ ((c.toNat : Int) = 32) := fun e => e1 ((byte_eq c 32 (by decide)).1 e)
      by_cases e2 : c = 10
      · subst e2
        have : (((10 : UInt8).toNat : Int) = 10) := rfl
        simp only [this, decide_true, cond_true, show ¬ ((10 : Int) = 32) by decide, decide_false, cond_false]
        rw [catOk_t (by simp; omega), chks_t, chks_nil, ih (k + 1) n _ hd' (by omega) (by omega) (by simp; omega)]
        simp [esc1]
      · have t2 : ¬ ((c.toNat : Int) = 10) := fun e => e2 ((byte_eq c 10 (by decide)).1 e)
        by_cases e3 : c = 92
        · subst e3
          have : (((92 : UInt8).toNat : Int) = 92) := rfl
          simp only [this, decide_true, cond_true, show ¬ ((92 : Int) = 32) by decide, show ¬ ((92 : Int) = 10) by decide, decide_false, cond_false]
          rw [catOk_t (by simp; omega), chks_t, chks_nil, ih (k + 1) n _ hd' (by omega) (by omega) (by simp; omega)]
          simp [esc1]
        · have t3 : ¬ ((c.toNat : Int) = 92) := fun e => e3 ((byte_eq c 92 (by decide)).1 e)
          simp only [t1, t2, t3, decide_false, cond_false]
          rw [catOk_t (by simp; omega), chks_t, chks_nil, ih (k + 1) n _ hd' (by omega) (by omega) (by simp; omega)]
          simp [esc1, e1, e2, e3]
theorem esc_eq {K : Nat} (hK : 1000000 ≤ K) {s : List UInt8} (hs : s.length < 400000) : ammoniteref10_Escape.f K ((s, ()) : List UInt8 × Unit) = some (escS s) := by
  rw [ammoniteref10_Escape.eq]
  exact esc_loop s hs s 0 K [] rfl (Nat.zero_le _) (by omega) (by simp)
/-! ### Of -/
theorem ofA_len (c : Int) : ∀ (l : List DCard) (k : Int), (ofA c k l).length ≤ l.length := by
  intro l
  induction l with
  | nil => intro k; simp [ofA]
  | cons x l ih => intro k; unfold ofA; split <;> (have := ih (k + 1); simp; omega)
theorem of_eq {l : List DCard} {c : Int} (h : l.length < 1000000) : card_Of.L ((l, c, ()) : List DCard × Int × Unit) = some (ofA c 0 l) := by
  show (if l.length < 4611686018427387904 then some (ofA c 0 l) else none) = _
  rw [if_pos (by omega)]
/-! ### The reference's Print -/
theorem rprint_args {K : Nat} (ρ3 : St → Option (List UInt8)) (t8 : List DCard) (t9 t10 : Int) (args : List (List UInt8)) (hl : args.length < 1000000) : ∀ (r : List (List UInt8)) (k n : Nat) (s : List UInt8), args.drop k = r → k ≤ args.length → r.length < n → s.length + (Lib.joinTail [32] r).length < 2000000 →
    ammoniteref10_Print.l7 K ρ3 n s t8 t9 t10 args args.length k = ρ3 (ammoniteref10_Print.m3 (s ++ Lib.joinTail [32] r ++ [10]) t8 t9 (IntKind.wrap .i64 (t10 + 1))) := by
  intro r
  induction r with
  | nil =>
    intro k n s hd hk hn hs
    have := drop_nil hd hk
    subst this
    obtain ⟨n, rfl⟩ : ∃ m, n = m + 1 := ⟨n - 1, by omega⟩
    have hj : Lib.joinTail [32] [] = [] := rfl
    rw [hj] at hs ⊢
    rw [ammoniteref10_Print.l7_succ]
    simp only [Int.lt_irrefl, decide_false, cond_false, List.append_nil]
    rw [catOk_t (by simp at hs ⊢; omega)]
    rfl
  | cons a r ih =>
    intro k n s hd hk hn hs
    obtain ⟨n, rfl⟩ : ∃ m, n = m + 1 := ⟨n - 1, by omega⟩
    simp only [List.length_cons] at hn
    obtain ⟨hg, hlt, hd'⟩ := getD_drop (d := DTy.dflt .str) hd
    have h1 : (k : Int) < (args.length : Int) := by omega
    have hj : Lib.joinTail [32] (a :: r) = [32] ++ a ++ Lib.joinTail [32] r := by simp [Lib.joinTail]
    rw [hj] at hs ⊢
    simp only [List.length_append] at hs
    rw [ammoniteref10_Print.l7_succ]
    simp only [h1, Int.natCast_nonneg, decide_true, cond_true, chks_t, chks_nil, Int.toNat_natCast, hg, wS (show k < 4611686018427387904 by omega)]
    rw [catOk_t (by simp at hs ⊢; omega), catOk_t (by simp at hs ⊢; omega)]
    simp only [chks_t, chks_nil]
    rw [ih (k + 1) n _ hd' (by omega) (by omega) (by simp at hs ⊢; omega)]
    simp
theorem rprint_loop {K : Nat} (hK : 1000000 ≤ K) (l : List DCard) (hb : (bodyS l).length < 900000) : ∀ (r : List DCard) (k n : Nat) (s : List UInt8), l.drop k = r → k ≤ l.length → r.length < n → s.length + (bodyS r).length < 900000 →
    ammoniteref10_Print.l3 K n s l l.length k = some (sealS (s ++ bodyS r)) := by
  have hbl := body_len l
  intro r
  induction r with
  | nil =>
    intro k n s hd hk hn hs
    have := drop_nil hd hk
    subst this
    obtain ⟨n, rfl⟩ : ∃ m, n = m + 1 := ⟨n - 1, by omega⟩
    rw [ammoniteref10_Print.l3_succ]
    simp only [Int.lt_irrefl, decide_false, cond_false]
    have h40 := sumS_len s
    rw [rsum_eq K (by omega), catOk_t (by simp; omega), Option.bind_some, catOk_t (by simp; omega), catOk_t (by simp; omega)]
    simp [bodyS, chks, sealS]
  | cons c r ih =>
    intro k n s hd hk hn hs
    obtain ⟨n, rfl⟩ : ∃ m, n = m + 1 := ⟨n - 1, by omega⟩
    simp only [List.length_cons] at hn
    obtain ⟨hg, hlt, hd'⟩ := getD_drop (d := DTy.dflt (.prod (.int .u8) (.prod (.slice .str) .unit))) hd
    have h1 : (k : Int) < (l.length : Int) := by omega
    rw [body_cons, List.length_append] at hs
    have hal := args_num c
    have hline : (cardLine c).length = 1 + (Lib.joinTail [32] c.2.1).length + 1 := by unfold cardLine; rw [Lib.join_cons]; simp; omega
    rw [ammoniteref10_Print.l3_succ]
    simp only [h1, Int.natCast_nonneg, decide_true, cond_true, chks_t, chks_nil, Int.toNat_natCast, hg, textOf_one]
    rw [catOk_t (by simp; omega)]
    simp only [chks_t, chks_nil]
    have ha := rprint_args (K := K) (ammoniteref10_Print.r3 K n) l l.length k c.2.1 (by omega) c.2.1 0 K (s ++ [UInt8.ofNat c.1.toNat]) rfl (Nat.zero_le _) (by omega) (by simp; omega)
    have hz : ((0 : Nat) : Int) = 0 := rfl
    rw [hz] at ha
    rw [ha, wS (by omega)]
    have hi := ih (k + 1) n (s ++ [UInt8.ofNat c.1.toNat] ++ Lib.joinTail [32] c.2.1 ++ [10]) hd' (by omega) (by omega) (by simp; omega)
    have e : s ++ [UInt8.ofNat c.1.toNat] ++ Lib.joinTail [32] c.2.1 ++ [10] ++ bodyS r = s ++ bodyS (c :: r) := by rw [body_cons]; unfold cardLine; rw [Lib.join_cons]; simp
    rw [e] at hi
    exact hi
theorem rprint_eq {K : Nat} (hK : 1000000 ≤ K) {l : List DCard} (hb : (bodyS l).length < 900000) : ammoniteref10_Print.f K ((l, ()) : List DCard × Unit) = some (sealS (bodyS l)) := by
  have hbl := body_len l
  rw [ammoniteref10_Print.eq]
  exact rprint_loop hK l hb l 0 K [] rfl (Nat.zero_le _) (by omega) (by simpa using hb)
end Go.Proofs.Ytgmjbnglenmlpaa.Ab
