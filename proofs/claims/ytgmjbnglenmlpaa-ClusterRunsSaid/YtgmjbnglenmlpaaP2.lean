/- card.Right, card.Print: what they compute. -/
import Derived.Test.YtgmjbnglenmlpaaPlA
import Derived.Test.YtgmjbnglenmlpaaAbt3
set_option linter.unusedVariables false
set_option linter.unusedSimpArgs false
namespace Go.Proofs.Ytgmjbnglenmlpaa.Ab
open Go Go.RowKit Go.Proofs.Ytgmjbnglenmlpaa.Given Go.Proofs.YtgmjbnglenmlpaaW.PrintWords Go.Proofs.YtgmjbnglenmlpaaW.PrintMore
abbrev DCard : Type := Int × ((List (List UInt8)) × Unit)
def okArg (a : List UInt8) : Bool := decide (a ≠ []) && (!decide ((32 : UInt8) ∈ a) && !decide ((10 : UInt8) ∈ a))
def okPrev : Option Int → Int → Bool
  | none, _ => true
  | some p, c => decide (p ≤ c)
/-- May cards stand behind a card of the letter p? -/
def okRow : Option Int → List DCard → Bool
  | _, [] => true
  | p, c :: r => (decide (65 ≤ c.1) && decide (c.1 ≤ 89)) && (okPrev p c.1 && (c.2.1.all okArg && okRow (some c.1) r))
def rightB (l : List DCard) : Bool := okRow none l && decide (0 < l.length)
def cardLine (c : DCard) : List UInt8 := Lib.join ([UInt8.ofNat c.1.toNat] :: c.2.1) [32] ++ [10]
def bodyS (l : List DCard) : List UInt8 := (l.map cardLine).flatten
/-- A text's sum. -/
noncomputable def sumS (s : List UInt8) : List UInt8 := (sumB ⟨s.toArray⟩).data.toList
noncomputable def sealS (s : List UInt8) : List UInt8 := s ++ [90, 32] ++ sumS s ++ [10]
noncomputable def printS (l : List DCard) : List UInt8 := if rightB l then sealS (bodyS l) else []
/-- A digit of sixteen? -/
def hexB (c : UInt8) : Bool := decide (48 ≤ c.toNat ∧ c.toNat ≤ 57 ∨ 97 ≤ c.toNat ∧ c.toNat ≤ 102)
theorem hexd_hex (x : Int) (z : Nat) (h0 : 0 ≤ x) (h1 : x < 4294967296) : hexB (UInt8.ofNat (hexd x z).toNat) = true := by
  have hn := nib_range x h0 h1 z
  unfold hexd
  have all : ∀ i : Fin 16, hexB (UInt8.ofNat (bt HEX (i.val : Int)).toNat) = true := by decide +kernel
  have := all ⟨(bits .and .u32 (x / 2 ^ z) 15).toNat, by omega⟩
  simp only [Int.toNat_of_nonneg hn.1] at this
  exact this
theorem hexw_hex (x : Int) (h0 : 0 ≤ x) (h1 : x < 4294967296) (j : Nat) : ∀ c ∈ hexw x j, hexB (UInt8.ofNat c.toNat) = true := by
  induction j with
  | zero => intro c hc; simp [hexw] at hc
  | succ j ih =>
    intro c hc
    simp only [hexw, List.mem_append, List.mem_singleton] at hc
    rcases hc with hc | rfl
    · exact ih c hc
    · exact hexd_hex x _ h0 h1
theorem hexs_hex (L : List Int) (m k : Nat) : ∀ c ∈ hexs (fold L m) k, hexB (UInt8.ofNat c.toNat) = true := by
  induction k with
  | zero => intro c hc; simp [hexs] at hc
  | succ k ih =>
    intro c hc
    simp only [hexs, List.mem_append] at hc
    have := fold_range L m k
    rcases hc with hc | hc
    · exact ih c hc
    · exact hexw_hex _ this.1 this.2 8 c hc
theorem sumS_len (s : List UInt8) : (sumS s).length = 40 := by
  unfold sumS sumB strOfNums
  simp [hexs_len]
theorem sumS_hex (s : List UInt8) : ∀ c ∈ sumS s, hexB c = true := by
  intro c hc
  unfold sumS sumB strOfNums at hc
  simp only [List.mem_map] at hc
  obtain ⟨x, hx, rfl⟩ := hc
  exact hexs_hex _ _ _ x hx
theorem sum_eq (K : Nat) {s : List UInt8} (h : s.length ≤ 1000000) : hash_Sum.f K (s, ()) = some (sumS s) := by
  unfold hash_Sum.f
  rw [if_pos h]
  rfl
theorem rsum_eq (K : Nat) {s : List UInt8} (h : s.length ≤ 1000000) : ammoniteref1_Sum.f K (s, ()) = some (sumS s) := by
  unfold ammoniteref1_Sum.f
  rw [if_pos h]
  rfl
/-! ### How long a line is -/
theorem join_len (l : List (List UInt8)) (a : List UInt8) : a ∈ l → a.length ≤ (Lib.join l [32]).length := by
  induction l with
  | nil => intro h; cases h
  | cons x l ih =>
    intro h
    rw [Lib.join_cons]
    cases h with
    | head => simp
    | tail _ h =>
      have := ih h
      cases l with
      | nil => cases h
      | cons y l =>
        rw [Lib.join_cons] at this
        simp only [Lib.joinTail, List.map_cons, List.flatten_cons, List.length_append] at this ⊢
        omega
theorem join_num (l : List (List UInt8)) : l.length ≤ (Lib.join l [32]).length + 1 := by
  induction l with
  | nil => simp
  | cons x l ih =>
    rw [Lib.join_cons]
    cases l with
    | nil => simp
    | cons y l =>
      rw [Lib.join_cons] at ih
      simp only [Lib.joinTail, List.map_cons, List.flatten_cons, List.length_append, List.length_cons] at ih ⊢
      omega
theorem line_pos (c : DCard) : 2 ≤ (cardLine c).length := by
  unfold cardLine
  have := join_len ([UInt8.ofNat c.1.toNat] :: c.2.1) _ List.mem_cons_self
  simp at this ⊢
  omega
theorem body_cons (c : DCard) (r : List DCard) : bodyS (c :: r) = cardLine c ++ bodyS r := rfl
theorem body_app (l m : List DCard) : bodyS (l ++ m) = bodyS l ++ bodyS m := by simp [bodyS]
theorem body_len : ∀ (l : List DCard), 2 * l.length ≤ (bodyS l).length := by
  intro l
  induction l with
  | nil => simp
  | cons c r ih => rw [body_cons, List.length_append, List.length_cons]; have := line_pos c; omega
theorem body_mem : ∀ (l : List DCard) (c : DCard), c ∈ l → (cardLine c).length ≤ (bodyS l).length := by
  intro l
  induction l with
  | nil => intro c h; cases h
  | cons x r ih =>
    intro c h
    rw [body_cons, List.length_append]
    cases h with
    | head => omega
    | tail _ h => have := ih c h; omega
theorem args_num (c : DCard) : c.2.1.length ≤ (cardLine c).length := by
  have := join_num ([UInt8.ofNat c.1.toNat] :: c.2.1)
  unfold cardLine
  simp only [List.length_cons, List.length_append, List.length_nil] at this ⊢
  omega
theorem args_len (c : DCard) (a : List UInt8) (h : a ∈ c.2.1) : a.length ≤ (cardLine c).length := by
  have := join_len ([UInt8.ofNat c.1.toNat] :: c.2.1) a (List.mem_cons_of_mem _ h)
  unfold cardLine
  rw [List.length_append]
  omega
theorem right_args {K : Nat} (ρ : St → Option Bool) (l0 t7 : List DCard) (t8 t9 : Int) (args : List (List UInt8)) (hl : args.length < 1000000) : ∀ (r : List (List UInt8)) (k n : Nat), args.drop k = r → k ≤ args.length → r.length < n →
    card_Right.l7 K ρ n l0 t7 t8 t9 args args.length k = bif r.all okArg then ρ (card_Right.m2 l0 t7 t8 (IntKind.wrap .i64 (t9 + 1))) else some false := by
  intro r
  induction r with
  | nil =>
    intro k n hd hk hn
    have := drop_nil hd hk
    subst this
    obtain ⟨n, rfl⟩ : ∃ m, n = m + 1 := ⟨n - 1, by omega⟩
    rw [card_Right.l7_succ]
    simp
  | cons a r ih =>
    intro k n hd hk hn
    obtain ⟨n, rfl⟩ : ∃ m, n = m + 1 := ⟨n - 1, by omega⟩
    simp only [List.length_cons] at hn
    obtain ⟨hg, hlt, hd'⟩ := getD_drop (d := DTy.dflt .str) hd
    have h1 : (k : Int) < (args.length : Int) := by omega
    rw [card_Right.l7_succ]
    simp only [h1, Int.natCast_nonneg, decide_true, cond_true, chks_t, chks_nil, Int.toNat_natCast, hg, contains_eq, Option.bind_some, wS (show k < 4611686018427387904 by omega)]
    rw [ih (k + 1) n hd' (by omega) (by omega), List.all_cons]
    unfold okArg
    by_cases e1 : a = []
    · subst e1; simp
    · by_cases e2 : (32 : UInt8) ∈ a
      · simp [e1, e2]
      · by_cases e3 : (10 : UInt8) ∈ a
        · simp [e1, e2, e3]
        · simp [e1, e2, e3]
section
variable {K : Nat} (hK : 1000000 ≤ K)
include hK
theorem right_loop (l : List DCard) (hb : (bodyS l).length < 1000000) : ∀ (r : List DCard) (k n : Nat), l.drop k = r → k ≤ l.length → r.length < n →
    card_Right.l2 K n l l l.length k = some (okRow (if k = 0 then none else some (l.getD (k - 1) (0, [], ())).1) r && decide (0 < l.length)) := by
  have hbl := body_len l
  intro r
  induction r with
  | nil =>
    intro k n hd hk hn
    have := drop_nil hd hk
    subst this
    obtain ⟨n, rfl⟩ : ∃ m, n = m + 1 := ⟨n - 1, by omega⟩
    rw [card_Right.l2_succ]
    simp [okRow]
  | cons c r ih =>
    intro k n hd hk hn
    obtain ⟨n, rfl⟩ : ∃ m, n = m + 1 := ⟨n - 1, by omega⟩
    simp only [List.length_cons] at hn
    obtain ⟨hg, hlt, hd'⟩ := getD_drop (d := DTy.dflt (.prod (.int .u8) (.prod (.slice .str) .unit))) hd
    have hg0 : l.getD k (0, [], ()) = c := hg
    have hmem : c ∈ l := List.mem_of_mem_drop (i := k) (by rw [hd]; exact List.mem_cons_self)
    have hargs : c.2.1.length < 1000000 := by have := args_num c; have := body_mem l c hmem; omega
    have h1 : (k : Int) < (l.length : Int) := by omega
    have hin := right_args (K := K) (card_Right.r2 K n) l l l.length k c.2.1 hargs c.2.1 0 K rfl (Nat.zero_le _) (by omega)
    have hpos : decide (0 < l.length) = true := decide_eq_true (by omega)
    have hnext := ih (k + 1) n hd' (by omega) (by omega)
    rw [if_neg (by omega), Nat.add_sub_cancel, hg0] at hnext
    have hz : ((0 : Nat) : Int) = 0 := rfl
    rw [hz, wS (show k < 4611686018427387904 by omega)] at hin
    have hnext' : card_Right.r2 K n (card_Right.m2 l l l.length ((k + 1 : Nat) : Int)) = some (okRow (some c.1) r && decide (0 < l.length)) := hnext
    rw [hnext'] at hin
    rw [card_Right.l2_succ]
    simp only [h1, Int.natCast_nonneg, decide_true, cond_true, chks_t, chks_nil, Int.toNat_natCast, hg, hin]
    rw [okRow]
    by_cases e1 : c.1 < 65
    · have : ¬ (65 ≤ c.1) := by omega
      simp [e1, this]
    · by_cases e2 : 89 < c.1
      · have : ¬ (c.1 ≤ 89) := by omega
        simp [e1, e2, this]
      · have a1 : 65 ≤ c.1 := by omega
        have a2 : c.1 ≤ 89 := by omega
        cases k with
        | zero =>
          simp [e1, e2, a1, a2, okPrev, hpos]
          cases c.2.1.all okArg <;> simp
        | succ j =>
          have b1 : (0 : Int) < ((j + 1 : Nat) : Int) := by omega
          have b2 : (j : Int) < (l.length : Int) := by omega
          have hgj : l.getD j (DTy.dflt (.prod (.int .u8) (.prod (.slice .str) .unit))) = l.getD j (0, [], ()) := rfl
          simp only [e1, e2, a1, a2, b1, b2, decide_true, decide_false, cond_true, cond_false, wP (show j < 4611686018427387904 by omega), Int.natCast_nonneg, chks_t, chks_nil, Int.toNat_natCast, hgj, Nat.add_sub_cancel, Nat.add_eq_zero_iff, Nat.one_ne_zero, and_false, if_false, okPrev, Bool.true_and]
          by_cases e3 : c.1 < (l.getD j (0, [], ())).1
          · have : ¬ ((l.getD j (0, [], ())).1 ≤ c.1) := by omega
            simp only [e3, this, decide_true, decide_false, cond_true, Bool.false_and]
          · have : (l.getD j (0, [], ())).1 ≤ c.1 := by omega
            simp only [e3, this, decide_true, decide_false, cond_false, Bool.true_and]
            cases c.2.1.all okArg <;> simp
theorem right_eq {l : List DCard} (hb : (bodyS l).length < 1000000) : card_Right.f K (l, ()) = some (rightB l) := by
  have hbl := body_len l
  rw [card_Right.eq]
  have := right_loop hK l hb l 0 K rfl (Nat.zero_le _) (by omega)
  exact this
theorem seal_eq {s : List UInt8} (hs : s.length < 1000000) : card_sealed.f K (s, ()) = some (sealS s) := by
  have _hK := hK
  rw [card_sealed.eq, sum_eq K (by omega)]
  have h40 : (sumS s).length = 40 := sumS_len s
  simp only [Option.bind_some]
  rw [catOk_t (by simp; omega), catOk_t (by simp [h40]; omega), catOk_t (by simp [h40]; omega)]
  rfl
theorem print_loop (l : List DCard) (hb : (bodyS l).length < 1000000) : ∀ (r : List DCard) (k n : Nat) (out : List UInt8), l.drop k = r → k ≤ l.length → r.length < n → out.length + (bodyS r).length < 1000000 →
    card_Print.l5 K n l l.length k out = some (sealS (out ++ bodyS r)) := by
  have hbl := body_len l
  intro r
  induction r with
  | nil =>
    intro k n out hd hk hn ho
    have := drop_nil hd hk
    subst this
    obtain ⟨n, rfl⟩ : ∃ m, n = m + 1 := ⟨n - 1, by omega⟩
    rw [card_Print.l5_succ, seal_eq hK (by omega)]
    simp [bodyS]
  | cons c r ih =>
    intro k n out hd hk hn ho
    obtain ⟨n, rfl⟩ : ∃ m, n = m + 1 := ⟨n - 1, by omega⟩
    simp only [List.length_cons] at hn
    obtain ⟨hg, hlt, hd'⟩ := getD_drop (d := DTy.dflt (.prod (.int .u8) (.prod (.slice .str) .unit))) hd
    have h1 : (k : Int) < (l.length : Int) := by omega
    rw [body_cons, List.length_append] at ho
    have hal := args_num c
    have hline : (Lib.join ([UInt8.ofNat c.1.toNat] :: c.2.1) [32]).length + 1 = (cardLine c).length := by unfold cardLine; simp
    have hnum : c.2.1.length + 1 ≤ (cardLine c).length + 1 := by omega
    have hj : strings_Join.f K ([textOf [c.1]] ++ c.2.1, [32], ()) = some (Lib.join ([UInt8.ofNat c.1.toNat] :: c.2.1) [32]) := by
      show (if ([textOf [c.1]] ++ c.2.1).length ≤ 140737488355328 ∧ (Lib.join ([textOf [c.1]] ++ c.2.1) [32]).length ≤ 140737488355328 then some (Lib.join ([textOf [c.1]] ++ c.2.1) [32]) else none) = _
      rw [textOf_one, List.singleton_append, if_pos ⟨by simp; omega, by omega⟩]
    have := ih (k + 1) n (out ++ (Lib.join ([UInt8.ofNat c.1.toNat] :: c.2.1) [32] ++ [10])) hd' (by omega) (by omega) (by simp only [List.length_append, List.length_cons, List.length_nil]; omega)
    rw [card_Print.l5_succ]
    simp only [h1, Int.natCast_nonneg, decide_true, cond_true, chks_t, chks_nil, Int.toNat_natCast, hg, hj, Option.bind_some, wS (show k < 4611686018427387904 by omega)]
    rw [growOk_t (by omega) (by simp; omega), catOk_t (by simp; omega), bldOk_t (by simp only [List.length_append, List.length_cons, List.length_nil]; omega)]
    simp only [chks_t, chks_nil]
    rw [this, body_cons]
    congr 2
    unfold cardLine
    simp
theorem print_eq {l : List DCard} (hb : (bodyS l).length < 1000000) : card_Print.f K (l, ()) = some (printS l) := by
  have hbl := body_len l
  rw [card_Print.eq, right_eq hK hb, Option.bind_some]
  unfold printS
  cases hr : rightB l with
  | false => rfl
  | true =>
    have := print_loop hK l hb l 0 K [] rfl (Nat.zero_le _) (by omega) (by simpa using hb)
    exact this
end
end Go.Proofs.Ytgmjbnglenmlpaa.Ab
