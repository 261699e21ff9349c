import Derived.Test.YtgmjbnglenmlpaaAbE
section
/- Plain facts: texts, cut at a byte, joined. No program in sight. -/
set_option linter.unusedVariables false
set_option linter.unusedSimpArgs false
namespace Go.Proofs.Ytgmjbnglenmlpaa.Ab
open Go Go.RowKit Go.Proofs.Ytgmjbnglenmlpaa.Given
theorem idx_no {c : UInt8} : ∀ {s : List UInt8}, ¬ c ∈ s → Lib.indexByte s c = -1 := by
  intro s
  induction s with
  | nil => intro _; rfl
  | cons x s ih =>
    intro h
    simp only [List.mem_cons, not_or] at h
    unfold Lib.indexByte
    have : (x == c) = false := by simp; exact fun e => h.1 e.symm
    rw [this, ih h.2]
    rfl
theorem idx_yes {c : UInt8} {b : List UInt8} : ∀ {a : List UInt8}, ¬ c ∈ a → Lib.indexByte (a ++ c :: b) c = (a.length : Int) := by
  intro a
  induction a with
  | nil => intro _; simp [Lib.indexByte]
  | cons x a ih =>
    intro h
    simp only [List.mem_cons, not_or] at h
    rw [List.cons_append]
    unfold Lib.indexByte
    have : (x == c) = false := by simp; exact fun e => h.1 e.symm
    rw [this, ih h.2]
    have : ((a.length : Int) == -1) = false := by simp
    rw [this]
    simp
/-- A text that holds c, parted at the first one. -/
theorem mem_part {c : UInt8} : ∀ {s : List UInt8}, c ∈ s → ∃ a b, s = a ++ c :: b ∧ ¬ c ∈ a := by
  intro s
  induction s with
  | nil => intro h; cases h
  | cons x s ih =>
    intro h
    by_cases hx : x = c
    · subst hx; exact ⟨[], s, rfl, by simp⟩
    · have h' : c ∈ s := by
        cases h with
        | head => exact absurd rfl hx
        | tail _ h => exact h
      obtain ⟨a, b, rfl, hn⟩ := ih h'
      exact ⟨x :: a, b, rfl, by simp only [List.mem_cons, not_or]; exact ⟨fun e => hx e.symm, hn⟩⟩
theorem idx_ge {c : UInt8} {s : List UInt8} : (0 ≤ Lib.indexByte s c) ↔ c ∈ s := by
  constructor
  · intro h
    by_cases hc : c ∈ s
    · exact hc
    · rw [idx_no hc] at h; omega
  · intro h
    obtain ⟨a, b, rfl, hn⟩ := mem_part h
    rw [idx_yes hn]
    exact Int.natCast_nonneg _
theorem contains_eq (K : Nat) (s : List UInt8) (c : UInt8) : strings_Contains.f K ((s, [c], ()) : List UInt8 × List UInt8 × Unit) = some (decide (c ∈ s)) := by
  show some (decide (0 ≤ Lib.indexByte s c)) = _
  simp only [idx_ge]
theorem cutB_no {c : UInt8} {s : List UInt8} (h : ¬ c ∈ s) : cutB s c = (s, [], false, ()) := by
  unfold cutB
  rw [idx_no h]
  rfl
theorem cutB_yes {c : UInt8} {a b : List UInt8} (h : ¬ c ∈ a) : cutB (a ++ c :: b) c = (a, b, true, ()) := by
  unfold cutB
  rw [idx_yes h, if_neg (by omega), Int.toNat_natCast]
  have e1 : (a ++ c :: b).take a.length = a := by simp
  have e2 : (a ++ c :: b).drop (a.length + 1) = b := by rw [← List.drop_drop]; simp
  rw [e1, e2]
/-- A text, parted at each c. -/
def splitL (c : UInt8) : List UInt8 → List (List UInt8)
  | [] => [[]]
  | x :: l => if x = c then [] :: splitL c l else match splitL c l with
    | [] => [[x]]
    | w :: r => (x :: w) :: r
theorem splitL_ne (c : UInt8) (s : List UInt8) : splitL c s ≠ [] := by
  cases s with
  | nil => simp [splitL]
  | cons x s =>
    unfold splitL
    split
    · simp
    · split <;> simp
theorem splitL_no {c : UInt8} : ∀ {s : List UInt8}, ¬ c ∈ s → splitL c s = [s] := by
  intro s
  induction s with
  | nil => intro _; rfl
  | cons x s ih =>
    intro h
    simp only [List.mem_cons, not_or] at h
    unfold splitL
    rw [if_neg (fun e => h.1 e.symm), ih h.2]
theorem splitL_yes {c : UInt8} {b : List UInt8} : ∀ {a : List UInt8}, ¬ c ∈ a → splitL c (a ++ c :: b) = a :: splitL c b := by
  intro a
  induction a with
  | nil => intro _; simp [splitL]
  | cons x a ih =>
    intro h
    simp only [List.mem_cons, not_or] at h
    rw [List.cons_append]
    rw [splitL, if_neg (fun e => h.1 e.symm), ih h.2]
theorem splitL_join {c : UInt8} : ∀ {ws : List (List UInt8)}, ws ≠ [] → (∀ w ∈ ws, ¬ c ∈ w) → splitL c (Lib.join ws [c]) = ws := by
  intro ws
  induction ws with
  | nil => intro h; exact absurd rfl h
  | cons w ws ih =>
    intro _ h
    have hw := h w List.mem_cons_self
    cases ws with
    | nil => rw [Lib.join_one]; exact splitL_no hw
    | cons v vs =>
      have : Lib.join (w :: v :: vs) [c] = w ++ c :: Lib.join (v :: vs) [c] := by
        rw [Lib.join_cons, Lib.join_cons]; simp [Lib.joinTail]
      rw [this, splitL_yes hw, ih (by simp) (fun u hu => h u (List.mem_cons_of_mem _ hu))]
theorem join_splitL (c : UInt8) : ∀ (s : List UInt8), Lib.join (splitL c s) [c] = s := by
  intro s
  induction s with
  | nil => rfl
  | cons x s ih =>
    unfold splitL
    split
    · rename_i hx
      subst hx
      have := splitL_ne x s
      cases hs : splitL x s with
      | nil => exact absurd hs this
      | cons w r =>
        rw [hs] at ih
        rw [Lib.join_cons]
        rw [Lib.join_cons] at ih
        simp only [Lib.joinTail, List.map_cons, List.flatten_cons, List.nil_append]
        simp only [Lib.joinTail] at ih
        rw [← ih]
        simp
    · have := splitL_ne c s
      cases hs : splitL c s with
      | nil => exact absurd hs this
      | cons w r =>
        rw [hs] at ih
        dsimp only
        rw [Lib.join_cons]
        rw [Lib.join_cons] at ih
        rw [← ih]
        simp
theorem splitL_free (c : UInt8) : ∀ (s : List UInt8), ∀ w ∈ splitL c s, ¬ c ∈ w := by
  intro s
  induction s with
  | nil => intro w hw; simp [splitL] at hw; subst hw; simp
  | cons x s ih =>
    intro w hw
    unfold splitL at hw
    split at hw
    · cases hw with
      | head => simp
      | tail _ hw => exact ih w hw
    · rename_i hx
      cases hs : splitL c s with
      | nil => exact absurd hs (splitL_ne c s)
      | cons u r =>
        rw [hs] at hw
        dsimp only at hw
        cases hw with
        | head =>
          simp only [List.mem_cons, not_or]
          exact ⟨fun e => hx e.symm, ih u (by rw [hs]; exact List.mem_cons_self)⟩
        | tail _ hw => exact ih w (by rw [hs]; exact List.mem_cons_of_mem _ hw)
theorem splitL_sub (c : UInt8) : ∀ (s : List UInt8), ∀ w ∈ splitL c s, ∀ x ∈ w, x ∈ s := by
  intro s
  induction s with
  | nil => intro w hw x hx; simp [splitL] at hw; subst hw; cases hx
  | cons y s ih =>
    intro w hw x hx
    unfold splitL at hw
    split at hw
    · cases hw with
      | head => cases hx
      | tail _ hw => exact List.mem_cons_of_mem _ (ih w hw x hx)
    · cases hs : splitL c s with
      | nil => exact absurd hs (splitL_ne c s)
      | cons u r =>
        rw [hs] at hw
        dsimp only at hw
        cases hw with
        | head =>
          cases hx with
          | head => exact List.mem_cons_self
          | tail _ hx => exact List.mem_cons_of_mem _ (ih u (by rw [hs]; exact List.mem_cons_self) x hx)
        | tail _ hw => exact List.mem_cons_of_mem _ (ih w (by rw [hs]; exact List.mem_cons_of_mem _ hw) x hx)
/-- The words that escape.Words hands out. -/
theorem words_split : ∀ (n : Nat) (s : List UInt8), s.length ≤ n → (wordsL ⟨s.toArray⟩).map (fun b => b.data.toList) = splitL 32 s := by
  intro n
  induction n with
  | zero =>
    intro s hs
    have : s = [] := List.eq_nil_of_length_eq_zero (by omega)
    subst this
    rw [wordsL_no (by rfl)]
    rfl
  | succ n ih =>
    intro s hs
    have hci : ∀ s : List UInt8, cutI ⟨s.toArray⟩ 32 = (⟨(cutB s 32).1.toArray⟩, ⟨(cutB s 32).2.1.toArray⟩, (cutB s 32).2.2.1) := by
      intro s
      unfold cutI cutB
      dsimp only
      split
      · rfl
      · rw [extract_list, extract_list]
        have e : (⟨s.toArray⟩ : ByteArray).size = s.length := by simp [ByteArray.size]
        rw [e, List.take_length]
        rfl
    by_cases hc : (32 : UInt8) ∈ s
    · obtain ⟨a, b, rfl, hn⟩ := mem_part hc
      have hcc := hci (a ++ 32 :: b)
      rw [cutB_yes hn] at hcc
      rw [wordsL_yes (by rw [hcc]), hcc, splitL_yes hn, List.map_cons, ih b (by simp at hs; omega)]
    · have hcc := hci s
      rw [cutB_no hc] at hcc
      rw [wordsL_no (by rw [hcc]), splitL_no hc]
      rfl
theorem words_eq {s : List UInt8} (h : s.length ≤ 140737488351232) : escape_Words.L ((s, ()) : List UInt8 × Unit) = some ((splitL 32 s).map fun w => (w, ())) := by
  unfold escape_Words.L
  rw [if_pos h, ← words_split s.length s (Nat.le_refl _), List.map_map]
  rfl
theorem cutc_eq (K : Nat) {s : List UInt8} {c : UInt8} (h : s.length ≤ 140737488351232) : strings_Cut.f K ((s, [c], ()) : List UInt8 × List UInt8 × Unit) = some (cutB s c) := by
  show (if s.length ≤ 140737488351232 then some (cutB s c) else none) = _
  rw [if_pos h]
end Go.Proofs.Ytgmjbnglenmlpaa.Ab
end
section
/- Plain facts: what the equations' words come to. No program in sight. -/
set_option linter.unusedVariables false
set_option linter.unusedSimpArgs false
namespace Go.Proofs.Ytgmjbnglenmlpaa.Ab
open Go Go.RowKit Go.Proofs.Ytgmjbnglenmlpaa.Given
theorem chks_nil {α : Type} (x : Option α) : chks [] x = x := rfl
theorem chks_t {α : Type} (l : List Bool) (x : Option α) : chks (true :: l) x = chks l x := rfl
theorem w64 {n : Int} (h1 : -9223372036854775808 ≤ n) (h2 : n < 9223372036854775808) : IntKind.wrap .i64 n = n := IntWalk.i64_in n ⟨h1, by omega⟩
theorem wS {k : Nat} (h : k < 4611686018427387904) : IntKind.wrap .i64 ((k : Int) + 1) = ((k + 1 : Nat) : Int) := by rw [w64 (by omega) (by omega)]; omega
theorem wP {k : Nat} (h : k < 4611686018427387904) : IntKind.wrap .i64 (((k + 1 : Nat) : Int) - 1) = (k : Int) := by rw [w64 (by omega) (by omega)]; omega
theorem catOk_t {s t : List UInt8} (h : s.length + t.length < 1152921504606846976) : catOk s t = true := decide_eq_true h
theorem bldOk_t {s t : List UInt8} (h : s.length + t.length ≤ 140737488355328) : bldOk s t = true := decide_eq_true h
theorem growOk_t {n m b : Nat} (hb : b ≤ 1000) (h : n + m ≤ 100000000000) : growOk n m b = true := by
  unfold growOk
  have : (n + m) * b ≤ 100000000000 * 1000 := Nat.mul_le_mul h hb
  rw [Bool.and_eq_true]
  exact ⟨decide_eq_true (by omega), decide_eq_true (by omega)⟩
theorem getD_drop {α : Type} {l : List α} {k : Nat} {x d : α} {r : List α} (h : l.drop k = x :: r) : l.getD k d = x ∧ k < l.length ∧ l.drop (k + 1) = r := by
  have hlt : k < l.length := by
    rcases Nat.lt_or_ge k l.length with h1 | h1
    · exact h1
    · rw [List.drop_eq_nil_of_le h1] at h; cases h
  rw [List.drop_eq_getElem_cons hlt] at h
  injection h with h1 h2
  refine ⟨?_, hlt, h2⟩
  rw [List.getD_eq_getElem?_getD, List.getElem?_eq_getElem hlt]
  exact h1
theorem drop_nil {α : Type} {l : List α} {k : Nat} (h : l.drop k = []) (hk : k ≤ l.length) : k = l.length := by
  have := congrArg List.length h
  rw [List.length_drop] at this
  simp at this
  omega
theorem cutL_to {α : Type} (s : List α) (k : Nat) : cutL s none (some (k : Int)) = s.take k := by simp [cutL]
theorem cutL_from {α : Type} (s : List α) (k : Nat) : cutL s (some (k : Int)) none = s.drop k := by simp [cutL]
theorem cutL_mid {α : Type} (s : List α) (i j : Nat) : cutL s (some (i : Int)) (some (j : Int)) = (s.take j).drop i := by simp [cutL]
theorem byte_eq (c : UInt8) (n : Nat) (h : n < 256) : ((c.toNat : Int) = (n : Int)) ↔ c = UInt8.ofNat n := by
  constructor
  · intro e
    apply UInt8.toNat_inj.1
    rw [UInt8.toNat_ofNat', Nat.mod_eq_of_lt (by omega)]
    omega
  · rintro rfl
    rw [UInt8.toNat_ofNat', Nat.mod_eq_of_lt (by omega)]
theorem textOf_one (n : Int) : textOf [n] = [UInt8.ofNat n.toNat] := rfl
end Go.Proofs.Ytgmjbnglenmlpaa.Ab
end
