/- Plain laws of the printed references of package digit: they answer as the package does. -/
import Derived.Test.YtcjkichimndioabPDigit
namespace Go.Proofs.Ytcjkichimndioab.B
open Go.RowKit Go.Proofs.Ytcjkichimndioab.PW Go.Proofs.Ytcjkichimndioab.Given Go.Proofs.Ytcjkichimndioab.Q Go.Proofs.YtcjkichimndioabW.PrintWords Go.Proofs.YtcjkichimndioabW.PrintMore
/-- The reference's Read's end. -/
def rfin (z : Prop) [Decidable z] (a : Nat) (n : Int) (i : Nat) : Int × Int := if i = a then (0, -1) else if i > a + 1 ∧ z then (0, -1) else (n, i)
/-- The reference's Read's loop. -/
def rrGo (z : Prop) [Decidable z] (a : Nat) : List Int → Int → Nat → Int × Int
  | [], n, i => rfin z a n i
  | c :: l, n, i => if 0 ≤ val c then (if n * 64 + val c > 1073741824 then (0, -1) else rrGo z a l (n * 64 + val c) (i + 1)) else rfin z a n i
theorem rrGo_closed (z : Prop) [Decidable z] (a : Nat) (l : List Int) : ∀ (n : Int) (i : Nat), a ≤ i → 0 ≤ n → n ≤ 1073741824 →
    rrGo z a l n i = if (i = a ∧ digs l = []) ∨ vals (digs l) n > 1073741824 ∨ (i + (digs l).length > a + 1 ∧ z) then (0, -1) else (vals (digs l) n, ((i + (digs l).length : Nat) : Int)) := by
  induction l with
  | nil =>
    intro n i h1 h2 h3
    have hd : digs [] = [] := rfl
    rw [hd]
    unfold rrGo rfin
    by_cases e : i = a
    · rw [if_pos e, if_pos (Or.inl ⟨e, rfl⟩)]
    · rw [if_neg e]
      by_cases g : i > a + 1 ∧ z
      · rw [if_pos g, if_pos (Or.inr (Or.inr (by simpa using g)))]
      · rw [if_neg g, if_neg]
        · rfl
        · rintro (h | h | h)
          · exact e h.1
          · unfold vals at h; omega
          · exact g (by simpa using h)
  | cons c l ih =>
    intro n i h1 h2 h3
    unfold rrGo
    by_cases h : 0 ≤ val c
    · rw [if_pos h, digs_yes l h]
      have hv : vals (c :: digs l) n = vals (digs l) (n * 64 + val c) := rfl
      rw [hv]
      by_cases g : n * 64 + val c > 1073741824
      · rw [if_pos g, if_pos]
        have := vals_le (digs l) (n * 64 + val c) (by omega) (digs_all l)
        exact Or.inr (Or.inl (by omega))
      · rw [if_neg g, ih (n * 64 + val c) (i + 1) (by omega) (by omega) (by omega)]
        have e : ((i + 1 = a ∧ digs l = []) ∨ vals (digs l) (n * 64 + val c) > 1073741824 ∨ (i + 1 + (digs l).length > a + 1 ∧ z)) ↔ ((i = a ∧ c :: digs l = []) ∨ vals (digs l) (n * 64 + val c) > 1073741824 ∨ (i + (c :: digs l).length > a + 1 ∧ z)) := by
          simp only [List.length_cons, reduceCtorEq, and_false, false_or]
          constructor
          · rintro (h | h | h)
            · omega
            · exact Or.inl h
            · exact Or.inr ⟨by omega, h.2⟩
          · rintro (h | h)
            · exact Or.inr (Or.inl h)
            · exact Or.inr (Or.inr ⟨by omega, h.2⟩)
        by_cases d : ((i = a ∧ c :: digs l = []) ∨ vals (digs l) (n * 64 + val c) > 1073741824 ∨ (i + (c :: digs l).length > a + 1 ∧ z))
        · rw [if_pos d, if_pos (e.2 d)]
        · rw [if_neg d, if_neg (fun x => d (e.1 x))]
          simp only [List.length_cons, Prod.mk.injEq, true_and]
          omega
    · rw [if_neg h, digs_no l h]
      unfold rfin
      by_cases e : i = a
      · rw [if_pos e, if_pos (Or.inl ⟨e, rfl⟩)]
      · rw [if_neg e]
        by_cases g : i > a + 1 ∧ z
        · rw [if_pos g, if_pos (Or.inr (Or.inr (by simpa using g)))]
        · rw [if_neg g, if_neg]
          · rfl
          · rintro (h | h | h)
            · exact e h.1
            · unfold vals at h; omega
            · exact g (by simpa using h)
/-- The reference's Read's answer. -/
def rrdR (s : ByteArray) (a : Nat) : Int × Int := match rdS ((bytesOf s).drop a) with
  | none => (0, -1)
  | some (v, n) => (v, ((a + n : Nat) : Int))
/-! ### Put, Dec -/
theorem one_dig (m : Nat) : bytesOf (strOfNums [dig (m % 64)]) = [dig (m % 64)] := bytesOf_nums fun x hx => by
  have d := dig_range (d := m % 64) (by omega)
  rw [List.mem_singleton.1 hx]
  exact ⟨d.2.1, d.2.2.1⟩
/-! ### ReadDec -/
def rrdDec (l : List Int) : Int := match rdDec l with
  | none => -1
  | some n => n
end Go.Proofs.Ytcjkichimndioab.B
