/- The journal, plainly: a commit, with tears. No program in sight. -/
import Derived.Test.YtpnnnhdhmdildaaPJour
import Derived.Test.YtpnnnhdhmdildaaDk2
set_option linter.unusedVariables false
set_option linter.unusedSimpArgs false
namespace Go.Proofs.Ytpnnnhdhmdildaa.J
open Go.Proofs.Ytpnnnhdhmdildaa.Given
/-- Pieces are written, one behind the other, until one is not. -/
def commitW : DS → Nat → List ByteArray → Bool × DS
  | D, at_, [] => (true, D)
  | D, at_, p :: r => if (D.write (at_ : Int) p).1 = true then commitW (D.write (at_ : Int) p).2 (at_ + 1) r else (false, (D.write (at_ : Int) p).2)
/-- A journal. -/
structure JS where
  l : List ByteArray
  e : Nat
  down : Bool
def JS.open (D : DS) : JS := ⟨(scan D.secs).1, (scan D.secs).2, false⟩
/-- A commit: the answer, the journal, its disk. -/
def JS.commit (J : JS) (D : DS) (s : ByteArray) : Int × JS × DS :=
  if J.down = true then (9, J, D)
  else if (D.secs.length : Int) - J.e < ((piecesL s).length : Int) then (6, J, D)
  else if (commitW D J.e (piecesL s)).1 = true then (0, ⟨J.l ++ [s], J.e + (piecesL s).length, false⟩, (commitW D J.e (piecesL s)).2)
  else (9, ⟨J.l, J.e, true⟩, (commitW D J.e (piecesL s)).2)
theorem wlenJ (D : DS) (i : Int) (data : ByteArray) : (D.write i data).2.secs.length = D.secs.length := by
  unfold DS.write
  split
  · split <;> simp
  · rfl
theorem wholeS_full {p : ByteArray} (h : p.size = 32) : wholeS p = p := by
  unfold wholeS
  rw [h]
  apply bext
  simp [ByteArray.data_append]
/-- A write that goes well. -/
theorem write_good {D : DS} {i : Nat} {p : ByteArray} (hp : p.size = 32) (hd : D.down = false) (hi : i < D.secs.length) (ht : D.armed = false ∨ D.left ≠ 0) : D.write (i : Int) p = (true, { D with secs := D.secs.set i p, left := D.left - 1 }) := by
  unfold DS.write
  rw [if_pos (show D.fits (i : Int) p from ⟨hd, by omega, by omega, by omega⟩), if_neg (by rintro ⟨h1, h2⟩; rcases ht with h | h; rw [h] at h1; cases h1; exact h h2), Int.toNat_natCast, wholeS_full hp]
theorem take_set' {α : Type} (l : List α) (i : Nat) (p : α) (h : i < l.length) : (l.set i p).take (i + 1) = l.take i ++ [p] := by
  rw [List.take_add_one, List.getElem?_set_self h, List.take_set_of_le (Nat.le_refl _)]
  rfl
/-- All pieces go well where no tear comes. -/
theorem commitW_good : ∀ (ps : List ByteArray) (D : DS) (at_ : Nat), (∀ p ∈ ps, p.size = 32) → D.down = false → at_ + ps.length ≤ D.secs.length → (D.armed = false ∨ (ps.length : Int) ≤ D.left) →
    commitW D at_ ps = (true, { D with secs := D.secs.take at_ ++ ps ++ D.secs.drop (at_ + ps.length), left := D.left - ps.length }) := by
  intro ps
  induction ps with
  | nil =>
    intro D at_ _ _ _ _
    unfold commitW
    congr 1
    cases D
    simp
  | cons p r ih =>
    intro D at_ hp hd hl ht
    rw [List.length_cons] at hl ht
    have hw := write_good (D := D) (i := at_) (hp p (List.mem_cons_self ..)) hd (by omega) (by rcases ht with h | h; exact .inl h; exact .inr (by omega))
    rw [commitW, hw, if_pos rfl]
    have h2 := ih { D with secs := D.secs.set at_ p, left := D.left - 1 } (at_ + 1) (fun x hx => hp x (List.mem_cons_of_mem _ hx)) hd (by simp; omega) (by rcases ht with h | h; exact .inl h; exact .inr (by show (r.length : Int) ≤ D.left - 1; omega))
    rw [h2]
    congr 1
    cases D with
    | mk secs armed left keep down =>
      have hl' : at_ < secs.length := by have : at_ + (r.length + 1) ≤ secs.length := hl; omega
      simp only [DS.mk.injEq, true_and, and_true]
      refine ⟨?_, by rw [List.length_cons]; omega⟩
      rw [List.length_cons, take_set' _ _ _ hl', show at_ + 1 + r.length = at_ + (r.length + 1) by omega, List.drop_set_of_lt (by omega)]
      simp
end Go.Proofs.Ytpnnnhdhmdildaa.J
