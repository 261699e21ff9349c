/- The journal, plainly: what pieces say. No program in sight. -/
import Derived.Test.YtpnnnhdhmdildaaPJour4
set_option linter.unusedVariables false
set_option linter.unusedSimpArgs false
namespace Go.Proofs.Ytpnnnhdhmdildaa.J
open Go.Proofs.Ytpnnnhdhmdildaa.Given
theorem pieces_hd : ∀ (n : Nat) (s : ByteArray), s.size ≤ n → ∀ j, j < (piecesL s).length → hd ((piecesL s).getD j ⟨#[]⟩) ≤ 30 ∧ (j + 1 < (piecesL s).length → hd ((piecesL s).getD j ⟨#[]⟩) = 30) := by
  intro n
  induction n with
  | zero =>
    intro s h j hj
    rw [pieces_short (by omega)] at hj ⊢
    simp only [List.length_cons, List.length_nil] at hj ⊢
    obtain rfl : j = 0 := by omega
    rw [List.getD_cons_zero, piece_hd 2 (by omega)]
    exact ⟨by omega, fun h => by omega⟩
  | succ n ih =>
    intro s h j hj
    by_cases hs : 30 < s.size
    · rw [pieces_long hs] at hj ⊢
      cases j with
      | zero =>
        rw [List.getD_cons_zero, piece_hd 1 (by rw [ByteArray.size_extract]; omega), ByteArray.size_extract]
        exact ⟨by omega, fun _ => by omega⟩
      | succ j =>
        rw [List.length_cons] at hj
        rw [List.getD_cons_succ, List.length_cons]
        have := ih (s.extract 30 s.size) (by rw [ByteArray.size_extract]; omega) j (by omega)
        exact ⟨this.1, fun h => this.2 (by omega)⟩
    · rw [pieces_short (by omega)] at hj ⊢
      simp only [List.length_cons, List.length_nil] at hj ⊢
      obtain rfl : j = 0 := by omega
      rw [List.getD_cons_zero, piece_hd 2 (by omega)]
      exact ⟨by omega, fun h => by omega⟩
/-- What pieces say together. -/
def joinT (l : List ByteArray) : ByteArray := l.foldl (fun t p => t ++ p.extract 1 (1 + hd p)) ⟨#[]⟩
theorem join_from : ∀ (n : Nat) (s : ByteArray), s.size ≤ n → ∀ t : ByteArray, (piecesL s).foldl (fun t p => t ++ p.extract 1 (1 + hd p)) t = t ++ s := by
  intro n
  induction n with
  | zero =>
    intro s h t
    rw [pieces_short (by omega), List.foldl_cons, List.foldl_nil, piece_hd 2 (by omega), piece_text 2 (by omega)]
  | succ n ih =>
    intro s h t
    by_cases hs : 30 < s.size
    · have h30 : (s.extract 0 30).size = 30 := by rw [ByteArray.size_extract]; omega
      rw [pieces_long hs, List.foldl_cons, piece_hd 1 (by omega), piece_text 1 (by omega), ih _ (by rw [ByteArray.size_extract]; omega), ByteArray.append_assoc, cut_join]
    · rw [pieces_short (by omega), List.foldl_cons, List.foldl_nil, piece_hd 2 (by omega), piece_text 2 (by omega)]
theorem join_pieces (s : ByteArray) : joinT (piecesL s) = s := by
  unfold joinT
  rw [join_from s.size s (Nat.le_refl _)]
  exact ByteArray.empty_append
theorem join_next (l : List ByteArray) (i : Nat) (h : i < l.length) : joinT (l.take (i + 1)) = joinT (l.take i) ++ (l.getD i ⟨#[]⟩).extract 1 (1 + hd (l.getD i ⟨#[]⟩)) := by
  unfold joinT
  rw [List.take_succ_eq_append_getElem h, List.foldl_append, List.foldl_cons, List.foldl_nil, List.getD_eq_getElem?_getD, List.getElem?_eq_getElem h]
  rfl
end Go.Proofs.Ytpnnnhdhmdildaa.J
