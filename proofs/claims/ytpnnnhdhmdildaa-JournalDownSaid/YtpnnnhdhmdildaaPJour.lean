/- The journal, plainly: pieces of a text, what a disk's sectors tell. No program in sight. -/
import Derived.Test.YtpnnnhdhmdildaaWWords
set_option linter.unusedVariables false
set_option linter.unusedSimpArgs false
namespace Go.Proofs.Ytpnnnhdhmdildaa.J
/-- A sector's first byte, its last one. -/
def hd (s : ByteArray) : Nat := (s.data.getD 0 0).toNat
def mk (s : ByteArray) : Nat := (s.data.getD 31 0).toNat
/-- What sectors tell: from place i on, with the text so far, what has been told, where it ends. -/
def scanGo : List ByteArray → Nat → ByteArray → List ByteArray → Nat → List ByteArray × Nat
  | [], i, t, l, e => (l, e)
  | s :: q, i, t, l, e => if 30 < hd s then (l, e) else if mk s = 1 then scanGo q (i + 1) (t ++ s.extract 1 (1 + hd s)) l e else if mk s = 2 then scanGo q (i + 1) ⟨#[]⟩ (l ++ [t ++ s.extract 1 (1 + hd s)]) (i + 1) else (l, e)
def scan (q : List ByteArray) : List ByteArray × Nat := scanGo q 0 ⟨#[]⟩ [] 0
/-- One piece. -/
def pieceS (s : ByteArray) (m : UInt8) : ByteArray := ⟨#[UInt8.ofNat s.size]⟩ ++ s ++ ⟨(List.replicate (30 - s.size) (0 : UInt8)).toArray⟩ ++ ⟨#[m]⟩
theorem bext {a b : ByteArray} (h : a.data.toList = b.data.toList) : a = b := ByteArray.ext (Array.toList_inj.1 h)
theorem piece_list (s : ByteArray) (m : UInt8) : (pieceS s m).data.toList = UInt8.ofNat s.size :: (s.data.toList ++ (List.replicate (30 - s.size) (0 : UInt8) ++ [m])) := by
  unfold pieceS
  simp [ByteArray.data_append]
theorem list_size (s : ByteArray) : s.data.toList.length = s.size := by rw [Array.length_toList]; rfl
theorem piece_size {s : ByteArray} (m : UInt8) (h : s.size ≤ 30) : (pieceS s m).size = 32 := by
  rw [← list_size, piece_list]
  simp only [List.length_cons, List.length_append, list_size, List.length_replicate, List.length_nil]
  omega
theorem getD_list (s : ByteArray) (i : Nat) : s.data.getD i 0 = s.data.toList.getD i 0 := by
  simp [Array.getD_eq_getD_getElem?, List.getD_eq_getElem?_getD]
theorem piece_hd {s : ByteArray} (m : UInt8) (h : s.size ≤ 30) : hd (pieceS s m) = s.size := by
  unfold hd
  rw [getD_list, piece_list]
  simp
  omega
theorem piece_mk {s : ByteArray} (m : UInt8) (h : s.size ≤ 30) : mk (pieceS s m) = m.toNat := by
  unfold mk
  rw [getD_list, piece_list]
  rw [List.getD_eq_getElem?_getD, List.getElem?_cons_succ, List.getElem?_append_right (by rw [list_size]; omega), List.getElem?_append_right (by rw [list_size, List.length_replicate]; omega), list_size, List.length_replicate, show 30 - s.size - (30 - s.size) = 0 by omega]
  rfl
theorem piece_text {s : ByteArray} (m : UInt8) (h : s.size ≤ 30) : (pieceS s m).extract 1 (1 + s.size) = s := by
  apply bext
  rw [ByteArray.data_extract, Array.toList_extract, piece_list]
  show ((UInt8.ofNat s.size :: (s.data.toList ++ (List.replicate (30 - s.size) (0 : UInt8) ++ [m]))).drop 1).take (1 + s.size - 1) = s.data.toList
  rw [List.drop_succ_cons, List.drop_zero, show 1 + s.size - 1 = s.size by omega, List.take_append_of_le_length (by rw [list_size]; exact Nat.le_refl _), ← list_size, List.take_length]
/-- A text's pieces. -/
def piecesL (s : ByteArray) : List ByteArray := if h : 30 < s.size then pieceS (s.extract 0 30) 1 :: piecesL (s.extract 30 s.size) else [pieceS s 2]
termination_by s.size
decreasing_by rw [ByteArray.size_extract]; omega
theorem pieces_short {s : ByteArray} (h : s.size ≤ 30) : piecesL s = [pieceS s 2] := by rw [piecesL, dif_neg (by omega)]
theorem pieces_long {s : ByteArray} (h : 30 < s.size) : piecesL s = pieceS (s.extract 0 30) 1 :: piecesL (s.extract 30 s.size) := by rw [piecesL, dif_pos h]
theorem cut_join (s : ByteArray) : s.extract 0 30 ++ s.extract 30 s.size = s := by
  by_cases h : 30 ≤ s.size
  · rw [ByteArray.extract_append_extract]
    simp [Nat.max_eq_right h]
  · rw [ByteArray.extract_append_extract]
    simp
theorem pieces_pos (s : ByteArray) : 1 ≤ (piecesL s).length := by
  by_cases h : 30 < s.size
  · rw [pieces_long h]; simp
  · rw [pieces_short (by omega)]; simp
theorem pieces_size : ∀ (n : Nat) (s : ByteArray), s.size ≤ n → ∀ p ∈ piecesL s, p.size = 32 := by
  intro n
  induction n with
  | zero =>
    intro s h p hp
    rw [pieces_short (by omega)] at hp
    simp at hp
    rw [hp]
    exact piece_size _ (by omega)
  | succ n ih =>
    intro s h p hp
    by_cases hs : 30 < s.size
    · rw [pieces_long hs] at hp
      rcases List.mem_cons.1 hp with rfl | hp
      · exact piece_size _ (by rw [ByteArray.size_extract]; omega)
      · exact ih _ (by rw [ByteArray.size_extract]; omega) p hp
    · rw [pieces_short (by omega)] at hp
      simp at hp
      rw [hp]
      exact piece_size _ (by omega)
/-- Pieces tell their text. -/
theorem scan_pieces : ∀ (n : Nat) (s : ByteArray), s.size ≤ n → ∀ (r : List ByteArray) (i : Nat) (t : ByteArray) (l : List ByteArray) (e : Nat), scanGo (piecesL s ++ r) i t l e = scanGo r (i + (piecesL s).length) ⟨#[]⟩ (l ++ [t ++ s]) (i + (piecesL s).length) := by
  intro n
  induction n with
  | zero =>
    intro s h r i t l e
    rw [pieces_short (by omega)]
    rw [List.singleton_append, scanGo, piece_hd _ (by omega), if_neg (by omega), piece_mk _ (by omega), if_neg (by decide), if_pos (by decide), piece_text _ (by omega)]
    rfl
  | succ n ih =>
    intro s h r i t l e
    by_cases hs : 30 < s.size
    · have h30 : (s.extract 0 30).size = 30 := by rw [ByteArray.size_extract]; omega
      rw [pieces_long hs, List.cons_append, scanGo, piece_hd _ (by omega), if_neg (by omega), piece_mk _ (by omega), if_pos (by decide), piece_text _ (by omega), ih _ (by rw [ByteArray.size_extract]; omega)]
      rw [List.length_cons, ByteArray.append_assoc, cut_join, show i + 1 + (piecesL (s.extract 30 s.size)).length = i + ((piecesL (s.extract 30 s.size)).length + 1) by omega]
    · rw [pieces_short (by omega)]
      rw [List.singleton_append, scanGo, piece_hd _ (by omega), if_neg (by omega), piece_mk _ (by omega), if_neg (by decide), if_pos (by decide), piece_text _ (by omega)]
      rfl
/-- Where no piece is a last one, nothing is told. -/
theorem scan_none : ∀ (r : List ByteArray) (i : Nat) (t : ByteArray) (l : List ByteArray) (e : Nat), (∀ s ∈ r, mk s ≠ 2) → scanGo r i t l e = (l, e) := by
  intro r
  induction r with
  | nil => intros; rfl
  | cons s r ih =>
    intro i t l e h
    rw [scanGo]
    by_cases h1 : 30 < hd s
    · rw [if_pos h1]
    · rw [if_neg h1]
      by_cases h2 : mk s = 1
      · rw [if_pos h2, ih _ _ _ _ (fun x hx => h x (List.mem_cons_of_mem _ hx))]
      · rw [if_neg h2, if_neg (h s (List.mem_cons_self ..))]
end Go.Proofs.Ytpnnnhdhmdildaa.J
