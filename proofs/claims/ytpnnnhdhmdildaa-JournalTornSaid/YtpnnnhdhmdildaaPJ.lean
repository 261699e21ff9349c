import Derived.Test.YtpnnnhdhmdildaaWWords
import Derived.Test.YtpnnnhdhmdildaaDk2
section
/- The journal, plainly: pieces of a text, what a disk's sectors tell. No program in sight. -/
set_option linter.unusedVariables false
set_option linter.unusedSimpArgs false
namespace Go.Proofs.Ytpnnnhdhmdildaa.J
/-- A sector's first byte, its last one. -/
def hd (s : ByteArray) : Nat := (s.data.getD 0 0).toNat
def mk (s : ByteArray) : Nat := (s.data.getD 31 0).toNat
/-- What sectors tell: from place i on, with the text so far, what has been told, where it ends. -/
def scanGo : List ByteArray → Nat → ByteArray → List ByteArray → Nat → List ByteArray × Nat
  | [], i, t, l, e => (l, e)
  | s :: q, i, t, l, e => if 30 < hd s then (l, e) else if mk s = 1 then scanGo q (i + 1) (t ++ s.extract 1 (1 + hd s)) l e else if mk s = 2 then scanGo q (i + 1) ⟨#[]⟩ (l ++ [t ++ s.extract 1 (1 + hd s)]) (i + 1) else (l, e)
def scan (q : List ByteArray) : List ByteArray × Nat := scanGo q 0 ⟨#[]⟩ [] 0
/-- One piece. -/
def pieceS (s : ByteArray) (m : UInt8) : ByteArray := ⟨#[UInt8.ofNat s.size]⟩ ++ s ++ ⟨(List.replicate (30 - s.size) (0 : UInt8)).toArray⟩ ++ ⟨#[m]⟩
theorem bext {a b : ByteArray} (h : a.data.toList = b.data.toList) : a = b := ByteArray.ext (Array.toList_inj.1 h)
theorem piece_list (s : ByteArray) (m : UInt8) : (pieceS s m).data.toList = UInt8.ofNat s.size :: (s.data.toList ++ (List.replicate (30 - s.size) (0 : UInt8) ++ [m])) := by
  unfold pieceS
  simp [ByteArray.data_append]
theorem list_size (s : ByteArray) : s.data.toList.length = s.size := by rw [Array.length_toList]; rfl
theorem piece_size {s : ByteArray} (m : UInt8) (h : s.size ≤ 30) : (pieceS s m).size = 32 := by
  rw [← list_size, piece_list]
  simp only [List.length_cons, List.length_append, list_size, List.length_replicate, List.length_nil]
  omega
theorem getD_list (s : ByteArray) (i : Nat) : s.data.getD i 0 = s.data.toList.getD i 0 := by
  simp [Array.getD_eq_getD_getElem?, List.getD_eq_getElem?_getD]
theorem piece_hd {s : ByteArray} (m : UInt8) (h : s.size ≤ 30) : hd (pieceS s m) = s.size := by
  unfold hd
  rw [getD_list, piece_list]
  simp
  omega
theorem piece_mk {s : ByteArray} (m : UInt8) (h : s.size ≤ 30) : mk (pieceS s m) = m.toNat := by
  unfold mk
  rw [getD_list, piece_list]
  rw [List.getD_eq_getElem?_getD, List.getElem?_cons_succ, List.getElem?_append_right (by rw [list_size]; omega), List.getElem?_append_right (by rw [list_size, List.length_replicate]; omega), list_size, List.length_replicate, show 30 - s.size - (30 - s.size) = 0 by omega]
  rfl
theorem piece_text {s : ByteArray} (m : UInt8) (h : s.size ≤ 30) : (pieceS s m).extract 1 (1 + s.size) = s := by
  apply bext
  rw [ByteArray.data_extract, Array.toList_extract, piece_list]
  show ((UInt8.ofNat s.size :: (s.data.toList ++ (List.replicate (30 - s.size) (0 : UInt8) ++ [m]))).drop 1).take (1 + s.size - 1) = s.data.toList
  rw [List.drop_succ_cons, List.drop_zero, show 1 + s.size - 1 = s.size by omega, List.take_append_of_le_length (by rw [list_size]; exact Nat.le_refl _), ← list_size, List.take_length]
/-- A text's pieces. -/
def piecesL (s : ByteArray) : List ByteArray := if h : 30 < s.size then pieceS (s.extract 0 30) 1 :: piecesL (s.extract 30 s.size) else [pieceS s 2]
termination_by s.size
decreasing_by rw [ByteArray.size_extract]; omega
theorem pieces_short {s : ByteArray} (h : s.size ≤ 30) : piecesL s = [pieceS s 2] := by rw [piecesL, dif_neg (by omega)]
theorem pieces_long {s : ByteArray} (h : 30 < s.size) : piecesL s = pieceS (s.extract 0 30) 1 :: piecesL (s.extract 30 s.size) := by rw [piecesL, dif_pos h]
theorem cut_join (s : ByteArray) : s.extract 0 30 ++ s.extract 30 s.size = s := by
  by_cases h : 30 ≤ s.size
  · rw [ByteArray.extract_append_extract]
    simp [Nat.max_eq_right h]
  · rw [ByteArray.extract_append_extract]
    simp
theorem pieces_pos (s : ByteArray) : 1 ≤ (piecesL s).length := by
  by_cases h : 30 < s.size
  · rw [pieces_long h]; simp
  · rw [pieces_short (by omega)]; simp
theorem pieces_size : ∀ (n : Nat) (s : ByteArray), s.size ≤ n → ∀ p ∈ piecesL s, p.size = 32 := by
  intro n
  induction n with
  | zero =>
    intro s h p hp
    rw [pieces_short (by omega)] at hp
    simp at hp
    rw [hp]
    exact piece_size _ (by omega)
  | succ n ih =>
    intro s h p hp
    by_cases hs : 30 < s.size
    · rw [pieces_long hs] at hp
      rcases List.mem_cons.1 hp with rfl | hp
      · exact piece_size _ (by rw [ByteArray.size_extract]; omega)
      · exact ih _ (by rw [ByteArray.size_extract]; omega) p hp
    · rw [pieces_short (by omega)] at hp
      simp at hp
      rw [hp]
      exact piece_size _ (by omega)
/-- Pieces tell their text. -/
theorem scan_pieces : ∀ (n : Nat) (s : ByteArray), s.size ≤ n → ∀ (r : List ByteArray) (i : Nat) (t : ByteArray) (l : List ByteArray) (e : Nat), scanGo (piecesL s ++ r) i t l e = scanGo r (i + (piecesL s).length) ⟨#[]⟩ (l ++ [t ++ s]) (i + (piecesL s).length) := by
  intro n
  induction n with
  | zero =>
    intro s h r i t l e
    rw [pieces_short (by omega)]
    rw [List.singleton_append, scanGo, piece_hd _ (by omega), if_neg (by omega), piece_mk _ (by omega), if_neg (by decide), if_pos (by decide), piece_text _ (by omega)]
    rfl
  | succ n ih =>
    intro s h r i t l e
    by_cases hs : 30 < s.size
    · have h30 : (s.extract 0 30).size = 30 := by rw [ByteArray.size_extract]; omega
      rw [pieces_long hs, List.cons_append, scanGo, piece_hd _ (by omega), if_neg (by omega), piece_mk _ (by omega), if_pos (by decide), piece_text _ (by omega), ih _ (by rw [ByteArray.size_extract]; omega)]
      rw [List.length_cons, ByteArray.append_assoc, cut_join, show i + 1 + (piecesL (s.extract 30 s.size)).length = i + ((piecesL (s.extract 30 s.size)).length + 1) by omega]
    · rw [pieces_short (by omega)]
      rw [List.singleton_append, scanGo, piece_hd _ (by omega), if_neg (by omega), piece_mk _ (by omega), if_neg (by decide), if_pos (by decide), piece_text _ (by omega)]
      rfl
/-- Where no piece is a last one, nothing is told. -/
theorem scan_none : ∀ (r : List ByteArray) (i : Nat) (t : ByteArray) (l : List ByteArray) (e : Nat), (∀ s ∈ r, mk s ≠ 2) → scanGo r i t l e = (l, e) := by
  intro r
  induction r with
  | nil => intros; rfl
  | cons s r ih =>
    intro i t l e h
    rw [scanGo]
    by_cases h1 : 30 < hd s
    · rw [if_pos h1]
    · rw [if_neg h1]
      by_cases h2 : mk s = 1
      · rw [if_pos h2, ih _ _ _ _ (fun x hx => h x (List.mem_cons_of_mem _ hx))]
      · rw [if_neg h2, if_neg (h s (List.mem_cons_self ..))]
end Go.Proofs.Ytpnnnhdhmdildaa.J
end
section
/- The journal, plainly: a commit, with tears. No program in sight. -/
set_option linter.unusedVariables false
set_option linter.unusedSimpArgs false
namespace Go.Proofs.Ytpnnnhdhmdildaa.J
open Go.Proofs.Ytpnnnhdhmdildaa.Given
/-- Pieces are written, one behind the other, until one is not. -/
def commitW : DS → Nat → List ByteArray → Bool × DS
  | D, at_, [] => (true, D)
  | D, at_, p :: r => if (D.write (at_ : Int) p).1 = true then commitW (D.write (at_ : Int) p).2 (at_ + 1) r else (false, (D.write (at_ : Int) p).2)
/-- A journal. -/
structure JS where
  l : List ByteArray
  e : Nat
  down : Bool
def JS.open (D : DS) : JS := ⟨(scan D.secs).1, (scan D.secs).2, false⟩
/-- A commit: the answer, the journal, its disk. -/
def JS.commit (J : JS) (D : DS) (s : ByteArray) : Int × JS × DS :=
  if J.down = true then (9, J, D)
  else if (D.secs.length : Int) - J.e < ((piecesL s).length : Int) then (6, J, D)
  else if (commitW D J.e (piecesL s)).1 = true then (0, ⟨J.l ++ [s], J.e + (piecesL s).length, false⟩, (commitW D J.e (piecesL s)).2)
  else (9, ⟨J.l, J.e, true⟩, (commitW D J.e (piecesL s)).2)
theorem wlenJ (D : DS) (i : Int) (data : ByteArray) : (D.write i data).2.secs.length = D.secs.length := by
  unfold DS.write
  split
  · split <;> simp
  · rfl
theorem wholeS_full {p : ByteArray} (h : p.size = 32) : wholeS p = p := by
  unfold wholeS
  rw [h]
  apply bext
  simp [ByteArray.data_append]
/-- A write that goes well. -/
theorem write_good {D : DS} {i : Nat} {p : ByteArray} (hp : p.size = 32) (hd : D.down = false) (hi : i < D.secs.length) (ht : D.armed = false ∨ D.left ≠ 0) : D.write (i : Int) p = (true, { D with secs := D.secs.set i p, left := D.left - 1 }) := by
  unfold DS.write
  rw [if_pos (show D.fits (i : Int) p from ⟨hd, by omega, by omega, by omega⟩), if_neg (by rintro ⟨h1, h2⟩; rcases ht with h | h; rw [h] at h1; cases h1; exact h h2), Int.toNat_natCast, wholeS_full hp]
theorem take_set' {α : Type} (l : List α) (i : Nat) (p : α) (h : i < l.length) : (l.set i p).take (i + 1) = l.take i ++ [p] := by
  rw [List.take_add_one, List.getElem?_set_self h, List.take_set_of_le (Nat.le_refl _)]
  rfl
/-- All pieces go well where no tear comes. -/
theorem commitW_good : ∀ (ps : List ByteArray) (D : DS) (at_ : Nat), (∀ p ∈ ps, p.size = 32) → D.down = false → at_ + ps.length ≤ D.secs.length → (D.armed = false ∨ (ps.length : Int) ≤ D.left) →
    commitW D at_ ps = (true, { D with secs := D.secs.take at_ ++ ps ++ D.secs.drop (at_ + ps.length), left := D.left - ps.length }) := by
  intro ps
  induction ps with
  | nil =>
    intro D at_ _ _ _ _
    unfold commitW
    congr 1
    cases D
    simp
  | cons p r ih =>
    intro D at_ hp hd hl ht
    rw [List.length_cons] at hl ht
    have hw := write_good (D := D) (i := at_) (hp p (List.mem_cons_self ..)) hd (by omega) (by rcases ht with h | h; exact .inl h; exact .inr (by omega))
    rw [commitW, hw, if_pos rfl]
    have h2 := ih { D with secs := D.secs.set at_ p, left := D.left - 1 } (at_ + 1) (fun x hx => hp x (List.mem_cons_of_mem _ hx)) hd (by simp; omega) (by rcases ht with h | h; exact .inl h; exact .inr (by show (r.length : Int) ≤ D.left - 1; omega))
    rw [h2]
    congr 1
    cases D with
    | mk secs armed left keep down =>
      have hl' : at_ < secs.length := by have : at_ + (r.length + 1) ≤ secs.length := hl; omega
      simp only [DS.mk.injEq, true_and, and_true]
      refine ⟨?_, by rw [List.length_cons]; omega⟩
      rw [List.length_cons, take_set' _ _ _ hl', show at_ + 1 + r.length = at_ + (r.length + 1) by omega, List.drop_set_of_lt (by omega)]
      simp
end Go.Proofs.Ytpnnnhdhmdildaa.J
end
section
/- The journal, plainly: what a commit leaves, torn or not. No program in sight. -/
set_option linter.unusedVariables false
set_option linter.unusedSimpArgs false
namespace Go.Proofs.Ytpnnnhdhmdildaa.J
open Go.Proofs.Ytpnnnhdhmdildaa.Given
/-- A disk whose first e sectors tell l, and whose others end nothing. -/
structure Good (q : List ByteArray) (l : List ByteArray) (e : Nat) : Prop where
  le : e ≤ q.length
  front : ∀ r, scanGo (q.take e ++ r) 0 ⟨#[]⟩ [] 0 = scanGo r e ⟨#[]⟩ l e
  rest : ∀ s ∈ q.drop e, mk s ≠ 2
theorem Good.scan {q l : List ByteArray} {e : Nat} (h : Good q l e) : scan q = (l, e) := by
  have := h.front (q.drop e)
  rw [List.take_append_drop] at this
  unfold J.scan
  rw [this, scan_none _ _ _ _ _ h.rest]
theorem wholeS_mk {s : ByteArray} (h : s.size < 32) : mk (wholeS s) = 0 := by
  unfold mk wholeS
  rw [getD_list, ByteArray.data_append, Array.toList_append, List.getD_eq_getElem?_getD, List.getElem?_append_right (by rw [list_size]; omega), list_size]
  show ((List.replicate (32 - s.size) (0 : UInt8))[31 - s.size]?.getD 0).toNat = 0
  rw [List.getElem?_replicate]
  split <;> rfl
/-- All sectors empty: nothing is told. -/
theorem Good.fresh (q : List ByteArray) (h : ∀ s ∈ q, J.mk s ≠ 2) : Good q [] 0 := ⟨Nat.zero_le _, fun r => by rw [List.take_zero]; rfl, fun s hs => h s (by simpa using hs)⟩
/-- A transaction wholly written. -/
theorem Good.more {q l : List ByteArray} {e : Nat} (h : Good q l e) (s : ByteArray) (hl : e + (piecesL s).length ≤ q.length) : Good (q.take e ++ piecesL s ++ q.drop (e + (piecesL s).length)) (l ++ [s]) (e + (piecesL s).length) := by
  have hte : (q.take e).length = e := by rw [List.length_take]; exact Nat.min_eq_left h.le
  refine ⟨?_, fun r => ?_, fun x hx => ?_⟩
  · rw [List.length_append, List.length_append, hte]; omega
  · rw [List.take_append_of_le_length (by rw [List.length_append, hte]; exact Nat.le_refl _), List.take_of_length_le (by rw [List.length_append, hte]; exact Nat.le_refl _), List.append_assoc, h.front, scan_pieces s.size s (Nat.le_refl _), show (⟨#[]⟩ : ByteArray) ++ s = s from ByteArray.empty_append]
  · rw [List.drop_append_of_le_length (by rw [List.length_append, hte]; exact Nat.le_refl _), List.drop_of_length_le (by rw [List.length_append, hte]; exact Nat.le_refl _), List.nil_append] at hx
    refine h.rest x ?_
    rw [← List.drop_drop] at hx
    exact List.mem_of_mem_drop hx
/-- Sectors behind the end are written with what ends nothing. -/
theorem Good.scrap {q l : List ByteArray} {e i : Nat} (h : Good q l e) (hi : e ≤ i) (p : ByteArray) (hp : J.mk p ≠ 2) : Good (q.set i p) l e := by
  refine ⟨by rw [List.length_set]; exact h.le, fun r => by rw [List.take_set_of_le hi]; exact h.front r, fun x hx => ?_⟩
  rw [List.drop_set] at hx
  split at hx
  · exact h.rest x hx
  · rcases List.mem_or_eq_of_mem_set hx with hx | rfl
    · exact h.rest x hx
    · exact hp
theorem pieces_mk : ∀ (n : Nat) (s : ByteArray), s.size ≤ n → ∀ j, j < (piecesL s).length → mk ((piecesL s).getD j ⟨#[]⟩) = if j + 1 = (piecesL s).length then 2 else 1 := by
  intro n
  induction n with
  | zero =>
    intro s h j hj
    rw [pieces_short (by omega)] at hj ⊢
    simp only [List.length_cons, List.length_nil] at hj ⊢
    obtain rfl : j = 0 := by omega
    rw [if_pos rfl]
    exact piece_mk 2 (by omega)
  | succ n ih =>
    intro s h j hj
    by_cases hs : 30 < s.size
    · rw [pieces_long hs] at hj ⊢
      have hp := pieces_pos (s.extract 30 s.size)
      cases j with
      | zero =>
        rw [List.getD_cons_zero, List.length_cons, if_neg (by omega)]
        exact piece_mk 1 (by rw [ByteArray.size_extract]; omega)
      | succ j =>
        rw [List.length_cons] at hj
        rw [List.getD_cons_succ, ih _ (by rw [ByteArray.size_extract]; omega) j (by omega), List.length_cons]
        simp
    · rw [pieces_short (by omega)] at hj ⊢
      simp only [List.length_cons, List.length_nil] at hj ⊢
      obtain rfl : j = 0 := by omega
      rw [if_pos rfl]
      exact piece_mk 2 (by omega)
/-- A piece torn at k: its last byte is old, but for k = 32. -/
theorem mk_torn {p o : ByteArray} {k : Nat} (hp : p.size = 32) (ho : o.size = 32) (hk : k < 32) : mk (p.extract 0 k ++ o.extract k 32) = mk o := by
  unfold mk
  rw [getD_list, getD_list, ByteArray.data_append, Array.toList_append, ByteArray.data_extract, ByteArray.data_extract, Array.toList_extract, Array.toList_extract]
  have h1 : ((p.data.toList.drop 0).take (k - 0)).length = k := by
    rw [List.length_take, List.length_drop, list_size, hp]; omega
  show ((List.take (k - 0) (List.drop 0 p.data.toList) ++ List.take (32 - k) (List.drop k o.data.toList)).getD 31 0).toNat = _
  rw [List.getD_eq_getElem?_getD, List.getD_eq_getElem?_getD, List.getElem?_append_right (by rw [h1]; omega), h1, List.getElem?_take_of_lt (by omega), List.getElem?_drop, show k + (31 - k) = 31 by omega]
theorem torn_full {p o : ByteArray} (hp : p.size = 32) (ho : o.size = 32) : p.extract 0 32 ++ o.extract 32 32 = p := by
  apply bext
  rw [ByteArray.data_append, ByteArray.data_extract, ByteArray.data_extract, Array.toList_append, Array.toList_extract, Array.toList_extract]
  show List.take (32 - 0) (List.drop 0 p.data.toList) ++ List.take (32 - 32) (List.drop 32 o.data.toList) = p.data.toList
  rw [List.drop_zero, List.take_of_length_le (by rw [list_size, hp]; omega)]
  simp
/-- A write that is torn. -/
theorem write_tears {D : DS} {i : Nat} {p : ByteArray} (hp : p.size = 32) (hd : D.down = false) (hi : i < D.secs.length) (ha : D.armed = true) (hl : D.left = 0) :
    D.write (i : Int) p = (false, { D with secs := D.secs.set i (p.extract 0 D.keep.toNat ++ (D.secs.getD i ⟨#[]⟩).extract D.keep.toNat 32), armed := false, down := true }) := by
  unfold DS.write
  rw [if_pos (show D.fits (i : Int) p from ⟨hd, by omega, by omega, by omega⟩), if_pos ⟨ha, hl⟩, Int.toNat_natCast, wholeS_full hp]
/-- What a torn commit leaves: m pieces were written, the next one is torn. -/
theorem commitW_torn : ∀ (m : Nat) (ps : List ByteArray) (D : DS) (at_ : Nat), m < ps.length → (∀ p ∈ ps, p.size = 32) → D.down = false → at_ + ps.length ≤ D.secs.length → D.armed = true → D.left = (m : Int) →
    ∃ q, commitW D at_ ps = (false, { secs := q, armed := false, left := 0, keep := D.keep, down := true }) ∧
      q = (D.secs.take at_ ++ ps.take m ++ D.secs.drop (at_ + m)).set (at_ + m) ((ps.getD m ⟨#[]⟩).extract 0 D.keep.toNat ++ (D.secs.getD (at_ + m) ⟨#[]⟩).extract D.keep.toNat 32) := by
  intro m
  induction m with
  | zero =>
    intro ps D at_ hm hp hd hl ha hz
    cases ps with
    | nil => simp at hm
    | cons p r =>
      rw [List.length_cons] at hl
      have hz0 : D.left = 0 := by simpa using hz
      have hw := write_tears (D := D) (i := at_) (hp p (List.mem_cons_self ..)) hd (by omega) ha hz0
      refine ⟨_, ?_, rfl⟩
      rw [commitW, hw, if_neg (by simp)]
      cases D
      simp only [] at hz0
      simp [hz0]
  | succ m ih =>
    intro ps D at_ hm hp hd hl ha hz
    cases ps with
    | nil => simp at hm
    | cons p r =>
      rw [List.length_cons] at hl hm
      have hw := write_good (D := D) (i := at_) (hp p (List.mem_cons_self ..)) hd (by omega) (.inr (by omega))
      obtain ⟨q, h1, h2⟩ := ih r { D with secs := D.secs.set at_ p, left := D.left - 1 } (at_ + 1) (by omega) (fun x hx => hp x (List.mem_cons_of_mem _ hx)) hd (by show at_ + 1 + r.length ≤ (D.secs.set at_ p).length; rw [List.length_set]; omega) ha (by show D.left - 1 = (m : Int); omega)
      refine ⟨q, ?_, ?_⟩
      · rw [commitW, hw, if_pos rfl, h1]
      · rw [h2]
        have hl' : at_ < D.secs.length := by omega
        show (List.take (at_ + 1) (D.secs.set at_ p) ++ List.take m r ++ List.drop (at_ + 1 + m) (D.secs.set at_ p)).set (at_ + 1 + m) (ByteArray.extract (r.getD m ⟨#[]⟩) 0 D.keep.toNat ++ ByteArray.extract ((D.secs.set at_ p).getD (at_ + 1 + m) ⟨#[]⟩) D.keep.toNat 32) = _
        rw [take_set' _ _ _ hl', List.drop_set_of_lt (by omega), List.getD_cons_succ, show at_ + 1 + m = at_ + (m + 1) by omega, List.take_succ_cons]
        have e : (D.secs.set at_ p).getD (at_ + (m + 1)) ⟨#[]⟩ = D.secs.getD (at_ + (m + 1)) ⟨#[]⟩ := by
          rw [List.getD_eq_getElem?_getD, List.getD_eq_getElem?_getD, List.getElem?_set_ne (by omega)]
        rw [e]
        simp
theorem mem_getD {q : List ByteArray} {i : Nat} {x : ByteArray} (h : x ∈ q) : ∃ j, j < q.length ∧ q.getD j ⟨#[]⟩ = x := by
  obtain ⟨j, hj, e⟩ := List.getElem_of_mem h
  exact ⟨j, hj, by rw [List.getD_eq_getElem?_getD, List.getElem?_eq_getElem hj, e]; rfl⟩
/-- Some pieces, not the last one, lie behind the end. -/
theorem Good.part {q l : List ByteArray} {e : Nat} (h : Good q l e) (s : ByteArray) (m : Nat) (hm : m < (piecesL s).length) (hl : e + (piecesL s).length ≤ q.length) : Good (q.take e ++ (piecesL s).take m ++ q.drop (e + m)) l e := by
  have hte : (q.take e).length = e := by rw [List.length_take]; exact Nat.min_eq_left h.le
  have hpm : ((piecesL s).take m).length = m := by rw [List.length_take]; omega
  refine ⟨?_, fun r => ?_, fun x hx => ?_⟩
  · rw [List.length_append, List.length_append, hte]; omega
  · rw [List.append_assoc, List.take_append_of_le_length (by rw [hte]; exact Nat.le_refl _), List.take_of_length_le (by rw [hte]; exact Nat.le_refl _)]
    exact h.front r
  · rw [List.append_assoc, List.drop_append_of_le_length (by rw [hte]; exact Nat.le_refl _), List.drop_of_length_le (by rw [hte]; exact Nat.le_refl _), List.nil_append] at hx
    rcases List.mem_append.1 hx with hx | hx
    · obtain ⟨j, hj, rfl⟩ := mem_getD (i := 0) hx
      rw [hpm] at hj
      have e1 : ((piecesL s).take m).getD j ⟨#[]⟩ = (piecesL s).getD j ⟨#[]⟩ := by
        rw [List.getD_eq_getElem?_getD, List.getD_eq_getElem?_getD, List.getElem?_take_of_lt hj]
      rw [e1, pieces_mk s.size s (Nat.le_refl _) j (by omega), if_neg (by omega)]
      decide
    · refine h.rest x ?_
      rw [← List.drop_drop] at hx
      exact List.mem_of_mem_drop hx
theorem getD_size {q : List ByteArray} {i n : Nat} (h : ∀ x ∈ q, x.size = n) (hi : i < q.length) : (q.getD i ⟨#[]⟩).size = n := by
  rw [List.getD_eq_getElem?_getD, List.getElem?_eq_getElem hi]
  exact h _ (List.getElem_mem hi)
/-- A torn commit: the transaction is there just if its last piece was wholly written. -/
theorem torn_good {D : DS} {l : List ByteArray} {e m : Nat} (hG : Good D.secs l e) (hD : D.Ok) (s : ByteArray) (hm : m < (piecesL s).length) (hl : e + (piecesL s).length ≤ D.secs.length) (hd : D.down = false) (ha : D.armed = true) (hz : D.left = (m : Int)) :
    ∃ q, commitW D e (piecesL s) = (false, { secs := q, armed := false, left := 0, keep := D.keep, down := true }) ∧ q.length = D.secs.length ∧ (∀ x ∈ q, x.size = 32) ∧
      if m + 1 = (piecesL s).length ∧ D.keep = 32 then Good q (l ++ [s]) (e + (piecesL s).length) else Good q l e := by
  obtain ⟨q, h1, h2⟩ := commitW_torn m (piecesL s) D e hm (pieces_size s.size s (Nat.le_refl _)) hd hl ha hz
  have hte : (D.secs.take e).length = e := by rw [List.length_take]; exact Nat.min_eq_left hG.le
  have hpm : ((piecesL s).take m).length = m := by rw [List.length_take]; omega
  have k0 := hD.keep0
  have k1 := hD.keep1
  have hps := getD_size (pieces_size s.size s (Nat.le_refl _)) hm
  have hos := getD_size hD.size (i := e + m) (by omega)
  have hgp := hG.part s m hm hl
  have hmk := pieces_mk s.size s (Nat.le_refl _) m hm
  refine ⟨q, h1, ?_, fun x hx => ?_, ?_⟩
  · rw [h2, List.length_set, List.length_append, List.length_append, hte, hpm, List.length_drop]; omega
  · rw [h2] at hx
    rcases List.mem_or_eq_of_mem_set hx with hx | rfl
    · rcases List.mem_append.1 hx with hx | hx
      · rcases List.mem_append.1 hx with hx | hx
        · exact hD.size x (List.mem_of_mem_take hx)
        · exact pieces_size s.size s (Nat.le_refl _) x (List.mem_of_mem_take hx)
      · exact hD.size x (List.mem_of_mem_drop hx)
    · rw [ByteArray.size_append, ByteArray.size_extract, ByteArray.size_extract, hps, hos]; omega
  · by_cases hk : D.keep = 32
    · have ek : D.keep.toNat = 32 := by omega
      rw [ek, torn_full hps hos] at h2
      by_cases hlast : m + 1 = (piecesL s).length
      · rw [if_pos ⟨hlast, hk⟩]
        have e2 : q = D.secs.take e ++ piecesL s ++ D.secs.drop (e + (piecesL s).length) := by
          rw [h2, List.append_assoc, List.set_append_right _ _ (by rw [hte]; omega), hte, show e + m - e = m by omega, List.set_append_right _ _ (by rw [hpm]; exact Nat.le_refl _), hpm, Nat.sub_self]
          have hdr : D.secs.drop (e + m) = D.secs.getD (e + m) ⟨#[]⟩ :: D.secs.drop (e + m + 1) := by
            rw [List.drop_eq_getElem_cons (show e + m < D.secs.length by omega), List.getD_eq_getElem?_getD, List.getElem?_eq_getElem (show e + m < D.secs.length by omega)]
            rfl
          rw [hdr, List.set_cons_zero, List.append_assoc, ← hlast, show e + (m + 1) = e + m + 1 by omega]
          congr 1
          have ht : (piecesL s) = (piecesL s).take m ++ [(piecesL s).getD m ⟨#[]⟩] := by
            have h3 := List.take_succ_eq_append_getElem hm
            rw [List.take_of_length_le (by omega)] at h3
            rw [List.getD_eq_getElem?_getD, List.getElem?_eq_getElem hm]
            exact h3
          have h4 : (piecesL s).take m ++ (piecesL s).getD m ⟨#[]⟩ :: D.secs.drop (e + m + 1) = ((piecesL s).take m ++ [(piecesL s).getD m ⟨#[]⟩]) ++ D.secs.drop (e + m + 1) := by simp
          rw [h4, ← ht]
        rw [e2]
        exact hG.more s hl
      · rw [if_neg (fun h => hlast h.1), h2]
        rw [if_neg hlast] at hmk
        exact hgp.scrap (by omega) _ (by rw [hmk]; decide)
    · rw [if_neg (fun h => hk h.2), h2]
      refine hgp.scrap (by omega) _ ?_
      rw [mk_torn hps hos (by omega)]
      refine hG.rest _ ?_
      rw [List.mem_iff_getElem?]
      refine ⟨m, ?_⟩
      rw [List.getElem?_drop, List.getD_eq_getElem?_getD, List.getElem?_eq_getElem (show e + m < D.secs.length by omega)]
      rfl
/-- A commit that goes well. -/
theorem commit_good {D : DS} {l : List ByteArray} {e : Nat} (hG : Good D.secs l e) (s : ByteArray) (hl : e + (piecesL s).length ≤ D.secs.length) (hd : D.down = false) (ht : D.armed = false ∨ ((piecesL s).length : Int) ≤ D.left) :
    ∃ q, commitW D e (piecesL s) = (true, { D with secs := q, left := D.left - (piecesL s).length }) ∧ q.length = D.secs.length ∧ Good q (l ++ [s]) (e + (piecesL s).length) := by
  refine ⟨_, commitW_good (piecesL s) D e (pieces_size s.size s (Nat.le_refl _)) hd hl ht, ?_, hG.more s hl⟩
  rw [List.length_append, List.length_append, List.length_take, List.length_drop]
  have := hG.le
  omega
end Go.Proofs.Ytpnnnhdhmdildaa.J
end
section
/- The journal, plainly: commits by their answers. No program in sight. -/
set_option linter.unusedVariables false
set_option linter.unusedSimpArgs false
namespace Go.Proofs.Ytpnnnhdhmdildaa.J
open Go.Proofs.Ytpnnnhdhmdildaa.Given
theorem open_good {D : DS} {l : List ByteArray} {e : Nat} (h : Good D.secs l e) : JS.open D = ⟨l, e, false⟩ := by
  unfold JS.open
  rw [h.scan]
/-- How many pieces a text has. -/
def np (s : ByteArray) : Nat := (piecesL s).length
theorem np_pos (s : ByteArray) : 1 ≤ np s := pieces_pos s
theorem np_short {s : ByteArray} (h : s.size ≤ 30) : np s = 1 := by unfold np; rw [pieces_short h]; rfl
theorem np_long {s : ByteArray} (h : 30 < s.size) : np s = np (s.extract 30 s.size) + 1 := by unfold np; rw [pieces_long h]; rfl
theorem np_eq : ∀ (n : Nat) (s : ByteArray), s.size ≤ n → np s = max ((s.size + 29) / 30) 1 := by
  intro n
  induction n with
  | zero => intro s h; rw [np_short (by omega)]; omega
  | succ n ih =>
    intro s h
    by_cases hs : 30 < s.size
    · rw [np_long hs, ih _ (by rw [ByteArray.size_extract]; omega), ByteArray.size_extract]
      omega
    · rw [np_short (by omega)]
      omega
theorem commit_ok {J : JS} {D : DS} (hG : Good D.secs J.l J.e) (hD : D.Ok) (hJ : J.down = false) (hd : D.down = false) (s : ByteArray) (hl : J.e + np s ≤ D.secs.length) (ht : D.armed = false ∨ (np s : Int) ≤ D.left) (hlow : -4611686018427387904 + (np s : Int) ≤ D.left) :
    ∃ q, J.commit D s = (0, ⟨J.l ++ [s], J.e + np s, false⟩, { D with secs := q, left := D.left - (np s : Int) }) ∧ q.length = D.secs.length ∧ Good q (J.l ++ [s]) (J.e + np s) ∧ DS.Ok { D with secs := q, left := D.left - (np s : Int) } := by
  unfold np at *
  have h1 := commitW_good (piecesL s) D J.e (pieces_size s.size s (Nat.le_refl _)) hd hl ht
  have h3 := hG.more s hl
  have hlen : (D.secs.take J.e ++ piecesL s ++ D.secs.drop (J.e + (piecesL s).length)).length = D.secs.length := by
    rw [List.length_append, List.length_append, List.length_take, List.length_drop]
    have := hG.le
    omega
  refine ⟨D.secs.take J.e ++ piecesL s ++ D.secs.drop (J.e + (piecesL s).length), ?_, hlen, h3, ?_⟩
  · unfold JS.commit
    rw [if_neg (by rw [hJ]; decide), if_neg (by omega), h1, if_pos rfl]
  · refine ⟨by rw [hlen]; exact hD.one, by rw [hlen]; exact hD.most, fun x hx => ?_, hD.keep0, hD.keep1, ?_, ?_⟩
    · rcases List.mem_append.1 hx with hx | hx
      · rcases List.mem_append.1 hx with hx | hx
        · exact hD.size x (List.mem_of_mem_take hx)
        · exact pieces_size s.size s (Nat.le_refl _) x hx
      · exact hD.size x (List.mem_of_mem_drop hx)
    · show -4611686018427387904 ≤ D.left - _
      omega
    · have := hD.left1
      show D.left - _ ≤ 9223372036854775807
      omega
theorem commit_fulls {J : JS} {D : DS} (hJ : J.down = false) (s : ByteArray) (hl : D.secs.length < J.e + np s) : J.commit D s = (6, J, D) := by
  unfold np at hl
  unfold JS.commit
  rw [if_neg (by rw [hJ]; decide), if_pos (by omega)]
theorem commit_downs {J : JS} {D : DS} (hJ : J.down = true) (s : ByteArray) : J.commit D s = (9, J, D) := by
  unfold JS.commit
  rw [if_pos hJ]
theorem commit_tears {J : JS} {D : DS} {m : Nat} (hG : Good D.secs J.l J.e) (hD : D.Ok) (hJ : J.down = false) (hd : D.down = false) (s : ByteArray) (hl : J.e + np s ≤ D.secs.length) (ha : D.armed = true) (hz : D.left = (m : Int)) (hm : m < np s) :
    ∃ q, J.commit D s = (9, ⟨J.l, J.e, true⟩, { secs := q, armed := false, left := 0, keep := D.keep, down := true }) ∧ q.length = D.secs.length ∧ DS.Ok { secs := q, armed := false, left := 0, keep := D.keep, down := true } ∧
      if m + 1 = np s ∧ D.keep = 32 then Good q (J.l ++ [s]) (J.e + np s) else Good q J.l J.e := by
  unfold np at *
  obtain ⟨q, h1, h2, h3, h4⟩ := torn_good hG hD s hm hl hd ha hz
  refine ⟨q, ?_, h2, ⟨by rw [h2]; exact hD.one, by rw [h2]; exact hD.most, h3, hD.keep0, hD.keep1, (by show (-4611686018427387904 : Int) ≤ 0; decide), (by show (0 : Int) ≤ 9223372036854775807; decide)⟩, h4⟩
  unfold JS.commit
  rw [if_neg (by rw [hJ]; decide), if_neg (by omega), h1, if_neg (by simp)]
end Go.Proofs.Ytpnnnhdhmdildaa.J
end
section
/- The journal, plainly: what pieces say. No program in sight. -/
set_option linter.unusedVariables false
set_option linter.unusedSimpArgs false
namespace Go.Proofs.Ytpnnnhdhmdildaa.J
open Go.Proofs.Ytpnnnhdhmdildaa.Given
theorem pieces_hd : ∀ (n : Nat) (s : ByteArray), s.size ≤ n → ∀ j, j < (piecesL s).length → hd ((piecesL s).getD j ⟨#[]⟩) ≤ 30 ∧ (j + 1 < (piecesL s).length → hd ((piecesL s).getD j ⟨#[]⟩) = 30) := by
  intro n
  induction n with
  | zero =>
    intro s h j hj
    rw [pieces_short (by omega)] at hj ⊢
    simp only [List.length_cons, List.length_nil] at hj ⊢
    obtain rfl : j = 0 := by omega
    rw [List.getD_cons_zero, piece_hd 2 (by omega)]
    exact ⟨by omega, fun h => by omega⟩
  | succ n ih =>
    intro s h j hj
    by_cases hs : 30 < s.size
    · rw [pieces_long hs] at hj ⊢
      cases j with
      | zero =>
        rw [List.getD_cons_zero, piece_hd 1 (by rw [ByteArray.size_extract]; omega), ByteArray.size_extract]
        exact ⟨by omega, fun _ => by omega⟩
      | succ j =>
        rw [List.length_cons] at hj
        rw [List.getD_cons_succ, List.length_cons]
        have := ih (s.extract 30 s.size) (by rw [ByteArray.size_extract]; omega) j (by omega)
        exact ⟨this.1, fun h => this.2 (by omega)⟩
    · rw [pieces_short (by omega)] at hj ⊢
      simp only [List.length_cons, List.length_nil] at hj ⊢
      obtain rfl : j = 0 := by omega
      rw [List.getD_cons_zero, piece_hd 2 (by omega)]
      exact ⟨by omega, fun h => by omega⟩
/-- What pieces say together. -/
def joinT (l : List ByteArray) : ByteArray := l.foldl (fun t p => t ++ p.extract 1 (1 + hd p)) ⟨#[]⟩
theorem join_from : ∀ (n : Nat) (s : ByteArray), s.size ≤ n → ∀ t : ByteArray, (piecesL s).foldl (fun t p => t ++ p.extract 1 (1 + hd p)) t = t ++ s := by
  intro n
  induction n with
  | zero =>
    intro s h t
    rw [pieces_short (by omega), List.foldl_cons, List.foldl_nil, piece_hd 2 (by omega), piece_text 2 (by omega)]
  | succ n ih =>
    intro s h t
    by_cases hs : 30 < s.size
    · have h30 : (s.extract 0 30).size = 30 := by rw [ByteArray.size_extract]; omega
      rw [pieces_long hs, List.foldl_cons, piece_hd 1 (by omega), piece_text 1 (by omega), ih _ (by rw [ByteArray.size_extract]; omega), ByteArray.append_assoc, cut_join]
    · rw [pieces_short (by omega), List.foldl_cons, List.foldl_nil, piece_hd 2 (by omega), piece_text 2 (by omega)]
theorem join_pieces (s : ByteArray) : joinT (piecesL s) = s := by
  unfold joinT
  rw [join_from s.size s (Nat.le_refl _)]
  exact ByteArray.empty_append
theorem join_next (l : List ByteArray) (i : Nat) (h : i < l.length) : joinT (l.take (i + 1)) = joinT (l.take i) ++ (l.getD i ⟨#[]⟩).extract 1 (1 + hd (l.getD i ⟨#[]⟩)) := by
  unfold joinT
  rw [List.take_succ_eq_append_getElem h, List.foldl_append, List.foldl_cons, List.foldl_nil, List.getD_eq_getElem?_getD, List.getElem?_eq_getElem h]
  rfl
end Go.Proofs.Ytpnnnhdhmdildaa.J
end
