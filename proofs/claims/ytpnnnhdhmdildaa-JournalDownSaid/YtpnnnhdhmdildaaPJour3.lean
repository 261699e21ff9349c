/- The journal, plainly: what a commit leaves, torn or not. No program in sight. -/
import Derived.Test.YtpnnnhdhmdildaaPJour2
set_option linter.unusedVariables false
set_option linter.unusedSimpArgs false
namespace Go.Proofs.Ytpnnnhdhmdildaa.J
open Go.Proofs.Ytpnnnhdhmdildaa.Given
/-- A disk whose first e sectors tell l, and whose others end nothing. -/
structure Good (q : List ByteArray) (l : List ByteArray) (e : Nat) : Prop where
  le : e ≤ q.length
  front : ∀ r, scanGo (q.take e ++ r) 0 ⟨#[]⟩ [] 0 = scanGo r e ⟨#[]⟩ l e
  rest : ∀ s ∈ q.drop e, mk s ≠ 2
theorem Good.scan {q l : List ByteArray} {e : Nat} (h : Good q l e) : scan q = (l, e) := by
  have := h.front (q.drop e)
  rw [List.take_append_drop] at this
  unfold J.scan
  rw [this, scan_none _ _ _ _ _ h.rest]
theorem wholeS_mk {s : ByteArray} (h : s.size < 32) : mk (wholeS s) = 0 := by
  unfold mk wholeS
  rw [getD_list, ByteArray.data_append, Array.toList_append, List.getD_eq_getElem?_getD, List.getElem?_append_right (by rw [list_size]; omega), list_size]
  show ((List.replicate (32 - s.size) (0 : UInt8))[31 - s.size]?.getD 0).toNat = 0
  rw [List.getElem?_replicate]
  split <;> rfl
/-- All sectors empty: nothing is told. -/
theorem Good.fresh (q : List ByteArray) (h : ∀ s ∈ q, J.mk s ≠ 2) : Good q [] 0 := ⟨Nat.zero_le _, fun r => by rw [List.take_zero]; rfl, fun s hs => h s (by simpa using hs)⟩
/-- A transaction wholly written. -/
theorem Good.more {q l : List ByteArray} {e : Nat} (h : Good q l e) (s : ByteArray) (hl : e + (piecesL s).length ≤ q.length) : Good (q.take e ++ piecesL s ++ q.drop (e + (piecesL s).length)) (l ++ [s]) (e + (piecesL s).length) := by
  have hte : (q.take e).length = e := by rw [List.length_take]; exact Nat.min_eq_left h.le
  refine ⟨?_, fun r => ?_, fun x hx => ?_⟩
  · rw [List.length_append, List.length_append, hte]; omega
  · rw [List.take_append_of_le_length (by rw [List.length_append, hte]; exact Nat.le_refl _), List.take_of_length_le (by rw [List.length_append, hte]; exact Nat.le_refl _), List.append_assoc, h.front, scan_pieces s.size s (Nat.le_refl _), show (⟨#[]⟩ : ByteArray) ++ s = s from ByteArray.empty_append]
  · rw [List.drop_append_of_le_length (by rw [List.length_append, hte]; exact Nat.le_refl _), List.drop_of_length_le (by rw [List.length_append, hte]; exact Nat.le_refl _), List.nil_append] at hx
    refine h.rest x ?_
    rw [← List.drop_drop] at hx
    exact List.mem_of_mem_drop hx
/-- Sectors behind the end are written with what ends nothing. -/
theorem Good.scrap {q l : List ByteArray} {e i : Nat} (h : Good q l e) (hi : e ≤ i) (p : ByteArray) (hp : J.mk p ≠ 2) : Good (q.set i p) l e := by
  refine ⟨by rw [List.length_set]; exact h.le, fun r => by rw [List.take_set_of_le hi]; exact h.front r, fun x hx => ?_⟩
  rw [List.drop_set] at hx
  split at hx
  · exact h.rest x hx
  · rcases List.mem_or_eq_of_mem_set hx with hx | rfl
    · exact h.rest x hx
    · exact hp
theorem pieces_mk : ∀ (n : Nat) (s : ByteArray), s.size ≤ n → ∀ j, j < (piecesL s).length → mk ((piecesL s).getD j ⟨#[]⟩) = if j + 1 = (piecesL s).length then 2 else 1 := by
  intro n
  induction n with
  | zero =>
    intro s h j hj
    rw [pieces_short (by omega)] at hj ⊢
    simp only [List.length_cons, List.length_nil] at hj ⊢
    obtain rfl : j = 0 := by omega
    rw [if_pos rfl]
    exact piece_mk 2 (by omega)
  | succ n ih =>
    intro s h j hj
    by_cases hs : 30 < s.size
    · rw [pieces_long hs] at hj ⊢
      have hp := pieces_pos (s.extract 30 s.size)
      cases j with
      | zero =>
        rw [List.getD_cons_zero, List.length_cons, if_neg (by omega)]
        exact piece_mk 1 (by rw [ByteArray.size_extract]; omega)
      | succ j =>
        rw [List.length_cons] at hj
        rw [List.getD_cons_succ, ih _ (by rw [ByteArray.size_extract]; omega) j (by omega), List.length_cons]
        simp
    · rw [pieces_short (by omega)] at hj ⊢
      simp only [List.length_cons, List.length_nil] at hj ⊢
      obtain rfl : j = 0 := by omega
      rw [if_pos rfl]
      exact piece_mk 2 (by omega)
/-- A piece torn at k: its last byte is old, but for k = 32. -/
theorem mk_torn {p o : ByteArray} {k : Nat} (hp : p.size = 32) (ho : o.size = 32) (hk : k < 32) : mk (p.extract 0 k ++ o.extract k 32) = mk o := by
  unfold mk
  rw [getD_list, getD_list, ByteArray.data_append, Array.toList_append, ByteArray.data_extract, ByteArray.data_extract, Array.toList_extract, Array.toList_extract]
  have h1 : ((p.data.toList.drop 0).take (k - 0)).length = k := by
    rw [List.length_take, List.length_drop, list_size, hp]; omega
  show ((List.take (k - 0) (List.drop 0 p.data.toList) ++ List.take (32 - k) (List.drop k o.data.toList)).getD 31 0).toNat = _
  rw [List.getD_eq_getElem?_getD, List.getD_eq_getElem?_getD, List.getElem?_append_right (by rw [h1]; omega), h1, List.getElem?_take_of_lt (by omega), List.getElem?_drop, show k + (31 - k) = 31 by omega]
theorem torn_full {p o : ByteArray} (hp : p.size = 32) (ho : o.size = 32) : p.extract 0 32 ++ o.extract 32 32 = p := by
  apply bext
  rw [ByteArray.data_append, ByteArray.data_extract, ByteArray.data_extract, Array.toList_append, Array.toList_extract, Array.toList_extract]
  show List.take (32 - 0) (List.drop 0 p.data.toList) ++ List.take (32 - 32) (List.drop 32 o.data.toList) = p.data.toList
  rw [List.drop_zero, List.take_of_length_le (by rw [list_size, hp]; omega)]
  simp
/-- A write that is torn. -/
theorem write_tears {D : DS} {i : Nat} {p : ByteArray} (hp : p.size = 32) (hd : D.down = false) (hi : i < D.secs.length) (ha : D.armed = true) (hl : D.left = 0) :
    D.write (i : Int) p = (false, { D with secs := D.secs.set i (p.extract 0 D.keep.toNat ++ (D.secs.getD i ⟨#[]⟩).extract D.keep.toNat 32), armed := false, down := true }) := by
  unfold DS.write
  rw [if_pos (show D.fits (i : Int) p from ⟨hd, by omega, by omega, by omega⟩), if_pos ⟨ha, hl⟩, Int.toNat_natCast, wholeS_full hp]
/-- What a torn commit leaves: m pieces were written, the next one is torn. -/
theorem commitW_torn : ∀ (m : Nat) (ps : List ByteArray) (D : DS) (at_ : Nat), m < ps.length → (∀ p ∈ ps, p.size = 32) → D.down = false → at_ + ps.length ≤ D.secs.length → D.armed = true → D.left = (m : Int) →
    ∃ q, commitW D at_ ps = (false, { secs := q, armed := false, left := 0, keep := D.keep, down := true }) ∧
      q = (D.secs.take at_ ++ ps.take m ++ D.secs.drop (at_ + m)).set (at_ + m) ((ps.getD m ⟨#[]⟩).extract 0 D.keep.toNat ++ (D.secs.getD (at_ + m) ⟨#[]⟩).extract D.keep.toNat 32) := by
  intro m
  induction m with
  | zero =>
    intro ps D at_ hm hp hd hl ha hz
    cases ps with
    | nil => simp at hm
    | cons p r =>
      rw [List.length_cons] at hl
      have hz0 : D.left = 0 := by simpa using hz
      have hw := write_tears (D := D) (i := at_) (hp p (List.mem_cons_self ..)) hd (by omega) ha hz0
      refine ⟨_, ?_, rfl⟩
      rw [commitW, hw, if_neg (by simp)]
      cases D
      simp only [] at hz0
      simp [hz0]
  | succ m ih =>
    intro ps D at_ hm hp hd hl ha hz
    cases ps with
    | nil => simp at hm
    | cons p r =>
      rw [List.length_cons] at hl hm
      have hw := write_good (D := D) (i := at_) (hp p (List.mem_cons_self ..)) hd (by omega) (.inr (by omega))
      obtain ⟨q, h1, h2⟩ := ih r { D with secs := D.secs.set at_ p, left := D.left - 1 } (at_ + 1) (by omega) (fun x hx => hp x (List.mem_cons_of_mem _ hx)) hd (by show at_ + 1 + r.length ≤ (D.secs.set at_ p).length; rw [List.length_set]; omega) ha (by show D.left - 1 = (m : Int); omega)
      refine ⟨q, ?_, ?_⟩
      · rw [commitW, hw, if_pos rfl, h1]
      · rw [h2]
        have hl' : at_ < D.secs.length := by omega
        show (List.take (at_ + 1) (D.secs.set at_ p) ++ List.take m r ++ List.drop (at_ + 1 + m) (D.secs.set at_ p)).set (at_ + 1 + m) (ByteArray.extract (r.getD m ⟨#[]⟩) 0 D.keep.toNat ++ ByteArray.extract ((D.secs.set at_ p).getD (at_ + 1 + m) ⟨#[]⟩) D.keep.toNat 32) = _
        rw [take_set' _ _ _ hl', List.drop_set_of_lt (by omega), List.getD_cons_succ, show at_ + 1 + m = at_ + (m + 1) by omega, List.take_succ_cons]
        have e : (D.secs.set at_ p).getD (at_ + (m + 1)) ⟨#[]⟩ = D.secs.getD (at_ + (m + 1)) ⟨#[]⟩ := by
          rw [List.getD_eq_getElem?_getD, List.getD_eq_getElem?_getD, List.getElem?_set_ne (by omega)]
        rw [e]
        simp
theorem mem_getD {q : List ByteArray} {i : Nat} {x : ByteArray} (h : x ∈ q) : ∃ j, j < q.length ∧ q.getD j ⟨#[]⟩ = x := by
  obtain ⟨j, hj, e⟩ := List.getElem_of_mem h
  exact ⟨j, hj, by rw [List.getD_eq_getElem?_getD, List.getElem?_eq_getElem hj, e]; rfl⟩
/-- Some pieces, not the last one, lie behind the end. -/
theorem Good.part {q l : List ByteArray} {e : Nat} (h : Good q l e) (s : ByteArray) (m : Nat) (hm : m < (piecesL s).length) (hl : e + (piecesL s).length ≤ q.length) : Good (q.take e ++ (piecesL s).take m ++ q.drop (e + m)) l e := by
  have hte : (q.take e).length = e := by rw [List.length_take]; exact Nat.min_eq_left h.le
  have hpm : ((piecesL s).take m).length = m := by rw [List.length_take]; omega
  refine ⟨?_, fun r => ?_, fun x hx => ?_⟩
  · rw [List.length_append, List.length_append, hte]; omega
  · rw [List.append_assoc, List.take_append_of_le_length (by rw [hte]; exact Nat.le_refl _), List.take_of_length_le (by rw [hte]; exact Nat.le_refl _)]
    exact h.front r
  · rw [List.append_assoc, List.drop_append_of_le_length (by rw [hte]; exact Nat.le_refl _), List.drop_of_length_le (by rw [hte]; exact Nat.le_refl _), List.nil_append] at hx
    rcases List.mem_append.1 hx with hx | hx
    · obtain ⟨j, hj, rfl⟩ := mem_getD (i := 0) hx
      rw [hpm] at hj
      have e1 : ((piecesL s).take m).getD j ⟨#[]⟩ = (piecesL s).getD j ⟨#[]⟩ := by
        rw [List.getD_eq_getElem?_getD, List.getD_eq_getElem?_getD, List.getElem?_take_of_lt hj]
      rw [e1, pieces_mk s.size s (Nat.le_refl _) j (by omega), if_neg (by omega)]
      decide
    · refine h.rest x ?_
      rw [← List.drop_drop] at hx
      exact List.mem_of_mem_drop hx
theorem getD_size {q : List ByteArray} {i n : Nat} (h : ∀ x ∈ q, x.size = n) (hi : i < q.length) : (q.getD i ⟨#[]⟩).size = n := by
  rw [List.getD_eq_getElem?_getD, List.getElem?_eq_getElem hi]
  exact h _ (List.getElem_mem hi)
/-- A torn commit: the transaction is there just if its last piece was wholly written. -/
theorem torn_good {D : DS} {l : List ByteArray} {e m : Nat} (hG : Good D.secs l e) (hD : D.Ok) (s : ByteArray) (hm : m < (piecesL s).length) (hl : e + (piecesL s).length ≤ D.secs.length) (hd : D.down = false) (ha : D.armed = true) (hz : D.left = (m : Int)) :
    ∃ q, commitW D e (piecesL s) = (false, { secs := q, armed := false, left := 0, keep := D.keep, down := true }) ∧ q.length = D.secs.length ∧ (∀ x ∈ q, x.size = 32) ∧
      if m + 1 = (piecesL s).length ∧ D.keep = 32 then Good q (l ++ [s]) (e + (piecesL s).length) else Good q l e := by
  obtain ⟨q, h1, h2⟩ := commitW_torn m (piecesL s) D e hm (pieces_size s.size s (Nat.le_refl _)) hd hl ha hz
  have hte : (D.secs.take e).length = e := by rw [List.length_take]; exact Nat.min_eq_left hG.le
  have hpm : ((piecesL s).take m).length = m := by rw [List.length_take]; omega
  have k0 := hD.keep0
  have k1 := hD.keep1
  have hps := getD_size (pieces_size s.size s (Nat.le_refl _)) hm
  have hos := getD_size hD.size (i := e + m) (by omega)
  have hgp := hG.part s m hm hl
  have hmk := pieces_mk s.size s (Nat.le_refl _) m hm
  refine ⟨q, h1, ?_, fun x hx => ?_, ?_⟩
  · rw [h2, List.length_set, List.length_append, List.length_append, hte, hpm, List.length_drop]; omega
  · rw [h2] at hx
    rcases List.mem_or_eq_of_mem_set hx with hx | rfl
    · rcases List.mem_append.1 hx with hx | hx
      · rcases List.mem_append.1 hx with hx | hx
        · exact hD.size x (List.mem_of_mem_take hx)
        · exact pieces_size s.size s (Nat.le_refl _) x (List.mem_of_mem_take hx)
      · exact hD.size x (List.mem_of_mem_drop hx)
    · rw [ByteArray.size_append, ByteArray.size_extract, ByteArray.size_extract, hps, hos]; omega
  · by_cases hk : D.keep = 32
    · have ek : D.keep.toNat = 32 := by omega
      rw [ek, torn_full hps hos] at h2
      by_cases hlast : m + 1 = (piecesL s).length
      · rw [if_pos ⟨hlast, hk⟩]
        have e2 : q = D.secs.take e ++ piecesL s ++ D.secs.drop (e + (piecesL s).length) := by
          rw [h2, List.append_assoc, List.set_append_right _ _ (by rw [hte]; omega), hte, show e + m - e = m by omega, List.set_append_right _ _ (by rw [hpm]; exact Nat.le_refl _), hpm, Nat.sub_self]
          have hdr : D.secs.drop (e + m) = D.secs.getD (e + m) ⟨#[]⟩ :: D.secs.drop (e + m + 1) := by
            rw [List.drop_eq_getElem_cons (show e + m < D.secs.length by omega), List.getD_eq_getElem?_getD, List.getElem?_eq_getElem (show e + m < D.secs.length by omega)]
            rfl
          rw [hdr, List.set_cons_zero, List.append_assoc, ← hlast, show e + (m + 1) = e + m + 1 by omega]
          congr 1
          have ht : (piecesL s) = (piecesL s).take m ++ [(piecesL s).getD m ⟨#[]⟩] := by
            have h3 := List.take_succ_eq_append_getElem hm
            rw [List.take_of_length_le (by omega)] at h3
            rw [List.getD_eq_getElem?_getD, List.getElem?_eq_getElem hm]
            exact h3
          have h4 : (piecesL s).take m ++ (piecesL s).getD m ⟨#[]⟩ :: D.secs.drop (e + m + 1) = ((piecesL s).take m ++ [(piecesL s).getD m ⟨#[]⟩]) ++ D.secs.drop (e + m + 1) := by simp
          rw [h4, ← ht]
        rw [e2]
        exact hG.more s hl
      · rw [if_neg (fun h => hlast h.1), h2]
        rw [if_neg hlast] at hmk
        exact hgp.scrap (by omega) _ (by rw [hmk]; decide)
    · rw [if_neg (fun h => hk h.2), h2]
      refine hgp.scrap (by omega) _ ?_
      rw [mk_torn hps hos (by omega)]
      refine hG.rest _ ?_
      rw [List.mem_iff_getElem?]
      refine ⟨m, ?_⟩
      rw [List.getElem?_drop, List.getD_eq_getElem?_getD, List.getElem?_eq_getElem (show e + m < D.secs.length by omega)]
      rfl
/-- A commit that goes well. -/
theorem commit_good {D : DS} {l : List ByteArray} {e : Nat} (hG : Good D.secs l e) (s : ByteArray) (hl : e + (piecesL s).length ≤ D.secs.length) (hd : D.down = false) (ht : D.armed = false ∨ ((piecesL s).length : Int) ≤ D.left) :
    ∃ q, commitW D e (piecesL s) = (true, { D with secs := q, left := D.left - (piecesL s).length }) ∧ q.length = D.secs.length ∧ Good q (l ++ [s]) (e + (piecesL s).length) := by
  refine ⟨_, commitW_good (piecesL s) D e (pieces_size s.size s (Nat.le_refl _)) hd hl ht, ?_, hG.more s hl⟩
  rw [List.length_append, List.length_append, List.length_take, List.length_drop]
  have := hG.le
  omega
end Go.Proofs.Ytpnnnhdhmdildaa.J
