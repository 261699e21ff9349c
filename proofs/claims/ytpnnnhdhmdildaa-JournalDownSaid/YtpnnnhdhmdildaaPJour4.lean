/- The journal, plainly: commits by their answers. No program in sight. -/
import Derived.Test.YtpnnnhdhmdildaaPJour3
set_option linter.unusedVariables false
set_option linter.unusedSimpArgs false
namespace Go.Proofs.Ytpnnnhdhmdildaa.J
open Go.Proofs.Ytpnnnhdhmdildaa.Given
theorem open_good {D : DS} {l : List ByteArray} {e : Nat} (h : Good D.secs l e) : JS.open D = ⟨l, e, false⟩ := by
  unfold JS.open
  rw [h.scan]
/-- How many pieces a text has. -/
def np (s : ByteArray) : Nat := (piecesL s).length
theorem np_pos (s : ByteArray) : 1 ≤ np s := pieces_pos s
theorem np_short {s : ByteArray} (h : s.size ≤ 30) : np s = 1 := by unfold np; rw [pieces_short h]; rfl
theorem np_long {s : ByteArray} (h : 30 < s.size) : np s = np (s.extract 30 s.size) + 1 := by unfold np; rw [pieces_long h]; rfl
theorem np_eq : ∀ (n : Nat) (s : ByteArray), s.size ≤ n → np s = max ((s.size + 29) / 30) 1 := by
  intro n
  induction n with
  | zero => intro s h; rw [np_short (by omega)]; omega
  | succ n ih =>
    intro s h
    by_cases hs : 30 < s.size
    · rw [np_long hs, ih _ (by rw [ByteArray.size_extract]; omega), ByteArray.size_extract]
      omega
    · rw [np_short (by omega)]
      omega
theorem commit_ok {J : JS} {D : DS} (hG : Good D.secs J.l J.e) (hD : D.Ok) (hJ : J.down = false) (hd : D.down = false) (s : ByteArray) (hl : J.e + np s ≤ D.secs.length) (ht : D.armed = false ∨ (np s : Int) ≤ D.left) (hlow : -4611686018427387904 + (np s : Int) ≤ D.left) :
    ∃ q, J.commit D s = (0, ⟨J.l ++ [s], J.e + np s, false⟩, { D with secs := q, left := D.left - (np s : Int) }) ∧ q.length = D.secs.length ∧ Good q (J.l ++ [s]) (J.e + np s) ∧ DS.Ok { D with secs := q, left := D.left - (np s : Int) } := by
  unfold np at *
  have h1 := commitW_good (piecesL s) D J.e (pieces_size s.size s (Nat.le_refl _)) hd hl ht
  have h3 := hG.more s hl
  have hlen : (D.secs.take J.e ++ piecesL s ++ D.secs.drop (J.e + (piecesL s).length)).length = D.secs.length := by
    rw [List.length_append, List.length_append, List.length_take, List.length_drop]
    have := hG.le
    omega
  refine ⟨D.secs.take J.e ++ piecesL s ++ D.secs.drop (J.e + (piecesL s).length), ?_, hlen, h3, ?_⟩
  · unfold JS.commit
    rw [if_neg (by rw [hJ]; decide), if_neg (by omega), h1, if_pos rfl]
  · refine ⟨by rw [hlen]; exact hD.one, by rw [hlen]; exact hD.most, fun x hx => ?_, hD.keep0, hD.keep1, ?_, ?_⟩
    · rcases List.mem_append.1 hx with hx | hx
      · rcases List.mem_append.1 hx with hx | hx
        · exact hD.size x (List.mem_of_mem_take hx)
        · exact pieces_size s.size s (Nat.le_refl _) x hx
      · exact hD.size x (List.mem_of_mem_drop hx)
    · show -4611686018427387904 ≤ D.left - _
      omega
    · have := hD.left1
      show D.left - _ ≤ 9223372036854775807
      omega
theorem commit_fulls {J : JS} {D : DS} (hJ : J.down = false) (s : ByteArray) (hl : D.secs.length < J.e + np s) : J.commit D s = (6, J, D) := by
  unfold np at hl
  unfold JS.commit
  rw [if_neg (by rw [hJ]; decide), if_pos (by omega)]
theorem commit_downs {J : JS} {D : DS} (hJ : J.down = true) (s : ByteArray) : J.commit D s = (9, J, D) := by
  unfold JS.commit
  rw [if_pos hJ]
theorem commit_tears {J : JS} {D : DS} {m : Nat} (hG : Good D.secs J.l J.e) (hD : D.Ok) (hJ : J.down = false) (hd : D.down = false) (s : ByteArray) (hl : J.e + np s ≤ D.secs.length) (ha : D.armed = true) (hz : D.left = (m : Int)) (hm : m < np s) :
    ∃ q, J.commit D s = (9, ⟨J.l, J.e, true⟩, { secs := q, armed := false, left := 0, keep := D.keep, down := true }) ∧ q.length = D.secs.length ∧ DS.Ok { secs := q, armed := false, left := 0, keep := D.keep, down := true } ∧
      if m + 1 = np s ∧ D.keep = 32 then Good q (J.l ++ [s]) (J.e + np s) else Good q J.l J.e := by
  unfold np at *
  obtain ⟨q, h1, h2, h3, h4⟩ := torn_good hG hD s hm hl hd ha hz
  refine ⟨q, ?_, h2, ⟨by rw [h2]; exact hD.one, by rw [h2]; exact hD.most, h3, hD.keep0, hD.keep1, (by show (-4611686018427387904 : Int) ≤ 0; decide), (by show (0 : Int) ≤ 9223372036854775807; decide)⟩, h4⟩
  unfold JS.commit
  rw [if_neg (by rw [hJ]; decide), if_neg (by omega), h1, if_neg (by simp)]
end Go.Proofs.Ytpnnnhdhmdildaa.J
