/- Check-ins: which may be. -/
import Derived.Test.YtaoadbkoambjbaaQ4
import Derived.Test.YtaoadbkoambjbaaAbt7
set_option linter.unusedVariables false
set_option linter.unusedSimpArgs false
set_option linter.unusedSectionVars false
set_option maxRecDepth 10000
namespace Go.Proofs.Ytaoadbkoambjbaa.Ab
open Go Go.RowKit Go.Proofs.Ytaoadbkoambjbaa.Given
abbrev TFile : DTy := .prod .str (.prod .str .unit)
abbrev DFile : Type := (List UInt8) × ((List UInt8) × Unit)
abbrev DChk : Type := (List UInt8) × ((List UInt8) × (Int × ((List DFile) × ((List (List UInt8)) × ((List DTag) × ((List UInt8) × Unit))))))
instance : DecidableEq DFile := inferInstance
section
variable {K : Nat} (hK2 : K < 4611686018427387904)
include hK2
theorem sindex_loop (l : List (List UInt8)) (v : List UInt8) (hl : l.length < K) (t : Int) (ht : t = (l.length : Int)) : ∀ (r : List (List UInt8)) (k n : Nat), l.drop k = r → k ≤ l.length → r.length < n →
    ∃ x : Int, slices_Index_string_string.l2 K n l v t k = some x ∧ decide (0 ≤ x) = decide (v ∈ r) := by
  subst ht
  intro r
  induction r with
  | nil =>
    intro k n hd hk hn
    have := drop_nil hd hk
    subst this
    obtain ⟨n, rfl⟩ : ∃ m, n = m + 1 := ⟨n - 1, by omega⟩
    rw [slices_Index_string_string.l2_succ]
    exact ⟨-1, by simp, by simp⟩
  | cons x r ih =>
    intro k n hd hk hn
    obtain ⟨n, rfl⟩ : ∃ m, n = m + 1 := ⟨n - 1, by omega⟩
    simp only [List.length_cons] at hn
    obtain ⟨hg, hlt, hd'⟩ := getD_drop (d := DTy.dflt .str) hd
    have h1 : (k : Int) < (l.length : Int) := by omega
    obtain ⟨y, y1, y2⟩ := ih (k + 1) n hd' (by omega) (by omega)
    rw [slices_Index_string_string.l2_succ]
    simp only [h1, Int.natCast_nonneg, decide_true, cond_true, chks_t, chks_nil, Int.toNat_natCast, hg, wS (show k < 4611686018427387904 by omega), y1]
    by_cases e : v = x
    · exact ⟨k, by simp [e], by simp [e]⟩
    · exact ⟨y, by simp [e], by rw [y2]; simp [e]⟩
theorem scontains_eq {l : List (List UInt8)} {v : List UInt8} (hl : l.length < K) : slices_Contains_string_string.f K ((l, v, ()) : List (List UInt8) × List UInt8 × Unit) = some (decide (v ∈ l)) := by
  obtain ⟨x, x1, x2⟩ := sindex_loop hK2 l v hl _ rfl l 0 K rfl (Nat.zero_le _) hl
  have : slices_Index_string_string.f K ((l, v, ()) : List (List UInt8) × List UInt8 × Unit) = some x := by rw [slices_Index_string_string.eq]; exact x1
  rw [slices_Contains_string_string.eq, this, Option.bind_some, x2]
theorem sequal_loop (a b : List (List UInt8)) (hl : a.length = b.length) (h2 : a.length < K) (t : Int) (ht : t = (a.length : Int)) : ∀ (r : List (List UInt8)) (k n : Nat), a.drop k = r → k ≤ a.length → r.length < n →
    slices_Equal_string_string.l4 K n a b t k = some (decide (r = b.drop k)) := by
  subst ht
  intro r
  induction r with
  | nil =>
    intro k n hd hk hn
    have := drop_nil hd hk
    subst this
    obtain ⟨n, rfl⟩ : ∃ m, n = m + 1 := ⟨n - 1, by omega⟩
    have : b.drop a.length = [] := by rw [hl]; simp
    rw [slices_Equal_string_string.l4_succ, this]
    simp
  | cons x r ih =>
    intro k n hd hk hn
    obtain ⟨n, rfl⟩ : ∃ m, n = m + 1 := ⟨n - 1, by omega⟩
    simp only [List.length_cons] at hn
    obtain ⟨hg, hlt, hd'⟩ := getD_drop (d := DTy.dflt .str) hd
    obtain ⟨y, u, hy, gy, dy⟩ := list_drop_ext (y := DTy.dflt .str) (d := DTy.dflt .str) hl hd
    have h1 : (k : Int) < (a.length : Int) := by omega
    have h3 : (k : Int) < (b.length : Int) := by omega
    have ihn := ih (k + 1) n hd' (by omega) (by omega)
    rw [slices_Equal_string_string.l4_succ, hy]
    simp only [h1, h3, Int.natCast_nonneg, decide_true, cond_true, chks_t, chks_nil, Int.toNat_natCast, hg, gy, wS (show k < 4611686018427387904 by omega), ihn, dy]
    by_cases e : x = y <;> simp [e]
theorem equalS_eq {a b : List (List UInt8)} (h : a.length < K) : slices_Equal_string_string.f K ((a, b, ()) : List (List UInt8) × List (List UInt8) × Unit) = some (decide (a = b)) := by
  rw [slices_Equal_string_string.eq]
  by_cases e : a.length = b.length
  · have e1 : ((a.length : Int) = (b.length : Int)) := by omega
    have := sequal_loop hK2 a b e h _ rfl a 0 K rfl (Nat.zero_le _) h
    simp only [e1, decide_true, Bool.not_true, cond_false]
    rw [← e1]
    exact this
  · have e1 : ¬ ((a.length : Int) = (b.length : Int)) := by omega
    have e2 : ¬ a = b := fun x => e (by rw [x])
    simp [e1, e2]
theorem ssame_loop (a b : List (List UInt8)) (hl : a.length = b.length) (h2 : a.length < K) : ∀ (r : List (List UInt8)) (k n : Nat), a.drop k = r → k ≤ a.length → r.length < n →
    ammonitebook_Same_string.l4 K n a b k = some (decide (r = b.drop k)) := by
  intro r
  induction r with
  | nil =>
    intro k n hd hk hn
    have := drop_nil hd hk
    subst this
    obtain ⟨n, rfl⟩ : ∃ m, n = m + 1 := ⟨n - 1, by omega⟩
    have : b.drop a.length = [] := by rw [hl]; simp
    rw [ammonitebook_Same_string.l4_succ, this]
    simp
  | cons x r ih =>
    intro k n hd hk hn
    obtain ⟨n, rfl⟩ : ∃ m, n = m + 1 := ⟨n - 1, by omega⟩
    simp only [List.length_cons] at hn
    obtain ⟨hg, hlt, hd'⟩ := getD_drop (d := DTy.dflt .str) hd
    obtain ⟨y, u, hy, gy, dy⟩ := list_drop_ext (y := DTy.dflt .str) (d := DTy.dflt .str) hl hd
    have h1 : (k : Int) < (a.length : Int) := by omega
    have h3 : (k : Int) < (b.length : Int) := by omega
    have ihn := ih (k + 1) n hd' (by omega) (by omega)
    rw [ammonitebook_Same_string.l4_succ, hy]
    simp only [h1, h3, Int.natCast_nonneg, decide_true, cond_true, chks_t, chks_nil, Int.toNat_natCast, hg, gy, wS (show k < 4611686018427387904 by omega), ihn, dy]
    by_cases e : x = y <;> simp [e]
theorem sameS_eq {a b : List (List UInt8)} (h : a.length < K) : ammonitebook_Same_string.f K ((a, b, ()) : List (List UInt8) × List (List UInt8) × Unit) = some (decide (a = b)) := by
  rw [ammonitebook_Same_string.eq]
  by_cases e : a.length = b.length
  · have e1 : ((a.length : Int) = (b.length : Int)) := by omega
    have := ssame_loop hK2 a b e h a 0 K rfl (Nat.zero_le _) h
    simp only [e1, decide_true, Bool.not_true, cond_false]
    exact this
  · have e1 : ¬ ((a.length : Int) = (b.length : Int)) := by omega
    have e2 : ¬ a = b := fun x => e (by rw [x])
    simp [e1, e2]
theorem eqD_file (a b : DFile) : eqD TFile a b = decide (a = b) := by
  have _h := hK2
  obtain ⟨a1, a2, ⟨⟩⟩ := a
  obtain ⟨b1, b2, ⟨⟩⟩ := b
  show (decide (a1 = b1) && (decide (a2 = b2) && true)) = _
  by_cases e1 : a1 = b1 <;> by_cases e2 : a2 = b2 <;> simp [e1, e2]
theorem fequal_loop (a b : List DFile) (hl : a.length = b.length) (h2 : a.length < K) (t : Int) (ht : t = (a.length : Int)) : ∀ (r : List DFile) (k n : Nat), a.drop k = r → k ≤ a.length → r.length < n →
    slices_Equal_File.l4 K n a b t k = some (decide (r = b.drop k)) := by
  subst ht
  intro r
  induction r with
  | nil =>
    intro k n hd hk hn
    have := drop_nil hd hk
    subst this
    obtain ⟨n, rfl⟩ : ∃ m, n = m + 1 := ⟨n - 1, by omega⟩
    have : b.drop a.length = [] := by rw [hl]; simp
    rw [slices_Equal_File.l4_succ, this]
    simp
  | cons x r ih =>
    intro k n hd hk hn
    obtain ⟨n, rfl⟩ : ∃ m, n = m + 1 := ⟨n - 1, by omega⟩
    simp only [List.length_cons] at hn
    obtain ⟨hg, hlt, hd'⟩ := getD_drop (d := DTy.dflt TFile) hd
    obtain ⟨y, u, hy, gy, dy⟩ := list_drop_ext (y := DTy.dflt TFile) (d := DTy.dflt TFile) hl hd
    have h1 : (k : Int) < (a.length : Int) := by omega
    have h3 : (k : Int) < (b.length : Int) := by omega
    have ihn := ih (k + 1) n hd' (by omega) (by omega)
    rw [slices_Equal_File.l4_succ, hy]
    simp only [h1, h3, Int.natCast_nonneg, decide_true, cond_true, chks_t, chks_nil, Int.toNat_natCast, hg, gy, eqD_file hK2, wS (show k < 4611686018427387904 by omega), ihn, dy]
    by_cases e : x = y <;> simp [e]
theorem equalF_eq {a b : List DFile} (h : a.length < K) : slices_Equal_File.f K ((a, b, ()) : List DFile × List DFile × Unit) = some (decide (a = b)) := by
  rw [slices_Equal_File.eq]
  by_cases e : a.length = b.length
  · have e1 : ((a.length : Int) = (b.length : Int)) := by omega
    have := fequal_loop hK2 a b e h _ rfl a 0 K rfl (Nat.zero_le _) h
    simp only [e1, decide_true, Bool.not_true, cond_false]
    rw [← e1]
    exact this
  · have e1 : ¬ ((a.length : Int) = (b.length : Int)) := by omega
    have e2 : ¬ a = b := fun x => e (by rw [x])
    simp [e1, e2]
theorem fsame_loop (a b : List DFile) (hl : a.length = b.length) (h2 : a.length < K) : ∀ (r : List DFile) (k n : Nat), a.drop k = r → k ≤ a.length → r.length < n →
    ammonitebook_Same_File.l4 K n a b k = some (decide (r = b.drop k)) := by
  intro r
  induction r with
  | nil =>
    intro k n hd hk hn
    have := drop_nil hd hk
    subst this
    obtain ⟨n, rfl⟩ : ∃ m, n = m + 1 := ⟨n - 1, by omega⟩
    have : b.drop a.length = [] := by rw [hl]; simp
    rw [ammonitebook_Same_File.l4_succ, this]
    simp
  | cons x r ih =>
    intro k n hd hk hn
    obtain ⟨n, rfl⟩ : ∃ m, n = m + 1 := ⟨n - 1, by omega⟩
    simp only [List.length_cons] at hn
    obtain ⟨hg, hlt, hd'⟩ := getD_drop (d := DTy.dflt TFile) hd
    obtain ⟨y, u, hy, gy, dy⟩ := list_drop_ext (y := DTy.dflt TFile) (d := DTy.dflt TFile) hl hd
    have h1 : (k : Int) < (a.length : Int) := by omega
    have h3 : (k : Int) < (b.length : Int) := by omega
    have ihn := ih (k + 1) n hd' (by omega) (by omega)
    rw [ammonitebook_Same_File.l4_succ, hy]
    simp only [h1, h3, Int.natCast_nonneg, decide_true, cond_true, chks_t, chks_nil, Int.toNat_natCast, hg, gy, eqD_file hK2, wS (show k < 4611686018427387904 by omega), ihn, dy]
    by_cases e : x = y <;> simp [e]
theorem sameF_eq {a b : List DFile} (h : a.length < K) : ammonitebook_Same_File.f K ((a, b, ()) : List DFile × List DFile × Unit) = some (decide (a = b)) := by
  rw [ammonitebook_Same_File.eq]
  by_cases e : a.length = b.length
  · have e1 : ((a.length : Int) = (b.length : Int)) := by omega
    have := fsame_loop hK2 a b e h a 0 K rfl (Nat.zero_le _) h
    simp only [e1, decide_true, Bool.not_true, cond_false]
    exact this
  · have e1 : ¬ ((a.length : Int) = (b.length : Int)) := by omega
    have e2 : ¬ a = b := fun x => e (by rw [x])
    simp [e1, e2]
end
def okFile (whole : Bool) (f : DFile) : Bool := wordB f.1 && (isB f.2.1 || (!whole && decide (f.2.1 = [])))
def filePrev : Option DFile → DFile → Bool
  | none, _ => true
  | some p, f => Op.bytesLess p.1 f.1
def okFiles (whole : Bool) : Option DFile → List DFile → Bool
  | _, [] => true
  | p, f :: r => okFile whole f && (filePrev p f && okFiles whole (some f) r)
def okNames : List (List UInt8) → List (List UInt8) → Bool
  | _, [] => true
  | pre, s :: r => isB s && (!decide (s ∈ pre) && okNames (pre ++ [s]) r)
def rightK (c : DChk) : Bool :=
  (decide (c.1 = []) || isB c.1) && (decide (c.2.1.length ≤ 40) && ((decide (0 ≤ c.2.2.1) && decide (c.2.2.1 ≤ 1073741824)) && ((okFiles (decide (c.1 = [])) none c.2.2.2.1 && decide (c.2.2.2.1.length ≤ 12)) &&
    ((okNames [] c.2.2.2.2.1 && decide (c.2.2.2.2.1.length ≤ 3)) && (rightT true c.2.2.2.2.2.1 && wordB c.2.2.2.2.2.2.1)))))
def prevF (l : List DFile) (k : Nat) : Option DFile := if k = 0 then none else some (l.getD (k - 1) (DTy.dflt TFile))
structure FitsK (K : Nat) (c : DChk) : Prop where
  base : c.1.length < K
  nfiles : c.2.2.2.1.length < K
  files : ∀ f ∈ c.2.2.2.1, f.1.length < K ∧ f.2.1.length < K
  npar : c.2.2.2.2.1.length < K
  par : ∀ s ∈ c.2.2.2.2.1, s.length < K
  ntags : c.2.2.2.2.2.1.length < K
  tags : ∀ t ∈ c.2.2.2.2.2.1, t.2.1.length < K ∧ t.2.2.1.length < K
  user : c.2.2.2.2.2.2.1.length < K
theorem prevF_step {l : List DFile} {k : Nat} (hk : k ≤ l.length) (hl : l.length < 4611686018427387904) (f : DFile) (X : Bool) (z : Option Bool) (hz : z = some X) :
    (bif decide ((0 : Int) < (k : Int)) then
      (chks [(decide ((0 : Int) ≤ (IntKind.wrap .i64 ((k : Int) - (1 : Int))))), (decide ((IntKind.wrap .i64 ((k : Int) - (1 : Int))) < (List.length l : Int)))]
       (bif (!(Op.bytesLess (List.getD l (Int.toNat (IntKind.wrap .i64 ((k : Int) - (1 : Int)))) (DTy.dflt TFile)).1 f.1)) then (some false) else z))
    else z) = some (filePrev (prevF l k) f && X) := by
  subst hz
  unfold prevF
  cases k with
  | zero => rfl
  | succ j =>
    have b1 : (0 : Int) < ((j + 1 : Nat) : Int) := by omega
    have b2 : (j : Int) < (l.length : Int) := by omega
    simp only [b1, b2, decide_true, cond_true, wP (show j < 4611686018427387904 by omega), Int.natCast_nonneg, chks_t, chks_nil, Int.toNat_natCast, Nat.add_sub_cancel, Nat.add_eq_zero_iff, Nat.one_ne_zero, and_false, if_false, filePrev]
    generalize Op.bytesLess (l.getD j (DTy.dflt TFile)).1 f.1 = p
    cases p <;> rfl
section
variable {K : Nat} (hK : 1000000 ≤ K) (hK2 : K < 4611686018427387904)
include hK hK2
theorem files_loop (whole : Bool) (l : List DFile) (hb : ∀ f ∈ l, f.1.length < K ∧ f.2.1.length < K) (hl : l.length < K) (t : Int) (ht : t = (l.length : Int)) :
    ∀ (r : List DFile) (k n : Nat), l.drop k = r → k ≤ l.length → r.length < n → checkin_files.l2 K n l whole l t k = some (okFiles whole (prevF l k) r && decide (l.length ≤ 12)) := by
  subst ht
  intro r
  induction r with
  | nil =>
    intro k n hd hk hn
    have := drop_nil hd hk
    subst this
    obtain ⟨n, rfl⟩ : ∃ m, n = m + 1 := ⟨n - 1, by omega⟩
    rw [checkin_files.l2_succ]
    have : ((l.length : Int) ≤ 12) ↔ l.length ≤ 12 := by omega
    simp only [Int.lt_irrefl, decide_false, cond_false, okFiles, Bool.true_and, this]
  | cons f r ih =>
    intro k n hd hk hn
    obtain ⟨n, rfl⟩ : ∃ m, n = m + 1 := ⟨n - 1, by omega⟩
    simp only [List.length_cons] at hn
    obtain ⟨hg, hlt, hd'⟩ := getD_drop (d := DTy.dflt TFile) hd
    obtain ⟨b1, b2⟩ := hb f (List.mem_of_mem_drop (i := k) (by rw [hd]; exact List.mem_cons_self))
    have h1 : (k : Int) < (l.length : Int) := by omega
    have hnext : checkin_files.l2 K n l whole l (l.length : Int) ((k + 1 : Nat) : Int) = some (okFiles whole (some f) r && decide (l.length ≤ 12)) := by
      have := ih (k + 1) n hd' (by omega) (by omega)
      unfold prevF at this
      rw [if_neg (by omega), Nat.add_sub_cancel, hg] at this
      exact this
    have hz : ((hash_Is.f K ((f.2.1, ()) : List UInt8 × Unit)).bind fun v_2 => (bif (!v_2) then (bif whole then (some false) else (bif (!(decide (f.2.1 = ([] : List UInt8)))) then (some false) else (checkin_files.l2 K n l whole l (l.length : Int) ((k + 1 : Nat) : Int)))) else (checkin_files.l2 K n l whole l (l.length : Int) ((k + 1 : Nat) : Int)))) = some ((isB f.2.1 || (!whole && decide (f.2.1 = []))) && (okFiles whole (some f) r && decide (l.length ≤ 12))) := by
      rw [is_eq b2 (by omega), Option.bind_some, hnext]
      cases isB f.2.1 <;> cases whole <;> by_cases e : f.2.1 = [] <;> simp [e]
    have hs := prevF_step (k := k) (l := l) hk (by omega) f _ _ hz
    rw [checkin_files.l2_succ]
    simp only [h1, Int.natCast_nonneg, decide_true, cond_true, chks_t, chks_nil, Int.toNat_natCast, hg, wS (show k < 4611686018427387904 by omega), word_eq b1 (by omega), Option.bind_some]
    rw [okFiles, okFile]
    cases wordB f.1
    · rfl
    · refine Eq.trans hs ?_
      simp only [Bool.true_and]
      cases filePrev (prevF l k) f <;> cases (isB f.2.1 || (!whole && decide (f.2.1 = []))) <;> simp
theorem files_eq (whole : Bool) {l : List DFile} (hb : ∀ f ∈ l, f.1.length < K ∧ f.2.1.length < K) (hl : l.length < K) : checkin_files.f K ((l, whole, ()) : List DFile × Bool × Unit) = some (okFiles whole none l && decide (l.length ≤ 12)) := by
  rw [checkin_files.eq]
  exact files_loop hK hK2 whole l hb hl _ rfl l 0 K rfl (Nat.zero_le _) hl
theorem names_loop (m : Nat) (l : List (List UInt8)) (hb : ∀ s ∈ l, s.length < K) (hl : l.length < K) (t : Int) (ht : t = (l.length : Int)) :
    ∀ (r : List (List UInt8)) (k n : Nat), l.drop k = r → k ≤ l.length → r.length < n → checkin_names.l2 K n l (m : Int) l t k = some (okNames (l.take k) r && decide (l.length ≤ m)) := by
  subst ht
  intro r
  induction r with
  | nil =>
    intro k n hd hk hn
    have := drop_nil hd hk
    subst this
    obtain ⟨n, rfl⟩ : ∃ m, n = m + 1 := ⟨n - 1, by omega⟩
    rw [checkin_names.l2_succ]
    have : ((l.length : Int) ≤ (m : Int)) ↔ l.length ≤ m := by omega
    simp only [Int.lt_irrefl, decide_false, cond_false, okNames, Bool.true_and, this]
  | cons s r ih =>
    intro k n hd hk hn
    obtain ⟨n, rfl⟩ : ∃ m, n = m + 1 := ⟨n - 1, by omega⟩
    simp only [List.length_cons] at hn
    obtain ⟨hg, hlt, hd'⟩ := getD_drop (d := DTy.dflt .str) hd
    have b1 := hb s (List.mem_of_mem_drop (i := k) (by rw [hd]; exact List.mem_cons_self))
    have h1 : (k : Int) < (l.length : Int) := by omega
    have h2 : (k : Int) ≤ (l.length : Int) := by omega
    have hnext := ih (k + 1) n hd' (by omega) (by omega)
    have htk : l.take (k + 1) = l.take k ++ [s] := by
      rw [List.take_add_one]
      congr 1
      have := congrArg List.head? hd
      rw [List.head?_drop] at this
      rw [this]
      rfl
    rw [checkin_names.l2_succ]
    simp only [h1, h2, Int.natCast_nonneg, decide_true, cond_true, chks_t, chks_nil, Int.toNat_natCast, hg, wS (show k < 4611686018427387904 by omega), is_eq b1 (by omega), Option.bind_some, cutL_to, scontains_eq hK2 (show (l.take k).length < K by rw [List.length_take]; omega), hnext, htk]
    rw [okNames]
    cases isB s
    · rfl
    · by_cases e : s ∈ l.take k <;> simp [e]
theorem names_eq (m : Nat) {l : List (List UInt8)} (hb : ∀ s ∈ l, s.length < K) (hl : l.length < K) : checkin_names.f K ((l, (m : Int), ()) : List (List UInt8) × Int × Unit) = some (okNames [] l && decide (l.length ≤ m)) := by
  rw [checkin_names.eq]
  exact names_loop hK hK2 m l hb hl _ rfl l 0 K rfl (Nat.zero_le _) hl
theorem dated_eq (n : Int) : checkin_dated.f K ((n, ()) : Int × Unit) = some (decide (0 ≤ n) && decide (n ≤ 1073741824)) := by
  have _hK := hK
  rw [checkin_dated.eq]
  by_cases e : 0 ≤ n <;> simp [e]
theorem rightK_eq {c : DChk} (h : FitsK K c) : checkin_Right.f K ((c, ()) : DChk × Unit) = some (rightK c) := by
  have hn := names_eq hK hK2 3 h.par h.npar
  have h3 : (((3 : Nat) : Int)) = 3 := rfl
  rw [h3] at hn
  rw [checkin_Right.eq, is_eq h.base (by have := h.base; omega), files_eq hK hK2 _ h.files h.nfiles, dated_eq hK hK2, rightTags_eq hK hK2 true h.tags h.ntags, word_eq h.user (by have := h.user; omega), hn]
  simp only [Option.bind_some]
  have e1 : ((c.2.1.length : Int) ≤ 40) ↔ c.2.1.length ≤ 40 := by omega
  simp only [e1]
  unfold rightK
  generalize decide (c.2.1.length ≤ 40) = b1
  generalize (decide (0 ≤ c.2.2.1) && decide (c.2.2.1 ≤ 1073741824)) = b2
  generalize (okFiles (decide (c.1 = [])) none c.2.2.2.1 && decide (c.2.2.2.1.length ≤ 12)) = b3
  generalize (okNames [] c.2.2.2.2.1 && decide (c.2.2.2.2.1.length ≤ 3)) = b4
  generalize rightT true c.2.2.2.2.2.1 = b5
  generalize wordB c.2.2.2.2.2.2.1 = b6
  generalize decide (c.1 = []) = b7
  generalize isB c.1 = b8
  cases b7 <;> cases b8 <;> cases b1 <;> cases b2 <;> cases b3 <;> cases b4 <;> cases b5 <;> rfl
theorem rr_inner (ρ : St → Option Bool) (y : List UInt8) (t103 : List (List UInt8)) (t104 t105 : Int) (l : List (List UInt8)) (hl : l.length < K) (t : Int) (ht : t = (l.length : Int)) (c : DChk) :
    ∀ (r : List (List UInt8)) (k n : Nat), l.drop k = r → k ≤ l.length → r.length < n →
    ammoniteref10_RightCheckin.l15 K ρ n y t103 t104 t105 l t k c.1 c.2.1 c.2.2.1 c.2.2.2.1 c.2.2.2.2.1 c.2.2.2.2.2.1 c.2.2.2.2.2.2.1 = (bif decide (y ∈ r) then some false else ρ (ammoniteref10_RightCheckin.m10 t103 t104 (IntKind.wrap .i64 (t105 + 1)) c.1 c.2.1 c.2.2.1 c.2.2.2.1 c.2.2.2.2.1 c.2.2.2.2.2.1 c.2.2.2.2.2.2.1)) := by
  subst ht
  intro r
  induction r with
  | nil =>
    intro k n hd hk hn
    have := drop_nil hd hk
    subst this
    obtain ⟨n, rfl⟩ : ∃ m, n = m + 1 := ⟨n - 1, by omega⟩
    rw [ammoniteref10_RightCheckin.l15_succ]
    simp
  | cons x r ih =>
    intro k n hd hk hn
    obtain ⟨n, rfl⟩ : ∃ m, n = m + 1 := ⟨n - 1, by omega⟩
    simp only [List.length_cons] at hn
    obtain ⟨hg, hlt, hd'⟩ := getD_drop (d := DTy.dflt .str) hd
    have h1 : (k : Int) < (l.length : Int) := by omega
    have ihn := ih (k + 1) n hd' (by omega) (by omega)
    rw [ammoniteref10_RightCheckin.l15_succ]
    simp only [h1, Int.natCast_nonneg, decide_true, cond_true, chks_t, chks_nil, Int.toNat_natCast, hg, wS (show k < 4611686018427387904 by omega), ihn]
    by_cases e : y = x <;> simp [e]
theorem rr_names (c : DChk) (h : FitsK K c) (t : Int) (ht : t = (c.2.2.2.2.1.length : Int)) : ∀ (r : List (List UInt8)) (k n : Nat), c.2.2.2.2.1.drop k = r → k ≤ c.2.2.2.2.1.length → r.length < n →
    ammoniteref10_RightCheckin.l10 K n c.2.2.2.2.1 t k c.1 c.2.1 c.2.2.1 c.2.2.2.1 c.2.2.2.2.1 c.2.2.2.2.2.1 c.2.2.2.2.2.2.1 = some (okNames (c.2.2.2.2.1.take k) r && rightT true c.2.2.2.2.2.1) := by
  subst ht
  intro r
  have hnp := h.npar
  induction r with
  | nil =>
    intro k n hd hk hn
    have := drop_nil hd hk
    subst this
    obtain ⟨n, rfl⟩ : ∃ m, n = m + 1 := ⟨n - 1, by omega⟩
    rw [ammoniteref10_RightCheckin.l10_succ, rightOps_eq hK hK2 true h.tags h.ntags]
    simp [okNames]
  | cons s r ih =>
    intro k n hd hk hn
    obtain ⟨n, rfl⟩ : ∃ m, n = m + 1 := ⟨n - 1, by omega⟩
    simp only [List.length_cons] at hn
    obtain ⟨hg, hlt, hd'⟩ := getD_drop (d := DTy.dflt .str) hd
    have b1 := h.par s (List.mem_of_mem_drop (i := k) (by rw [hd]; exact List.mem_cons_self))
    have h1 : (k : Int) < (c.2.2.2.2.1.length : Int) := by omega
    have h2 : (k : Int) ≤ (c.2.2.2.2.1.length : Int) := by omega
    have htk : c.2.2.2.2.1.take (k + 1) = c.2.2.2.2.1.take k ++ [s] := by
      rw [List.take_add_one]
      congr 1
      have := congrArg List.head? hd
      rw [List.head?_drop] at this
      rw [this]
      rfl
    have hlt2 : (c.2.2.2.2.1.take k).length < K := by rw [List.length_take]; omega
    have hin := rr_inner hK hK2 (ammoniteref10_RightCheckin.r10 K n) s c.2.2.2.2.1 (c.2.2.2.2.1.length : Int) (k : Int) (c.2.2.2.2.1.take k) hlt2 _ rfl c (c.2.2.2.2.1.take k) 0 K rfl (Nat.zero_le _) hlt2
    have hnext : ammoniteref10_RightCheckin.r10 K n (ammoniteref10_RightCheckin.m10 c.2.2.2.2.1 (c.2.2.2.2.1.length : Int) ((k + 1 : Nat) : Int) c.1 c.2.1 c.2.2.1 c.2.2.2.1 c.2.2.2.2.1 c.2.2.2.2.2.1 c.2.2.2.2.2.2.1) = some (okNames (c.2.2.2.2.1.take (k + 1)) r && rightT true c.2.2.2.2.2.1) := ih (k + 1) n hd' (by omega) (by omega)
    rw [wS (show k < 4611686018427387904 by omega), hnext, htk] at hin
    have hz : ((0 : Nat) : Int) = 0 := rfl
    rw [hz] at hin
    rw [ammoniteref10_RightCheckin.l10_succ]
    simp only [h1, h2, Int.natCast_nonneg, decide_true, cond_true, chks_t, chks_nil, Int.toNat_natCast, hg, ris_eq b1 (by omega), Option.bind_some, cutL_to, hin]
    rw [okNames]
    cases isB s
    · rfl
    · by_cases e : s ∈ c.2.2.2.2.1.take k <;> simp [e]
theorem rr_files (c : DChk) (h : FitsK K c) (t : Int) (ht : t = (c.2.2.2.1.length : Int)) : ∀ (r : List DFile) (k n : Nat), c.2.2.2.1.drop k = r → k ≤ c.2.2.2.1.length → r.length < n →
    ammoniteref10_RightCheckin.l4 K n c.2.2.2.1 t k c.1 c.2.1 c.2.2.1 c.2.2.2.1 c.2.2.2.2.1 c.2.2.2.2.2.1 c.2.2.2.2.2.2.1 = some (okFiles (decide (c.1 = [])) (prevF c.2.2.2.1 k) r && (okNames [] c.2.2.2.2.1 && rightT true c.2.2.2.2.2.1)) := by
  subst ht
  intro r
  have hnf := h.nfiles
  induction r with
  | nil =>
    intro k n hd hk hn
    have := drop_nil hd hk
    subst this
    obtain ⟨n, rfl⟩ : ∃ m, n = m + 1 := ⟨n - 1, by omega⟩
    have := rr_names hK hK2 c h _ rfl c.2.2.2.2.1 0 K rfl (Nat.zero_le _) h.npar
    rw [ammoniteref10_RightCheckin.l4_succ]
    simp only [Int.lt_irrefl, decide_false, cond_false, okFiles, Bool.true_and]
    exact this
  | cons f r ih =>
    intro k n hd hk hn
    obtain ⟨n, rfl⟩ : ∃ m, n = m + 1 := ⟨n - 1, by omega⟩
    simp only [List.length_cons] at hn
    obtain ⟨hg, hlt, hd'⟩ := getD_drop (d := DTy.dflt TFile) hd
    obtain ⟨b1, b2⟩ := h.files f (List.mem_of_mem_drop (i := k) (by rw [hd]; exact List.mem_cons_self))
    have h1 : (k : Int) < (c.2.2.2.1.length : Int) := by omega
    have hnext : ammoniteref10_RightCheckin.l4 K n c.2.2.2.1 (c.2.2.2.1.length : Int) (IntKind.wrap .i64 ((k : Int) + 1)) c.1 c.2.1 c.2.2.1 c.2.2.2.1 c.2.2.2.2.1 c.2.2.2.2.2.1 c.2.2.2.2.2.2.1 = some (okFiles (decide (c.1 = [])) (some f) r && (okNames [] c.2.2.2.2.1 && rightT true c.2.2.2.2.2.1)) := by
      have := ih (k + 1) n hd' (by omega) (by omega)
      unfold prevF at this
      rw [if_neg (by omega), Nat.add_sub_cancel, hg] at this
      rw [wS (by omega)]
      exact this
    have hs := prevF_step (k := k) (l := c.2.2.2.1) hk (by omega) f _ _ hnext
    rw [ammoniteref10_RightCheckin.l4_succ]
    simp only [h1, Int.natCast_nonneg, decide_true, cond_true, chks_t, chks_nil, Int.toNat_natCast, hg, rword_eq b1 (by omega), ris_eq b2 (by omega), Option.bind_some]
    rw [okFiles, okFile]
    simp only [Bool.and_assoc] at hs ⊢
    have h0 : isB [] = false := by decide
    cases wordB f.1
    · rfl
    · by_cases e : f.2.1 = []
      · by_cases e2 : c.1 = []
        · simp [e, e2, h0]
        · have hs' := hs
          simp only [e2, decide_false] at hs'
          simp only [e, e2, h0, decide_true, decide_false, Bool.not_true, Bool.not_false, cond_true, cond_false, Bool.true_and, Bool.false_or]
          exact hs'
      · simp only [e, decide_false, Bool.not_false, cond_true, cond_false, Bool.and_false, Bool.or_false, Bool.true_and]
        cases isB f.2.1
        · rfl
        · simp only [Bool.not_true, cond_false, Bool.true_and]
          exact hs
theorem rrightK_eq {c : DChk} (h : FitsK K c) : ammoniteref10_RightCheckin.f K ((c, ()) : DChk × Unit) = some (rightK c) := by
  have hf := rr_files hK hK2 c h _ rfl c.2.2.2.1 0 K rfl (Nat.zero_le _) h.nfiles
  have hz : ((0 : Nat) : Int) = 0 := rfl
  rw [hz] at hf
  rw [ammoniteref10_RightCheckin.eq, hf, ris_eq h.base (by have := h.base; omega), rword_eq h.user (by have := h.user; omega)]
  simp only [Option.bind_some]
  have e1 : ((40 : Int) < (c.2.1.length : Int)) ↔ ¬ c.2.1.length ≤ 40 := by omega
  have e2 : ((12 : Int) < (c.2.2.2.1.length : Int)) ↔ ¬ c.2.2.2.1.length ≤ 12 := by omega
  have e3 : ((3 : Int) < (c.2.2.2.2.1.length : Int)) ↔ ¬ c.2.2.2.2.1.length ≤ 3 := by omega
  have e4 : (c.2.2.1 < 0) ↔ ¬ 0 ≤ c.2.2.1 := by omega
  have e5 : ((1073741824 : Int) < c.2.2.1) ↔ ¬ c.2.2.1 ≤ 1073741824 := by omega
  simp only [e1, e2, e3, e4, e5, decide_not]
  unfold rightK
  have ep : prevF c.2.2.2.1 0 = none := rfl
  rw [ep]
  generalize decide (c.2.1.length ≤ 40) = b1
  generalize decide (0 ≤ c.2.2.1) = b2
  generalize decide (c.2.2.1 ≤ 1073741824) = b3
  generalize okFiles (decide (c.1 = [])) none c.2.2.2.1 = b4
  generalize decide (c.2.2.2.1.length ≤ 12) = b5
  generalize okNames [] c.2.2.2.2.1 = b6
  generalize decide (c.2.2.2.2.1.length ≤ 3) = b7
  generalize rightT true c.2.2.2.2.2.1 = b8
  generalize wordB c.2.2.2.2.2.2.1 = b9
  generalize decide (c.1 = []) = b10
  generalize isB c.1 = b11
  cases b10 <;> cases b11 <;> cases b1 <;> cases b2 <;> cases b3 <;> cases b5 <;> cases b7 <;> cases b9 <;> (try rfl) <;> cases b4 <;> cases b6 <;> cases b8 <;> rfl
end
end Go.Proofs.Ytaoadbkoambjbaa.Ab
