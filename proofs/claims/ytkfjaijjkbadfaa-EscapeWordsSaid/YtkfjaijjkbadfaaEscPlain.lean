/- Plain lemmas on words: Read and Put are each other's; parts joined by blanks. -/
import Derived.Test.YtkfjaijjkbadfaaEscBack
import Derived.Lib.IndexLaws
set_option linter.unusedVariables false
set_option linter.unusedSimpArgs false
namespace Go.Proofs.Ytkfjaijjkbadfaa.Given
open Go.RowKit Go.Proofs.YtkfjaijjkbadfaaW.PrintWords Go.Proofs.YtkfjaijjkbadfaaW.PrintMore
/-! ### on lists, more -/
theorem escL_un : ∀ (n : Nat) (l m : List Int), l.length ≤ n → unL l = some m → escL m = l := by
  intro n
  induction n with
  | zero =>
    intro l m hl h
    have : l = [] := List.eq_nil_of_length_eq_zero (by omega)
    subst this
    simp [unL] at h
    subst h
    rfl
  | succ n ih =>
    intro l m hl h
    cases l with
    | nil => simp [unL] at h; subst h; rfl
    | cons c r =>
      simp only [List.length_cons] at hl
      by_cases c9 : c = 92
      · subst c9
        cases r with
        | nil => simp [unL] at h
        | cons d r =>
          simp only [List.length_cons] at hl
          simp only [unL, if_true] at h
          obtain ⟨x, hx, h⟩ := Option.bind_eq_some_iff.1 h
          obtain ⟨m', hm', rfl⟩ := Option.map_eq_some_iff.1 h
          have e := ih r m' (by omega) hm'
          simp only [escL, e]
          split at hx
          · rename_i g; injection hx with hx; subst hx; subst g; rfl
          · split at hx
            · rename_i g; injection hx with hx; subst hx; subst g; rfl
            · split at hx
              · rename_i g; injection hx with hx; subst hx; subst g; rfl
              · cases hx
      · rw [unL_lit _ c9] at h
        split at h
        · cases h
        · rename_i g
          obtain ⟨m', hm', rfl⟩ := Option.map_eq_some_iff.1 h
          have e := ih r m' (by omega) hm'
          have ec : escC c = [c] := by unfold escC; rw [if_neg (fun x => g (Or.inl x)), if_neg (fun x => g (Or.inr x)), if_neg c9]
          simp [escL, ec, e]
theorem unL_len : ∀ (n : Nat) (l m : List Int), l.length ≤ n → unL l = some m → m.length ≤ l.length := by
  intro n l m hl h
  have e := escL_un n l m hl h
  have : ∀ m : List Int, m.length ≤ (escL m).length := by
    intro m
    induction m with
    | nil => simp
    | cons c m ih =>
      have : 1 ≤ (escC c).length := by unfold escC; split <;> (try split) <;> (try split) <;> simp
      unfold escL
      rw [List.length_append, List.length_cons]
      omega
  rw [← e]
  exact this m
theorem unL_mem : ∀ (n : Nat) (l m : List Int), l.length ≤ n → unL l = some m → (∀ c ∈ l, 0 ≤ c ∧ c < 256) → ∀ c ∈ m, 0 ≤ c ∧ c < 256 := by
  intro n
  induction n with
  | zero =>
    intro l m hl h _
    have : l = [] := List.eq_nil_of_length_eq_zero (by omega)
    subst this
    simp [unL] at h
    subst h
    simp
  | succ n ih =>
    intro l m hl h hb
    cases l with
    | nil => simp [unL] at h; subst h; simp
    | cons c r =>
      simp only [List.length_cons] at hl
      by_cases c9 : c = 92
      · subst c9
        cases r with
        | nil => simp [unL] at h
        | cons d r =>
          simp only [List.length_cons] at hl
          simp only [unL, if_true] at h
          obtain ⟨x, hx, h⟩ := Option.bind_eq_some_iff.1 h
          obtain ⟨m', hm', rfl⟩ := Option.map_eq_some_iff.1 h
          have e := ih r m' (by omega) hm' (fun c hc => hb c (List.mem_cons_of_mem _ (List.mem_cons_of_mem _ hc)))
          intro c hc
          cases hc with
          | head =>
            split at hx
            · injection hx with hx; omega
            · split at hx
              · injection hx with hx; omega
              · split at hx
                · injection hx with hx; omega
                · cases hx
          | tail _ hc => exact e c hc
      · rw [unL_lit _ c9] at h
        split at h
        · cases h
        · obtain ⟨m', hm', rfl⟩ := Option.map_eq_some_iff.1 h
          have e := ih r m' (by omega) hm' (fun c hc => hb c (List.mem_cons_of_mem _ hc))
          intro x hx
          cases hx with
          | head => exact hb _ (List.mem_cons_self ..)
          | tail _ hx => exact e x hx
/-- Parts, joined by blanks. -/
def joinB : List ByteArray → ByteArray
  | [] => ⟨#[]⟩
  | x :: r => r.foldl (fun o y => (o ++ (⟨#[32]⟩ : ByteArray)) ++ y) x
theorem joinB_one (x : ByteArray) : joinB ([] ++ [x]) = x := rfl
theorem joinB_snoc (pre : List ByteArray) (x : ByteArray) (h : pre ≠ []) : joinB (pre ++ [x]) = (joinB pre ++ (⟨#[32]⟩ : ByteArray)) ++ x := by
  cases pre with
  | nil => exact absurd rfl h
  | cons a r => simp [joinB, List.foldl_append]
theorem app_assoc (a b c : ByteArray) : (a ++ b) ++ c = a ++ (b ++ c) := by
  apply ByteArray.ext
  simp [ByteArray.data_append, Array.append_assoc]
theorem foldl_pull (r : List ByteArray) : ∀ (u v : ByteArray), r.foldl (fun o y => (o ++ (⟨#[32]⟩ : ByteArray)) ++ y) (u ++ v) = u ++ r.foldl (fun o y => (o ++ (⟨#[32]⟩ : ByteArray)) ++ y) v := by
  induction r with
  | nil => intro u v; rfl
  | cons a r ih =>
    intro u v
    simp only [List.foldl_cons]
    rw [app_assoc, app_assoc, ih, app_assoc]
theorem joinB_cons (u : ByteArray) (l : List ByteArray) (h : l ≠ []) : joinB (u :: l) = u ++ ((⟨#[32]⟩ : ByteArray) ++ joinB l) := by
  cases l with
  | nil => exact absurd rfl h
  | cons a r =>
    simp only [joinB, List.foldl_cons]
    rw [app_assoc, foldl_pull, foldl_pull]
theorem idx_some (l : List UInt8) (c : UInt8) (h : 0 ≤ Lib.indexByte l c) : l[(Lib.indexByte l c).toNat]? = some c ∧ ∀ k, k < (Lib.indexByte l c).toNat → l[k]? ≠ some c := by
  have := Lib.indexByte_some (l := l) (c := c) (o := (Lib.indexByte l c).toNat) (by omega)
  exact this
theorem cutI_yes {s : ByteArray} (h : (cutI s 32).2.2 = true) : bytesOf s = bytesOf (cutI s 32).1 ++ 32 :: bytesOf (cutI s 32).2.1 ∧ ∀ x ∈ bytesOf (cutI s 32).1, x ≠ 32 := by
  have hi := idx_lt s.data.toList 32
  have hl : (s.data.toList.length : Int) = s.size := by rw [Array.length_toList]; rfl
  rw [hl] at hi
  unfold cutI at h ⊢
  split at h
  · cases h
  · rename_i g
    rw [if_neg g]
    obtain ⟨h1, h2⟩ := idx_some s.data.toList 32 (by omega)
    generalize (Lib.indexByte s.data.toList 32).toNat = i at *
    have hlt : i < s.data.toList.length := (List.getElem?_eq_some_iff.1 h1).1
    have e1 : bytesOf (s.extract 0 i) = (bytesOf s).take i := by
      unfold bytesOf; rw [Go.Lib.extract_data, List.map_take]; simp
    have e2 : bytesOf (s.extract (i + 1) s.size) = (bytesOf s).drop (i + 1) := by
      unfold bytesOf; rw [Go.Lib.extract_data, List.map_take, List.map_drop, List.take_of_length_le]
      rw [List.length_drop, List.length_map, Array.length_toList]; exact Nat.le_refl _
    have hb : i < (bytesOf s).length := by rw [bytesOf_length]; have := hl; omega
    have hg : (bytesOf s)[i]? = some 32 := by unfold bytesOf; rw [List.getElem?_map, h1]; rfl
    refine ⟨?_, ?_⟩
    · show bytesOf s = bytesOf (s.extract 0 i) ++ 32 :: bytesOf (s.extract (i + 1) s.size)
      rw [e1, e2]
      have hd := List.drop_eq_getElem_cons hb
      rw [List.getElem?_eq_getElem hb] at hg
      injection hg with hg
      rw [hg] at hd
      rw [← hd, List.take_append_drop]
    · intro x hx
      have hx : x ∈ bytesOf (s.extract 0 i) := hx
      rw [e1] at hx
      obtain ⟨k, hkx⟩ := List.mem_iff_getElem?.1 hx
      have hk := (List.getElem?_eq_some_iff.1 hkx).1
      rw [List.length_take] at hk
      rw [List.getElem?_take_of_lt (by omega)] at hkx
      unfold bytesOf at hkx
      rw [List.getElem?_map] at hkx
      obtain ⟨b, hb1, rfl⟩ := Option.map_eq_some_iff.1 hkx
      intro e
      have : b = 32 := UInt8.toNat_inj.1 (by have := Int.ofNat.inj e; simpa using this)
      exact h2 k (by omega) (by rw [hb1, this])
theorem cutI_no {s : ByteArray} (h : (cutI s 32).2.2 = false) : ∀ x ∈ bytesOf s, x ≠ 32 := by
  unfold cutI at h
  split at h
  · rename_i g
    intro x hx e
    subst e
    unfold bytesOf at hx
    obtain ⟨b, hb, he⟩ := List.mem_map.1 hx
    have : b = 32 := UInt8.toNat_inj.1 (by have := Int.ofNat.inj he; simpa using this)
    subst this
    obtain ⟨k, hk⟩ := List.mem_iff_getElem?.1 hb
    have hn : Lib.indexByte s.data.toList 32 = -1 := by have := idx_lt s.data.toList 32; omega
    exact Lib.indexByte_none hn k hk
  · cases h
/-- The parts of a text: joined they are it; none has a blank; there is one; not more than bytes, and one. -/
theorem words_facts (n : Nat) : ∀ s : ByteArray, s.size ≤ n → joinB (wordsL s) = s ∧ (∀ x ∈ wordsL s, (∀ c ∈ bytesOf x, c ≠ 32) ∧ x.size ≤ s.size) ∧ 1 ≤ (wordsL s).length ∧ (wordsL s).length ≤ s.size + 1 := by
  induction n with
  | zero =>
    intro s hs
    have h0 : (cutI s 32).2.2 = false := by
      cases hb : (cutI s 32).2.2 with
      | false => rfl
      | true => have := cutI_size s hb; omega
    rw [wordsL_no h0]
    refine ⟨rfl, ?_, by simp, by simp⟩
    intro x hx
    rw [List.mem_singleton] at hx
    subst hx
    exact ⟨cutI_no h0, Nat.le_refl _⟩
  | succ n ih =>
    intro s hs
    cases hb : (cutI s 32).2.2 with
    | false =>
      rw [wordsL_no hb]
      refine ⟨rfl, ?_, by simp, by simp⟩
      intro x hx
      rw [List.mem_singleton] at hx
      subst hx
      exact ⟨cutI_no hb, Nat.le_refl _⟩
    | true =>
      have hsz := cutI_size s hb
      obtain ⟨hc, hu⟩ := cutI_yes hb
      obtain ⟨i1, i2, i3, i4⟩ := ih (cutI s 32).2.1 (by omega)
      rw [wordsL_yes hb]
      refine ⟨?_, ?_, by simp, by rw [List.length_cons]; omega⟩
      · rw [joinB_cons _ _ (fun e => by rw [e] at i3; simp at i3), i1]
        apply bytes_inj
        rw [hc]
        simp [bytesOf, ByteArray.data_append]
      · intro x hx
        cases hx with
        | head => exact ⟨hu, hsz.2⟩
        | tail _ hx => exact ⟨(i2 x hx).1, Nat.le_trans (i2 x hx).2 (by omega)⟩
theorem joinB_len (n : Nat) (l : List ByteArray) (h : ∀ x ∈ l, x.size ≤ n) : (joinB l).size ≤ l.length * (n + 1) := by
  have : ∀ (r : List ByteArray) (o : ByteArray), (∀ x ∈ r, x.size ≤ n) → (r.foldl (fun o y => (o ++ (⟨#[32]⟩ : ByteArray)) ++ y) o).size ≤ o.size + r.length * (n + 1) := by
    intro r
    induction r with
    | nil => intro o _; simp
    | cons a r ih =>
      intro o h
      have := ih ((o ++ (⟨#[32]⟩ : ByteArray)) ++ a) (fun x hx => h x (List.mem_cons_of_mem _ hx))
      have ha := h a (List.mem_cons_self ..)
      rw [ByteArray.size_append, ByteArray.size_append, show (⟨#[32]⟩ : ByteArray).size = 1 from rfl] at this
      simp only [List.foldl_cons, List.length_cons]
      rw [Nat.succ_mul]
      omega
  cases l with
  | nil => exact Nat.zero_le _
  | cons a r =>
    have h1 := this r a (fun x hx => h x (List.mem_cons_of_mem _ hx))
    have ha := h a (List.mem_cons_self ..)
    rw [List.length_cons, Nat.succ_mul]
    show (r.foldl (fun o y => (o ++ (⟨#[32]⟩ : ByteArray)) ++ y) a).size ≤ _
    omega
end Go.Proofs.Ytkfjaijjkbadfaa.Given
