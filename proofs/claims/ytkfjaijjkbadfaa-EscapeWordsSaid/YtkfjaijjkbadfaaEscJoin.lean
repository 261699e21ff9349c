/- Words without blanks, joined by blanks, are parted again. -/
import Derived.Test.YtkfjaijjkbadfaaEscPlain
set_option linter.unusedVariables false
set_option linter.unusedSimpArgs false
namespace Go.Proofs.Ytkfjaijjkbadfaa.Given
open Go.RowKit Go.Proofs.YtkfjaijjkbadfaaW.PrintWords Go.Proofs.YtkfjaijjkbadfaaW.PrintMore
theorem part_one : ∀ {a c b d : List Int}, (∀ x ∈ a, x ≠ 32) → (∀ x ∈ c, x ≠ 32) → a ++ 32 :: b = c ++ 32 :: d → a = c ∧ b = d := by
  intro a
  induction a with
  | nil =>
    intro c b d _ hc h
    cases c with
    | nil => simp at h; exact ⟨rfl, h⟩
    | cons y c => simp at h; exact absurd h.1.symm (hc y (List.mem_cons_self ..))
  | cons x a ih =>
    intro c b d ha hc h
    cases c with
    | nil => simp at h; exact absurd h.1 (ha x (List.mem_cons_self ..))
    | cons y c =>
      simp at h
      obtain ⟨e1, e2⟩ := ih (fun z hz => ha z (List.mem_cons_of_mem _ hz)) (fun z hz => hc z (List.mem_cons_of_mem _ hz)) h.2
      exact ⟨by rw [h.1, e1], e2⟩
theorem bytes_cons (u : ByteArray) (l : List ByteArray) (h : l ≠ []) : bytesOf (joinB (u :: l)) = bytesOf u ++ 32 :: bytesOf (joinB l) := by
  rw [joinB_cons u l h]
  simp [bytesOf, ByteArray.data_append]
theorem joinB_inj : ∀ (l m : List ByteArray), l ≠ [] → m ≠ [] → (∀ x ∈ l, ∀ c ∈ bytesOf x, c ≠ 32) → (∀ x ∈ m, ∀ c ∈ bytesOf x, c ≠ 32) → joinB l = joinB m → l = m := by
  intro l
  induction l with
  | nil => intro m h; exact absurd rfl h
  | cons u l ih =>
    intro m _ hm hl hmm h
    cases m with
    | nil => exact absurd rfl hm
    | cons v m =>
      have hu := hl u (List.mem_cons_self ..)
      have hv := hmm v (List.mem_cons_self ..)
      cases l with
      | nil =>
        cases m with
        | nil => simp [joinB] at h; rw [h]
        | cons v' m =>
          have := congrArg bytesOf h
          rw [bytes_cons v _ (by simp)] at this
          have h2 : (32 : Int) ∈ bytesOf u := by
            have e : bytesOf (joinB [u]) = bytesOf u := rfl
            rw [← e, this]; simp
          exact absurd rfl (hu 32 h2)
      | cons u' l =>
        cases m with
        | nil =>
          have := congrArg bytesOf h
          rw [bytes_cons u _ (by simp)] at this
          have h2 : (32 : Int) ∈ bytesOf v := by
            have e : bytesOf (joinB [v]) = bytesOf v := rfl
            rw [← e, ← this]; simp
          exact absurd rfl (hv 32 h2)
        | cons v' m =>
          have := congrArg bytesOf h
          rw [bytes_cons u _ (by simp), bytes_cons v _ (by simp)] at this
          obtain ⟨e1, e2⟩ := part_one hu hv this
          rw [bytes_inj e1, ih (v' :: m) (by simp) (by simp) (fun x hx => hl x (List.mem_cons_of_mem _ hx)) (fun x hx => hmm x (List.mem_cons_of_mem _ hx)) (bytes_inj e2)]
theorem words_join (ws : List ByteArray) (h : ws ≠ []) (hf : ∀ x ∈ ws, ∀ c ∈ bytesOf x, c ≠ 32) : wordsL (joinB ws) = ws := by
  obtain ⟨f1, f2, f3, _⟩ := words_facts (joinB ws).size (joinB ws) (Nat.le_refl _)
  exact joinB_inj _ _ (fun e => by rw [e] at f3; simp at f3) h (fun x hx => (f2 x hx).1) hf f1
theorem words_nil : wordsL ⟨#[]⟩ = [⟨#[]⟩] := by kernel_rfl
/-- What a walk knows of a word that was put. -/
def Pw (x : ByteArray) : Prop := (∀ c ∈ bytesOf x, c ≠ 32) ∧ x.size ≤ 16
end Go.Proofs.Ytkfjaijjkbadfaa.Given
