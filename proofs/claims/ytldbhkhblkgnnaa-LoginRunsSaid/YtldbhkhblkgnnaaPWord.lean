/- The plain law of escape.Word. -/
import Derived.Test.YtldbhkhblkgnnaaPBase
import Derived.Test.YtldbhkhblkgnnaaHx1
set_option linter.unusedVariables false
set_option linter.unusedSimpArgs false
namespace Go.Proofs.Ytldbhkhblkgnnaa.B
open Go.RowKit Go.Proofs.Ytldbhkhblkgnnaa.PW Go.Proofs.Ytldbhkhblkgnnaa.Given Go.Proofs.Ytldbhkhblkgnnaa.Q Go.Proofs.YtldbhkhblkgnnaaW.PrintWords Go.Proofs.YtldbhkhblkgnnaaW.PrintMore
/-- May a byte stand in a name? -/
def nameC (c : Int) : Prop := 32 < c ∧ c ≤ 126 ∧ c ≠ 92
instance (c : Int) : Decidable (nameC c) := by unfold nameC; exact inferInstance
def wordB (l : List Int) : Bool := decide ((∀ c ∈ l, nameC c) ∧ 1 ≤ l.length ∧ l.length ≤ 12)
theorem wi {i n : Nat} (h : i < n) (hn : n ≤ 4611686018427387904) : wrap64 ((i : Int) + 1) = ((i + 1 : Nat) : Int) := by rw [w64 (by omega) (by omega)]; omega
theorem all_no {c : Int} {r : List Int} {p : Prop} [Decidable p] (h : ¬ nameC c) : decide ((∀ x ∈ c :: r, nameC x) ∧ p) = false := decide_eq_false fun g => h (g.1 c (List.mem_cons_self ..))
theorem all_yes {c : Int} {r : List Int} {p : Prop} [Decidable p] (h : nameC c) : decide ((∀ x ∈ c :: r, nameC x) ∧ p) = decide ((∀ x ∈ r, nameC x) ∧ p) := by
  refine decide_eq_decide.2 ⟨fun g => ⟨fun x hx => g.1 x (List.mem_cons_of_mem _ hx), g.2⟩, fun g => ⟨fun x hx => ?_, g.2⟩⟩
  cases hx with
  | head => exact h
  | tail _ hx => exact g.1 x hx
theorem word_loop (s : ByteArray) (hs : s.size ≤ 4611686018427387904) (l : List Int) : ∀ i : Nat, (bytesOf s).drop i = l → i ≤ s.size →
    Ev (fun k => escape_Word.l0 k s s.size i) (decide ((∀ c ∈ l, nameC c) ∧ 1 ≤ s.size ∧ s.size ≤ 12)) := by
  induction l with
  | nil =>
    intro i hl hi
    have he : i = s.size := by
      have := congrArg List.length hl
      rw [List.length_drop, size_len, List.length_nil] at this
      omega
    refine Ev.step (fun k => escape_Word.l0.eq_2 s s.size i k) (Ev.nn (by omega) ?_)
    by_cases z : s.toList = []
    · have h0 : s.size = 0 := by rw [toList_nil.1 z]; rfl
      exact Ev.ip z (Ev.eq (by rw [h0]; rfl) (Ev.now false))
    · have h0 : s.size ≠ 0 := fun e => z (toList_nil.2 (bytesOf_inj (List.eq_nil_of_length_eq_zero (by rw [size_len]; exact e))))
      refine Ev.nn z (Ev.eq ?_ (Ev.now _))
      refine decide_eq_decide.2 ⟨fun h => ⟨fun c hc => (by cases hc), by omega, by omega⟩, fun h => by omega⟩
  | cons c r ih =>
    intro i hl hi
    have hi' : i < s.size := by
      have := congrArg List.length hl
      rw [List.length_drop, size_len, List.length_cons] at this
      omega
    rw [drop_cons s i hi'] at hl
    injection hl with hc hr
    have key := ih (i + 1) hr (by omega)
    refine Ev.step (fun k => escape_Word.l0.eq_2 s s.size i k) (Ev.ip (by omega) (Ev.ip (by omega) (Ev.ip (by omega) ?_)))
    rw [hc, wi hi' hs]
    by_cases c1 : c ≤ 32
    · exact Ev.ip c1 (Ev.eq (all_no (fun h => by unfold nameC at h; omega)).symm (Ev.now false))
    by_cases c2 : c > 126
    · exact Ev.nn c1 (Ev.ip c2 (Ev.eq (all_no (fun h => by unfold nameC at h; omega)).symm (Ev.now false)))
    by_cases c3 : c = 92
    · exact Ev.nn c1 (Ev.nn c2 (Ev.ip c3 (Ev.eq (all_no (fun h => by unfold nameC at h; omega)).symm (Ev.now false))))
    · exact Ev.nn c1 (Ev.nn c2 (Ev.nn c3 (Ev.eq (all_yes (show nameC c from ⟨by omega, by omega, c3⟩)).symm key)))
theorem word_ev (s : ByteArray) (hs : s.size ≤ 4611686018427387904) : Ev (fun k => escape_Word.f k s) (wordB (bytesOf s)) := by
  unfold escape_Word.f wordB
  rw [size_len]
  exact word_loop s hs (bytesOf s) 0 rfl (Nat.zero_le _)
end Go.Proofs.Ytldbhkhblkgnnaa.B
