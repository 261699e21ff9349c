/- May files be sent? Plainly. -/
import Derived.Test.YtldbhkhblkgnnaaPName
import Derived.Test.YtldbhkhblkgnnaaSx0
set_option linter.unusedVariables false
set_option linter.unusedSimpArgs false
namespace Go.Proofs.Ytldbhkhblkgnnaa.B
open Go.RowKit Go.Proofs.Ytldbhkhblkgnnaa.PW Go.Proofs.Ytldbhkhblkgnnaa.Given Go.Proofs.Ytldbhkhblkgnnaa.Q Go.Proofs.YtldbhkhblkgnnaaW.PrintWords Go.Proofs.YtldbhkhblkgnnaaW.PrintMore
theorem drop_at {α : Type} {l r : List α} {s : α} {i : Nat} (d : α) (h : l.drop i = s :: r) : i < l.length ∧ l.getD i d = s ∧ l.drop (i + 1) = r := by
  have hi : i < l.length := by
    have := congrArg List.length h
    rw [List.length_drop, List.length_cons] at this
    omega
  refine ⟨hi, ?_, ?_⟩
  · rw [List.drop_eq_getElem_cons hi] at h
    injection h with h1 h2
    rw [List.getD_eq_getElem?_getD, List.getElem?_eq_getElem hi]
    exact h1
  · rw [List.drop_eq_getElem_cons hi] at h
    injection h with h1 h2
theorem drop_end {α : Type} {l : List α} {i : Nat} (h : l.drop i = []) (hi : i ≤ l.length) : i = l.length := by
  have := congrArg List.length h
  rw [List.length_drop, List.length_nil] at this
  omega
theorem rd_at {l : List ByteArray} (i : Nat) : rdOf ByteArray.empty l (i : Int) = l.getD i ByteArray.empty := by unfold rdOf; rw [Int.toNat_natCast]
/-- What stands ahead. -/
def Pre {α : Type} (l : List α) (d : α) (i : Nat) (p : Option α) : Prop := (i = 0 ∧ p = none) ∨ (0 < i ∧ p = some (l.getD (i - 1) d))
theorem Pre.next {α : Type} {l : List α} {d s : α} {i : Nat} (h : l.getD i d = s) : Pre l d (i + 1) (some s) := .inr ⟨by omega, by rw [Nat.add_sub_cancel, h]⟩
/-- Does it stand ahead in order? -/
def ordB (p : Option S46) (s : ByteArray) : Bool := match p with | none => true | some q => Op.bytesLess q.f1.toList s.toList
/-- May a file be, ahead of its base? -/
def fileA (p : Option S46) (f : S46) : Bool := isN (bytesOf f.f1) && (ordB p f.f1 && (decide (1 ≤ f.f0) && (decide (f.f0 ≤ 3) && decide (f.f3.size ≤ 600))))
def fileC (f : S46) : Bool := if f.f0 = 2 then isN (bytesOf f.f2) else decide (f.f2.size = 0)
def filesOk (p : Option S46) : List S46 → Bool
  | [] => true
  | f :: r => fileA p f && (fileC f && filesOk (some f) r)
section
variable {l t : List S46} {q : Option S46} {a : S46} {F z : Bool}
theorem f_bad (h : F = (isN (bytesOf a.f1) && (ordB q a.f1 && (decide (1 ≤ a.f0) && (decide (a.f0 ≤ 3) && decide (a.f3.size ≤ 600)))) && (fileC a && filesOk (some a) t) && z)) (k : ¬ (1 ≤ a.f0 ∧ a.f0 ≤ 3 ∧ a.f3.size ≤ 600)) : F = false := by
  rw [h]
  have : (decide (1 ≤ a.f0) && (decide (a.f0 ≤ 3) && decide (a.f3.size ≤ 600))) = false := by
    by_cases x : 1 ≤ a.f0
    · by_cases y : a.f0 ≤ 3
      · rw [decide_eq_false (fun z => k ⟨x, y, z⟩)]; simp
      · rw [decide_eq_false y]; simp
    · rw [decide_eq_false x]; simp
  rw [this]
  simp
theorem f_ord (h : F = (isN (bytesOf a.f1) && (ordB q a.f1 && (decide (1 ≤ a.f0) && (decide (a.f0 ≤ 3) && decide (a.f3.size ≤ 600)))) && (fileC a && filesOk (some a) t) && z)) (k : ordB q a.f1 = false) : F = false := by
  rw [h, k]
  simp
theorem f_next (h : F = (isN (bytesOf a.f1) && (ordB q a.f1 && (decide (1 ≤ a.f0) && (decide (a.f0 ≤ 3) && decide (a.f3.size ≤ 600)))) && (fileC a && filesOk (some a) t) && z)) (hb : isN (bytesOf a.f1) = true) (ho : ordB q a.f1 = true) (k1 : 1 ≤ a.f0) (k2 : a.f0 ≤ 3) (k3 : a.f3.size ≤ 600) : F = (fileC a && (filesOk (some a) t && z)) := by
  rw [h, hb, ho, decide_eq_true k1, decide_eq_true k2, decide_eq_true k3]
  simp [Bool.and_assoc]
theorem f_go (h : F = (fileC a && (filesOk (some a) t && z))) (k : fileC a = true) : F = (filesOk (some a) t && z) := by rw [h, k, Bool.true_and]
end
theorem rdt_at {l : List S46} (i : Nat) : rd_T46 l (i : Int) = l.getD i z46 := by unfold rd_T46; rw [Int.toNat_natCast]
theorem toList_size {s : ByteArray} : s.toList = [] ↔ s.size = 0 := by
  rw [toList_nil]
  constructor
  · rintro rfl; rfl
  · intro h
    exact bytesOf_inj (by rw [List.eq_nil_of_length_eq_zero (by rw [size_len, h] : (bytesOf s).length = 0)]; rfl)
def filesB (l : List S46) : Bool := filesOk none l && decide (l.length ≤ 3)
end Go.Proofs.Ytldbhkhblkgnnaa.B
