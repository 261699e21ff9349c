/- Words of mine for this seat's printed texts: a cut of a string under a name of its own (so that the walk doesn't reckon its length), and the laws that make it so. -/
import Derived.Test.YtpnnnhdhmdildaaWWords
import Derived.Laws.DeepStrings4
import Derived.Laws.Concat
import Derived.Laws.Cover1
namespace Go.Proofs.Ytpnnnhdhmdildaa.PW
open Go.RowKit
/-- 's[a:b]'. -/
def cutS (s : ByteArray) (a b : Nat) : ByteArray := s.extract a b
/-- 's + t'. -/
def catS (s t : ByteArray) : ByteArray := s ++ t
/-- Tests told as propositions. -/
theorem pwB {α : Type} [BEq α] [LawfulBEq α] : (∀ a b : α, ((a == b) = true) = (a = b)) ∧ (∀ a b : α, ((a != b) = true) = (a ≠ b)) ∧ (∀ a b : α, ((a != b) = false) = (a = b)) ∧ (∀ a b : α, ((a == b) = false) = (a ≠ b)) := ⟨fun a b => by simp, fun a b => by simp, fun a b => by simp, fun a b => by simp⟩
theorem pwD : (∀ (p : Prop) [Decidable p], (decide p = true) = p) ∧ (∀ (p : Prop) [Decidable p], (decide p = false) = ¬ p) ∧ (∀ (p q : Prop) [Decidable p] [Decidable q], (decide p = decide q) = (p ↔ q)) := ⟨fun p _ => by simp, fun p _ => by simp, fun p q _ _ => by simp⟩
theorem pwN : (∀ b : Bool, (¬ b = true) = (b = false)) ∧ (∀ b : Bool, (¬ b = false) = (b = true)) ∧ (∀ b : Bool, ((!b) = true) = (b = false)) ∧ (∀ b : Bool, ((!b) = false) = (b = true)) ∧ (∀ b : Bool, (true == b) = b) ∧ (∀ b : Bool, (false == b) = !b) ∧ (∀ b : Bool, (true != b) = !b) ∧ (∀ b : Bool, (false != b) = b) ∧ (∀ b : Bool, (b != true) = !b) ∧ (∀ b : Bool, (b != false) = b) ∧ (∀ (α : Type) (a b : α), (a ≠ b) = ¬ (a = b)) := ⟨fun b => by cases b <;> simp, fun b => by cases b <;> simp, fun b => by cases b <;> simp, fun b => by cases b <;> simp, fun b => by cases b <;> rfl, fun b => by cases b <;> rfl, fun b => by cases b <;> rfl, fun b => by cases b <;> rfl, fun b => by cases b <;> rfl, fun b => by cases b <;> rfl, fun _ _ _ => rfl⟩
section
variable {P : Program} (w : World)
theorem run_cat_if (a b : ByteArray) : (Op.stringOp .add a b).run P w =
    if a.size + b.size ≤ 9223372036854775807 then .ok (.string (catS a b)) w
    else .halt (.unsupported (.resourceLimit "string concatenation: a sum of the lengths that is no int")) w := by
  unfold catS
  rw [run_string_add_if]
  by_cases h : a.size + b.size ≤ 9223372036854775807
  · rw [if_pos h, if_neg (Nat.not_lt.2 h)]
  · rw [if_neg h, if_pos (Nat.lt_of_not_le h)]
theorem run_cut_from (t : TypeId) (s : ByteArray) (k : IntKind) (i : Int) (h : P.underlying t = some .string) :
    (Instr.slice t (.string s) (some (.int k i)) none none).run P w =
      if 0 ≤ i ∧ i ≤ (s.size : Int) then .ok (.string (cutS s i.toNat s.size)) w else ((boundsPanic k i s.size .sliceB : Sem Nat).run P w).andThen fun a w' => .ok (.string (cutS s a s.size)) w' := by
  unfold cutS
  exact run_slice_string_from_if w t s k i h
theorem run_cut_to (t : TypeId) (s : ByteArray) (k : IntKind) (j : Int) (h : P.underlying t = some .string) :
    (Instr.slice t (.string s) none (some (.int k j)) none).run P w =
      if 0 ≤ j ∧ j ≤ (s.size : Int) then .ok (.string (cutS s 0 j.toNat)) w else ((boundsPanic k j s.size .sliceAlen : Sem Nat).run P w).andThen fun a w' => .ok (.string (cutS s 0 a)) w' := by
  unfold cutS
  exact run_slice_string_to_if w t s k j h
theorem run_cut_if (t : TypeId) (s : ByteArray) (k k' : IntKind) (i j : Int) (h : P.underlying t = some .string) :
    (Instr.slice t (.string s) (some (.int k i)) (some (.int k' j)) none).run P w =
      if 0 ≤ i ∧ i ≤ j ∧ j ≤ (s.size : Int) then .ok (.string (cutS s i.toNat j.toNat)) w
      else (if 0 ≤ j ∧ j ≤ (s.size : Int) then
        (if 0 ≤ i ∧ i ≤ j then .ok (.string (s.extract i.toNat j.toNat)) w
         else ((boundsPanic k i j.toNat .sliceB : Sem Nat).run P w).andThen fun a w' => .ok (.string (s.extract a j.toNat)) w')
      else ((boundsPanic k' j s.size .sliceAlen : Sem Nat).run P w).andThen fun b w' =>
        ((Instr.sliceBound (.int k i) b .sliceB).run P w').andThen fun a w'' => .ok (.string (s.extract a b)) w'') := by
  rw [run_slice_string_if w t s k k' i j h]
  by_cases c : 0 ≤ i ∧ i ≤ j ∧ j ≤ (s.size : Int)
  · rw [if_pos c, if_pos ⟨Int.le_trans c.1 c.2.1, c.2.2⟩, if_pos ⟨c.1, c.2.1⟩]
    rfl
  · rw [if_neg c]
end
end Go.Proofs.Ytpnnnhdhmdildaa.PW
