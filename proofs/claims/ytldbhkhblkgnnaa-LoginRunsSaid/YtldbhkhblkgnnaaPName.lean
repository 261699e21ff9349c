/- The plain law of hash.Is: names. -/
import Derived.Test.YtldbhkhblkgnnaaPBase
import Derived.Test.YtldbhkhblkgnnaaHx1
import Derived.KernelRfl
set_option linter.unusedVariables false
namespace Go.Proofs.Ytldbhkhblkgnnaa.B
open Go.RowKit Go.Proofs.Ytldbhkhblkgnnaa.PW Go.Proofs.Ytldbhkhblkgnnaa.Given Go.Proofs.Ytldbhkhblkgnnaa.Q Go.Proofs.YtldbhkhblkgnnaaW.PrintWords Go.Proofs.YtldbhkhblkgnnaaW.PrintMore
/-- A digit of sixteen? -/
def hexc (c : Int) : Prop := 48 ≤ c ∧ c ≤ 57 ∨ 97 ≤ c ∧ c ≤ 102
instance (c : Int) : Decidable (hexc c) := inferInstanceAs (Decidable (_ ∨ _))
/-- A name? -/
def isN (l : List Int) : Bool := decide ((∀ c ∈ l, hexc c) ∧ l.length = 40)
theorem find_hex : ∀ c : Fin 256, ∃ v, strings_IndexByte.f (⟨#[48, 49, 50, 51, 52, 53, 54, 55, 56, 57, 97, 98, 99, 100, 101, 102]⟩ : ByteArray) (c.val : Int) = some v ∧ (v < 0 ↔ ¬ hexc (c.val : Int)) := by
  intro c
  refine ⟨Lib.indexByte (⟨#[48, 49, 50, 51, 52, 53, 54, 55, 56, 57, 97, 98, 99, 100, 101, 102]⟩ : ByteArray).data.toList (c.val : Int).toNat.toUInt8, rfl, ?_⟩
  revert c
  decide +kernel
theorem find_hex' {c : Int} (h0 : 0 ≤ c) (h1 : c < 256) : ∃ v, strings_IndexByte.f (⟨#[48, 49, 50, 51, 52, 53, 54, 55, 56, 57, 97, 98, 99, 100, 101, 102]⟩ : ByteArray) c = some v ∧ (v < 0 ↔ ¬ hexc c) := by
  have := find_hex ⟨c.toNat, by omega⟩
  simp only [Int.toNat_of_nonneg h0] at this
  exact this
theorem wn {i n : Nat} (h : i < n) (hn : n ≤ 4611686018427387904) : wrap64 ((i : Int) + 1) = ((i + 1 : Nat) : Int) := by rw [w64 (by omega) (by omega)]; omega
theorem is_loop (s : ByteArray) (hs : s.size ≤ 4611686018427387904) (l : List Int) : ∀ i : Nat, (bytesOf s).drop i = l → i ≤ s.size →
    Ev (fun k => hash_Is.l0 k s s.size i) (decide ((∀ c ∈ l, hexc c) ∧ s.size = 40)) := by
  induction l with
  | nil =>
    intro i hl h1
    have hi : i = s.size := by
      have := congrArg List.length hl
      rw [List.length_drop, size_len, List.length_nil] at this
      omega
    refine Ev.step (fun k => hash_Is.l0.eq_2 s s.size i k) (Ev.nn (by omega) ?_)
    refine Ev.eq ?_ (Ev.now _)
    by_cases h : s.size = 40
    · rw [decide_eq_true ⟨by simp, h⟩, h]; rfl
    · rw [decide_eq_false (fun x => h x.2)]; simp; omega
  | cons c l ih =>
    intro i hl h1
    have hi : i < s.size := by
      have := congrArg List.length hl
      rw [List.length_drop, size_len, List.length_cons] at this
      omega
    rw [drop_cons s i hi] at hl
    injection hl with hc hl
    have hb := bt_range s i
    obtain ⟨v, hv, hx⟩ := find_hex' (c := bt s i) (by omega) (by omega)
    refine Ev.step (fun k => hash_Is.l0.eq_2 s s.size i k) (Ev.ip (by omega) (Ev.ip (by omega) (Ev.ip (by omega) (Ev.cb hv ?_))))
    by_cases h : hexc c
    · refine Ev.nn (fun z => (hx.1 z) (by rw [hc]; exact h)) ?_
      rw [wn hi hs]
      refine Ev.eq ?_ (ih (i + 1) hl (by omega))
      congr 1
      simp [h]
    · refine Ev.ip (hx.2 (by rw [hc]; exact h)) ?_
      refine Ev.eq ?_ (Ev.now _)
      rw [decide_eq_false]
      intro x
      exact h (x.1 c (List.mem_cons_self ..))
theorem is_ev (s : ByteArray) (hs : s.size ≤ 4611686018427387904) : Ev (fun k => hash_Is.f k s) (isN (bytesOf s)) := by
  unfold hash_Is.f
  refine Ev.eq ?_ (is_loop s hs (bytesOf s) 0 rfl (by omega))
  unfold isN
  rw [size_len]
end Go.Proofs.Ytldbhkhblkgnnaa.B
