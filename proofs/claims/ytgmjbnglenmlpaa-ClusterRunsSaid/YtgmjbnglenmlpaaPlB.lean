/- Sizes and ranges, for the laws of several chapters. -/
import Derived.Test.YtgmjbnglenmlpaaP5
import Derived.Test.YtgmjbnglenmlpaaAbD
set_option linter.unusedVariables false
set_option linter.unusedSimpArgs false
namespace Go.Proofs.Ytgmjbnglenmlpaa.Ab
open Go Go.RowKit Go.Proofs.Ytgmjbnglenmlpaa.Given
theorem tail_le (m : Nat) : ∀ (l : List (List UInt8)), (∀ a ∈ l, a.length ≤ m) → (Lib.joinTail [32] l).length ≤ l.length * (m + 1) := by
  intro l
  induction l with
  | nil => intro _; simp [Lib.joinTail]
  | cons a l ih =>
    intro h
    have h1 := h a List.mem_cons_self
    have h2 := ih (fun b hb => h b (List.mem_cons_of_mem _ hb))
    simp only [Lib.joinTail, List.map_cons, List.flatten_cons, List.length_append, List.length_cons, List.length_nil] at h2 ⊢
    rw [Nat.add_mul]
    omega
theorem line_le {c : DCard} {k m : Nat} (h1 : c.2.1.length ≤ k) (h2 : ∀ a ∈ c.2.1, a.length ≤ m) : (cardLine c).length ≤ k * (m + 1) + 2 := by
  have h := tail_le m c.2.1 h2
  have h3 : c.2.1.length * (m + 1) ≤ k * (m + 1) := Nat.mul_le_mul_right _ h1
  unfold cardLine
  rw [Lib.join_cons]
  simp only [List.length_append, List.length_cons, List.length_nil]
  omega
theorem body_le (m : Nat) : ∀ (l : List DCard), (∀ c ∈ l, (cardLine c).length ≤ m) → (bodyS l).length ≤ l.length * m := by
  intro l
  induction l with
  | nil => intro _; simp [bodyS]
  | cons c l ih =>
    intro h
    have h1 := h c List.mem_cons_self
    have h2 := ih (fun b hb => h b (List.mem_cons_of_mem _ hb))
    rw [body_cons, List.length_append, List.length_cons, Nat.add_mul]
    omega
theorem u8_range {n : Int} (h : (Lit.int .u8 n).wf = true) : 0 ≤ n ∧ n < 256 := by
  simp [Lit.wf, IntKind.min, IntKind.max, IntKind.bits, IntKind.signed] at h
  omega
theorem given_range {l : List DCard} (h : Fit (.slice (.prod (.int .u8) (.prod (.slice .str) .unit))) l) : ∀ g ∈ l, 0 ≤ g.1 ∧ g.1 < 256 := by
  intro g hg
  obtain ⟨i, hi, rfl⟩ := List.mem_iff_getElem.1 hg
  have := h.2 i hi
  have e : l.getD i (DTy.dflt (.prod (.int .u8) (.prod (.slice .str) .unit))) = l[i] := by simp [hi]
  rw [e] at this
  exact u8_range this.1
theorem fit_mem {e : DTy} {l : List e.den} (h : Fit (.slice e) l) : ∀ g ∈ l, Fit e g := by
  intro g hg
  obtain ⟨i, hi, rfl⟩ := List.mem_iff_getElem.1 hg
  have := h.2 i hi
  have e : l.getD i (DTy.dflt e) = l[i] := by simp [hi]
  rw [e] at this
  exact this
theorem okRow_of : ∀ {l : List DCard} {p : Option Int}, (∀ c ∈ l, OkC c) → (l.Pairwise fun a b => a.1 ≤ b.1) → (∀ c ∈ l, okPrev p c.1 = true) → okRow p l = true := by
  intro l
  induction l with
  | nil => intro p _ _ _; rfl
  | cons c l ih =>
    intro p h1 h2 h3
    obtain ⟨k1, k2⟩ := List.pairwise_cons.1 h2
    obtain ⟨a, b, d⟩ := h1 c List.mem_cons_self
    have e : c.2.1.all okArg = true := List.all_eq_true.2 d
    rw [okRow, h3 c List.mem_cons_self, e, ih (p := some c.1) (fun x hx => h1 x (List.mem_cons_of_mem _ hx)) k2 (fun x hx => decide_eq_true (k1 x hx)), decide_eq_true a, decide_eq_true b]
    rfl
end Go.Proofs.Ytgmjbnglenmlpaa.Ab
