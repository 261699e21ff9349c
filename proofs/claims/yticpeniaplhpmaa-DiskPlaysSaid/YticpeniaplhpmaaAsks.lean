/- A row of calls (Ask) among a law's arguments. -/
import Derived.Deep.Slices
import Derived.Lib.SmallJoins
import Derived.WalkKit
import Derived.Test.YticpeniaplhpmaaRel
set_option linter.unusedVariables false
namespace Go.Proofs.Yticpeniaplhpmaa.Given
open Go.RowKit Go.ChangeShapes Go.WideShapes
/-- The k-th call's cells. -/
def AskAt (w : World) (x : Addr) (k : Nat) : Prop := ∃ (a b c : Int) (s : ByteArray), (Lit.int .i64 a).wf = true ∧ (Lit.int .i64 b).wf = true ∧ (Lit.int .i64 c).wf = true ∧ s.size ≤ maxLen ∧
  w.cell? ((x.add (k * 4)).add 0) = some (.int .i64 a) ∧ w.cell? ((x.add (k * 4)).add 1) = some (.int .i64 b) ∧ w.cell? ((x.add (k * 4)).add 2) = some (.int .i64 c) ∧ w.cell? ((x.add (k * 4)).add 3) = some (.string s)
def AskRow (w : World) (a : Option Addr) (len cap : Nat) : Prop :=
  (a = none ∧ len = 0 ∧ cap = 0) ∨ ∃ x, a = some x ∧ len ≤ cap ∧ cap ≤ maxLen ∧ ∀ k, k < len → AskAt w x k
theorem ask_row {H : Type} {enc : TypeId × Value → H} {P : Program} {W : World} {base : Nat} {spare : Nat → Bool} {held : Bool} {t e : TypeId} {f0 f1 f2 f3 : Field} {a : Option Addr} {len cap : Nat} {d : DataW H} {ps : List MemPlace}
    (hu : P.underlying t = some (.slice e)) (he : P.underlying e = some (.struct #[f0, f1, f2, f3])) (hc : P.cellsOf e = 4)
    (k0 : P.underlying f0.type = some (.int .i64)) (k1 : P.underlying f1.type = some (.int .i64)) (k2 : P.underlying f2.type = some (.int .i64)) (k3 : P.underlying f3.type = some .string)
    (o0 : f0.offset = 0 ∧ P.cellsOf f0.type = 1) (o1 : f1.offset = 1 ∧ P.cellsOf f1.type = 1) (o2 : f2.offset = 2 ∧ P.cellsOf f2.type = 1) (o3 : f3.offset = 3 ∧ P.cellsOf f3.type = 1)
    (h : DataW.Trod enc P W base spare held t (.slice a len cap) d ps) : AskRow W a len cap := by
  obtain ⟨fuel, hf⟩ := h
  rcases Go.Deep.open_slice hu hf with ⟨hcs, _⟩ | ⟨x, l, c, m, n, D, Pl, hcs, _, hl, hm, hmm, _, hx⟩
  · simp [Value.cells] at hcs
    obtain ⟨rfl, rfl, rfl⟩ := hcs
    exact .inl ⟨rfl, rfl, rfl⟩
  · simp [Value.cells] at hcs
    obtain ⟨rfl, rfl, rfl⟩ := hcs
    refine .inr ⟨x, rfl, hl, hm, fun k hk => ?_⟩
    obtain ⟨cs', h1, h2⟩ := hx k (by rw [hmm]; split <;> omega)
    rw [hc] at h1
    obtain ⟨_, hlen, hcell⟩ := World.cells?_some h1
    obtain ⟨y0, y1, y2, y3, n', _, _, t0, t1, t2, t3⟩ := Go.Joins.trod_struct4 he h2
    match cs', hlen with
    | [c0, c1, c2, c3], _ =>
      rw [o0.1, o0.2] at t0
      rw [o1.1, o1.2] at t1
      rw [o2.1, o2.2] at t2
      rw [o3.1, o3.2] at t3
      obtain ⟨a0, e0, _, w0⟩ := DataW.trod_int k0 t0
      obtain ⟨a1, e1, _, w1⟩ := DataW.trod_int k1 t1
      obtain ⟨a2, e2, _, w2⟩ := DataW.trod_int k2 t2
      obtain ⟨s, e3, _, w3⟩ := DataW.trod_string k3 t3
      simp at e0 e1 e2 e3
      subst e0 e1 e2 e3
      have hcell : ∀ i, i < 4 → W.cell? ((x.add (k * 4)).add i) = [Value.int .i64 a0, .int .i64 a1, .int .i64 a2, .string s][i]? := hcell
      exact ⟨a0, a1, a2, s, w0, w1, w2, w3, hcell 0 (by decide), hcell 1 (by decide), hcell 2 (by decide), hcell 3 (by decide)⟩
end Go.Proofs.Yticpeniaplhpmaa.Given
