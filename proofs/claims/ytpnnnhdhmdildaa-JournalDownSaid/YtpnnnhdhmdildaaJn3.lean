/- The journal: how it lies in memory; its small methods. -/
import Derived.Test.YtpnnnhdhmdildaaJn2
import Derived.Test.YtpnnnhdhmdildaaItV
set_option linter.unusedVariables false
set_option linter.unusedSimpArgs false
namespace Go.Proofs.Ytpnnnhdhmdildaa.Given
open Go.RowKit Go.Proofs.YtpnnnhdhmdildaaW.PrintWords Go.Proofs.Ytpnnnhdhmdildaa.J Go.Proofs.Ytpnnnhdhmdildaa.RF
/-- A journal in memory: its block, its disk's, its row. -/
def JAt (b q p : Nat) (v : Value) (J : JS) (w : World) : Prop :=
  b ≤ q ∧ w.heap[q]? = some (.cells #[.pointer (some ⟨p, 0, none⟩), v, .int .i64 (J.e : Int), .bool J.down] 62 (0, 0)) ∧ w.ownsRow b 9 1 v J.l.length (J.l.map Value.string)
theorem JAt.ch {S : Nat → Prop} {b q p : Nat} {v : Value} {J : JS} {w w' : World} (h : JAt b q p v J w) (hc : Ch S w w') (h1 : ¬ S q) (h2 : ∀ g, v.ownBlock = some g → ¬ S g) : JAt b q p v J w' := by
  obtain ⟨a1, a2, a3⟩ := h
  refine ⟨a1, (hc.block q (Array.getElem?_eq_some_iff.1 a2).1 h1).trans a2, a3.1, ?_⟩
  rcases a3.2 with hn | ⟨g', cap', cur, hv, hbg, hgg, rest⟩
  · exact .inl hn
  · exact .inr ⟨g', cap', cur, hv, hbg, (hc.block g' (Array.getElem?_eq_some_iff.1 hgg).1 (h2 g' (by rw [hv]; rfl))).trans hgg, rest⟩
theorem JAt.step {b q p : Nat} {v : Value} {J : JS} {w w' : World} (h : JAt b q p v J w) (hb : Below w.heap.size w w') : JAt b q p v J w' := h.ch (S := fun _ => False) (Ch.of_new hb) id (fun _ _ h => h)
theorem JAt.open {b q p : Nat} {v : Value} {J : JS} {w : World} (h : JAt b q p v J w) : w.cell? ⟨q, 0, none⟩ = some (.pointer (some ⟨p, 0, none⟩)) ∧ w.cell? ⟨q, 1, none⟩ = some v ∧ w.cell? ⟨q, 2, none⟩ = some (.int .i64 (J.e : Int)) ∧ w.cell? ⟨q, 3, none⟩ = some (.bool J.down) ∧ ∀ k, w.frozen? ⟨q, k, none⟩ = false := by
  have h3 := h.2.1
  exact ⟨by rw [Lib.cell_of_heap h3]; rfl, by rw [Lib.cell_of_heap h3]; rfl, by rw [Lib.cell_of_heap h3]; rfl, by rw [Lib.cell_of_heap h3]; rfl, fun k => Lib.frozen_of_heap h3 k⟩
theorem end_call {b q p : Nat} {v : Value} {J : JS} {w : World} (h : JAt b q p v J w) : Calls Try.prog 15 #[.pointer (some ⟨q, 0, none⟩)] w fun e w' => e = .returned (.int .i64 (J.e : Int)) ∧ Drawn0 w w' := by
  obtain ⟨c0, c1, c2, c3, f⟩ := h.open
  go_enter Try.func15, Try.ntmps15
  go_wp2
  go_ret
  exact ⟨rfl, Drawn0.refl _⟩
theorem jdisk_call {b q p : Nat} {v : Value} {J : JS} {w : World} (h : JAt b q p v J w) : Calls Try.prog 24 #[.pointer (some ⟨q, 0, none⟩)] w fun e w' => e = .returned (.pointer (some ⟨p, 0, none⟩)) ∧ Drawn0 w w' := by
  obtain ⟨c0, c1, c2, c3, f⟩ := h.open
  go_enter Try.func24, Try.ntmps24
  go_wp2
  go_ret
  exact ⟨rfl, Drawn0.refl _⟩
theorem len_call {b q p : Nat} {v : Value} {J : JS} {w : World} (h : JAt b q p v J w) : Calls Try.prog 14 #[.pointer (some ⟨q, 0, none⟩)] w fun e w' => e = .returned (.int .i64 (J.l.length : Int)) ∧ Drawn0 w w' := by
  obtain ⟨c0, c1, c2, c3, f⟩ := h.open
  obtain ⟨a, cap, hv⟩ : ∃ a cap, v = .slice a J.l.length cap := by
    rcases h.2.2.2 with ⟨hv, hn⟩ | ⟨g, cap, cur, hv, _⟩
    · exact ⟨none, 0, by rw [hv, hn]⟩
    · exact ⟨_, cap, hv⟩
  subst hv
  go_enter Try.func14, Try.ntmps14
  go_wp2
  go_ret
  exact ⟨rfl, Drawn0.refl _⟩
end Go.Proofs.Ytpnnnhdhmdildaa.Given
