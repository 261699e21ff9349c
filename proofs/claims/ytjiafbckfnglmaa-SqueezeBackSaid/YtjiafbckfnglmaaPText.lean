/- The plain law of keep.Text: a text of at most 200 bytes. -/
import Derived.Test.YtjiafbckfnglmaaPDigitMore
import Derived.Test.YtjiafbckfnglmaaQx1
set_option linter.unusedSimpArgs false
namespace Go.Proofs.Ytjiafbckfnglmaa.B
open Go.RowKit Go.Proofs.Ytjiafbckfnglmaa.PW Go.Proofs.Ytjiafbckfnglmaa.Given Go.Proofs.Ytjiafbckfnglmaa.Q Go.Proofs.YtjiafbckfnglmaaW.PrintWords Go.Proofs.YtjiafbckfnglmaaW.PrintMore
theorem text_loop (pieces : List ByteArray) (hp : pieces.length = 8) (hs : ∀ i, i < 8 → (rdOf ByteArray.empty pieces ((i : Nat) : Int)).size ≤ 30) (seed : Int) (ops : List Int) (ho : ops.length ≤ 9223372036854775807) (d : Nat) : ∀ (i : Nat) (x : ByteArray), i + d = ops.length → x.size < 200 →
    ∃ r, Ev (fun k => ammonitekeep_Text_Text.l0 k pieces x i seed ops) r ∧ r.size < 200 := by
  induction d with
  | zero =>
    intro i x hi hx
    exact ⟨x, Ev.step (fun k => ammonitekeep_Text_Text.l0.eq_2 pieces x i seed ops k) (Ev.nn (by omega) (Ev.now _)), hx⟩
  | succ d ih =>
    intro i x hi hx
    by_cases g : x.size < 170
    · obtain ⟨t, e, h0, h1⟩ := within_ev (wrap64 ((rd ops i) + (Go.bits .and .i64 seed 1))) (lo := 0) (hi := 7) (by omega) (by omega) (by omega)
      have ht := hs t.toNat (by omega)
      rw [show ((t.toNat : Nat) : Int) = t by omega] at ht
      obtain ⟨r, ev, hr⟩ := ih (i + 1) (catS x (rdOf ByteArray.empty pieces t)) (by omega) (by rw [size_cat]; omega)
      refine ⟨r, Ev.step (fun k => ammonitekeep_Text_Text.l0.eq_2 pieces x i seed ops k) ?_, hr⟩
      have e7 : wrap64 ((pieces.length : Int) - 1) = 7 := by rw [hp]; exact (w64 (by omega) (by omega)).trans (by decide)
      rw [e7, show wrap64 ((i : Int) + 1) = ((i + 1 : Nat) : Int) by rw [w64 (by omega) (by omega)]; omega]
      exact Ev.ip (by omega) (Ev.ip (by omega) (Ev.ip (by omega) (Ev.cb e (Ev.ip (by omega) (Ev.ip (by omega) (Ev.ip (by omega) ev))))))
    · exact ⟨x, Ev.step (fun k => ammonitekeep_Text_Text.l0.eq_2 pieces x i seed ops k) (Ev.ip (by omega) (Ev.nn (by omega) (Ev.now _))), hx⟩
theorem text_ev (seed : Int) (ops : List Int) (ho : ops.length ≤ 9223372036854775807) : ∃ r, Ev (fun k => ammonitekeep_Text_Text.f k seed ops) r ∧ r.size < 200 := by
  unfold ammonitekeep_Text_Text.f
  refine text_loop _ rfl ?_ seed ops ho ops.length 0 ⟨#[]⟩ (by omega) (by decide)
  decide
end Go.Proofs.Ytjiafbckfnglmaa.B
