/- The journal: Commit (begun). -/
import Derived.Test.YtpnnnhdhmdildaaJn4
set_option linter.unusedVariables false
set_option linter.unusedSimpArgs false
namespace Go.Proofs.Ytpnnnhdhmdildaa.Given
open Go.RowKit Go.Proofs.YtpnnnhdhmdildaaW.PrintWords Go.Proofs.Ytpnnnhdhmdildaa.J Go.Proofs.Ytpnnnhdhmdildaa.RF
/-- A journal and its disk. -/
structure JD (b q p g : Nat) (v : Value) (J : JS) (D : DS) (W : World) : Prop where
  jour : JAt b q p v J W
  disk : DiskAt b p g D W
  qp : q ≠ p
  qg : q ≠ g
  vo : ∀ x, v.ownBlock = some x → x ≠ q ∧ x ≠ p ∧ x ≠ g
theorem JD.step {b q p g : Nat} {v : Value} {J : JS} {D : DS} {W W' : World} (h : JD b q p g v J D W) (hb : Below W.heap.size W W') : JD b q p g v J D W' :=
  ⟨h.jour.step hb, h.disk.ch (S := fun _ => False) (Ch.of_new hb) id id, h.qp, h.qg, h.vo⟩
/-- The disk alone turns. -/
theorem JD.wrote {b q p g : Nat} {v : Value} {J : JS} {D D' : DS} {W W' : World} (h : JD b q p g v J D W) (hd : DiskAt b p g D' W') (hc : Ch (Own p g) W W') : JD b q p g v J D' W' :=
  ⟨h.jour.ch hc (by rintro (e | e); exact h.qp e; exact h.qg e) (fun x hx => by obtain ⟨_, n2, n3⟩ := h.vo x hx; rintro (e | e); exact n2 e; exact n3 e), hd, h.qp, h.qg, h.vo⟩
/-- What a commit may turn. -/
def JOwn (q p g : Nat) (v : Value) (i : Nat) : Prop := i = q ∨ i = p ∨ i = g ∨ v.ownBlock = some i
theorem JD.write {b q p g : Nat} {v : Value} {J : JS} {D : DS} {W : World} {r : Bool} {D' : DS} {i : Int} {data : ByteArray} (h : JD b q p g v J D W) (hD : D.Ok) (hi : (Lit.int .i64 i).wf = true) (hs : data.size ≤ 9223372036854775807) (hr : D.write i data = (r, D')) :
    Calls Try.prog 29 #[.pointer (some ⟨p, 0, none⟩), .int .i64 i, .string data] W fun e W' => e = .returned (.bool r) ∧ JD b q p g v J D' W' ∧ Ch (JOwn q p g v) W W' :=
  (write_call h.disk hD i data hi hs).mono fun e W' k => by rw [hr] at k; exact ⟨k.1, h.wrote k.2.1 k.2.2, k.2.2.mono (fun i _ hs => by rcases hs with e | e; exact .inr (.inl e); exact .inr (.inr (.inl e)))⟩
end Go.Proofs.Ytpnnnhdhmdildaa.Given
