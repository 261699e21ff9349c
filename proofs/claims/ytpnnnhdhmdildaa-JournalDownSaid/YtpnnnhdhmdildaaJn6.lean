/- The journal: Commit, where nothing is written. -/
import Derived.Test.YtpnnnhdhmdildaaJn5
set_option linter.unusedVariables false
set_option linter.unusedSimpArgs false
namespace Go.Proofs.Ytpnnnhdhmdildaa.Given
open Go.RowKit Go.Proofs.YtpnnnhdhmdildaaW.PrintWords Go.Proofs.Ytpnnnhdhmdildaa.J Go.Proofs.Ytpnnnhdhmdildaa.RF
theorem sec_q {b q p g : Nat} {v : Value} {J : JS} {D : DS} {W : World} (h : JD b q p g v J D W) (n : Nat) : Calls Try.prog 28 #[.pointer (some ⟨p, 0, none⟩)] (W.drewN n) fun e w' => e = .returned (.int .i64 (D.secs.length : Int)) ∧ ∃ m, w' = W.drewN m :=
  Calls.quiet_of ((sectors_call (h.disk.ch (S := fun _ => False) (Ch.of_new (Drawn0.below ⟨⟨n, rfl⟩⟩)) id id)).mono fun e w' k => ⟨k.1, k.2.out⟩)
set_option maxRecDepth 100000 in
set_option maxHeartbeats 1000000 in
theorem commit_down {b q p g : Nat} {v : Value} {J : JS} {D : DS} {w : World} (h : JD b q p g v J D w) (hd : J.down = true) (s : ByteArray) :
    Calls Try.prog 11 #[.pointer (some ⟨q, 0, none⟩), .string s] w fun e w' => e = .returned (.int .i64 9) ∧ JD b q p g v J D w' ∧ Below w.heap.size w w' := by
  obtain ⟨c0, c1, c2, c3, f⟩ := h.jour.open
  rw [hd] at c3
  have H := Aside0.mk h
  go_enter Try.func11, Try.ntmps11
  go_wp2
  go_ret
  exact ⟨rfl, H.out, Below.refl _ _⟩
set_option maxRecDepth 100000 in
set_option maxHeartbeats 1000000 in
theorem commit_full (PT : ∀ (s : ByteArray) (w : World), s.size ≤ 1000000 → Calls Try.prog 16 #[.string s] w fun e w' => ∃ v, e = .returned v ∧ OwnP w v (piecesL s) w')
    {b q p g : Nat} {v : Value} {J : JS} {D : DS} {w : World} (h : JD b q p g v J D w) (hD : D.Ok) (hd : J.down = false) (he : J.e ≤ 2000) (s : ByteArray) (hs : s.size ≤ 1000000) (hf : (D.secs.length : Int) - J.e < ((piecesL s).length : Int)) :
    Calls Try.prog 11 #[.pointer (some ⟨q, 0, none⟩), .string s] w fun e w' => e = .returned (.int .i64 6) ∧ JD b q p g v J D w' ∧ Below w.heap.size w w' := by
  obtain ⟨c0, c1, c2, c3, f⟩ := h.jour.open
  rw [hd] at c3
  have H := Aside0.mk h
  have P := Aside0.mk PT
  clear PT
  have hm := hD.most
  have ws : IntKind.i64.wrap ((D.secs.length : Int) - (J.e : Int)) = (D.secs.length : Int) - (J.e : Int) := IntWalk.i64_in _ (by omega)
  obtain ⟨n, hn⟩ : ∃ n, (piecesL s).length = n := ⟨_, rfl⟩
  rw [hn] at hf
  have q1 : decide ((D.secs.length : Int) - (J.e : Int) < (n : Int)) = true := decide_eq_true hf
  go_enter Try.func11, Try.ntmps11
  go_wp2_with (go_at_call 16; refine (P.out s _ hs).mono ?_; rintro e w1 ⟨v1, rfl, ho⟩; have HO := Aside0.mk ho; have H1 := Aside0.mk (H.out.step ho.below); obtain ⟨c0, c1, c2, c3, f⟩ := H1.out.jour.open; obtain ⟨a1, cap1, hv1⟩ : ∃ a cap, v1 = .slice a n cap := (by rw [← hn]; rcases ho.row.2 with ⟨hv, hn⟩ | ⟨g, cap, cur, hv, _⟩; exact ⟨none, 0, by rw [hv, hn]⟩; exact ⟨_, cap, hv⟩); subst hv1; clear ho)
  go_quiet ((go_at_call 28; exact sec_q H1.out _))
  go_wp2
  go_ret
  exact ⟨rfl, H1.out.step (Drawn0.below ⟨⟨nq, rfl⟩⟩), HO.out.below.trans ((Drawn0.below ⟨⟨nq, rfl⟩⟩).mono HO.out.below.size)⟩
end Go.Proofs.Ytpnnnhdhmdildaa.Given
