/- The journal's calls, as the laws use them. -/
import Derived.Test.YtpnnnhdhmdildaaJn9
import Derived.Test.YtpnnnhdhmdildaaPJour4
set_option linter.unusedVariables false
set_option linter.unusedSimpArgs false
namespace Go.Proofs.Ytpnnnhdhmdildaa.Given
open Go.RowKit Go.Proofs.YtpnnnhdhmdildaaW.PrintWords Go.Proofs.Ytpnnnhdhmdildaa.J Go.Proofs.Ytpnnnhdhmdildaa.RF
/-- A disk of a law's own. -/
structure LD (w : World) (p g : Nat) (D : DS) (W : World) : Prop where
  disk : DiskAt w.heap.size p g D W
  below : Below w.heap.size w W
/-- A journal of a law's own, on its disk. -/
structure LJ (w : World) (p g q : Nat) (v : Value) (J : JS) (D : DS) (W : World) : Prop where
  jd : JD w.heap.size q p g v J D W
  below : Below w.heap.size w W
section
variable {w : World} {p g q : Nat} {v : Value} {J : JS} {D : DS} {W W' : World}
theorem LD.step (h : LD w p g D W) (hb : Below W.heap.size W W') : LD w p g D W' := ⟨h.disk.ch (S := fun _ => False) (Ch.of_new hb) id id, h.below.trans (hb.mono h.below.size)⟩
theorem LJ.step (h : LJ w p g q v J D W) (hb : Below W.heap.size W W') : LJ w p g q v J D W' := ⟨h.jd.step hb, h.below.trans (hb.mono h.below.size)⟩
theorem LJ.ld (h : LJ w p g q v J D W) : LD w p g D W := ⟨h.jd.disk, h.below⟩
theorem LJ.own (h : LJ w p g q v J D W) : ∀ i, JOwn q p g v i → w.heap.size ≤ i := by
  rintro i (rfl | rfl | rfl | e)
  · exact h.jd.jour.1
  · exact h.jd.disk.1
  · exact h.jd.disk.g.1
  · exact (h.jd.jour.2.2.lt i e).1
theorem new_l (n : Int) (k : Nat) (w : World) (hk : max 1 (min n 2000) = (k : Int)) : Calls Try.prog 9 #[.int .i64 n] w fun e w' => ∃ p g, e = .returned (.pointer (some ⟨p, 0, none⟩)) ∧ LD w p g (newD k) w' :=
  (new_call n k w hk).mono fun e w' ⟨p, g, h1, h2, h3⟩ => ⟨p, g, h1, h2, h3⟩
theorem open_l (h : LD w p g D W) (hD : D.Ok) {l : List ByteArray} {e : Nat} (hG : Go.Proofs.Ytpnnnhdhmdildaa.J.Good D.secs l e) : Calls Try.prog 10 #[.pointer (some ⟨p, 0, none⟩)] W fun e' W' => ∃ q v, e' = .returned (.pointer (some ⟨q, 0, none⟩)) ∧ LJ w p g q v ⟨l, e, false⟩ D W' ∧ Below W.heap.size W W' ∧ W.heap.size ≤ q ∧ ∀ x, v.ownBlock = some x → W.heap.size ≤ x :=
  (open_call h.disk hD h.below.size).mono fun e' W' ⟨q, v, h1, h2, h3, h4⟩ => ⟨q, v, h1, by rw [open_good hG] at h2; exact ⟨h2, h.below.trans (h3.mono h.below.size)⟩, h3, h4⟩
theorem commit_l (h : LJ w p g q v J D W) (hD : D.Ok) (hll : -4611686018427387904 + 2001 ≤ D.left) (he : J.e ≤ 2000) (hJl : J.l.length ≤ 2000) (s : ByteArray) (hs : s.size ≤ 60000) {z : Int} {J' : JS} {D' : DS} (hc : J.commit D s = (z, J', D')) :
    Calls Try.prog 11 #[.pointer (some ⟨q, 0, none⟩), .string s] W fun e W' => e = .returned (.int .i64 z) ∧ ∃ v', LJ w p g q v' J' D' W' ∧ Ch (JOwn q p g v) W W' ∧ (v'.ownBlock = v.ownBlock ∨ ∀ x, v'.ownBlock = some x → W.heap.size ≤ x) :=
  (commit_call h.jd hD hll he hJl s hs).mono fun e W' k => by
    unfold CommitPost at k
    rw [hc] at k
    obtain ⟨k1, v', k2, k3, k4⟩ := k
    exact ⟨k1, v', ⟨k2, k3.below h.below (Nat.le_refl _) h.own⟩, k3, k4⟩
theorem arm_l (h : LJ w p g q v J D W) (n k : Int) : Calls Try.prog 12 #[.pointer (some ⟨p, 0, none⟩), .int .i64 n, .int .i64 k] W fun e W' => e = .returned (.tuple #[]) ∧ LJ w p g q v J { D with armed := true, left := max n 0, keep := max 0 (min k 32) } W' ∧ Ch (Own p g) W W' :=
  (arm_call h.jd.disk n k).mono fun e W' k => ⟨k.1, ⟨h.jd.wrote k.2.1 k.2.2, k.2.2.below h.below (Nat.le_refl _) (fun i hi => h.own i (by rcases hi with e | e; exact .inr (.inl e); exact .inr (.inr (.inl e))))⟩, k.2.2⟩
theorem revive_l (h : LJ w p g q v J D W) : Calls Try.prog 13 #[.pointer (some ⟨p, 0, none⟩)] W fun e W' => e = .returned (.tuple #[]) ∧ LJ w p g q v J { D with down := false } W' ∧ Ch (Own p g) W W' :=
  (revive_call h.jd.disk).mono fun e W' k => ⟨k.1, ⟨h.jd.wrote k.2.1 k.2.2, k.2.2.below h.below (Nat.le_refl _) (fun i hi => h.own i (by rcases hi with e | e; exact .inr (.inl e); exact .inr (.inr (.inl e))))⟩, k.2.2⟩
theorem len_l (h : LJ w p g q v J D W) {n : Int} (hn : (J.l.length : Int) = n) : Calls Try.prog 14 #[.pointer (some ⟨q, 0, none⟩)] W fun e W' => e = .returned (.int .i64 n) ∧ LJ w p g q v J D W' ∧ Below W.heap.size W W' :=
  (len_call h.jd.jour).mono fun e W' k => ⟨by rw [← hn]; exact k.1, h.step k.2.below, k.2.below⟩
theorem end_l (h : LJ w p g q v J D W) {n : Int} (hn : (J.e : Int) = n) : Calls Try.prog 15 #[.pointer (some ⟨q, 0, none⟩)] W fun e W' => e = .returned (.int .i64 n) ∧ LJ w p g q v J D W' ∧ Below W.heap.size W W' :=
  (end_call h.jd.jour).mono fun e W' k => ⟨by rw [← hn]; exact k.1, h.step k.2.below, k.2.below⟩
theorem pieces_l (s : ByteArray) (W : World) (hs : s.size ≤ 1000000) : Calls Try.prog 16 #[.string s] W fun e W' => ∃ a cap, e = .returned (.slice a (np s) cap) ∧ OwnP W (.slice a (np s) cap) (piecesL s) W' :=
  (PT s W hs).mono fun e W' ⟨v, h1, h2⟩ => by
    obtain ⟨a, cap, hv⟩ := own_len h2.row
    subst hv
    exact ⟨a, cap, h1, h2⟩
end
theorem ok_of {D : DS} (h : D.Ok) (a d : Bool) (l k : Int) (h0 : 0 ≤ k) (h1 : k ≤ 32) (h2 : -4611686018427387904 ≤ l) (h3 : l ≤ 9223372036854775807) : DS.Ok { secs := D.secs, armed := a, left := l, keep := k, down := d } := ⟨h.one, h.most, h.size, h0, h1, h2, h3⟩
theorem newD_good (k : Nat) : J.Good (newD k).secs [] 0 := J.Good.fresh _ fun s hs => by
  simp [newD] at hs
  rw [hs.2, wholeS_mk (by decide)]
  decide
end Go.Proofs.Ytpnnnhdhmdildaa.Given
