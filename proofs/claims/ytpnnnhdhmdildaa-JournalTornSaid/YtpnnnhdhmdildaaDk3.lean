/- A new disk; a disk's copy. -/
import Derived.Test.YtpnnnhdhmdildaaDk2
import Derived.Test.YtpnnnhdhmdildaaRep
set_option linter.unusedVariables false
set_option linter.unusedSimpArgs false
namespace Go.Proofs.Ytpnnnhdhmdildaa.Given
open Go.RowKit Go.Proofs.YtpnnnhdhmdildaaW.PrintWords
theorem own_mono {w : World} {B B' e size n : Nat} {v : Value} {xs : List Value} (h : w.ownsRow B e size v n xs) (hb : B' ≤ B) : w.ownsRow B' e size v n xs := by
  refine ⟨h.1, ?_⟩
  rcases h.2 with hn | ⟨g, cap, cur, hv, hbg, rest⟩
  · exact .inl hn
  · exact .inr ⟨g, cap, cur, hv, Nat.le_trans hb hbg, rest⟩
/-- A new disk of so many sectors. -/
def newD (k : Nat) : DS := { secs := List.replicate k (wholeS ⟨#[]⟩), armed := false, left := 0, keep := 0, down := false }
theorem newD_ok (k : Nat) (h1 : 1 ≤ k) (h2 : k ≤ 2000) : (newD k).Ok :=
  ⟨by simp [newD]; exact h1, by simp [newD]; exact h2, fun s hs => by simp [newD] at hs; rw [hs.2]; exact wholeS_size _ (by decide), Int.le_refl 0, (by decide : (0 : Int) ≤ 32), (by decide : (-4611686018427387904 : Int) ≤ 0), (by decide : (0 : Int) ≤ 9223372036854775807)⟩
set_option maxRecDepth 100000 in
set_option maxHeartbeats 2000000 in
theorem new_call (n : Int) (k : Nat) (w : World) (hk : max 1 (min n 2000) = (k : Int)) :
    Calls Try.prog 9 #[.int .i64 n] w fun e w' => ∃ p g, e = .returned (.pointer (some ⟨p, 0, none⟩)) ∧ DiskAt w.heap.size p g (newD k) w' ∧ Below w.heap.size w w' := by
  have k1 : 1 ≤ k ∧ k ≤ 2000 := by omega
  have WH := Aside0.mk (fun W => whole_call ⟨#[]⟩ W (by decide))
  unfold newD
  generalize wholeS ⟨#[]⟩ = s0 at WH ⊢
  go_enter Try.func9, Try.ntmps9
  go_wp2_with (first
    | (go_at_call 27; refine (WH.out _).mono ?_; rintro e w1 ⟨rfl, hb⟩; have HB1 := Aside0.mk hb; clear hb)
    | (go_at_call 26; refine (repeat_call w1.heap.size k s0 _ k1.1 k1.2 (by rw [Lib.cell_of_heap (World.alloc_heap_new w1 _)]; rfl) (by simp)).mono ?_; rintro e w2 ⟨rfl, ho, hb⟩; have HO := Aside0.mk ho; have HB2 := Aside0.mk hb; clear ho hb))
  go_ret
  have ho := HO.out
  have hb := HB2.out
  rw [World.size_alloc] at ho hb
  have hsz := HB1.out.size
  have hsz2 := hb.size
  rw [World.size_alloc] at hsz2
  refine ⟨w2.heap.size, w1.heap.size + 1, rfl, ⟨by omega, k, ?_, ?_⟩, ?_⟩
  · rw [List.length_replicate]
    exact World.alloc_heap_new w2 _
  · rw [List.length_replicate]
    exact (own_mono ho (by omega)).alloc _
  · exact ((HB1.out.alloc hsz _).trans (hb.mono (by omega))).alloc (by omega) _
end Go.Proofs.Ytpnnnhdhmdildaa.Given
