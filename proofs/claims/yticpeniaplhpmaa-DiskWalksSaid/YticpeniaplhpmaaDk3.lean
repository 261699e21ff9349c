/- A new disk; a disk's copy. -/
import Derived.Test.YticpeniaplhpmaaDk2
import Derived.Test.YticpeniaplhpmaaRep
set_option linter.unusedVariables false
set_option linter.unusedSimpArgs false
namespace Go.Proofs.Yticpeniaplhpmaa.Given
open Go.RowKit Go.Proofs.YticpeniaplhpmaaW.PrintWords
theorem own_mono {w : World} {B B' e size n : Nat} {v : Value} {xs : List Value} (h : w.ownsRow B e size v n xs) (hb : B' ≤ B) : w.ownsRow B' e size v n xs := by
  refine ⟨h.1, ?_⟩
  rcases h.2 with hn | ⟨g, cap, cur, hv, hbg, rest⟩
  · exact .inl hn
  · exact .inr ⟨g, cap, cur, hv, Nat.le_trans hb hbg, rest⟩
/-- A new disk of so many sectors. -/
def newD (k : Nat) : DS := { secs := List.replicate k (wholeS ⟨#[]⟩), armed := false, left := 0, keep := 0, down := false }
theorem newD_ok (k : Nat) (h1 : 1 ≤ k) (h2 : k ≤ 2000) : (newD k).Ok :=
  ⟨by simp [newD]; exact h1, by simp [newD]; exact h2, fun s hs => by simp [newD] at hs; rw [hs.2]; exact wholeS_size _ (by decide), Int.le_refl 0, (by decide : (0 : Int) ≤ 32), (by decide : (-4611686018427387904 : Int) ≤ 0), (by decide : (0 : Int) ≤ 9223372036854775807)⟩
set_option maxRecDepth 100000 in
set_option maxHeartbeats 2000000 in
theorem new_call (n : Int) (k : Nat) (w : World) (hk : max 1 (min n 2000) = (k : Int)) :
    Calls Try.prog 7 #[.int .i64 n] w fun e w' => ∃ p g, e = .returned (.pointer (some ⟨p, 0, none⟩)) ∧ DiskAt w.heap.size p g (newD k) w' ∧ Below w.heap.size w w' := by
  have k1 : 1 ≤ k ∧ k ≤ 2000 := by omega
  have WH := Aside0.mk (fun W => whole_call ⟨#[]⟩ W (by decide))
  unfold newD
  generalize wholeS ⟨#[]⟩ = s0 at WH ⊢
  go_enter Try.func7, Try.ntmps7
  go_wp2_with (first
    | (go_at_call 20; refine (WH.out _).mono ?_; rintro e w1 ⟨rfl, hb⟩; have HB1 := Aside0.mk hb; clear hb)
    | (go_at_call 19; refine (repeat_call w1.heap.size k s0 _ k1.1 k1.2 (by rw [Lib.cell_of_heap (World.alloc_heap_new w1 _)]; rfl) (by simp)).mono ?_; rintro e w2 ⟨rfl, ho, hb⟩; have HO := Aside0.mk ho; have HB2 := Aside0.mk hb; clear ho hb))
  go_ret
  have ho := HO.out
  have hb := HB2.out
  rw [World.size_alloc] at ho hb
  have hsz := HB1.out.size
  have hsz2 := hb.size
  rw [World.size_alloc] at hsz2
  refine ⟨w2.heap.size, w1.heap.size + 1, rfl, ⟨by omega, k, ?_, ?_⟩, ?_⟩
  · rw [List.length_replicate]
    exact World.alloc_heap_new w2 _
  · rw [List.length_replicate]
    exact (own_mono ho (by omega)).alloc _
  · exact ((HB1.out.alloc hsz _).trans (hb.mono (by omega))).alloc (by omega) _
set_option maxRecDepth 100000 in
set_option maxHeartbeats 2000000 in
/-- A copy, as the chapter says it. -/
theorem copy_call {b p g : Nat} {D : DS} {w : World} (h : DiskAt b p g D w) (hD : D.Ok) :
    Calls Try.prog 16 #[.pointer (some ⟨p, 0, none⟩)] w fun e w' => ∃ p' g', e = .returned (.pointer (some ⟨p', 0, none⟩)) ∧ DiskAt w.heap.size p' g' D w' ∧ Below w.heap.size w w' := by
  obtain ⟨cap, c0, hc1, hc2, c1, c2, c3, c4, f1, f2⟩ := h.open
  obtain ⟨hg, hgl, hpl, hne⟩ := h.g
  have hm := hD.most
  obtain ⟨o, ho⟩ : ∃ o, o = Obj.cells #[.slice (some ⟨g, 0, none⟩) D.secs.length cap, .bool D.armed, .int .i64 D.left, .int .i64 D.keep, .bool D.down] 50 := ⟨_, rfl⟩
  have HD1 := Aside0.mk (h.ch (S := fun _ => False) (w' := w.alloc o) (Ch.of_new ((Below.refl _ w).alloc (Nat.le_refl _) _)) id id)
  have CL := Aside0.mk (Try.slices_Clone_string g 0 D.secs.length cap D.secs (w.alloc o) (Nat.le_refl _) (by omega) (fun j hj => by rw [Nat.zero_add]; exact HD1.out.cell hj))
  rw [List.take_length] at CL
  rw [ho] at CL HD1
  clear ho
  have h1 := hD.one
  go_enter Try.func16, Try.ntmps16
  go_wp2_with (go_at_call 21; refine CL.out.mono ?_; rintro e w1 ⟨v', rfl, ho, _, hb⟩; rcases ho.2 with ⟨_, h0⟩ | ⟨g2, cap2, cur2, rfl, hbg, hg2, _, _, _, _⟩; (exact absurd h0 (by omega)); have HO := Aside0.mk ho; have HB := Aside0.mk hb; have hx := hb.block w.heap.size (by simp); rw [World.alloc_heap_new] at hx; have x0 : w1.cell? ⟨w.heap.size, 0, none⟩ = some (.slice (some ⟨g, 0, none⟩) D.secs.length cap) := (by rw [Lib.cell_of_heap hx]; rfl); have HX := Aside0.mk hx; have x1 := Lib.frozen_of_heap hx 0; clear ho hb hx)
  go_ret
  have ho := HO.out
  have hb := HB.out
  rw [World.size_alloc] at ho hb hbg
  refine ⟨w.heap.size, g2, rfl, ⟨Nat.le_refl _, cap2, ?_, ?_⟩, ?_⟩
  · rw [Go.Joins.block_setCell HX.out]
    rfl
  · exact ownsRow_setCell_other (own_mono ho (by omega)) (by simp [Value.ownBlock]; omega) _
  · exact (((Below.refl _ w).alloc (Nat.le_refl _) _).trans (hb.mono (by omega))).setCell (p := ⟨w.heap.size, 0, none⟩) (Nat.le_refl _) _
end Go.Proofs.Yticpeniaplhpmaa.Given
