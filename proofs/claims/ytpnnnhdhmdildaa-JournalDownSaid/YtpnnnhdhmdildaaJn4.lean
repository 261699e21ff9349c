/- The journal: All. -/
import Derived.Test.YtpnnnhdhmdildaaJn3
set_option linter.unusedVariables false
set_option linter.unusedSimpArgs false
namespace Go.Proofs.Ytpnnnhdhmdildaa.Given
open Go.RowKit Go.Proofs.YtpnnnhdhmdildaaW.PrintWords Go.Proofs.Ytpnnnhdhmdildaa.J Go.Proofs.Ytpnnnhdhmdildaa.RF
attribute [local go_sem] Oper.semAt_some
set_option maxRecDepth 100000 in
set_option maxHeartbeats 1000000 in
/-- At the nil slice: no round. -/
theorem val_nil {F : Fence} {n : Nat} (h37 : F.fn 37) (hro : F.round = none) {s : Nat} {Kp : World → World → Prop} {w : World} (hs : s < w.heap.size) (hb : w.cell? ⟨s, 0, none⟩ = some (.slice none 0 0)) :
    RF.Yields F n Try.prog 37 #[.pointer (some ⟨s, 0, none⟩)] (fun _ => False) (fun x : ByteArray => #[Value.string x]) Kp [] w := by
  intro l J Jx W hW hJ hJx hY h0
  have hBs := (hW.cell (p := ⟨s, 0, none⟩) hs).trans hb
  clear hb
  refine callsIn_of_wp Try.func37 rfl h37 ?_ hro
  simp only [Try.ntmps37, List.size_toArray, List.length_cons, List.length_nil, Nat.reduceAdd, Nat.reduceSub, Array.replicate_succ, Array.replicate_zero, List.push_toArray, List.append_toArray, List.nil_append, List.cons_append]
  gi_wp2
  gi_loopw [7] (fun i wr => i = .int .i64 0 ∧ J [] wr) (fun _ _ => 0)
  case atStart => exact ⟨rfl, h0⟩
  case round =>
    obtain ⟨rfl, hJs⟩ := hrel
    gi_wp2
    go_end0
    exact ⟨⟨_, rfl⟩, .inl hJs⟩
/-- A walk of texts as it lies. -/
def VAt (B s : Nat) (l : List ByteArray) (W : World) : Prop := B ≤ s ∧ s < W.heap.size ∧ ((l = [] ∧ W.cell? ⟨s, 0, none⟩ = some (.slice none 0 0)) ∨ ∃ g, ItAt B s g l W)
set_option maxRecDepth 100000 in
set_option maxHeartbeats 2000000 in
theorem jall_call {b q p : Nat} {v : Value} {J : JS} {w : World} (h : JAt b q p v J w) (hm : J.l.length ≤ 100000) :
    Calls Try.prog 19 #[.pointer (some ⟨q, 0, none⟩)] w fun e w' => ∃ s, e = .returned (.func (.func 37) #[] #[.pointer (some ⟨s, 0, none⟩)]) ∧ VAt w.heap.size s J.l w' ∧ Below w.heap.size w w' := by
  obtain ⟨c0, c1, c2, c3, f⟩ := h.open
  have hrow := h.2.2
  rcases hrow.2 with ⟨hv, hn⟩ | ⟨g, cap, cur, hv, hbg, hgg, rest⟩
  · subst hv
    go_enter Try.func19, Try.ntmps19
    go_wp2_with (first
      | (go_at_call 32; refine (Try.slices_Clone_string_nil _ _ _).mono ?_; rintro e w1 ⟨rfl, rfl⟩)
      | (go_at_call 31; refine (sval_call _ _ _ _).mono ?_; rintro e w2 ⟨rfl, rfl⟩))
    go_ret
    refine ⟨_, rfl, ⟨Nat.le_refl _, by simp, .inl ⟨List.eq_nil_of_length_eq_zero hn, ?_⟩⟩, (Below.refl _ _).alloc (Nat.le_refl _) _⟩
    rw [Lib.cell_of_heap (World.alloc_heap_new _ _)]; rfl
  · subst hv
    have hcell : ∀ j, j < J.l.length → w.cell? ⟨g, 0 + j, none⟩ = some (.string (J.l.getD j ByteArray.empty)) := fun j hj => by
      have := hrow.cells (g := g) rfl j (.string (J.l.getD j ByteArray.empty)) (by rw [List.getElem?_map, List.getD_eq_getElem?_getD, List.getElem?_eq_getElem hj]; rfl)
      have e : (⟨g, 0, none⟩ : Addr).add j = ⟨g, j, none⟩ := by unfold Addr.add; split <;> simp_all
      rw [e] at this
      rw [Nat.zero_add]
      exact this
    have CL := Aside0.mk (Try.slices_Clone_string g 0 J.l.length cap J.l w (Nat.le_refl _) (by omega) hcell)
    rw [List.take_length] at CL
    clear hcell
    go_enter Try.func19, Try.ntmps19
    go_wp2_with (first
      | (go_at_call 32; refine CL.out.mono ?_; rintro e w1 ⟨v', rfl, ho, hnn, hb⟩; rcases ho.2 with ⟨h0, _⟩ | ⟨g2, cap2, cur2, rfl, hbg2, hg2, _, _, _, _⟩; (exact absurd h0 hnn); have HO := Aside0.mk ho; have HB := Aside0.mk hb; have HG := Aside0.mk hbg2; clear ho hb hbg2 hnn)
      | (go_at_call 31; refine (sval_call _ _ _ _).mono ?_; rintro e w2 ⟨rfl, rfl⟩))
    go_ret
    have ho := HO.out
    have hb := HB.out
    obtain ⟨l1, l2⟩ := ho.lt g2 rfl
    refine ⟨w1.heap.size, rfl, ⟨hb.size, by simp, .inr ⟨g2, ⟨hb.size, HG.out, by simp, by simp; omega, ⟨cap2, ?_⟩, fun j hj => ?_⟩⟩⟩, hb.alloc hb.size _⟩
    · rw [Lib.cell_of_heap (World.alloc_heap_new w1 _)]; rfl
    · have := ho.cells (g := g2) rfl j (.string (J.l.getD j ⟨#[]⟩)) (by rw [List.getElem?_map, List.getD_eq_getElem?_getD, List.getElem?_eq_getElem hj]; rfl)
      have e : (⟨g2, 0, none⟩ : Addr).add j = ⟨g2, j, none⟩ := by unfold Addr.add; split <;> simp_all
      rw [e] at this
      exact (((Below.refl w1.heap.size w1).alloc (Nat.le_refl _) _).cell (p := ⟨g2, j, none⟩) l2).trans this
end Go.Proofs.Ytpnnnhdhmdildaa.Given
