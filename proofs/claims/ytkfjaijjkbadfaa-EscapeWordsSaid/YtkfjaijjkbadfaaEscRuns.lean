/- Chapter 10's closed sentence, walked. -/
import Derived.Test.YtkfjaijjkbadfaaWords
import Derived.Test.YtkfjaijjkbadfaaEsc1
import Derived.Test.YtkfjaijjkbadfaaQx1
set_option linter.unusedVariables false
set_option linter.unusedSimpArgs false
namespace Go.Proofs.Ytkfjaijjkbadfaa.Given
open Go.RowKit Go.Proofs.YtkfjaijjkbadfaaW.PrintWords Go.Proofs.Ytkfjaijjkbadfaa.RF
attribute [local go_sem] Oper.semAt_some
theorem word_ok : Q.escape_Word.f 20 ⟨#[111, 107]⟩ = some true := by kernel_rfl
theorem word_nil : Q.escape_Word.f 20 ⟨#[]⟩ = some false := by kernel_rfl
theorem read_ab : escape_Read.f ⟨#[97, 32, 98]⟩ = some (⟨#[]⟩, false) := by kernel_rfl
theorem put_ab : escape_Put.f ⟨#[97, 32, 98]⟩ = some ⟨#[97, 92, 115, 98]⟩ := by kernel_rfl
theorem words_xy : wordsL ⟨#[120, 32, 32, 121]⟩ = [⟨#[120]⟩, ⟨#[]⟩, ⟨#[121]⟩] := by kernel_rfl
theorem pre3 {α : Type} {a b c x : α} {pre : List α} (h : pre ++ [x] <+: [a, b, c]) : (pre = [] ∧ x = a) ∨ (pre = [a] ∧ x = b) ∨ (pre = [a, b] ∧ x = c) := by
  obtain ⟨t, h⟩ := h
  match pre, h with
  | [], h => simp at h; exact .inl ⟨rfl, h.1⟩
  | [p], h => simp at h; exact .inr (.inl ⟨by rw [h.1], h.2.1⟩)
  | [p, q], h => simp at h; exact .inr (.inr ⟨by rw [h.1, h.2.1], h.2.2.1⟩)
  | p :: q :: r :: s, h => simp at h
theorem below_drawn {B : Nat} {w x y : World} (h : Below B w x) (d : Drawn0 x y) : Below B w y := by
  obtain ⟨n, rfl⟩ := d.out
  exact ⟨h.os, h.tape, h.output, h.size, h.block⟩
theorem boxed_drawn {x : World} {n b : Nat} {t : TypeId} {v : Value} (h : Boxed x b t v) : Boxed (x.drewN n) b t v := h
theorem boxed_below {B b : Nat} {x y : World} {t : TypeId} {v : Value} (h : Boxed x b t v) (hb : Below B x y) (hlt : b < B) : Boxed y b t v := (hb.block b hlt).trans h
set_option maxRecDepth 100000 in
set_option maxHeartbeats 4000000 in
theorem runs_walk (w : World) : Calls Try.prog 3 #[] w fun e w' => e = .returned (.bool true) ∧ Below w.heap.size w w' := by
  refine (callsIn_wide (n := 5)).1 ?_
  refine callsIn_of_wp_marks Try.func3 rfl trivial ?_ rfl
  simp only [Try.ntmps3, List.size_toArray, List.length_cons, List.length_nil, Nat.reduceAdd, Nat.reduceSub, Array.replicate_succ, Array.replicate_zero, List.push_toArray, List.append_toArray, List.nil_append, List.cons_append]
  gi_wp2_with (first
    | (refine ⟨trivial, ?_⟩; gi_at_call 7; refine (callsIn_wide.2 (Q.escape_Word.calls 20 _ true _ word_ok)).mono ?_; rintro e w' ⟨rfl, ⟨nd, rfl⟩⟩)
    | (refine ⟨trivial, ?_⟩; gi_at_call 8; refine (callsIn_wide.2 (words_make _ _)).mono ?_; rintro e w' ⟨rfl, rfl⟩))
  have z0 := Boxed.new w 4 (.bool false)
  have z1 := Boxed.new ((w.alloc (.cells #[.bool false] 4)).drewN nd) 3 (.int .i64 0)
  have z2 := Boxed.new (((w.alloc (.cells #[.bool false] 4)).drewN nd).alloc (.cells #[.int .i64 0] 3)) 9 (.string ⟨#[120, 32, 32, 121]⟩)
  have y0 := ((boxed_drawn (n := nd) z0).alloc (.cells #[.int .i64 0] 3)).alloc (.cells #[.string ⟨#[120, 32, 32, 121]⟩] 9)
  have y1 := z1.alloc (.cells #[.string ⟨#[120, 32, 32, 121]⟩] 9)
  have yb : Below w.heap.size w ((((w.alloc (.cells #[.bool false] 4)).drewN nd).alloc (.cells #[.int .i64 0] 3)).alloc (.cells #[.string ⟨#[120, 32, 32, 121]⟩] 9)) :=
    ((below_drawn ((Below.refl _ w).alloc (Nat.le_refl _) _) ⟨⟨nd, rfl⟩⟩).alloc (by simp) _).alloc (by simp; omega) _
  have ys : ((((w.alloc (.cells #[.bool false] 4)).drewN nd).alloc (.cells #[.int .i64 0] 3)).alloc (.cells #[.string ⟨#[120, 32, 32, 121]⟩] 9)).heap.size = w.heap.size + 3 := by simp
  have e1 : ((w.alloc (.cells #[.bool false] 4)).drewN nd).heap.size = w.heap.size + 1 := by simp
  have e2 : (((w.alloc (.cells #[.bool false] 4)).drewN nd).alloc (.cells #[.int .i64 0] 3)).heap.size = w.heap.size + 1 + 1 := by simp
  rw [e1] at y1
  rw [e2] at z2
  clear z0 z1 e1 e2
  generalize ((((w.alloc (.cells #[.bool false] 4)).drewN nd).alloc (.cells #[.int .i64 0] 3)).alloc (.cells #[.string ⟨#[120, 32, 32, 121]⟩] 9)) = W0 at y0 y1 z2 yb ys ⊢
  obtain ⟨B, hB⟩ : ∃ B, w.heap.size = B := ⟨_, rfl⟩
  rw [hB] at y0 y1 z2 yb ys ⊢
  have hbb : B ≤ w.heap.size := Nat.le_of_eq hB.symm
  have HBW := Aside0.mk hB
  clear hB
  have HY := words_yield 4 (by omega) (B + 1 + 1) ⟨#[120, 32, 32, 121]⟩ (by decide) W0 z2
  rw [words_xy] at HY
  clear z2
  have YS := Aside0.mk ys
  have le0 : W0.heap.size = B + 3 := ys
  clear ys
  refine range_own (n := 5) rfl (by omega) (gf := 16) (lb := #[.pointer (some ⟨B + 1 + 1, 0, none⟩)]) rfl trivial (enters_of Try.func16 (by kernel_rfl) rfl)
    HY (fun r hr => by omega) (fun h k => KpBox.trans h k) (fun W l o hl => (KpBox.refl _ W).put l (by omega) o) (Below.refl _ _) (fun _ => rfl)
    (fun pre W => Boxed W B 4 (.bool false) ∧ Boxed W (B + 1) 3 (.int .i64 (pre.length : Int)) ∧ Below B w W) (fun _ _ _ => False)
    (fun s X Y ht h => ⟨ht.boxed h.1 (by omega) (by omega), ht.boxed h.2.1 (by omega) (by omega), ht.below h.2.2 hbb (fun r hr => by omega) (by omega)⟩)
    (fun _ _ _ _ _ h => h) ⟨y0, y1, yb⟩ ?round ?done ?stop
  case round =>
    intro l pre x W hp hl hI
    gi_wp2
    refine ⟨KeepsFrom.refl _ _, KpBox.refl _ _, fun Wb ht _ => ?_⟩
    obtain ⟨i0, i1, ib⟩ : Boxed Wb B 4 (.bool false) ∧ Boxed Wb (B + 1) 3 (.int .i64 (pre.length : Int)) ∧ Below B w Wb :=
      ⟨ht.boxed hI.1 (by omega) (by omega), ht.boxed hI.2.1 (by omega) (by omega), ht.below hI.2.2 hbb (fun r hr => by omega) (by omega)⟩
    have c0 := i0.cell
    have c1 := i1.cell
    have f1 := i1.frozen
    have lt0 := i0.lt
    have lt1 := i1.lt
    have m0 : min (0 : Int) 2 = 0 := by decide
    have m1 : min (1 : Int) 2 = 1 := by decide
    rcases pre3 hp with ⟨rfl, rfl⟩ | ⟨rfl, rfl⟩ | ⟨rfl, rfl⟩
    all_goals
      simp only [List.length_cons, List.length_nil] at i1 c1
      gi_wp2
      exact ⟨((KeepsOthers.setCell Wb _ _).trans (KeepsOthers.alloc _ _)).from _, ((KpBox.refl _ Wb).set _ (by simp) _).alloc _, (i0.other (by omega) _).alloc _, (i1.set _).alloc _,
        (ib.setCell (p := ⟨B + 1, 0, none⟩) (by simp) _).alloc (by have := ib.size; simp; omega) _⟩
  case done =>
    rintro D W hD ⟨i0, i1, ib⟩ hK
    have c0 := i0.cell
    have c1 := i1.cell
    have f0 := i0.frozen
    have lt0 := i0.lt
    have lt1 := i1.lt
    simp only [List.length_cons, List.length_nil] at i1 c1
    have ltD : D < W.heap.size := (Array.getElem?_eq_some_iff.1 hK).1
    have HK0 := Aside0.mk hK
    have HI0 := Aside0.mk ib
    have I0 := Aside0.mk i0
    clear hK ib i0 i1
    gi_wp2_with (refine ⟨trivial, ?_⟩; gi_at_call 9; refine (callsIn_wide.2 (escape_Read.calls _ ⟨#[]⟩ false _ read_ab)).mono ?_; rintro e w1 ⟨rfl, b1⟩; have c1 := (b1.cell (p := ⟨B + 1, 0, none⟩) lt1).trans c1; have HK1 := Aside0.mk ((b1.block D ltD).trans HK0.out); have HI1 := Aside0.mk (HI0.out.trans (b1.mono (Nat.le_trans hbb HI0.out.size))); have I1 := Aside0.mk (boxed_below I0.out b1 lt0); have sz1 := b1.size; clear b1 HK0 HI0 I0)
    gi_wp2_with (refine ⟨trivial, ?_⟩; gi_at_call 10; refine (callsIn_wide.2 (escape_Put.calls _ ⟨#[97, 92, 115, 98]⟩ _ put_ab)).mono ?_; rintro e w2 ⟨rfl, b2⟩; have HK2 := Aside0.mk ((b2.block D (by omega)).trans HK1.out); have HI2 := Aside0.mk (HI1.out.trans (b2.mono (Nat.le_trans hbb HI1.out.size))); have I2 := Aside0.mk (boxed_below I1.out b2 (by omega)); have sz2 := b2.size; clear b2 HK1 HI1 I1)
    have f0 := I2.out.frozen
    have c0 := I2.out.cell
    gi_wp2_with (first
      | (refine ⟨trivial, ?_⟩; gi_at_call 7; (with_reducible refine (callsIn_wide.2 (Q.escape_Word.calls 20 _ true _ word_ok)).mono ?_); rintro e w' ⟨rfl, ⟨n3, rfl⟩⟩)
      | (refine ⟨trivial, ?_⟩; gi_at_call 7; (with_reducible refine (callsIn_wide.2 (Q.escape_Word.calls 20 _ false _ word_nil)).mono ?_); rintro e w' ⟨rfl, ⟨n4, rfl⟩⟩))
    have hK5 : ((w2.drewN (n3 + n4)).setCell ⟨B, 0, none⟩ (.bool true)).heap[D]? = some (.deferred (some [])) := (Below.heap_setCell _ _ _ _ (by simp; omega)).trans HK2.out
    have i5 : Boxed ((w2.drewN (n3 + n4)).setCell ⟨B, 0, none⟩ (.bool true)) B 4 (.bool true) := Boxed.set (W := w2.drewN (n3 + n4)) _ I2.out
    have b5 : Below B w ((w2.drewN (n3 + n4)).setCell ⟨B, 0, none⟩ (.bool true)) := (below_drawn HI2.out ⟨⟨_, rfl⟩⟩).setCell (p := ⟨B, 0, none⟩) (Nat.le_refl _) _
    generalize (w2.drewN (n3 + n4)).setCell ⟨B, 0, none⟩ (.bool true) = W5 at hK5 i5 b5 ⊢
    have c5 := (i5.kept (grownBy_putObj' W5 D (.deferred none)) (by simp; omega)).cell
    refine ⟨by simp, .inl ⟨_, _, rfl, run_takeDeferred hK5, .bool true, by simp [results, Try.f3, go_sem, c5], rfl, ?_⟩⟩
    rw [HBW.out]
    exact b5.grown (grownBy_putObj' W5 D (.deferred none)) (Nat.le_trans hbb b5.size) (fun k e => by cases e; omega)
  case stop =>
    intro D c pre W _ _ h
    exact h.elim
end Go.Proofs.Ytkfjaijjkbadfaa.Given
